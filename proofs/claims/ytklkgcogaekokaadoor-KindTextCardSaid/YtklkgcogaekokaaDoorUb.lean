/- The walks of utf.Bad and utf.May, and of the iterator under them. Condition: the text is no longer than a string that comes in can be. -/
import Derived.RangeFuncNested
import Derived.RangeFuncBound
import Derived.RangeFuncCalls
import Derived.RangeFuncLeaves
import Derived.RangeFuncFrom
import Derived.Shelf.Abstract
import Derived.Shelf.RegionOpen
import Derived.WalkKit
import Derived.OwnWalkIn
import Derived.TacticsInMore
import Derived.LoopNIn
import Derived.LoopIn
import Derived.Test.YtklkgcogaekokaaDoorUw
namespace Go.Proofs.YtklkgcogaekokaaDoor
open Go.RowKit Go.Shelf
attribute [local go_sem] Oper.semAt_some

theorem grown_of_below {w w' : World} (h : Below w.heap.size w w') : w.grownBy w' none := ⟨h.os, h.tape, h.output, h.size, fun k hk _ => h.block k hk⟩
/-- what a round keeps: one block, and the heap grows -/
def KpB (b : Nat) (A B : World) : Prop := A.heap.size ≤ B.heap.size ∧ B.heap[b]? = A.heap[b]?
theorem kpB_t {b : Nat} {A B C : World} (h : KpB b A B) (k : KpB b B C) : KpB b A C := ⟨Nat.le_trans h.1 k.1, k.2.trans h.2⟩
theorem kpB_b {b n : Nat} (hb : b < n) (W : World) (l : Nat) (o o' : Obj) (hl : n ≤ l) (_ : W.heap[l]? = some o) (_ : o.isCells = false) (_ : o.isWalk = false) : KpB b W (W.putObj l o') := by
  constructor
  · simp [World.putObj]
  · simp only [World.putObj]
    rw [Array.getElem?_setIfInBounds_ne (by omega)]
theorem kpB_below {b n : Nat} {A B : World} (hb : b < n) (h : Below n A B) : KpB b A B := ⟨h.size, h.block b hb⟩
theorem cell_same {W W' : World} {b : Nat} (h : W'.heap[b]? = W.heap[b]?) (o : Nat) : W'.cell? ⟨b, o, none⟩ = W.cell? ⟨b, o, none⟩ := World.cell?_of_block h

/-- what the iterator hands on -/
def plF (s : ByteArray) : Nat → Nat → List (Nat × Bool)
  | 0, _ => []
  | n + 1, i => if i < s.size then (if (nextR s i).2 = 0 then [(i, false)] else (i, true) :: plF s n (i + (nextR s i).2)) else []
def plR (s : ByteArray) : List (Nat × Bool) := plF s s.size 0
theorem plF_end (s : ByteArray) (n i : Nat) (h : s.size ≤ i) : plF s n i = [] := by
  cases n
  · rfl
  · unfold plF; rw [if_neg (by omega)]
theorem plF_fuel (s : ByteArray) : ∀ n m i, s.size ≤ i + n → s.size ≤ i + m → plF s n i = plF s m i
  | 0, m, i, h, _ => by rw [plF_end s m i (by omega)]; rfl
  | n + 1, 0, i, _, h => by rw [plF_end s (n + 1) i (by omega)]; rfl
  | n + 1, m + 1, i, h1, h2 => by
    unfold plF
    by_cases hi : i < s.size
    · rw [if_pos hi, if_pos hi]
      by_cases h0 : (nextR s i).2 = 0
      · rw [if_pos h0, if_pos h0]
      · rw [if_neg h0, if_neg h0, plF_fuel s n m _ (by omega) (by omega)]
    · rw [if_neg hi, if_neg hi]
theorem plF_bad (s : ByteArray) : ∀ n i, (∀ y ∈ plF s n i, y.2 = true) → badF s n i = -1
  | 0, _, _ => rfl
  | n + 1, i, h => by
    unfold plF at h; unfold badF
    by_cases hi : i < s.size
    · rw [if_pos hi] at h ⊢
      by_cases h0 : (nextR s i).2 = 0
      · rw [if_pos h0] at h
        have := h (i, false) (by simp)
        cases this
      · rw [if_neg h0] at h ⊢
        exact plF_bad s n _ (fun y hy => h y (List.mem_cons_of_mem _ hy))
    · rw [if_neg hi]
theorem plF_at (s : ByteArray) : ∀ n i (pre : List (Nat × Bool)) (a : Nat), pre ++ [(a, false)] <+: plF s n i → (∀ y ∈ pre, y.2 = true) → badF s n i = a
  | 0, _, pre, a, h, _ => by
    have := h.length_le
    simp [plF] at this
  | n + 1, i, pre, a, h, hp => by
    unfold plF at h; unfold badF
    by_cases hi : i < s.size
    · rw [if_pos hi] at h ⊢
      by_cases h0 : (nextR s i).2 = 0
      · rw [if_pos h0] at h ⊢
        cases pre with
        | nil =>
          obtain ⟨t, ht⟩ := h
          simp at ht
          rw [ht.1]
        | cons y pre =>
          have hl := h.length_le
          simp at hl
      · rw [if_neg h0] at h ⊢
        cases pre with
        | nil =>
          obtain ⟨t, ht⟩ := h
          simp at ht
        | cons y pre =>
          obtain ⟨t, ht⟩ := h
          simp at ht
          exact plF_at s n _ pre a ⟨t, by simpa using ht.2⟩ (fun y hy => hp y (List.mem_cons_of_mem _ hy))
    · rw [if_neg hi] at h
      have := h.length_le
      simp at this

set_option maxRecDepth 100000 in
set_option maxHeartbeats 2000000 in
theorem places1_in (n : Nat) (hn : 1 ≤ n) (l Bn B0 : Nat) (s : ByteArray) (hs : s.size ≤ 140737488351232) (J Jx : List (Nat × Bool) → World → Prop) (hJ : AbidesFrom B0 J)
    (hY : ∀ pre x W, J pre W → pre.length < (plR s).length → YieldAt Fence.wide (n - 1) Tryd.prog l #[.int .i64 ((x.1 : Nat) : Int), .bool x.2] W fun e W' =>
      (e = .returned (.bool true) ∧ J (pre ++ [x]) W' ∧ KpB Bn W W') ∨ (e = .returned (.bool false) ∧ Jx (pre ++ [x]) W'))
    (W : World) (hBn : Bn < W.heap.size) (hc : W.cell? ⟨Bn, 0, none⟩ = some (.string s)) (h0 : J [] W) :
    CallsIn Fence.wide n Tryd.prog 75 #[.func (.yield l) #[] #[], .pointer (some ⟨Bn, 0, none⟩)] W fun e W' => (∃ v, e = .returned v) ∧
      ((∃ ys, ys = plR s ∧ J ys W') ∨ (∃ pre, pre <+: plR s ∧ Jx pre W')) := by
  refine callsIn_of_wp Tryd.func75 rfl trivial ?_ rfl
  simp only [Tryd.ntmps75, List.size_toArray, List.length_cons, List.length_nil, Nat.reduceAdd, Nat.reduceSub, Array.replicate_succ, Array.replicate_zero, List.push_toArray, List.append_toArray, List.nil_append, List.cons_append]
  gi_wp2
  gi_loopw [3] (fun p wr => ∃ (pre : List (Nat × Bool)) (i : Nat), p = .int .i64 (i : Int) ∧ i ≤ s.size ∧ plR s = pre ++ plF s (s.size - i) i ∧ Bn < wr.heap.size ∧ wr.cell? ⟨Bn, 0, none⟩ = some (.string s) ∧ J pre wr)
    (fun p _ => s.size - (intOf p).toNat)
  case atStart =>
    exact ⟨[], 0, rfl, Nat.zero_le _, rfl, hBn, hc, h0⟩
  case round =>
    obtain ⟨pre, i, rfl, hi, hx, hb, hcw, hJs⟩ := hrel
    by_cases hlt : i < s.size
    · have hle := nextR_le s i hi
      have kn := fun w => next_c s i w hs
      rw [show nextI s i = nextR s i by unfold nextI; rw [if_neg (by omega)]; rfl] at kn
      have hpl : plF s (s.size - i) i = if (nextR s i).2 = 0 then [(i, false)] else (i, true) :: plF s (s.size - (i + (nextR s i).2)) (i + (nextR s i).2) := by
        obtain ⟨m, hm⟩ : ∃ m, s.size - i = m + 1 := ⟨s.size - i - 1, by omega⟩
        rw [hm]
        show (if i < s.size then _ else _) = _
        rw [if_pos hlt]
        by_cases h0 : (nextR s i).2 = 0
        · rw [if_pos h0, if_pos h0]
        · rw [if_neg h0, if_neg h0, plF_fuel s m (s.size - (i + (nextR s i).2)) _ (by omega) (by omega)]
      obtain ⟨r, hr⟩ : ∃ r, r = (nextR s i).1 := ⟨_, rfl⟩
      obtain ⟨k, hk⟩ : ∃ k, k = (nextR s i).2 := ⟨_, rfl⟩
      rw [← hr, ← hk] at kn
      rw [← hk] at hle hpl
      clear hr hk
      have hlen : pre.length < (plR s).length := by
        rw [hx, hpl]; split <;> simp
      have KN := fun w => callsIn_wide (n := n - 1).2 (kn w)
      clear kn
      by_cases hk0 : k = 0
      · obtain rfl := hk0
        rw [if_pos rfl] at hpl
        rw [hpl] at hx
        have HX := Lib.hid hx
        clear hx hpl
        gi_wp2_with (refine ⟨trivial, ?_⟩; gi_at_call 57; refine (KN _).mono ?_; rintro e w1 ⟨rfl, hb1⟩; have hJ1 := hJ pre wr w1 none hJs (grown_of_below hb1) (fun r e => by cases e); obtain ⟨fn, tmps, assign, body, hy, hR⟩ := hY pre (i, false) w1 hJ1 hlen; dsimp only at hy; have hcw1 : w1.cell? ⟨Bn, 0, none⟩ = some (.string s) := (hb1.cell (p := ⟨Bn, 0, none⟩) hb).trans hcw)
        refine hR.mono ?_
        rintro e W3 (⟨rfl, hJ3, hk3⟩ | ⟨rfl, hJx3⟩)
        · gi_wp2
          refine bodyPost_ret (results_none rfl _ _ _) rfl ?_
          exact ⟨⟨_, rfl⟩, .inl ⟨pre ++ [(i, false)], HX.out.symm, hJ3⟩⟩
        · gi_wp2
          refine bodyPost_ret (results_none rfl _ _ _) rfl ?_
          exact ⟨⟨_, rfl⟩, .inr ⟨pre ++ [(i, false)], by rw [HX.out]; exact List.prefix_refl _, hJx3⟩⟩
      · rw [if_neg hk0] at hpl
        rw [hpl] at hx
        have HX := Lib.hid hx
        clear hx hpl
        have q1 : decide ((0 : Int) < (k : Int)) = true := decide_eq_true (by omega)
        have q1' : decide (0 < k) = true := decide_eq_true (by omega)
        have q2 : ((k : Int) == 0) = false := beq_eq_false_iff_ne.2 (by omega)
        gi_wp2_with (refine ⟨trivial, ?_⟩; gi_at_call 57; refine (KN _).mono ?_; rintro e w1 ⟨rfl, hb1⟩; have hJ1 := hJ pre wr w1 none hJs (grown_of_below hb1) (fun r e => by cases e); obtain ⟨fn, tmps, assign, body, hy, hR⟩ := hY pre (i, true) w1 hJ1 hlen; dsimp only at hy; have hcw1 : w1.cell? ⟨Bn, 0, none⟩ = some (.string s) := (hb1.cell (p := ⟨Bn, 0, none⟩) hb).trans hcw)
        refine hR.mono ?_
        rintro e W3 (⟨rfl, hJ3, hk3⟩ | ⟨rfl, hJx3⟩)
        · gi_wp2
          go_roundw
          case rel =>
            refine ⟨pre ++ [(i, true)], i + k, by rw [show ((i + k : Nat) : Int) = (i : Int) + k by omega], hle.1, by rw [HX.out]; simp, ?_, (cell_same hk3.2 0).trans hcw1, hJ3⟩
            have h1 := hk3.1
            have h2 := hb1.size
            omega
          case measure => simp [intOf]; omega
        · gi_wp2
          refine bodyPost_ret (results_none rfl _ _ _) rfl ?_
          exact ⟨⟨_, rfl⟩, .inr ⟨pre ++ [(i, true)], by rw [HX.out]; exact ⟨_, by simp; rfl⟩, hJx3⟩⟩
    · rw [plF_end s _ i (by omega), List.append_nil] at hx
      have HX := Lib.hid hx
      clear hx
      gi_wp2
      go_end0
      exact ⟨⟨_, rfl⟩, .inl ⟨pre, HX.out.symm, hJs⟩⟩

theorem cell_of_box {W : World} {B : Nat} {v : Value} {t : TypeId} (h : W.heap[B]? = some (.cells #[v] t (0, 0))) : W.cell? ⟨B, 0, none⟩ = some v ∧ W.frozen? ⟨B, 0, none⟩ = false := by
  constructor <;> simp [World.cell?, World.frozen?, h]
/-- a new cell, and what it is behind more of them -/
theorem new_cell (W : World) (v : Value) (t : TypeId) : (W.alloc (.cells #[v] t)).cell? ⟨W.heap.size, 0, none⟩ = some v ∧ (W.alloc (.cells #[v] t)).frozen? ⟨W.heap.size, 0, none⟩ = false := cell_of_box (World.alloc_heap_new W _)
theorem cell_past {W : World} {a : Addr} {v : Value} (o : Obj) (h : W.cell? a = some v) : (W.alloc o).cell? a = some v := cell_kept h (World.grownBy_alloc W o none) (fun r e => by cases e)
theorem frozen_past {W : World} {a : Addr} {v : Value} (o : Obj) (h : W.cell? a = some v) (hf : W.frozen? a = false) : (W.alloc o).frozen? a = false := (frozen_kept h (World.grownBy_alloc W o none) (fun r e => by cases e)).trans hf
end Go.Proofs.YtklkgcogaekokaaDoor
