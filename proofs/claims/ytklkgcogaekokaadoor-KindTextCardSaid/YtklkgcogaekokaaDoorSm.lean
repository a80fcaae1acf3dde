/- lex.Same: are two lists of tokens the same? Its walk. Condition: neither has more than 2^40 tokens. -/
import Derived.Test.YtklkgcogaekokaaDoorOb
namespace Go.Proofs.YtklkgcogaekokaaDoor
open Go.RowKit

/-- a token, as it is compared -/
structure Tz where
  k : Int
  v : ByteArray
  i : Int
  p : Int
def tzC (t : Tz) : List Value := [.int .i64 t.k, .string t.v, .int .i64 t.i, .int .i64 t.p]
/-- a slice holds these tokens -/
structure TkAt (w : World) (v : Value) (l : List Tz) : Prop where
  sl : ∃ ad cap, v = .slice ad l.length cap
  el : ∀ j t, l[j]? = some t → ∃ b o cap, v = .slice (some ⟨b, o, none⟩) l.length cap ∧ b < w.heap.size ∧ ∀ q u, (tzC t)[q]? = some u → w.cell? ⟨b, o + j * 4 + q, none⟩ = some u
def eqZ (a b : Tz) : Bool := a.k == b.k && a.v.toList == b.v.toList
def sameZ : List Tz → List Tz → Bool
  | [], [] => true
  | a :: l, b :: m => eqZ a b && sameZ l m
  | _, _ => false

set_option maxHeartbeats 800000 in
set_option maxRecDepth 100000 in
theorem same1_c (a b : Tz) (w : World) : Calls Tryd.prog 50 #[.agg #[.int .i64 a.k, .string a.v, .int .i64 a.i, .int .i64 a.p], .agg #[.int .i64 b.k, .string b.v, .int .i64 b.i, .int .i64 b.p]] w fun e w' => e = .returned (.bool (eqZ a b)) ∧ Below w.heap.size w w' := by
  have h0 : eqZ a b = ((a.k == b.k) && (a.v.toList == b.v.toList)) := rfl
  rw [h0]
  clear h0
  cases h1 : (a.k == b.k)
  · go_enter Tryd.func50, Tryd.ntmps50
    go_wp2
    go_ret
    exact ⟨rfl, ((Below.refl _ w).alloc (Nat.le_refl _) _).alloc (by simp) _⟩
  · obtain ⟨q, hq⟩ : ∃ q, q = (a.v.toList == b.v.toList) := ⟨_, rfl⟩
    have hq' : (a.v.toList == b.v.toList) = q := hq.symm
    rw [hq']
    clear hq
    go_enter Tryd.func50, Tryd.ntmps50
    go_wp2
    go_ret
    exact ⟨rfl, ((Below.refl _ w).alloc (Nat.le_refl _) _).alloc (by simp) _⟩

theorem TkAt.below {w w' : World} {v : Value} {l : List Tz} (h : TkAt w v l) (hb : Below w.heap.size w w') : TkAt w' v l where
  sl := h.sl
  el := fun j t hj => by
    obtain ⟨b, o, cap, h1, h2, h3⟩ := h.el j t hj
    exact ⟨b, o, cap, h1, Nat.lt_of_lt_of_le h2 hb.size, fun q u hq => (hb.cell (p := ⟨b, o + j * 4 + q, none⟩) h2).trans (h3 q u hq)⟩
theorem sameZ_len : ∀ l m : List Tz, l.length ≠ m.length → sameZ l m = false
  | [], [], h => absurd rfl h
  | [], _ :: _, _ => rfl
  | _ :: _, [], _ => rfl
  | a :: l, b :: m, h => by
    unfold sameZ
    rw [sameZ_len l m (fun e => h (by simp [e]))]; simp
theorem sameZ_drop (l m : List Tz) (h : l.length = m.length) (k : Nat) (hk : ∀ j, j < k → ∀ a b, l[j]? = some a → m[j]? = some b → eqZ a b = true) : sameZ l m = sameZ (l.drop k) (m.drop k) := by
  induction k generalizing l m with
  | zero => rfl
  | succ k ih =>
    cases l with
    | nil => cases m with
      | nil => rfl
      | cons b m => simp at h
    | cons a l => cases m with
      | nil => simp at h
      | cons b m =>
        have h0 := hk 0 (by omega) a b rfl rfl
        show (eqZ a b && sameZ l m) = sameZ (l.drop k) (m.drop k)
        rw [h0, Bool.true_and]
        exact ih l m (by simpa using h) (fun j hj a b ha hb => hk (j + 1) (by omega) a b ha hb)

theorem drop_at {l : List Tz} {k : Nat} {x : Tz} (h : l[k]? = some x) : l.drop k = x :: l.drop (k + 1) := by
  obtain ⟨hk, rfl⟩ := List.getElem?_eq_some_iff.1 h
  exact List.drop_eq_getElem_cons hk
set_option maxHeartbeats 1600000 in
set_option maxRecDepth 100000 in
theorem equalFunc_c (v1 v2 : Value) (l1 l2 : List Tz) (w : World) (h1 : TkAt w v1 l1) (h2 : TkAt w v2 l2) (hl1 : l1.length ≤ 1099511627776) :
    Calls Tryd.prog 49 #[v1, v2, .func (.func 50) #[] #[]] w fun e w' => e = .returned (.bool (sameZ l1 l2)) ∧ Below w.heap.size w w' := by
  obtain ⟨ad1, cap1, rfl⟩ := h1.sl
  obtain ⟨ad2, cap2, rfl⟩ := h2.sl
  by_cases hle : l1.length = l2.length
  · have n1 : ((l1.length : Int) == (l2.length : Int)) = true := beq_iff_eq.2 (by omega)
    have n2 : ((l1.length : Int) != (l2.length : Int)) = false := by rw [bne, n1]; rfl
    have n3 : (l1.length == l2.length) = true := beq_iff_eq.2 hle
    have HLE := Lib.hid hle
    clear hle
    go_enter Tryd.func49, Tryd.ntmps49
    go_wp2
    go_loopw [17] (fun v wr => ∃ k : Nat, v = .int .i64 (k : Int) ∧ k ≤ l1.length ∧ (∀ j, j < k → ∀ a b, l1[j]? = some a → l2[j]? = some b → eqZ a b = true) ∧ Below w.heap.size w wr) (fun v _ => l1.length - (intOf v).toNat)
    case atStart => exact ⟨0, rfl, Nat.zero_le _, fun j hj => absurd hj (Nat.not_lt_zero _), Below.refl _ _⟩
    case round =>
      obtain ⟨k, rfl, hk, hall, hb⟩ := hrel
      have HALL := Lib.hid hall
      clear hall
      by_cases hlt : k < l1.length
      · have g1 : l1[k]? = some l1[k] := List.getElem?_eq_getElem hlt
        have hlt2 : k < l2.length := by have := HLE.out; omega
        have g2 : l2[k]? = some l2[k] := List.getElem?_eq_getElem hlt2
        obtain ⟨b1, o1, c1, e1, s1, f1⟩ := (h1.below hb).el k _ g1
        obtain ⟨b2, o2, c2, e2, s2, f2⟩ := (h2.below hb).el k _ g2
        cases e1
        cases e2
        obtain ⟨x, hx⟩ : ∃ x, x = l1[k] := ⟨_, rfl⟩
        obtain ⟨y, hy⟩ : ∃ y, y = l2[k] := ⟨_, rfl⟩
        rw [← hx] at f1 g1
        rw [← hy] at f2 g2
        clear hx hy
        have p0 : wr.cell? ⟨b1, o1 + k * 4, none⟩ = some (.int .i64 x.k) := f1 0 _ rfl
        have p1 := f1 1 _ rfl
        have p2 := f1 2 _ rfl
        have p3 := f1 3 _ rfl
        have r0 : ∀ o, (wr.alloc o).cell? ⟨b2, o2 + k * 4, none⟩ = some (.int .i64 y.k) := fun o => cell_past o (f2 0 _ rfl)
        have r1 := fun o => cell_past o (f2 1 _ rfl)
        have r2 := fun o => cell_past o (f2 2 _ rfl)
        have r3 := fun o => cell_past o (f2 3 _ rfl)
        have G1 := Lib.hid g1
        have G2 := Lib.hid g2
        have kk := fun w => same1_c x y w
        clear f1 f2 g1 g2
        obtain ⟨z, hz⟩ : ∃ z, z = eqZ x y := ⟨_, rfl⟩
        rw [← hz] at kk
        have HZ := Lib.hid hz
        clear hz
        cases z
        · go_wp2_with (go_at_call 50; with_reducible refine (kk _).mono ?_; rintro e w3 ⟨rfl, hb3⟩)
          go_ret
          refine ⟨?_, (((hb.alloc hb.size _).alloc (by rw [World.size_alloc]; have := hb.size; omega) _).trans (hb3.mono (by rw [World.size_alloc, World.size_alloc]; have := hb.size; omega)))⟩
          rw [sameZ_drop l1 l2 HLE.out k HALL.out, drop_at G1.out, drop_at G2.out]
          unfold sameZ
          rw [← HZ.out]; rfl
        · go_wp2_with (go_at_call 50; with_reducible refine (kk _).mono ?_; rintro e w3 ⟨rfl, hb3⟩)
          go_roundw
          case rel =>
            refine ⟨k + 1, by rw [show ((k + 1 : Nat) : Int) = (k : Int) + 1 by omega], hlt, fun j hj a b ha hb => ?_, (((hb.alloc hb.size _).alloc (by rw [World.size_alloc]; have := hb.size; omega) _).trans (hb3.mono (by rw [World.size_alloc, World.size_alloc]; have := hb.size; omega)))⟩
            by_cases hjk : j < k
            · exact HALL.out j hjk a b ha hb
            · obtain rfl : j = k := by omega
              rw [G1.out] at ha
              rw [G2.out] at hb
              cases ha
              cases hb
              exact HZ.out.symm
          case measure => simp [intOf]; omega
      · go_wp2
        go_ret
        refine ⟨?_, hb⟩
        rw [sameZ_drop l1 l2 HLE.out k HALL.out, List.drop_eq_nil_of_le (by omega), List.drop_eq_nil_of_le (by have := HLE.out; omega)]
        rfl
  · rw [sameZ_len l1 l2 hle]
    have n1 : ((l1.length : Int) == (l2.length : Int)) = false := beq_eq_false_iff_ne.2 (by omega)
    have n2 : ((l1.length : Int) != (l2.length : Int)) = true := by rw [bne, n1]; rfl
    have n3 : (l1.length == l2.length) = false := beq_eq_false_iff_ne.2 hle
    clear hle
    go_enter Tryd.func49, Tryd.ntmps49
    go_wp2
    go_ret
    exact ⟨rfl, Below.refl _ _⟩

theorem same_c (v1 v2 : Value) (l1 l2 : List Tz) (w : World) (h1 : TkAt w v1 l1) (h2 : TkAt w v2 l2) (hl1 : l1.length ≤ 1099511627776) :
    Calls Tryd.prog 26 #[v1, v2] w fun e w' => e = .returned (.bool (sameZ l1 l2)) ∧ Below w.heap.size w w' := by
  have k := equalFunc_c v1 v2 l1 l2 w h1 h2 hl1
  obtain ⟨ad1, cap1, rfl⟩ := h1.sl
  obtain ⟨ad2, cap2, rfl⟩ := h2.sl
  go_enter Tryd.func26, Tryd.ntmps26
  go_wp2_with (go_at_call 49; with_reducible refine k.mono ?_; rintro e w3 ⟨rfl, hb3⟩)
  go_ret
  exact ⟨rfl, by assumption⟩
end Go.Proofs.YtklkgcogaekokaaDoor
