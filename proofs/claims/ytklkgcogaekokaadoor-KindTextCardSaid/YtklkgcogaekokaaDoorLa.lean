/- The walk of the iterator under lex.Lex. Conditions: the text is shorter than 4294967281 bytes; the token at each place is as it should be (the walk of lex.One). -/
import Derived.Test.YtklkgcogaekokaaDoorLq
namespace Go.Proofs.YtklkgcogaekokaaDoor
open Go.RowKit Go.Shelf
attribute [local go_sem] Oper.semAt_some

/-- what lex.One is asked for, from each place of a text on -/
def OneAll (s : ByteArray) : Prop := ∀ (a : Nat) (w : World), a < s.size → Calls Tryd.prog 17 #[.string s, .int .i64 (a : Int)] w (OneSays s a w)
def okK (r : OneT) : Int := if r.e = 0 then r.k else 0
def okV (r : OneT) : ByteArray := if r.e = 0 then r.v else ByteArray.empty
def okI (r : OneT) (i : Nat) : Int := if r.e = 0 then (i : Int) else 0
def okP (r : OneT) : Int := if r.e = 0 then (r.p : Int) else 0
theorem oneV_ok (r : OneT) (i : Nat) : oneV r i = tokV (okK r) (okV r) (okI r i) (okP r) := by
  unfold oneV okK okV okI okP
  by_cases h : r.e = 0
  · simp only [if_pos h]
  · simp only [if_neg h]
/-- a step as a value -/
def stV (x : OneT × Nat) : Value := .agg #[.int .i64 (okK x.1), .string (okV x.1), .int .i64 (okI x.1 x.2), .int .i64 (okP x.1), .int .i64 x.1.e, .int .i64 (x.1.p : Int)]

set_option maxRecDepth 100000 in
set_option maxHeartbeats 2000000 in
theorem steps1_in (n : Nat) (hn : 1 ≤ n) (l Bn B0 : Nat) (s : ByteArray) (hs : s.size < 4294967281) (hO : OneAll s) (J Jx : List (OneT × Nat) → World → Prop) (hJ : AbidesFrom B0 J)
    (hY : ∀ pre x W, J pre W → pre.length < (stR s).length → YieldAt Fence.wide (n - 1) Tryd.prog l #[stV x] W fun e W' =>
      (e = .returned (.bool true) ∧ J (pre ++ [x]) W' ∧ KpB Bn W W') ∨ (e = .returned (.bool false) ∧ Jx (pre ++ [x]) W'))
    (W : World) (hBn : Bn < W.heap.size) (hc : W.cell? ⟨Bn, 0, none⟩ = some (.string s)) (h0 : J [] W) :
    CallsIn Fence.wide n Tryd.prog 46 #[.func (.yield l) #[] #[], .pointer (some ⟨Bn, 0, none⟩)] W fun e W' => (∃ v, e = .returned v) ∧
      ((∃ ys, ys = stR s ∧ J ys W') ∨ (∃ pre, pre <+: stR s ∧ Jx pre W')) := by
  refine callsIn_of_wp Tryd.func46 rfl trivial ?_ rfl
  simp only [Tryd.ntmps46, List.size_toArray, List.length_cons, List.length_nil, Nat.reduceAdd, Nat.reduceSub, Array.replicate_succ, Array.replicate_zero, List.push_toArray, List.append_toArray, List.nil_append, List.cons_append]
  have kb := fun w => callsIn_wide (n := n - 1).2 (blank_c s 0 w hs (Nat.zero_le _))
  rw [show ((0 : Nat) : Int) = 0 from rfl] at kb
  have hb0 := (blR_le s 0 (Nat.zero_le _)).2
  gi_wp2_with (refine ⟨trivial, ?_⟩; gi_at_call 19; refine (kb _).mono ?_; rintro e w1 ⟨rfl, hb1⟩; have hcw1 : w1.cell? ⟨Bn, 0, none⟩ = some (.string s) := (hb1.cell (p := ⟨Bn, 0, none⟩) hBn).trans hc)
  gi_loopw [3] (fun p wr => ∃ (pre : List (OneT × Nat)) (i : Nat), p = .int .i64 (i : Int) ∧ i ≤ s.size ∧ stR s = pre ++ stF s (s.size - i) i ∧ Bn < wr.heap.size ∧ wr.cell? ⟨Bn, 0, none⟩ = some (.string s) ∧ J pre wr)
    (fun p _ => s.size - (intOf p).toNat)
  case atStart =>
    exact ⟨[], blR s 0, rfl, hb0, stF_fuel s _ _ _ (by omega) (by omega), Nat.lt_of_lt_of_le hBn hb1.size, hcw1, hJ [] W w1 none h0 (grown_of_below hb1) (fun r e => by cases e)⟩
  case round =>
    obtain ⟨pre, i, rfl, hi, hx, hb, hcw, hJs⟩ := hrel
    clear kb
    by_cases hlt : i < s.size
    · have hle := oneT_le s i hlt
      have ko := fun w => hO i w hlt
      unfold OneSays at ko
      have hsx : stF s (s.size - i) i = if (oneT s i).e = 0 then (oneT s i, i) :: stF s (s.size - (blR s (oneT s i).p)) (blR s (oneT s i).p) else [(oneT s i, i)] := by
        obtain ⟨m, hm⟩ : ∃ m, s.size - i = m + 1 := ⟨s.size - i - 1, by omega⟩
        rw [hm]
        show (if i < s.size then _ else _) = _
        rw [if_pos hlt]
        by_cases h0 : (oneT s i).e = 0
        · have hb := blR_le s (oneT s i).p hle.2.1
          have := hle.2.2 h0
          rw [if_pos h0, if_pos h0, stF_fuel s m (s.size - (blR s (oneT s i).p)) _ (by omega) (by omega)]
        · rw [if_neg h0, if_neg h0]
      have kb2 := fun w => callsIn_wide (n := n - 1).2 (blank_c s (oneT s i).p w hs hle.2.1)
      have hbr := blR_le s (oneT s i).p hle.2.1
      obtain ⟨r, hr⟩ : ∃ r, r = oneT s i := ⟨_, rfl⟩
      rw [← hr] at ko hle hsx kb2 hbr
      have ko : ∀ w : World, Calls Tryd.prog 17 #[.string s, .int .i64 (i : Int)] w fun e w' => e = .returned (.tuple #[tokV (okK r) (okV r) (okI r i) (okP r), .int .i64 r.e, .int .i64 (r.p : Int)]) ∧ Below w.heap.size w w' := by
        rw [← oneV_ok]; exact ko
      have KO := fun w => callsIn_wide (n := n - 1).2 (ko w)
      have hlen : pre.length < (stR s).length := by
        rw [hx, hsx]; split <;> simp
      have hY2 := fun W h => hY pre (r, i) W h hlen
      unfold stV at hY2
      dsimp only at hY2
      obtain ⟨x0, hx0⟩ : ∃ x0, x0 = okK r := ⟨_, rfl⟩
      obtain ⟨x1, hx1⟩ : ∃ x1, x1 = okV r := ⟨_, rfl⟩
      obtain ⟨x2, hx2⟩ : ∃ x2, x2 = okI r i := ⟨_, rfl⟩
      obtain ⟨x3, hx3⟩ : ∃ x3, x3 = okP r := ⟨_, rfl⟩
      rw [← hx0, ← hx1, ← hx2, ← hx3] at KO hY2
      obtain ⟨x4, hx4⟩ : ∃ x4, x4 = r.e := ⟨_, rfl⟩
      obtain ⟨x5, hx5⟩ : ∃ x5, x5 = r.p := ⟨_, rfl⟩
      rw [← hx4] at KO hY2 hsx
      rw [← hx5] at KO hY2 kb2 hsx hbr hle
      rw [hsx] at hx
      have HX := Lib.hid hx
      have HR4 := Lib.hid hx4
      clear hx hsx hr ko hx0 hx1 hx2 hx3 hx4 hx5 hY hO
      by_cases hx4 : x4 = 0
      · obtain rfl := hx4
        rw [if_pos rfl] at HX
        have hlt2 := hle.2.2 HR4.out.symm
        gi_wp2_with (refine ⟨trivial, ?_⟩; gi_at_call 17; refine (KO _).mono ?_; rintro e w2 ⟨rfl, hb2⟩; have hcw2 := cell_past (.cells #[.int .i64 x0, .string x1, .int .i64 x2, .int .i64 x3] 31) ((hb2.cell (p := ⟨Bn, 0, none⟩) hb).trans hcw); have hJ2 := hJ pre _ (w2.alloc (.cells #[.int .i64 x0, .string x1, .int .i64 x2, .int .i64 x3] 31)) none (hJ pre wr w2 none hJs (grown_of_below hb2) (fun r e => by cases e)) (World.grownBy_alloc _ _ _) (fun r e => by cases e); obtain ⟨fn, tmps, assign, body, hy, hR⟩ := hY2 _ hJ2)
        refine hR.mono ?_
        rintro e W3 (⟨rfl, hJ3, hk3⟩ | ⟨rfl, hJx3⟩)
        · have hcw3 : W3.cell? ⟨Bn, 0, none⟩ = some (.string s) := (cell_same hk3.2 0).trans hcw2
          have hb3 : Bn < W3.heap.size := by
            have h1 := hk3.1
            have h2 := hb2.size
            rw [World.size_alloc] at h1
            omega
          gi_wp2_with (refine ⟨trivial, ?_⟩; gi_at_call 19; refine (kb2 _).mono ?_; rintro e w4 ⟨rfl, hb4⟩)
          go_roundw
          case rel =>
            exact ⟨pre ++ [(r, i)], blR s x5, rfl, hbr.2, by rw [HX.out]; simp, Nat.lt_of_lt_of_le hb3 hb4.size, (hb4.cell (p := ⟨Bn, 0, none⟩) hb3).trans hcw3, hJ _ W3 w4 none hJ3 (grown_of_below hb4) (fun r e => by cases e)⟩
          case measure => simp [intOf]; omega
        · gi_wp2
          refine bodyPost_ret (results_none rfl _ _ _) rfl ?_
          exact ⟨⟨_, rfl⟩, .inr ⟨pre ++ [(r, i)], by rw [HX.out]; exact ⟨_, by simp; rfl⟩, hJx3⟩⟩
      · rw [if_neg hx4] at HX
        have q2 : (x4 == 0) = false := beq_eq_false_iff_ne.2 hx4
        have q3 : (x4 != 0) = true := by rw [bne, q2]; rfl
        clear hx4
        gi_wp2_with (refine ⟨trivial, ?_⟩; gi_at_call 17; refine (KO _).mono ?_; rintro e w2 ⟨rfl, hb2⟩; have hcw2 := cell_past (.cells #[.int .i64 x0, .string x1, .int .i64 x2, .int .i64 x3] 31) ((hb2.cell (p := ⟨Bn, 0, none⟩) hb).trans hcw); have hJ2 := hJ pre _ (w2.alloc (.cells #[.int .i64 x0, .string x1, .int .i64 x2, .int .i64 x3] 31)) none (hJ pre wr w2 none hJs (grown_of_below hb2) (fun r e => by cases e)) (World.grownBy_alloc _ _ _) (fun r e => by cases e); obtain ⟨fn, tmps, assign, body, hy, hR⟩ := hY2 _ hJ2)
        refine hR.mono ?_
        rintro e W3 (⟨rfl, hJ3, hk3⟩ | ⟨rfl, hJx3⟩)
        · gi_wp2
          refine bodyPost_ret (results_none rfl _ _ _) rfl ?_
          exact ⟨⟨_, rfl⟩, .inl ⟨pre ++ [(r, i)], HX.out.symm, hJ3⟩⟩
        · gi_wp2
          refine bodyPost_ret (results_none rfl _ _ _) rfl ?_
          exact ⟨⟨_, rfl⟩, .inr ⟨pre ++ [(r, i)], by rw [HX.out]; exact List.prefix_refl _, hJx3⟩⟩
    · rw [stF_end s _ i (by omega), List.append_nil] at hx
      have HX := Lib.hid hx
      clear hx
      gi_wp2
      go_end0
      exact ⟨⟨_, rfl⟩, .inl ⟨pre, HX.out.symm, hJs⟩⟩
end Go.Proofs.YtklkgcogaekokaaDoor
