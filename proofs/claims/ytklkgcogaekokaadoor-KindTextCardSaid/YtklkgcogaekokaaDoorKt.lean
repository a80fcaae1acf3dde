/- The walk of KindText: it returns true. Condition: the variable kind.texts reads as its text lays it. -/
import Derived.Test.YtklkgcogaekokaaDoorKc
import Derived.MakeChecks
import Derived.Deep.RegionHeld3
import Derived.BigQuiet
namespace Go.Proofs.YtklkgcogaekokaaDoor
open Go.RowKit

def tabOk (j : Nat) : Bool := match lexT (tx j) with
  | ([t], e, _) => decide (e = 0) && (decide (t.k = 1) || decide (t.k = 2)) && (ofR t.k t.v == (j : Int)) && ((t.k == 2) == inN j) && noQ (tx j) && decide ((tx j).size ≤ 600)
  | _ => false
theorem tab_ok (j : Nat) (hj : j < 31) (h : hasT j = true) : tabOk j = true := by
  have H : ∀ k : Fin 31, hasT ((k.1 : Nat) : Int) = true → tabOk k.1 = true := by decide +kernel
  exact H ⟨j, hj⟩ h
theorem hasT_rng (te : Int) : (hasT te = false ∧ (te ≤ 0 ∨ (15 ≤ te ∧ te ≤ 18) ∨ 30 < te)) ∨ (hasT te = true ∧ 0 < te ∧ te ≤ 30) := by
  by_cases h : 0 ≤ te ∧ te < 31
  · obtain ⟨j, rfl⟩ : ∃ j : Nat, te = j := ⟨te.toNat, by omega⟩
    have hj : j < 31 := by omega
    have H : ∀ k : Fin 31, ((hasT ((k.1 : Nat) : Int) = false ∧ (((k.1 : Nat) : Int) ≤ 0 ∨ (15 ≤ ((k.1 : Nat) : Int) ∧ ((k.1 : Nat) : Int) ≤ 18) ∨ 30 < ((k.1 : Nat) : Int))) ∨ (hasT ((k.1 : Nat) : Int) = true ∧ 0 < ((k.1 : Nat) : Int) ∧ ((k.1 : Nat) : Int) ≤ 30)) := by decide +kernel
    exact H ⟨j, hj⟩
  · refine .inl ⟨?_, by omega⟩
    unfold hasT
    by_cases h0 : 0 ≤ te
    · rw [decide_eq_false (show ¬ te < 31 by omega)]; simp
    · rw [decide_eq_false h0]; rfl
/-- what lex.Lex says of a terminal's text -/
theorem lexk_c (te : Int) (h : hasT te = true) (w : World) : ∃ k v, (k = 1 ∨ k = 2) ∧ ofR k v = te ∧ (k == 2) = inN te ∧ Calls Tryd.prog 12 #[.string (tx te.toNat)] w fun e w' => ∃ g cap n i p, e = .returned (.tuple #[.slice (some ⟨g, 0, none⟩) 1 cap, .int .i64 0, .int .i64 n]) ∧
    w'.cell? ⟨g, 0, none⟩ = some (.int .i64 k) ∧ w'.cell? ⟨g, 1, none⟩ = some (.string v) ∧ w'.cell? ⟨g, 2, none⟩ = some (.int .i64 i) ∧ w'.cell? ⟨g, 3, none⟩ = some (.int .i64 p) ∧ g < w'.heap.size ∧ Below w.heap.size w w' := by
  have hr := hasT_rng te
  rcases hr with ⟨h0, _⟩ | ⟨_, h1, h2⟩
  · rw [h] at h0; cases h0
  obtain ⟨j, rfl⟩ : ∃ j : Nat, te = j := ⟨te.toNat, by omega⟩
  have ht := tab_ok j (by omega) h
  rw [show ((j : Int)).toNat = j by omega]
  unfold tabOk at ht
  obtain ⟨R, hR⟩ : ∃ R, R = lexT (tx j) := ⟨_, rfl⟩
  rw [← hR] at ht
  obtain ⟨l, e, n⟩ := R
  match l, ht with
  | [t], ht =>
    simp only [Bool.and_eq_true, Bool.or_eq_true, decide_eq_true_eq, beq_iff_eq] at ht
    obtain ⟨⟨⟨⟨⟨he, hk⟩, ho⟩, hn⟩, hq⟩, hs⟩ := ht
    refine ⟨t.k, t.v, hk, ho, by rw [← hn], ?_⟩
    refine (lex_c (tx j) w (by omega) (oneAll_nq _ (by omega) hq)).mono (fun E w' hh => ?_)
    obtain ⟨v, hE, hown, _, hb⟩ := hh
    rw [← hR] at hE hown
    obtain ⟨g, cap, rfl⟩ := ownsRow_succ (k := 0) hown
    refine ⟨g, cap, (n : Int), (t.i : Int), (t.p : Int), ?_, (owns_cell hown 0 _ rfl).1, (owns_cell hown 1 _ rfl).1, (owns_cell hown 2 _ rfl).1, (owns_cell hown 3 _ rfl).1, (owns_cell hown 0 _ rfl).2, hb⟩
    rw [hE, he]
theorem lex0_c (w : World) : Calls Tryd.prog 12 #[.string ByteArray.empty] w fun e w' => ∃ v, e = .returned (.tuple #[v, .int .i64 0, .int .i64 0]) ∧ Below w.heap.size w w' := by
  refine (lex_c ByteArray.empty w (by decide) (oneAll_nq _ (by decide) (by decide +kernel))).mono (fun E w' hh => ?_)
  obtain ⟨v, hE, _, _, hb⟩ := hh
  exact ⟨v, hE, hb⟩

structure SK (g : Nat) (k : Int) (vv : ByteArray) (i p : Int) (w w' : World) : Prop where
  c0 : w'.cell? ⟨g, 0, none⟩ = some (.int .i64 k)
  c1 : w'.cell? ⟨g, 1, none⟩ = some (.string vv)
  c2 : w'.cell? ⟨g, 2, none⟩ = some (.int .i64 i)
  c3 : w'.cell? ⟨g, 3, none⟩ = some (.int .i64 p)
  hg : g < w'.heap.size
  tx : TxAt w'
  b : Below w.heap.size w w'
theorem SK.all {g : Nat} {k : Int} {vv : ByteArray} {i p : Int} {w w' : World} (h : SK g k vv i p w w') : SK g k vv i p w w' ∧ TxAt w' ∧ w'.cell? ⟨g, 0, none⟩ = some (.int .i64 k) ∧ w'.cell? ⟨g, 1, none⟩ = some (.string vv) ∧ w'.cell? ⟨g, 2, none⟩ = some (.int .i64 i) ∧ w'.cell? ⟨g, 3, none⟩ = some (.int .i64 p) := ⟨h, h.tx, h.c0, h.c1, h.c2, h.c3⟩
theorem SK.drew {g : Nat} {k : Int} {vv : ByteArray} {i p : Int} {w w' : World} (h : SK g k vv i p w w') : SK g k vv i p w w'.drew := ⟨h.c0, h.c1, h.c2, h.c3, h.hg, h.tx, h.b.drew⟩
theorem SK.below {g : Nat} {k : Int} {vv : ByteArray} {i p : Int} {w w' w2 : World} (h : SK g k vv i p w w') (hb : Below w'.heap.size w' w2) : SK g k vv i p w w2 :=
  ⟨(hb.cell (p := ⟨g, 0, none⟩) h.hg).trans h.c0, (hb.cell (p := ⟨g, 1, none⟩) h.hg).trans h.c1, (hb.cell (p := ⟨g, 2, none⟩) h.hg).trans h.c2, (hb.cell (p := ⟨g, 3, none⟩) h.hg).trans h.c3, Nat.lt_of_lt_of_le h.hg hb.size, h.tx.below hb, bl h.b hb⟩
set_option maxHeartbeats 3200000 in
set_option maxRecDepth 100000 in
theorem kindText_w (te : Int) (w : World) (h : TxAt w) :
    Calls Tryd.prog 3 #[.int .i64 te] w fun e w' => e = .returned (.bool true) ∧ Below w.heap.size w w' := by
  have KAW := awake10_c w h
  rcases hasT_rng te with ⟨h0, hr⟩ | ⟨h1, h2, h3⟩
  · have kt := fun w h => text_c te w h
    rw [h0] at kt
    replace kt : ∀ w : World, TxAt w → Calls Tryd.prog 11 #[.int .i64 te] w fun e w' => e = .returned (.tuple #[.string ByteArray.empty, .bool false]) ∧ w = w' := kt
    have hd : decide (te ≤ 0) = true ∨ (decide (te ≤ 0) = false ∧ decide (15 ≤ te) = true ∧ decide (te ≤ 18) = true) ∨ (decide (te ≤ 0) = false ∧ decide (15 ≤ te) = true ∧ decide (te ≤ 18) = false ∧ decide (30 < te) = true) := by
      by_cases h0 : te ≤ 0
      · exact .inl (decide_eq_true h0)
      · by_cases h1 : te ≤ 18
        · exact .inr (.inl ⟨decide_eq_false h0, decide_eq_true (by omega), decide_eq_true h1⟩)
        · exact .inr (.inr ⟨decide_eq_false h0, decide_eq_true (by omega), decide_eq_false h1, decide_eq_true (by omega)⟩)
    clear hr h0
    rcases hd with t1 | ⟨t1, t2, t3⟩ | ⟨t1, t2, t3, t4⟩
    all_goals
      go_enter Tryd.func3, Tryd.ntmps3
      go_wp2_with (first | (go_at_call 10; with_reducible refine KAW.mono ?_; rintro e w1 ⟨rfl, hb1⟩) | (go_at_call 11; with_reducible refine (kt _ (h.below hb1)).mono ?_; rintro e w2 ⟨rfl, rfl⟩) | (go_at_call 12; with_reducible refine (lex0_c _).mono ?_; rintro e w3 ⟨v, rfl, hb3⟩))
      go_ret
      exact ⟨rfl, bl hb1 hb3⟩
  · have kt := fun w h => text_c te w h
    rw [h1] at kt
    have kl := fun w => lexk_c te h1 w
    obtain ⟨T, hT⟩ : ∃ T, T = tx te.toNat := ⟨_, rfl⟩
    rw [← hT] at kt kl
    replace kt : ∀ w : World, TxAt w → Calls Tryd.prog 11 #[.int .i64 te] w fun e w' => e = .returned (.tuple #[.string T, .bool true]) ∧ w = w' := kt
    have ki := fun w => in0_c te w
    have t1 : decide (0 < te) = true := decide_eq_true h2
    have t2 : decide (te ≤ 30) = true := decide_eq_true h3
    have t3 : (te == te) = true := beq_iff_eq.2 rfl
    clear h1 h2 h3 hT
    go_enter Tryd.func3, Tryd.ntmps3
    go_wp2_with (first | (go_at_call 10; with_reducible refine KAW.mono ?_; rintro e w1 ⟨rfl, hb1⟩) | (go_at_call 11; with_reducible refine (kt _ (h.below hb1)).mono ?_; rintro e w2 ⟨rfl, rfl⟩) | (go_at_call 12; obtain ⟨k, vv, hk, ho, hn, kl'⟩ := kl w1; with_reducible refine kl'.mono ?_; rintro e w3 ⟨g, cap, n, i, p, rfl, c0, c1, c2, c3, hg, hb3⟩))
    have htx := (h.below hb1).below hb3
    have kf := fun w h => of_c k vv i p w h hk
    rw [ho] at kf
    have hkn : (k == (2 : Int)) = inN te := hn
    obtain ⟨N, hN⟩ : ∃ N, N = inN te := ⟨_, rfl⟩
    rw [← hN] at hkn ki
    have hNN : (N == N) = true := beq_iff_eq.2 rfl
    clear hn hN ho hk kt kl kl' KAW
    have hSK : SK g k vv i p w w3 := ⟨c0, c1, c2, c3, hg, htx, bl hb1 hb3⟩
    clear htx
    go_region_held3 (fun w' => SK g k vv i p w w' ∧ TxAt w' ∧ w'.cell? ⟨g, 0, none⟩ = some (.int .i64 k) ∧ w'.cell? ⟨g, 1, none⟩ = some (.string vv) ∧ w'.cell? ⟨g, 2, none⟩ = some (.int .i64 i) ∧ w'.cell? ⟨g, 3, none⟩ = some (.int .i64 p))
      (exact SK.all (by first | assumption | exact SK.drew (by assumption)))
      (first
        | (go_at_call 14; refine (ki _).mono ?_; rintro e w' ⟨rfl, rfl⟩)
        | (go_at_call 13; refine (kf _ (SK.tx (g := g) (k := k) (vv := vv) (i := i) (p := p) (w := w) (by first | assumption | exact SK.drew (by assumption)))).mono ?_; rintro e w' ⟨rfl, hbx⟩; have hSx := SK.below (by first | assumption | exact SK.drew (by assumption)) hbx))
    go_wp2
    go_ret
    exact ⟨rfl, SK.b (g := g) (k := k) (vv := vv) (i := i) (p := p) (by assumption)⟩
theorem tx_at {w : World} (hL : laidMetH Tryd.prog Rows.kindTextRow.laid w) : TxAt w := by
  rw [MakeChecks.laidMetH_plain _ _ _ (by kernel_rfl)] at hL
  exact tx_cells (Lib.laidMet.reads hL (.tail _ (.head _)))
theorem kindText_c (te : Int) (w : World) (_ : (Lit.int .i64 te).wf = true) (hL : laidMetH Tryd.prog Rows.kindTextRow.laid w) :
    Calls Tryd.prog 3 #[.int .i64 te] w fun e w' => e = .returned (.bool true) ∧ Below w.heap.size w w' := kindText_w te w (tx_at hL)
end Go.Proofs.YtklkgcogaekokaaDoor
