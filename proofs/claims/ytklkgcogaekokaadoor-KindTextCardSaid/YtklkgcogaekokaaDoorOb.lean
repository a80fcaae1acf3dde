/- The walk of lex.One: a token of punctuation, a name, a number, or none. Condition: the text is no longer than a string that comes in can be. -/
import Derived.Test.YtklkgcogaekokaaDoorOa
namespace Go.Proofs.YtklkgcogaekokaaDoor
open Go.RowKit

def oneV (r : OneT) (i : Nat) : Value := if r.e = 0 then tokV r.k r.v i r.p else tokV 0 ByteArray.empty 0 0
def OneSays (s : ByteArray) (i : Nat) (w : World) (e : Ending) (w' : World) : Prop :=
  e = .returned (.tuple #[oneV (oneT s i) i, .int .i64 (oneT s i).e, .int .i64 ((oneT s i).p : Int)]) ∧ Below w.heap.size w w'
theorem oneSays_tok (s : ByteArray) (i : Nat) (w w' : World) (k : Int) (p : Nat) (h : oneT s i = tokT s i k p) (hb : Below w.heap.size w w') :
    OneSays s i w (.returned (.tuple #[tokV k (s.extract i p) i p, .int .i64 0, .int .i64 (p : Int)])) w' := by
  unfold OneSays; rw [h]; exact ⟨rfl, hb⟩
theorem oneSays_err (s : ByteArray) (i : Nat) (w w' : World) (e : Int) (p : Nat) (h : oneT s i = errT e p) (he : e ≠ 0) (hb : Below w.heap.size w w') :
    OneSays s i w (.returned (.tuple #[tokV 0 ByteArray.empty 0 0, .int .i64 e, .int .i64 (p : Int)])) w' := by
  unfold OneSays; rw [h]; unfold oneV errT; dsimp only; rw [if_neg he]; exact ⟨rfl, hb⟩
theorem bcell {W w1 : World} (hb : Below W.heap.size W w1) : (∀ b o, b < W.heap.size → w1.cell? ⟨b, o, none⟩ = W.cell? ⟨b, o, none⟩) ∧ (∀ b o, b < W.heap.size → w1.frozen? ⟨b, o, none⟩ = W.frozen? ⟨b, o, none⟩) :=
  ⟨fun b o h => hb.cell (p := ⟨b, o, none⟩) h, fun b o h => hb.frozen (p := ⟨b, o, none⟩) h⟩

/-- the world in which lex.One begins: its two variables, and its result -/
abbrev oneW (s : ByteArray) (i : Nat) (w : World) : World := ((w.alloc (.cells #[.string s] 9)).alloc (.cells #[.int .i64 (i : Int)] 3)).alloc (.cells #[.int .i64 0, .string { data := #[] }, .int .i64 0, .int .i64 0] 31)
theorem oneW_size (s : ByteArray) (i : Nat) (w : World) : (oneW s i w).heap.size = w.heap.size + 3 := by simp
theorem oneW_sv (s : ByteArray) (i : Nat) (w : World) : Sv w.heap.size s i (oneW s i w) where
  size := by rw [oneW_size]; omega
  ct := cell_past _ (cell_past _ (new_cell w _ _).1)
  ca := by
    have h := (new_cell (w.alloc (.cells #[.string s] 9)) (.int .i64 (i : Int)) 3).1
    rw [World.size_alloc] at h
    exact cell_past _ h
theorem oneW_below (s : ByteArray) (i : Nat) (w : World) : Below w.heap.size w (oneW s i w) := (((Below.refl _ w).alloc (Nat.le_refl _) _).alloc (by simp) _).alloc (by simp; omega) _
theorem set4 {n : Nat} {w w' : World} (b : Nat) (hb : n ≤ b) (h : Below n w w') (v0 v1 v2 v3 : Value) :
    Below n w ((((w'.setCell ⟨b, 0, none⟩ v0).setCell ⟨b, 1, none⟩ v1).setCell ⟨b, 2, none⟩ v2).setCell ⟨b, 3, none⟩ v3) :=
  (((h.setCell (p := ⟨b, 0, none⟩) hb v0).setCell (p := ⟨b, 1, none⟩) hb v1).setCell (p := ⟨b, 2, none⟩) hb v2).setCell (p := ⟨b, 3, none⟩) hb v3
set_option maxHeartbeats 1600000 in
set_option maxRecDepth 100000 in
theorem one_punct (s : ByteArray) (i : Nat) (w : World) (hs : s.size ≤ 140737488351232) (hi : i < s.size) (h46 : bt s i ≠ 46) (hp : isPu (bt s i) = true) :
    Calls Tryd.prog 17 #[.string s, .int .i64 (i : Int)] w (OneSays s i w) := by
  have hT : oneT s i = tokT s i 1 (i + 1) := by unfold oneT; rw [if_neg (by simpa using h46), if_pos hp]
  have HT := Lib.hid hT
  have t1 : decide ((i : Int) < 0) = false := decide_eq_false (by omega)
  have t2 : decide ((s.size : Int) ≤ (i : Int)) = false := decide_eq_false (by omega)
  have t2' : decide (s.size ≤ i) = false := decide_eq_false (by omega)
  have hb := bt_nat s i hi
  obtain ⟨c, hc⟩ : ∃ c, c = bt s i := ⟨_, rfl⟩
  rw [← hc] at hb h46 hp
  have kb : ∀ w : World, Calls Tryd.prog 30 #[.string ⟨#[33, 36, 38, 40, 41, 58, 61, 64, 91, 93, 123, 124, 125]⟩, .int .u8 c] w fun e w' => e = .returned (.int .i64 (Lib.indexByte puncts.data.toList c.toNat.toUInt8)) ∧ w = w' :=
    fun w => (Tryd.strings_IndexByte puncts c w).mono (fun e w' h => ⟨h.1, h.2.symm⟩)
  unfold isPu at hp
  obtain ⟨x, hx⟩ : ∃ x, x = Lib.indexByte puncts.data.toList c.toNat.toUInt8 := ⟨_, rfl⟩
  rw [← hx] at kb hp
  have q1 : (c == 46) = false := beq_eq_false_iff_ne.2 h46
  have kt := tok_c w.heap.size s i (i + 1) 1 (oneW s i w) (oneW_sv s i w) (by omega) hi
  rw [show ((i + 1 : Nat) : Int) = (i : Int) + 1 by omega] at kt
  have hB := oneW_below s i w
  clear hT hx hc h46
  go_enter Tryd.func17, Tryd.ntmps17
  go_wp2_with (first | (go_at_call 30; with_reducible refine (kb _).mono ?_; rintro e w2 ⟨rfl, rfl⟩) | (go_at_call 27; with_reducible refine kt.mono ?_; rintro e w3 ⟨rfl, hb3⟩; obtain ⟨hcc, hff⟩ := bcell hb3))
  refine bodyPost_ret (v := .tuple #[tokV 1 (s.extract i (i + 1)) i ((i : Int) + 1), .int .i64 0, .int .i64 ((i : Int) + 1)]) ?_ rfl ?_
  · simp [results, Tryd.results17, go_sem, hcc]
  · exact oneSays_tok s i w _ 1 (i + 1) HT.out (set4 _ (by omega) (hB.trans (hb3.mono (by rw [oneW_size]; omega))) _ _ _ _)

set_option maxHeartbeats 1600000 in
set_option maxRecDepth 100000 in
theorem one_dots (s : ByteArray) (i : Nat) (w : World) (hs : s.size ≤ 140737488351232) (hi : i < s.size) (h46 : bt s i = 46) :
    Calls Tryd.prog 17 #[.string s, .int .i64 (i : Int)] w (OneSays s i w) := by
  have hT : oneT s i = if pfL dots3.data.toList s i then tokT s i 1 (i + 3) else errT 2 i := by unfold oneT; rw [if_pos (by simpa using h46)]
  have t1 : decide ((i : Int) < 0) = false := decide_eq_false (by omega)
  have t2 : decide ((s.size : Int) ≤ (i : Int)) = false := decide_eq_false (by omega)
  have t2' : decide (s.size ≤ i) = false := decide_eq_false (by omega)
  have hb := bt_nat s i hi
  rw [h46] at hb
  have l1 := fun wx => slice_from (P := Tryd.prog) 9 rfl s i (i : Int) rfl (by omega) wx
  have kp : ∀ w : World, Calls Tryd.prog 29 #[.string (s.extract i s.size), .string ⟨#[46, 46, 46]⟩] w fun e w' => e = .returned (.bool (pfL dots3.data.toList s i)) ∧ w = w' := fun w => prefix_c s dots3 i w
  have hpl := pfL_le s dots3.data.toList i (by omega)
  obtain ⟨q, hq⟩ : ∃ q, q = pfL dots3.data.toList s i := ⟨_, rfl⟩
  rw [← hq] at kp hT hpl
  obtain ⟨T, hTT⟩ : ∃ T, T = s.extract i s.size := ⟨_, rfl⟩
  rw [← hTT] at l1 kp
  have hB := oneW_below s i w
  clear hq hTT h46
  cases q
  · have HT := Lib.hid hT
    clear hT hpl
    go_enter Tryd.func17, Tryd.ntmps17
    go_wp2_with (go_at_call 29; with_reducible refine (kp _).mono ?_; rintro e w2 ⟨rfl, rfl⟩)
    go_region
    go_wp2
    exact bodyPost_ret (v := .tuple #[tokV 0 ByteArray.empty 0 0, .int .i64 2, .int .i64 (i : Int)]) (by simp [results, Tryd.results17, go_sem]; rfl) rfl (oneSays_err s i w _ 2 i HT.out (by decide) hB.drew)
  · have h3 : i + 3 ≤ s.size := hpl rfl
    have HT := Lib.hid hT
    clear hT hpl
    have kt := tok_c w.heap.size s i (i + 3) 1 (oneW s i w) (oneW_sv s i w) (by omega) h3
    rw [show ((i + 3 : Nat) : Int) = (i : Int) + 3 by omega] at kt
    go_enter Tryd.func17, Tryd.ntmps17
    go_wp2_with (first | (go_at_call 29; with_reducible refine (kp _).mono ?_; rintro e w2 ⟨rfl, rfl⟩) | (go_at_call 27; with_reducible refine kt.mono ?_; rintro e w3 ⟨rfl, hb3⟩; obtain ⟨hcc, hff⟩ := bcell hb3))
    refine bodyPost_ret (v := .tuple #[tokV 1 (s.extract i (i + 3)) i ((i : Int) + 3), .int .i64 0, .int .i64 ((i : Int) + 3)]) ?_ rfl ?_
    · simp [results, Tryd.results17, go_sem, hcc]
    · exact oneSays_tok s i w _ 1 (i + 3) HT.out (set4 _ (by omega) (hB.trans (hb3.mono (by rw [oneW_size]; omega))) _ _ _ _)
end Go.Proofs.YtklkgcogaekokaaDoor
