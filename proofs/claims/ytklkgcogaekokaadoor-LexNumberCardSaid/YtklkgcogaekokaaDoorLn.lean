/- The walk of LexNumber: it returns true. Condition: the text is no longer than a string that comes in can be. -/
import Derived.Test.YtklkgcogaekokaaDoorAw
namespace Go.Proofs.YtklkgcogaekokaaDoor
open Go.RowKit

set_option maxHeartbeats 3200000 in
set_option maxRecDepth 100000 in
theorem lexNumber_c (s : ByteArray) (w : World) (hs : s.size ≤ 140737488351232) :
    Calls Tryd.prog 9 #[.string s] w fun e w' => e = .returned (.bool true) ∧ Below w.heap.size w w' := by
  have KAW := fun w => awake9_c w
  by_cases h0 : s.size = 0
  · have n1 : ((s.size : Int) == 0) = true := by rw [h0]; rfl
    have n2 : (s.size == 0) = true := by rw [h0]; rfl
    have n3 : s = ByteArray.empty := by
      apply ba_ext
      · exact h0
      · intro i h1; omega
    subst n3
    go_enter Tryd.func9, Tryd.ntmps9
    go_wp2_with (go_at_call 15; with_reducible refine (KAW _).mono ?_; rintro e w' ⟨rfl, hbl⟩)
    go_ret
    exact ⟨rfl, by assumption⟩
  have n1 : ((s.size : Int) == 0) = false := beq_eq_false_iff_ne.2 (by omega)
  have n2 : (s.size == 0) = false := beq_eq_false_iff_ne.2 h0
  have n3 : ¬ s = ByteArray.empty := fun h => h0 (by rw [h]; rfl)
  by_cases h600 : 600 < s.size
  · have t1 : decide ((600 : Int) < (s.size : Int)) = true := decide_eq_true (by omega)
    have t1' : decide (600 < s.size) = true := decide_eq_true h600
    go_enter Tryd.func9, Tryd.ntmps9
    go_wp2_with (go_at_call 15; with_reducible refine (KAW _).mono ?_; rintro e w' ⟨rfl, hbl⟩)
    go_ret
    exact ⟨rfl, by assumption⟩
  have t1 : decide ((600 : Int) < (s.size : Int)) = false := decide_eq_false (by omega)
  have t1' : decide (600 < s.size) = false := decide_eq_false h600
  have hsz : 0 < s.size := by omega
  have hb := bt_nat s 0 hsz
  rw [show ((0 : Nat) : Int) = 0 from rfl] at hb
  cases hl : (bt s 0 == 45 || isDc (bt s 0))
  · rw [Bool.or_eq_false_iff] at hl
    obtain ⟨d1, d2⟩ := hl
    have d3 : decide (bt s 0 < 48) = true ∨ (decide (bt s 0 < 48) = false ∧ decide (57 < bt s 0) = true) := by
      unfold isDc at d2
      by_cases h : bt s 0 < 48
      · exact .inl (decide_eq_true h)
      · refine .inr ⟨decide_eq_false h, ?_⟩
        rw [decide_eq_true (show 48 ≤ bt s 0 by omega), Bool.true_and, decide_eq_false_iff_not] at d2
        exact decide_eq_true (by omega)
    obtain ⟨c, hc⟩ : ∃ c, c = bt s 0 := ⟨_, rfl⟩
    rw [← hc] at hb d1 d3
    have d1' : (c != 45) = true := by rw [bne, d1]; rfl
    clear hc d2 h0 h600
    rcases d3 with d3 | ⟨d3, d4⟩
    all_goals
      go_enter Tryd.func9, Tryd.ntmps9
      go_wp2_with (go_at_call 15; with_reducible refine (KAW _).mono ?_; rintro e w' ⟨rfl, hbl⟩)
      go_ret
      exact ⟨rfl, by assumption⟩
  · have ko : ∀ w : World, Calls Tryd.prog 17 #[.string s, .int .i64 0] w (OneSays s 0 w) := fun w => one_number s 0 w hs hsz hl
    have hT : oneT s 0 = numT s 0 := by
      obtain ⟨hp, h46, hlt⟩ := isPu_dc (bt s 0) hl (bt_range s 0)
      unfold oneT
      rw [show ((0 : Nat) : Int) = 0 from rfl, if_neg (by simpa using h46), if_neg (by rw [hp]; simp), if_neg (by rw [hlt]; simp), if_pos hl]
    have kn : ∀ w : World, Calls Tryd.prog 21 #[.string s, .int .i64 0] w _ := fun w => number_in s 0 w hs hsz
    have hle := (numR_le s 0 (Nat.zero_le _)).1
    have l2 := fun wx => slice_to (P := Tryd.prog) 9 rfl s (numR s 0).2.1 (((numR s 0).2.1 : Nat) : Int) rfl hle wx
    unfold OneSays at ko
    rw [hT] at ko
    unfold numT at ko
    have hd : ((bt s 0 == 45) = true ∧ (bt s 0 != 45) = false) ∨ ((bt s 0 == 45) = false ∧ (bt s 0 != 45) = true ∧ decide (bt s 0 < 48) = false ∧ decide (57 < bt s 0) = false) := by
      cases h : (bt s 0 == 45)
      · rw [h, Bool.false_or] at hl
        unfold isDc at hl
        rw [Bool.and_eq_true, decide_eq_true_eq, decide_eq_true_eq] at hl
        exact .inr ⟨rfl, by rw [bne, h]; rfl, decide_eq_false (by omega), decide_eq_false (by omega)⟩
      · exact .inl ⟨rfl, by rw [bne, h]; rfl⟩
    obtain ⟨c, hc⟩ : ∃ c, c = bt s 0 := ⟨_, rfl⟩
    rw [← hc] at hb hd
    obtain ⟨kk, hkk⟩ : ∃ kk, kk = (numR s 0).1 := ⟨_, rfl⟩
    obtain ⟨m, hm⟩ : ∃ m, m = (numR s 0).2.1 := ⟨_, rfl⟩
    obtain ⟨ok, hok⟩ : ∃ ok, ok = (numR s 0).2.2 := ⟨_, rfl⟩
    rw [← hkk, ← hm, ← hok] at kn ko
    rw [← hm] at hle l2
    have m1 : decide ((m : Int) < 0) = false := decide_eq_false (by omega)
    have m2 : decide ((s.size : Int) < (m : Int)) = false := decide_eq_false (by omega)
    have m2' : decide (s.size < m) = false := decide_eq_false (by omega)
    have m3 : ((m : Int) == (m : Int)) = true := beq_iff_eq.2 rfl
    clear hT hl hc hkk hm hok h0 h600
    cases ok
    · replace ko : ∀ w : World, Calls Tryd.prog 17 #[.string s, .int .i64 0] w fun e w' => e = .returned (.tuple #[tokV 0 ByteArray.empty 0 0, .int .i64 3, .int .i64 (m : Int)]) ∧ Below w.heap.size w w' := ko
      rcases hd with ⟨d1, d2⟩ | ⟨d1, d2, d3, d4⟩
      all_goals
        go_enter Tryd.func9, Tryd.ntmps9
        go_wp2_with (first | (go_at_call 15; with_reducible refine (KAW _).mono ?_; rintro e w1 ⟨rfl, hb1⟩) | (go_at_call 17; with_reducible refine (ko _).mono ?_; rintro e w2 ⟨rfl, hb2⟩) | (go_at_call 21; with_reducible refine (kn _).mono ?_; rintro e w3 ⟨rfl, hb3⟩))
        go_quiet (fail)
        go_wp2
        go_ret
        exact ⟨rfl, (bl hb1 (bl hb2 (bl ((Below.refl _ _).alloc (Nat.le_refl _) _) hb3))).trans ⟨rfl, rfl, rfl, Nat.le_refl _, fun _ _ => rfl⟩⟩
    · replace ko : ∀ w : World, Calls Tryd.prog 17 #[.string s, .int .i64 0] w fun e w' => e = .returned (.tuple #[tokV kk (s.extract 0 m) 0 m, .int .i64 0, .int .i64 (m : Int)]) ∧ Below w.heap.size w w' := ko
      obtain ⟨E, hE⟩ : ∃ E, E = s.extract 0 m := ⟨_, rfl⟩
      rw [← hE] at l2 ko
      have e1 : (E.toList == E.toList) = true := beq_iff_eq.2 rfl
      clear hE
      rcases hd with ⟨d1, d2⟩ | ⟨d1, d2, d3, d4⟩
      all_goals
        go_enter Tryd.func9, Tryd.ntmps9
        go_wp2_with (first | (go_at_call 15; with_reducible refine (KAW _).mono ?_; rintro e w1 ⟨rfl, hb1⟩) | (go_at_call 17; with_reducible refine (ko _).mono ?_; rintro e w2 ⟨rfl, hb2⟩) | (go_at_call 21; with_reducible refine (kn _).mono ?_; rintro e w3 ⟨rfl, hb3⟩; obtain ⟨hcc, hff⟩ := bcell hb3))
        go_quiet (fail)
        go_wp2
        go_ret
        exact ⟨rfl, (bl hb1 (bl hb2 (bl ((Below.refl _ _).alloc (Nat.le_refl _) _) hb3))).trans ⟨rfl, rfl, rfl, Nat.le_refl _, fun _ _ => rfl⟩⟩
end Go.Proofs.YtklkgcogaekokaaDoor
