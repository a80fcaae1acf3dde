/- The walk of lex.One: a name, a number, or none. Condition: the text is no longer than a string that comes in can be. -/
import Derived.Test.YtklkgcogaekokaaDoorOb
namespace Go.Proofs.YtklkgcogaekokaaDoor
open Go.RowKit

theorem isPu_lt (c : Int) (h : isLt c = true) (hc : 0 ≤ c ∧ c ≤ 255) : isPu c = false ∧ c ≠ 46 := by
  have : ∀ k : Fin 256, isLt (k.1 : Int) = true → isPu (k.1 : Int) = false ∧ (k.1 : Int) ≠ 46 := by decide +kernel
  have h2 := this ⟨c.toNat, by omega⟩
  rw [show ((c.toNat : Nat) : Int) = c by omega] at h2
  exact h2 h
theorem isPu_dc (c : Int) (h : (c == 45 || isDc c) = true) (hc : 0 ≤ c ∧ c ≤ 255) : isPu c = false ∧ c ≠ 46 ∧ isLt c = false := by
  have : ∀ k : Fin 256, ((k.1 : Int) == 45 || isDc (k.1 : Int)) = true → isPu (k.1 : Int) = false ∧ (k.1 : Int) ≠ 46 ∧ isLt (k.1 : Int) = false := by decide +kernel
  have h2 := this ⟨c.toNat, by omega⟩
  rw [show ((c.toNat : Nat) : Int) = c by omega] at h2
  exact h2 h
theorem kill1 {c : Int} (h : c ≠ 46) : (c == 46) = false := beq_eq_false_iff_ne.2 h

set_option maxHeartbeats 1600000 in
set_option maxRecDepth 100000 in
theorem one_name (s : ByteArray) (i : Nat) (w : World) (hs : s.size ≤ 140737488351232) (hi : i < s.size) (hl : isLt (bt s i) = true) :
    Calls Tryd.prog 17 #[.string s, .int .i64 (i : Int)] w (OneSays s i w) := by
  have t1 : decide ((i : Int) < 0) = false := decide_eq_false (by omega)
  have t2 : decide ((s.size : Int) ≤ (i : Int)) = false := decide_eq_false (by omega)
  have t2' : decide (s.size ≤ i) = false := decide_eq_false (by omega)
  have hb := bt_nat s i hi
  have hr := bt_range s i
  obtain ⟨hp, h46⟩ := isPu_lt (bt s i) hl hr
  have hT : oneT s i = tokT s i 2 (i + nm s i) := by unfold oneT; rw [if_neg (by simpa using h46), if_neg (by rw [hp]; simp), if_pos hl]
  have HT := Lib.hid hT
  have kn := name_c s i (oneW s i w) hs hi hl
  have hle := nm_le s i (by omega)
  have kl := fun w => begins_c (bt s i) w hr
  rw [hl] at kl
  obtain ⟨c, hc⟩ : ∃ c, c = bt s i := ⟨_, rfl⟩
  rw [← hc] at hb h46 hp kl
  have kb : ∀ w : World, Calls Tryd.prog 30 #[.string ⟨#[33, 36, 38, 40, 41, 58, 61, 64, 91, 93, 123, 124, 125]⟩, .int .u8 c] w fun e w' => e = .returned (.int .i64 (Lib.indexByte puncts.data.toList c.toNat.toUInt8)) ∧ w = w' :=
    fun w => (Tryd.strings_IndexByte puncts c w).mono (fun e w' h => ⟨h.1, h.2.symm⟩)
  have hp : decide (0 ≤ Lib.indexByte puncts.data.toList c.toNat.toUInt8) = false := hp
  obtain ⟨x, hx⟩ : ∃ x, x = Lib.indexByte puncts.data.toList c.toNat.toUInt8 := ⟨_, rfl⟩
  rw [← hx] at kb hp
  have q1 : (c == 46) = false := kill1 h46
  obtain ⟨m, hm⟩ : ∃ m, m = i + nm s i := ⟨_, rfl⟩
  rw [show (i : Int) + ((nm s i : Nat) : Int) = (m : Int) by omega] at kn
  rw [← hm] at hle HT
  have hB := oneW_below s i w
  have hsv := oneW_sv s i w
  have him : i ≤ m := by omega
  have kt := fun W h => tok_c w.heap.size s i m 2 W h him hle
  clear hT hx hc h46 hl hm
  go_enter Tryd.func17, Tryd.ntmps17
  go_wp2_with (first | (go_at_call 30; with_reducible refine (kb _).mono ?_; rintro e w2 ⟨rfl, rfl⟩) | (go_at_call 31; with_reducible refine (kl _).mono ?_; rintro e w2 ⟨rfl, rfl⟩) | (go_at_call 32; with_reducible refine kn.mono ?_; rintro e w2 ⟨rfl, hb2⟩; have hsv2 := hsv.below hb2) | (go_at_call 27; with_reducible refine (kt _ hsv2).mono ?_; rintro e w3 ⟨rfl, hb3⟩; have hb4 := hb2.trans (hb3.mono hb2.size); obtain ⟨hcc, hff⟩ := bcell hb4))
  refine bodyPost_ret (v := .tuple #[tokV 2 (s.extract i m) i ((m : Int)), .int .i64 0, .int .i64 ((m : Int))]) ?_ rfl ?_
  · simp [results, Tryd.results17, go_sem, hcc]
  · exact oneSays_tok s i w _ 2 m HT.out (set4 _ (by omega) (hB.trans (hb4.mono (by rw [oneW_size]; omega))) _ _ _ _)

theorem numR_le (t : ByteArray) (a : Nat) (h : a ≤ t.size) : (numR t a).2.1 ≤ t.size ∧ a ≤ (numR t a).2.1 := by
  have h1 := nA1_le t a h
  have h2 := nA2_le t a h
  have h3 := nA3_le t a h
  have h5 := nA5_le t a h
  have g1 : a ≤ nA1 t a := by unfold nA1; split <;> omega
  have g2 : a ≤ nA2 t a := by unfold nA2; split <;> omega
  have g3 : a ≤ nA3 t a := by unfold nA3; split <;> omega
  have g4 : a ≤ nA4 t a := by unfold nA4; split <;> omega
  have g5 : a ≤ nA5 t a := by unfold nA5; split <;> omega
  unfold numR
  split
  · exact ⟨h2, g2⟩
  · split
    · exact ⟨h3, g3⟩
    · split
      · exact ⟨h5, g5⟩
      · split
        · exact ⟨h5, g5⟩
        · exact ⟨h5, g5⟩

set_option maxHeartbeats 1600000 in
set_option maxRecDepth 100000 in
theorem one_number (s : ByteArray) (i : Nat) (w : World) (hs : s.size ≤ 140737488351232) (hi : i < s.size) (hl : (bt s i == 45 || isDc (bt s i)) = true) :
    Calls Tryd.prog 17 #[.string s, .int .i64 (i : Int)] w (OneSays s i w) := by
  have t1 : decide ((i : Int) < 0) = false := decide_eq_false (by omega)
  have t2 : decide ((s.size : Int) ≤ (i : Int)) = false := decide_eq_false (by omega)
  have t2' : decide (s.size ≤ i) = false := decide_eq_false (by omega)
  have hb := bt_nat s i hi
  have hr := bt_range s i
  obtain ⟨hp, h46, hlt⟩ := isPu_dc (bt s i) hl hr
  have hT : oneT s i = numT s i := by unfold oneT; rw [if_neg (by simpa using h46), if_neg (by rw [hp]; simp), if_neg (by rw [hlt]; simp), if_pos hl]
  unfold numT at hT
  have kn := number_in s i (oneW s i w) hs hi
  have hle := numR_le s i (by omega)
  have kl := fun w => begins_c (bt s i) w hr
  rw [hlt] at kl
  have hd : ((bt s i == 45) = true) ∨ ((bt s i == 45) = false ∧ decide (48 ≤ bt s i) = true ∧ decide (bt s i ≤ 57) = true) := by
    cases h : (bt s i == 45)
    · rw [h, Bool.false_or] at hl
      unfold isDc at hl
      rw [Bool.and_eq_true] at hl
      exact .inr ⟨rfl, hl⟩
    · exact .inl rfl
  obtain ⟨c, hc⟩ : ∃ c, c = bt s i := ⟨_, rfl⟩
  rw [← hc] at hb h46 hp kl hd
  have kb : ∀ w : World, Calls Tryd.prog 30 #[.string ⟨#[33, 36, 38, 40, 41, 58, 61, 64, 91, 93, 123, 124, 125]⟩, .int .u8 c] w fun e w' => e = .returned (.int .i64 (Lib.indexByte puncts.data.toList c.toNat.toUInt8)) ∧ w = w' :=
    fun w => (Tryd.strings_IndexByte puncts c w).mono (fun e w' h => ⟨h.1, h.2.symm⟩)
  have hp : decide (0 ≤ Lib.indexByte puncts.data.toList c.toNat.toUInt8) = false := hp
  obtain ⟨x, hx⟩ : ∃ x, x = Lib.indexByte puncts.data.toList c.toNat.toUInt8 := ⟨_, rfl⟩
  rw [← hx] at kb hp
  have q1 : (c == 46) = false := kill1 h46
  obtain ⟨kk, hkk⟩ : ∃ kk, kk = (numR s i).1 := ⟨_, rfl⟩
  obtain ⟨m, hm⟩ : ∃ m, m = (numR s i).2.1 := ⟨_, rfl⟩
  obtain ⟨ok, hok⟩ : ∃ ok, ok = (numR s i).2.2 := ⟨_, rfl⟩
  rw [← hkk, ← hm, ← hok] at kn hT
  rw [← hm] at hle
  have hB := oneW_below s i w
  have hsv := oneW_sv s i w
  have him : i ≤ m := hle.2
  have kt := fun W h => tok_c w.heap.size s i m kk W h him hle.1
  clear hx hc h46 hl hm hlt hkk hok hr
  cases ok
  · have HT := Lib.hid (show oneT s i = errT 3 m from hT)
    clear hT kt
    rcases hd with d1 | ⟨d1, d2, d3⟩
    all_goals
      go_enter Tryd.func17, Tryd.ntmps17
      go_wp2_with (first | (go_at_call 30; with_reducible refine (kb _).mono ?_; rintro e w2 ⟨rfl, rfl⟩) | (go_at_call 31; with_reducible refine (kl _).mono ?_; rintro e w2 ⟨rfl, rfl⟩) | (go_at_call 21; with_reducible refine kn.mono ?_; rintro e w2 ⟨rfl, hb2⟩; obtain ⟨hcc, hff⟩ := bcell hb2))
      refine bodyPost_ret (v := .tuple #[tokV 0 ByteArray.empty 0 0, .int .i64 3, .int .i64 (m : Int)]) ?_ rfl ?_
      · simp [results, Tryd.results17, go_sem, hcc]; rfl
      · exact oneSays_err s i w _ 3 m HT.out (by decide) (set4 _ (by omega) (hB.trans (hb2.mono (by rw [oneW_size]; omega))) _ _ _ _)
  · have HT := Lib.hid (show oneT s i = tokT s i kk m from hT)
    clear hT
    rcases hd with d1 | ⟨d1, d2, d3⟩
    all_goals
      go_enter Tryd.func17, Tryd.ntmps17
      go_wp2_with (first | (go_at_call 30; with_reducible refine (kb _).mono ?_; rintro e w2 ⟨rfl, rfl⟩) | (go_at_call 31; with_reducible refine (kl _).mono ?_; rintro e w2 ⟨rfl, rfl⟩) | (go_at_call 21; with_reducible refine kn.mono ?_; rintro e w2 ⟨rfl, hb2⟩; have hsv2 := hsv.below hb2) | (go_at_call 27; with_reducible refine (kt _ hsv2).mono ?_; rintro e w3 ⟨rfl, hb3⟩; have hb4 := hb2.trans (hb3.mono hb2.size); obtain ⟨hcc, hff⟩ := bcell hb4))
      refine bodyPost_ret (v := .tuple #[tokV kk (s.extract i m) i ((m : Int)), .int .i64 0, .int .i64 ((m : Int))]) ?_ rfl ?_
      · simp [results, Tryd.results17, go_sem, hcc]
      · exact oneSays_tok s i w _ kk m HT.out (set4 _ (by omega) (hB.trans (hb4.mono (by rw [oneW_size]; omega))) _ _ _ _)

theorem pfL_first (c : UInt8) (l : List UInt8) (s : ByteArray) (i : Nat) (h : bt s i ≠ (c.toNat : Int)) : pfL (c :: l) s i = false := by
  unfold pfL; rw [beq_eq_false_iff_ne.2 h]; simp
set_option maxHeartbeats 1600000 in
set_option maxRecDepth 100000 in
theorem one_none (s : ByteArray) (i : Nat) (w : World) (hs : s.size ≤ 140737488351232) (hi : i < s.size) (h46 : bt s i ≠ 46) (hp : isPu (bt s i) = false) (hlt : isLt (bt s i) = false) (hl : (bt s i == 45 || isDc (bt s i)) = false) (h34 : bt s i ≠ 34) :
    Calls Tryd.prog 17 #[.string s, .int .i64 (i : Int)] w (OneSays s i w) := by
  have t1 : decide ((i : Int) < 0) = false := decide_eq_false (by omega)
  have t2 : decide ((s.size : Int) ≤ (i : Int)) = false := decide_eq_false (by omega)
  have t2' : decide (s.size ≤ i) = false := decide_eq_false (by omega)
  have hb := bt_nat s i hi
  have hr := bt_range s i
  have hT : oneT s i = errT 2 i := by unfold oneT; rw [if_neg (by simpa using h46), if_neg (by rw [hp]; simp), if_neg (by rw [hlt]; simp), if_neg (by rw [hl]; simp), if_neg (by simpa using h34)]
  have HT := Lib.hid hT
  have l1 := fun wx => slice_from (P := Tryd.prog) 9 rfl s i (i : Int) rfl (by omega) wx
  have kp : ∀ w : World, Calls Tryd.prog 29 #[.string (s.extract i s.size), .string ⟨#[34, 34, 34]⟩] w fun e w' => e = .returned (.bool (pfL quotes3.data.toList s i)) ∧ w = w' := fun w => prefix_c s quotes3 i w
  rw [show pfL quotes3.data.toList s i = false from pfL_first 34 [34, 34] s i h34] at kp
  obtain ⟨T, hTT⟩ : ∃ T, T = s.extract i s.size := ⟨_, rfl⟩
  rw [← hTT] at l1 kp
  have kl := fun w => begins_c (bt s i) w hr
  rw [hlt] at kl
  rw [Bool.or_eq_false_iff] at hl
  obtain ⟨d1, d2⟩ := hl
  have d3 : decide (48 ≤ bt s i) = false ∨ (decide (48 ≤ bt s i) = true ∧ decide (bt s i ≤ 57) = false) := by
    unfold isDc at d2
    cases h : decide (48 ≤ bt s i)
    · exact .inl rfl
    · rw [h, Bool.true_and] at d2; exact .inr ⟨rfl, d2⟩
  obtain ⟨c, hc⟩ : ∃ c, c = bt s i := ⟨_, rfl⟩
  rw [← hc] at hb h46 hp kl d1 d3 h34
  have kb : ∀ w : World, Calls Tryd.prog 30 #[.string ⟨#[33, 36, 38, 40, 41, 58, 61, 64, 91, 93, 123, 124, 125]⟩, .int .u8 c] w fun e w' => e = .returned (.int .i64 (Lib.indexByte puncts.data.toList c.toNat.toUInt8)) ∧ w = w' :=
    fun w => (Tryd.strings_IndexByte puncts c w).mono (fun e w' h => ⟨h.1, h.2.symm⟩)
  have hp : decide (0 ≤ Lib.indexByte puncts.data.toList c.toNat.toUInt8) = false := hp
  obtain ⟨x, hx⟩ : ∃ x, x = Lib.indexByte puncts.data.toList c.toNat.toUInt8 := ⟨_, rfl⟩
  rw [← hx] at kb hp
  have q1 : (c == 46) = false := kill1 h46
  have q2 : (c == 34) = false := beq_eq_false_iff_ne.2 h34
  have hB := oneW_below s i w
  clear hT hx hc h46 h34 hlt d2 hr hTT
  rcases d3 with d3 | ⟨d3, d4⟩
  all_goals
    go_enter Tryd.func17, Tryd.ntmps17
    go_wp2_with (first | (go_at_call 30; with_reducible refine (kb _).mono ?_; rintro e w2 ⟨rfl, rfl⟩) | (go_at_call 31; with_reducible refine (kl _).mono ?_; rintro e w2 ⟨rfl, rfl⟩) | (go_at_call 29; with_reducible refine (kp _).mono ?_; rintro e w2 ⟨rfl, rfl⟩))
    go_region
    go_wp2
    exact bodyPost_ret (v := .tuple #[tokV 0 ByteArray.empty 0 0, .int .i64 2, .int .i64 (i : Int)]) (by simp [results, Tryd.results17, go_sem]; rfl) rfl (oneSays_err s i w _ 2 i HT.out (by decide) hB.drew)
end Go.Proofs.YtklkgcogaekokaaDoor
