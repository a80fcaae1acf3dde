/- The walk of RealMinus: it returns true. Condition: the text is no longer than a string that comes in can be. -/
import Derived.Test.YtlgphmpdenkilaaDoorLsorts
namespace Go.Proofs.YtlgphmpdenkilaaDoor
open Go.RowKit
open Fl

theorem cn_extract (c : Int) (s : ByteArray) (a i : Nat) (ha : a ≤ s.size) : cn c (s.extract a s.size) i = cn c s (a + i) := by
  by_cases hi : a + i < s.size
  · have e : bt (s.extract a s.size) i = bt s ((a + i : Nat) : Int) := bt_extract s a s.size i hi (Nat.le_refl _)
    have h2 : i < (s.extract a s.size).size := by rw [ex_size]; omega
    by_cases hd : bt s ((a + i : Nat) : Int) = c
    · rw [cn_yes _ _ i h2 (by rw [e]; exact hd), cn_yes _ s (a + i) hi hd, cn_extract c s a (i + 1) ha]; rfl
    · rw [cn_no _ _ i (by rw [e]; exact hd), cn_no _ s (a + i) hd]
  · rw [cn_end _ _ i (by rw [ex_size]; omega), cn_end _ s (a + i) (by omega)]
termination_by s.size - (a + i)

/-- a nought digit ahead changes nothing behind the trim -/
theorem trim0_cons (x : ByteArray) (h0 : 0 < x.size) (h : bt x 0 = 48) : trim0 x = trim0 (x.extract 1 x.size) := by
  have hc := cn_le 48 x 1 h0
  have e1 : cn 48 x 0 = cn 48 x 1 + 1 := cn_yes 48 x 0 h0 h
  have e2 : cn 48 (x.extract 1 x.size) 0 = cn 48 x 1 := cn_extract 48 x 1 0 h0
  unfold trim0
  rw [e2, e1, ex_size, ex_ex _ _ _ _ _ (Nat.le_refl _)]
  rw [show 1 + cn 48 x 1 = cn 48 x 1 + 1 by omega, show min (1 + (min x.size x.size - 1)) x.size = x.size by omega]

theorem ext_app (a b : ByteArray) : (a ++ b).extract a.size (a ++ b).size = b := by
  apply ba_ext
  · rw [ex_size, ByteArray.size_append]; omega
  · intro i h1 h2
    rw [ex_get, ByteArray.getElem_append_right (by omega)]
    congr 1; omega
theorem bt_one (c : UInt8) (s : ByteArray) : bt (⟨#[c]⟩ ++ s) 0 = (c.toNat : Int) := by
  have := bt_append_l ⟨#[c]⟩ s 0 (by show 0 < 1; omega)
  rw [show ((0 : Nat) : Int) = 0 from rfl] at this
  rw [this]; rfl
theorem first_one (c : UInt8) (k : Int) (s : ByteArray) : firstIs k (⟨#[c]⟩ ++ s) = ((c.toNat : Int) == k) := by
  unfold firstIs
  rw [bt_one, decide_eq_true (by rw [ByteArray.size_append]; show 0 < 1 + s.size; omega), Bool.true_and]
theorem ext_one (c : UInt8) (s : ByteArray) : (⟨#[c]⟩ ++ s : ByteArray).extract 1 (⟨#[c]⟩ ++ s : ByteArray).size = s := ext_app ⟨#[c]⟩ s

theorem real_minus (s : ByteArray) : realV (⟨#[45]⟩ ++ s) = bitsR true (realR s) := by
  unfold realV
  rw [first_one 45 45 s, ext_one]; rfl
theorem realR_nodigit (s : ByteArray) (h : dn s 0 = 0) : realR s = none := by
  unfold realR cutFine; rw [h]; rfl
theorem real_minus2 (s : ByteArray) : realV (⟨#[45, 45]⟩ ++ s) = bitsR true none := by
  have e : (⟨#[45, 45]⟩ ++ s : ByteArray) = ⟨#[45]⟩ ++ (⟨#[45]⟩ ++ s) := by
    rw [← ByteArray.append_assoc]; rfl
  rw [e, real_minus]
  rw [realR_nodigit _ (dn_no _ 0 (by rw [show ((0 : Nat) : Int) = 0 from rfl, bt_one]; rfl))]

/-- a nought digit ahead of a text that begins with a digit -/
theorem realR_zero (s : ByteArray) (hs : 0 < s.size) (hd : isDc (bt s 0) = true) : realR (⟨#[48]⟩ ++ s) = realR s := by
  obtain ⟨t, ht⟩ : ∃ t, t = (⟨#[48]⟩ ++ s : ByteArray) := ⟨_, rfl⟩
  have hb : bt t 0 = 48 := by rw [ht, bt_one]; rfl
  have he : t.extract 1 t.size = s := by rw [ht]; exact ext_one 48 s
  have hz : t.size = s.size + 1 := by rw [ht, ByteArray.size_append]; show 1 + s.size = _; omega
  have h1 : 1 ≤ t.size := by omega
  rw [← ht]
  have sd : ∀ i, dn t (i + 1) = dn s i := fun i => by rw [← he, dn_extract t 1 i h1, Nat.add_comm]
  have sa : ∀ cs i, isAt cs t (i + 1) = isAt cs s i := fun cs i => by rw [← he, isAt_ext cs t 1 i h1, Nat.add_comm]
  have sx : ∀ i n, i + n ≤ s.size → xf t (i + 1) n = xf s i n := fun i n h => by
    have := xf_ext t 1 i n (by omega)
    rw [he] at this
    rw [this, Nat.add_comm]
  have se : ∀ a b, t.extract (a + 1) (b + 1) = s.extract a b := fun a b => by
    rw [← he, ex_ex _ _ _ _ _ (Nat.le_refl _), Nat.add_comm 1 a]
    apply ba_ext
    · rw [ex_size, ex_size]; omega
    · intro i h1 h2; rw [ex_get, ex_get]
  have d0 : dn t 0 = dn s 0 + 1 := by
    rw [dn_yes t 0 (by omega) (by rw [show ((0 : Nat) : Int) = 0 from rfl, hb]; rfl), sd]
  have a2 : cutA2 t = cutA2 s + 1 := by unfold cutA2; rw [d0, sa]; split <;> omega
  have a3 : cutA3 t = cutA3 s + 1 := by
    unfold cutA3; rw [d0, sa, a2, sd]; split <;> omega
  have eE : cutE t = cutE s := by unfold cutE; rw [a3, sa]
  have eD : cutDown t = cutDown s := by unfold cutDown; rw [a3, sa]
  have a5 : cutA5 t = cutA5 s + 1 := by
    unfold cutA5; rw [eD, a3, sa]
    split
    · omega
    · split <;> omega
  have a6 : cutA6 t = cutA6 s + 1 := by
    unfold cutA6; rw [eE, a5, a3, sd]; split <;> omega
  have eX : cutX t = cutX s := by
    unfold cutX
    rw [eE, eD, a5, sd]
    by_cases h5 : cutA5 s ≤ s.size
    · rw [sx _ _ (dn_le s _ h5)]
    · rw [dn_end s (cutA5 s) (by omega)]; rfl
  have eF : cutFine t = cutFine s := by
    unfold cutFine
    rw [d0, sa, a2, sd, eE, a5, sd]
    have : dn s 0 ≠ 0 := by rw [dn_yes s 0 hs (by rw [show ((0 : Nat) : Int) = 0 from rfl]; exact hd)]; omega
    rw [show (dn s 0 + 1 == 0) = false from beq_eq_false_iff_ne.2 (by omega), show (dn s 0 == 0) = false from beq_eq_false_iff_ne.2 this]
  have hle1 := dn_le s 0 (Nat.zero_le _)
  rw [Nat.zero_add] at hle1
  have eZ : trim0 (t.extract 0 (dn t 0) ++ t.extract (cutA2 t) (cutA3 t)) = trim0 (s.extract 0 (dn s 0) ++ s.extract (cutA2 s) (cutA3 s)) := by
    rw [a2, a3, se, d0]
    obtain ⟨Y, hY⟩ : ∃ Y, Y = s.extract (cutA2 s) (cutA3 s) := ⟨_, rfl⟩
    rw [← hY]
    have hsz : (t.extract 0 (dn s 0 + 1) ++ Y).size = dn s 0 + 1 + Y.size := by rw [ByteArray.size_append, ex_size]; omega
    rw [trim0_cons (t.extract 0 (dn s 0 + 1) ++ Y) (by omega) (by
      have := bt_append_l (t.extract 0 (dn s 0 + 1)) Y 0 (by rw [ex_size]; omega)
      rw [show ((0 : Nat) : Int) = 0 from rfl] at this
      rw [this]
      have h2 := bt_extract t 0 (dn s 0 + 1) 0 (by omega) (by omega)
      rw [show ((0 : Nat) : Int) = 0 from rfl] at h2
      rw [h2]; exact hb)]
    refine congrArg trim0 ?_
    apply ba_ext
    · rw [ex_size, hsz, ByteArray.size_append, ex_size]; omega
    · intro i h1 h2
      rw [ex_get]
      by_cases hi : i < dn s 0
      · rw [ByteArray.getElem_append_left (by rw [ex_size]; omega), ByteArray.getElem_append_left (by rw [ex_size]; omega), ex_get, ex_get]
        have h3 : i < (t.extract 1 t.size).size := by rw [he]; omega
        have h4 := ex_get t 1 t.size i h3
        have h5 : (t.extract 1 t.size)[i]'h3 = s[i]'(by omega) := by congr 1
        rw [h5] at h4
        simp only [Nat.zero_add]
        exact h4.symm
      · rw [ByteArray.getElem_append_right (by rw [ex_size]; omega), ByteArray.getElem_append_right (by rw [ex_size]; omega)]
        congr 1
        rw [ex_size, ex_size]; omega
  unfold realR
  rw [eF, eZ, eX, a2, a3, a6, hz]
  rw [show cutA3 s + 1 - (cutA2 s + 1) = cutA3 s - cutA2 s by omega]
  rw [show decide (s.size + 1 ≤ cutA6 s + 1) = decide (s.size ≤ cutA6 s) by rw [decide_eq_decide]; omega]

theorem sortN_wd (m : Bool) (r : Nat) (h : r ≤ 9218868437227405312) : sortN (wd m r) ≠ 0 ∧ nanB (wd m r) = false ∧ negB (wd m r) = m := by
  have hn : nanB (wd m r) = false := by rw [nanB_wd _ _ (by omega)]; exact decide_eq_false (by omega)
  refine ⟨?_, hn, ?_⟩
  · unfold sortN; rw [hn, if_neg (by simp)]; split
    · omega
    · split <;> omega
  · unfold negB; rw [hn]; cases m
    · exact decide_eq_false (by show ¬ 9223372036854775808 ≤ r; omega)
    · exact decide_eq_true (by show 9223372036854775808 ≤ 9223372036854775808 + r; omega)

/-- what RealMinus asks of the numbers -/
theorem minus_facts (s : ByteArray) (_hf : firstIs 45 s = false) :
    sameB (bitsR true (realR s)) (Op.negFloat .f64 (bitsR false (realR s))) = true ∧
    (sortN (bitsR false (realR s)) = 0 ∨ (sortN (bitsR false (realR s)) ≠ 0 ∧ negB (bitsR true (realR s)) = true ∧ negB (bitsR false (realR s)) = false)) := by
  cases hr : realR s with
  | none =>
    refine ⟨?_, .inl (by decide)⟩
    refine same_nan _ _ (by decide) ?_
    rw [nanB_neg _ (by decide)]; decide
  | some r =>
    have hl := realR_le _ _ hr
    simp only [bitsR]
    refine ⟨?_, .inr ⟨(sortN_wd false r hl).1, (sortN_wd true r hl).2.2, (sortN_wd false r hl).2.2⟩⟩
    rw [neg_wd _ _ (by omega)]; exact same_self _

set_option maxHeartbeats 3200000 in
theorem realMinus_c (s : ByteArray) (w : World) (hs : s.size ≤ 140737488351232) :
    Calls Tryd.prog 4 #[.string s] w fun e w' => e = .returned (.bool true) ∧ Below w.heap.size w w' := by
  by_cases h600 : 600 < s.size
  · have t1 : decide ((600 : Int) < (s.size : Int)) = true := decide_eq_true (by omega)
    go_enter Tryd.func4, Tryd.ntmps4
    go_wp2_with (go_at_call 10; refine (awake_c _).mono ?_; rintro e w' ⟨rfl, hbl⟩)
    go_ret
    exact ⟨rfl, by assumption⟩
  have h6 : s.size ≤ 600 := by omega
  have t1 : decide ((600 : Int) < (s.size : Int)) = false := decide_eq_false (by omega)
  clear h600
  by_cases h45 : firstIs 45 s = true
  · unfold firstIs at h45
    simp only [Bool.and_eq_true, decide_eq_true_eq] at h45
    obtain ⟨hp, hc⟩ := h45
    have hb := bt_nat s 0 hp
    rw [show ((0 : Nat) : Int) = 0 from rfl] at hb
    have t2 : decide ((0 : Int) < (s.size : Int)) = true := decide_eq_true (by omega)
    obtain ⟨c, hcc⟩ : ∃ c, c = bt s 0 := ⟨_, rfl⟩
    rw [← hcc] at hb hc
    clear hcc
    go_enter Tryd.func4, Tryd.ntmps4
    go_wp2_with (go_at_call 10; refine (awake_c _).mono ?_; rintro e w' ⟨rfl, hbl⟩)
    go_ret
    exact ⟨rfl, by assumption⟩
  have hf : firstIs 45 s = false := by simpa using h45
  clear h45
  obtain ⟨f1, f2⟩ := minus_facts s hf
  have hn : ∀ (x : Nat) (w : World), (Op.unary .neg (.float .f64 x)).run Tryd.prog w = .ok (.float .f64 (Op.negFloat .f64 x)) w := fun _ _ => rfl
  have r1 : realV s = bitsR false (realR s) := by unfold realV; rw [hf]; rfl
  have r2 := real_minus s
  have r3 := real_minus2 s
  have k1 := fun w => real_c s w hs
  have k2 := fun w => real_c (⟨#[45]⟩ ++ s) w (by rw [ByteArray.size_append]; show 1 + s.size ≤ _; omega)
  have k3 := fun w => real_c (⟨#[45, 45]⟩ ++ s) w (by rw [ByteArray.size_append]; show 2 + s.size ≤ _; omega)
  have k4 := fun w => real_c (⟨#[48]⟩ ++ s) w (by rw [ByteArray.size_append]; show 1 + s.size ≤ _; omega)
  rw [r1] at k1
  rw [r2] at k2
  rw [r3] at k3
  have b1 : bitsR false (realR s) < 18446744073709551616 := by rw [← r1]; exact realV_lt s
  have b2 : bitsR true (realR s) < 18446744073709551616 := by rw [← r2]; exact realV_lt _
  have b4 : realV (⟨#[48]⟩ ++ s) < 18446744073709551616 := realV_lt _
  have hz : 0 < s.size → isDc (bt s 0) = true → realV (⟨#[48]⟩ ++ s) = bitsR false (realR s) := fun h1 h2 => by
    have := realR_zero s h1 h2
    unfold realV
    rw [show firstIs 45 (⟨#[48]⟩ ++ s) = false by rw [first_one]; rfl]
    rw [if_neg (by simp), this]
  obtain ⟨zv, hzv⟩ : ∃ zv, zv = realV (⟨#[48]⟩ ++ s) := ⟨_, rfl⟩
  rw [← hzv] at k4 b4 hz
  obtain ⟨f, hff⟩ : ∃ f, f = bitsR false (realR s) := ⟨_, rfl⟩
  obtain ⟨g, hgg⟩ : ∃ g, g = bitsR true (realR s) := ⟨_, rfl⟩
  rw [← hff] at k1 b1 f1 f2 hz
  rw [← hgg] at k2 b2 f1 f2
  obtain ⟨nf, hnf⟩ : ∃ nf, nf = Op.negFloat .f64 f := ⟨_, rfl⟩
  have hn1 := hn f
  rw [← hnf] at hn1 f1
  have hnl : nf < 18446744073709551616 := by
    rw [hnf, wd_of f b1, neg_wd _ _ (by omega)]; unfold wd; split <;> omega
  have m1 := fun w => same_c g nf w b2 hnl
  rw [f1] at m1
  have q3 := fun w => sort_c (bitsR true none) w (by decide)
  rw [show sortN (bitsR true none) = 0 by decide, show bitsR true none = 9221120237041090561 from rfl] at q3
  rw [show bitsR true none = 9221120237041090561 from rfl] at k3
  have q1 := fun w => sort_c f w b1
  have p1 := fun w => negative_c f w b1
  have p2 := fun w => negative_c g w b2
  have m2 := fun w => same_c zv f w b4 b1
  have hf0 : 0 < s.size → bt s 0 ≠ 45 := by
    intro h h2
    unfold firstIs at hf
    rw [h2, decide_eq_true h] at hf
    cases hf
  have hbb : ∀ h : 0 < s.size, ((s[0]'h).toNat : Int) = bt s 0 := fun h => bt_nat s 0 h
  have hdc : isDc (bt s 0) = (decide (48 ≤ bt s 0) && decide (bt s 0 ≤ 57)) := rfl
  obtain ⟨c, hcc⟩ : ∃ c, c = bt s 0 := ⟨_, rfl⟩
  rw [← hcc] at hf0 hbb hdc hz
  clear hcc hzv hff hgg hnf hn f1 r1 r2 r3 hf
  -- the sort of f
  have hq : ∃ kf ng nff, (∀ w, Calls Tryd.prog 16 #[.float .f64 f] w fun e w' => e = .returned (.int .i64 kf) ∧ w = w') ∧
      (∀ w, Calls Tryd.prog 18 #[.float .f64 g] w fun e w' => e = .returned (.bool ng) ∧ w = w') ∧
      (∀ w, Calls Tryd.prog 18 #[.float .f64 f] w fun e w' => e = .returned (.bool nff) ∧ w = w') ∧
      ((kf == 0) = true ∨ ((kf == 0) = false ∧ ng = true ∧ nff = false)) := by
    refine ⟨_, _, _, q1, p2, p1, ?_⟩
    rcases f2 with h | ⟨h1, h2, h3⟩
    · exact .inl (by rw [h]; rfl)
    · exact .inr ⟨beq_eq_false_iff_ne.2 h1, h2, h3⟩
  clear f2 q1 p1 p2
  obtain ⟨kf, ng, nff, q1, p2, p1, hk⟩ := hq
  -- does the text begin with a digit?
  have hp : ∃ mz, (∀ w, Calls Tryd.prog 15 #[.float .f64 zv, .float .f64 f] w fun e w' => e = .returned (.bool mz) ∧ w = w') ∧ (0 < s.size → isDc c = true → mz = true) := by
    refine ⟨_, m2, fun h1 h2 => ?_⟩
    rw [hz h1 h2]; exact same_self _
  clear m2 hz
  obtain ⟨mz, m2, hmz⟩ := hp
  have HMZ := Lib.hid hmz
  clear hmz
  have SZ := Lib.hid h6
  rcases hk with hk | ⟨hk, rfl, rfl⟩ <;>
  · go_enter Tryd.func4, Tryd.ntmps4
    go_wp2_with (first
      | (go_at_call 10; refine (awake_c _).mono ?_; rintro e w' ⟨rfl, hbl⟩)
      | (go_at_call 12; (first | with_reducible refine (k1 _).mono ?_ | with_reducible refine (k2 _).mono ?_ | with_reducible refine (k3 _).mono ?_ | with_reducible refine (k4 _).mono ?_); rintro e w' ⟨rfl, hbl⟩)
      | (go_at_call 15; (first | with_reducible refine (m1 _).mono ?_ | with_reducible refine (m2 _).mono ?_); rintro e w' ⟨rfl, rfl⟩)
      | (go_at_call 16; (first | with_reducible refine (q3 _).mono ?_ | with_reducible refine (q1 _).mono ?_); rintro e w' ⟨rfl, rfl⟩)
      | (go_at_call 18; (first | with_reducible refine (p1 _).mono ?_ | with_reducible refine (p2 _).mono ?_); rintro e w' ⟨rfl, rfl⟩))
    all_goals
      first
        | (go_ret; exact ⟨rfl, by repeat (first | assumption | refine bl (by assumption) ?_)⟩)
        | (have hz1 : 0 < s.size := by assumption
           have hz2 := hbb hz1
           have hz3 : mz = true := HMZ.out hz1 (by rw [hdc, Bool.and_eq_true, decide_eq_true_eq, decide_eq_true_eq]; omega)
           subst hz3
           go_ret; exact ⟨rfl, by repeat (first | assumption | refine bl (by assumption) ?_)⟩)
end Go.Proofs.YtlgphmpdenkilaaDoor
