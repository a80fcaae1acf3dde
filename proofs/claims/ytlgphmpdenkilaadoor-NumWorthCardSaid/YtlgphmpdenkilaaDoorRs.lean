/- The walks of the third reference's plain and Real: what they make of a text is what Rp says, but that a NaN may be any. Condition: the text is no longer than a string that comes in can be. -/
import Derived.Test.YtlgphmpdenkilaaDoorRr
import Derived.Test.YtlgphmpdenkilaaDoorRw
namespace Go.Proofs.YtlgphmpdenkilaaDoor
open Go.RowKit
open Fl

theorem isAt_ext (cs s : ByteArray) (a i : Nat) (ha : a ≤ s.size) : isAt cs (s.extract a s.size) i = isAt cs s (a + i) := by
  unfold isAt
  by_cases h : a + i < s.size
  · rw [bt_extract s a s.size i h (Nat.le_refl _)]
    rw [show decide (i < (s.extract a s.size).size) = true from decide_eq_true (by rw [ex_size]; omega), show decide (a + i < s.size) = true from decide_eq_true h]
  · rw [show decide (i < (s.extract a s.size).size) = false from decide_eq_false (by rw [ex_size]; omega), show decide (a + i < s.size) = false from decide_eq_false h]
    rfl
theorem xf_ext (s : ByteArray) (a i n : Nat) (h : a + i + n ≤ s.size) : xf (s.extract a s.size) i n = xf s (a + i) n := by
  induction n with
  | zero => rfl
  | succ n ih =>
    simp only [xf]
    rw [ih (by omega), bt_extract s a s.size (i + n) (by omega) (Nat.le_refl _)]
    rw [show a + (i + n) = a + i + n by omega]

theorem exp_eq (s : ByteArray) (h : cutA3 s ≤ s.size) : expR (s.extract (cutA3 s) s.size) =
    if cutE s then (if dn s (cutA5 s) = 0 ∨ cutA6 s < s.size then none else some (cutX s)) else (if cutA3 s < s.size then none else some 0) := by
  have hE : cutE s = isAt ⟨#[101, 69]⟩ (s.extract (cutA3 s) s.size) 0 := by rw [isAt_ext _ _ _ _ h]; rfl
  have hD : cutDown s = isAt ⟨#[45]⟩ (s.extract (cutA3 s) s.size) 1 := by rw [isAt_ext _ _ _ _ h]; rfl
  have hP : isAt ⟨#[43]⟩ s (cutA3 s + 1) = isAt ⟨#[43]⟩ (s.extract (cutA3 s) s.size) 1 := by rw [isAt_ext _ _ _ _ h]
  have h5 : cutA5 s = cutA3 s + exI (s.extract (cutA3 s) s.size) := by
    unfold cutA5 exI
    rw [hP, hD]
    unfold isAt
    rw [in_minus, in_plus]
    generalize s.extract (cutA3 s) s.size = r
    simp only [Bool.and_eq_true, decide_eq_true_eq]
    by_cases c1 : 1 < r.size
    · by_cases c2 : bt r ((1 : Nat) : Int) = 45
      · rw [if_pos ⟨c1, c2⟩, if_pos ⟨c1, .inr c2⟩]
      · rw [if_neg (fun h => c2 h.2)]
        by_cases c3 : bt r ((1 : Nat) : Int) = 43
        · rw [if_pos ⟨c1, c3⟩, if_pos ⟨c1, .inl c3⟩]
        · rw [if_neg (fun h => c3 h.2), if_neg (fun h => by rcases h.2 with h | h; exact c3 h; exact c2 h)]
    · rw [if_neg (fun h => c1 h.1), if_neg (fun h => c1 h.1), if_neg (fun h => c1 h.1)]
  have hdn : dn (s.extract (cutA3 s) s.size) (exI (s.extract (cutA3 s) s.size)) = dn s (cutA5 s) := by rw [dn_extract _ _ _ h, h5]
  have hsz : (s.extract (cutA3 s) s.size).size = s.size - cutA3 s := by rw [ex_size]; omega
  unfold expR
  rw [hdn]
  by_cases c0 : cutA3 s < s.size
  · rw [if_neg (by omega)]
    have hE2 : cutE s = decide (bt (s.extract (cutA3 s) s.size) 0 = 101 ∨ bt (s.extract (cutA3 s) s.size) 0 = 69) := by
      rw [hE]; unfold isAt; rw [in_e, show decide (0 < (s.extract (cutA3 s) s.size).size) = true from decide_eq_true (by omega)]; rfl
    by_cases c1 : bt (s.extract (cutA3 s) s.size) 0 = 101 ∨ bt (s.extract (cutA3 s) s.size) 0 = 69
    · have cE : cutE s = true := by rw [hE2]; exact decide_eq_true c1
      rw [if_pos c1, cE, if_pos (rfl : true = true)]
      have e6 : cutA6 s = cutA5 s + dn s (cutA5 s) := by unfold cutA6; rw [if_pos (by rw [hE2]; exact decide_eq_true c1)]
      have eX : cutX s = if cutDown s then -(xf s (cutA5 s) (dn s (cutA5 s))) else xf s (cutA5 s) (dn s (cutA5 s)) := by unfold cutX; rw [if_pos (by rw [hE2]; exact decide_eq_true c1)]
      by_cases c2 : dn s (cutA5 s) = 0
      · rw [if_pos (.inl c2), if_pos (.inl c2)]
      by_cases c3 : cutA6 s < s.size
      · rw [if_pos (.inr (by omega)), if_pos (.inr c3)]
      · rw [if_neg (show ¬ (dn s (cutA5 s) = 0 ∨ exI (s.extract (cutA3 s) s.size) + dn s (cutA5 s) < (s.extract (cutA3 s) s.size).size) by omega), if_neg (show ¬ (dn s (cutA5 s) = 0 ∨ cutA6 s < s.size) by omega), eX]
        have h5l : cutA5 s ≤ s.size := by
          by_cases c4 : cutA5 s ≤ s.size
          · exact c4
          · exact absurd (dn_end s (cutA5 s) (by omega)) c2
        have hl := dn_le s (cutA5 s) h5l
        rw [xf_ext s (cutA3 s) _ _ (by rw [← h5]; exact hl), ← h5]
        have hD2 : cutDown s = decide (bt (s.extract (cutA3 s) s.size) 1 = 45) := by
          rw [hD]; unfold isAt
          rw [in_minus, show decide (1 < (s.extract (cutA3 s) s.size).size) = true from decide_eq_true (by have : 1 ≤ exI (s.extract (cutA3 s) s.size) := by (unfold exI; split <;> omega)
                                                                                                           omega)]
          rfl
        rw [hD2]
        by_cases c5 : bt (s.extract (cutA3 s) s.size) 1 = 45
        · rw [if_pos c5, if_pos (decide_eq_true c5)]
        · rw [if_neg c5, if_neg (by rw [decide_eq_false c5]; simp)]
    · have cE : cutE s = false := by rw [hE2]; exact decide_eq_false c1
      rw [if_neg c1, cE, if_neg (by simp : ¬ (false = true)), if_pos c0]
  · rw [if_pos (by omega)]
    have hE2 : cutE s = false := by
      rw [hE]; unfold isAt; rw [show decide (0 < (s.extract (cutA3 s) s.size).size) = false from decide_eq_false (by omega)]; rfl
    rw [hE2, if_neg (by simp : ¬ (false = true)), if_neg c0]

theorem expR_range (r : ByteArray) (x : Int) (h : expR r = some x) : -1000000 ≤ x ∧ x ≤ 1000000 := by
  have hx := xf_range r (exI r) (dn r (exI r)) (fun j hj => dn_digit r _ _ hj)
  unfold expR at h
  split at h
  · cases h; omega
  · split at h
    · split at h
      · cases h
      · split at h
        · cases h; omega
        · cases h; omega
    · cases h
theorem zdig0 (t : ByteArray) (i : Nat) (hi : i < (t.extract 0 (dn t 0) ++ t.extract (cutA2 t) (cutA3 t)).size) : isDc (bt (t.extract 0 (dn t 0) ++ t.extract (cutA2 t) (cutA3 t)) i) = true := by
  have hle1 := dn_le t 0 (Nat.zero_le _)
  rw [Nat.zero_add] at hle1
  by_cases hc : i < (t.extract 0 (dn t 0)).size
  · rw [bt_append_l _ _ _ hc]
    rw [ex_size] at hc
    rw [bt_extract _ _ _ _ (by omega) (by omega)]
    exact dn_digit t 0 i (by omega)
  · obtain ⟨k, rfl⟩ : ∃ k, i = (t.extract 0 (dn t 0)).size + k := ⟨i - (t.extract 0 (dn t 0)).size, by omega⟩
    rw [ByteArray.size_append] at hi
    rw [bt_append_r _ _ _ (by omega)]
    have hk : k < (t.extract (cutA2 t) (cutA3 t)).size := by omega
    by_cases hd : isAt ⟨#[46]⟩ t (dn t 0) = true
    · have e3 : cutA3 t = cutA2 t + dn t (cutA2 t) := by unfold cutA3; rw [if_pos hd]
      have l2 : cutA2 t ≤ t.size := by unfold cutA2; rw [if_pos hd]; exact isAt_lt hd
      have l3 := dn_le t _ l2
      rw [ex_size] at hk
      rw [bt_extract _ _ _ _ (by omega) (by omega)]
      exact dn_digit t _ k (by omega)
    · have e3 : cutA3 t = dn t 0 := by unfold cutA3; rw [if_neg hd]
      have e2 : cutA2 t = dn t 0 := by unfold cutA2; rw [if_neg hd]
      rw [ex_size, e2, e3] at hk; omega

set_option maxRecDepth 100000 in
set_option maxHeartbeats 3200000 in
theorem refPlain_c (s : ByteArray) (w : World) (hs : s.size ≤ 140737488351232) :
    Calls Tryd.prog 31 #[.string s] w fun e w' => (∃ b, e = .returned (.float .f64 b) ∧ Wor (realR s) b) ∧ Below w.heap.size w w' := by
  obtain ⟨Post, hPost⟩ : ∃ Post : Ending → World → Prop, Post = fun e w' => (∃ b, e = .returned (.float .f64 b) ∧ Wor (realR s) b) ∧ Below w.heap.size w w' := ⟨_, rfl⟩
  rw [← hPost]
  have HPO := Lib.hid hPost
  clear hPost
  have hN := nanOf_is
  have hle1 := dn_le s 0 (Nat.zero_le _)
  rw [Nat.zero_add] at hle1
  obtain ⟨n, hn⟩ : ∃ n, n = dn s 0 := ⟨_, rfl⟩
  have hA2 : cutA2 s = if isAt ⟨#[46]⟩ s n then n + 1 else n := by rw [hn]; rfl
  have hA3 : cutA3 s = if isAt ⟨#[46]⟩ s n then cutA2 s + dn s (cutA2 s) else n := by rw [hn]; rfl
  have hF : cutFine s = (!(n == 0) && (!(isAt ⟨#[46]⟩ s n) || !(dn s (cutA2 s) == 0)) && (!(cutE s) || !(dn s (cutA5 s) == 0))) := by rw [hn]; rfl
  have hR : realR s = if cutFine s && decide (s.size ≤ cutA6 s) then valR (trim0 (s.extract 0 n ++ s.extract (cutA2 s) (cutA3 s))) (cutX s - (cutA3 s - cutA2 s : Nat)) else none := by rw [hn]; rfl
  have hl2 : cutA2 s ≤ s.size := by
    rw [hA2]; split
    · rename_i h; exact isAt_lt h
    · omega
  have hl3 : cutA3 s ≤ s.size := by
    rw [hA3]; split
    · exact dn_le s _ hl2
    · omega
  have h23 : cutA2 s ≤ cutA3 s := by rw [hA3, hA2]; split <;> omega
  have hzd : ∀ j : Nat, j < (s.extract 0 n ++ s.extract (cutA2 s) (cutA3 s)).size → isDc (bt (s.extract 0 n ++ s.extract (cutA2 s) (cutA3 s)) j) = true := by
    rw [hn]; exact zdig0 s
  have hxr := cutX_range s
  have hEQ := exp_eq s hl3
  have h6 : cutE s = false → cutA6 s = cutA3 s := fun h => by unfold cutA6; rw [h]; rfl
  have hX0 : cutE s = false → cutX s = 0 := fun h => by unfold cutX; rw [h]; rfl
  have c1 := refDigits_c s 0
  rw [← hn] at c1 hle1
  have hb1 : ((0 : Nat) : Int) = 0 := rfl
  rw [hb1] at c1
  clear hb1
  have hrs : (s.extract n s.size).size = s.size - n := by rw [ex_size]; omega
  have hls : (s.extract 0 n).size = n := by rw [ex_size]; omega
  have k1 := fun wx => slice_to (P := Tryd.prog) 9 Tryd.underlying9 s n (n : Int) rfl hle1 wx
  have k2 := fun wx => slice_from (P := Tryd.prog) 9 Tryd.underlying9 s n (n : Int) rfl hle1 wx
  -- what is left behind the digits, and behind the fraction
  have tail : ∀ (f : Bool), f = (!(n == 0) && (!(isAt ⟨#[46]⟩ s n) || !(dn s (cutA2 s) == 0))) →
      realR s = if f then (match expR (s.extract (cutA3 s) s.size) with | none => none | some x => valR (trim0 (s.extract 0 n ++ s.extract (cutA2 s) (cutA3 s))) (x - (cutA3 s - cutA2 s : Nat))) else none := by
    intro f hf
    rw [hR, hF, ← hf, hEQ]
    cases f
    · rfl
    · rw [Bool.true_and]
      cases hE : cutE s
      · rw [h6 hE, hX0 hE]
        by_cases c : cutA3 s < s.size
        · simp [c, show ¬ s.size ≤ cutA3 s by omega]
        · simp [c, show s.size ≤ cutA3 s by omega]
      · by_cases c2 : dn s (cutA5 s) = 0
        · simp [c2]
        · by_cases c3 : cutA6 s < s.size
          · simp [c2, c3, show ¬ s.size ≤ cutA6 s by omega]
          · simp [c2, c3, show s.size ≤ cutA6 s by omega]
  have HT := Lib.hid tail
  clear tail hR hF h6 hX0 hEQ hn
  obtain ⟨dot, hdot⟩ : ∃ dot, dot = isAt ⟨#[46]⟩ s n := ⟨_, rfl⟩
  have hDD : dot = (decide (n < s.size) && decide (bt s n = 46)) := by rw [hdot]; unfold isAt; rw [in_dot]
  rw [← hdot] at hA2 hA3 HT
  clear hdot
  have HA2 := Lib.hid hA2
  have HA3 := Lib.hid hA3
  have HDD := Lib.hid hDD
  have HZD := Lib.hid hzd
  clear hA2 hA3 hDD hzd
  obtain ⟨r, hr⟩ : ∃ r, r = s.extract n s.size := ⟨_, rfl⟩
  obtain ⟨l, hl⟩ : ∃ l, l = s.extract 0 n := ⟨_, rfl⟩
  have HR := Lib.hid hr
  have HL := Lib.hid hl
  have cr : n < s.size → ∀ w : World, Calls Tryd.prog 48 #[.string r, .int .i64 1] w fun e w' => e = .returned (.int .i64 (dn s (n + 1))) ∧ w = w' := by
    intro h w
    rw [hr, ← dn_extract s n 1 hle1]
    exact refDigits_c _ 1 w (by rw [ex_size]; omega) (by rw [ex_size]; omega)
  have HCR := Lib.hid cr
  clear cr
  have hb0 : ∀ h : 0 < r.size, ((r[0]'h).toNat : Int) = bt s n := by
    intro h
    rw [bt_nat r 0 h, hr]
    rw [hrs] at *
    exact bt_extract s n s.size 0 (by rw [hr, ex_size] at h; omega) (Nat.le_refl _)
  rw [← hr] at hrs k2
  rw [← hl] at hls k1
  clear hr hl
  go_enter Tryd.func31, Tryd.ntmps31
  go_upto_region 5 with (go_at_call 48; refine (c1 _ hs (Nat.zero_le _)).mono ?_; rintro e w' ⟨rfl, rfl⟩)
  go_cut [24] (fun v24 w' => v24 = .bool dot ∧ w = w')
  case first =>
    by_cases h1 : n < s.size
    · have hp : 0 < r.size := by omega
      have hb := hb0 hp
      obtain ⟨c, hc⟩ : ∃ c, c = bt s n := ⟨_, rfl⟩
      have hd : dot = decide (c = 46) := by rw [HDD.out, hc, decide_eq_true h1, Bool.true_and]
      rw [← hc] at hb
      clear hc hb0
      by_cases h2 : c = 46
      · have t1 : (c == 46) = true := beq_iff_eq.2 h2
        rw [decide_eq_true h2] at hd
        have HD := Lib.hid hd
        clear hd h2
        go_wp2_with fail
        go_meet
        case rel => exact ⟨by rw [HD.out], rfl⟩
      · have t1 : (c == 46) = false := beq_eq_false_iff_ne.2 h2
        rw [decide_eq_false h2] at hd
        have HD := Lib.hid hd
        clear hd h2
        go_wp2_with fail
        go_meet
        case rel => exact ⟨by rw [HD.out], rfl⟩
    · have hp : ¬ 0 < r.size := by omega
      have hd : dot = false := by rw [HDD.out, decide_eq_false h1, Bool.false_and]
      have HD := Lib.hid hd
      clear hd h1 hb0
      go_wp2_with fail
      go_meet
      case rel => exact ⟨by rw [HD.out], rfl⟩
  case rest =>
    obtain ⟨rfl, rfl⟩ := hcut
    clear hb0
    go_upto_if 24 with fail
    go_cut [4, 5, 6] (fun v4 v5 v6 w' => w = w' ∧ v4 = .string (s.extract 0 n ++ s.extract (cutA2 s) (cutA3 s)) ∧ v5 = .string (s.extract (cutA3 s) s.size) ∧ v6 = .int .i64 ((cutA3 s - cutA2 s : Nat) : Int) ∧ (dot = true → dn s (cutA2 s) ≠ 0))
    case first =>
      cases dot
      · have h2 := HA2.out
        have h3 := HA3.out
        simp only [Bool.false_eq_true, if_false] at h2 h3
        have H2 := Lib.hid h2
        have H3 := Lib.hid h3
        clear h2 h3
        go_wp2_with fail
        go_meet
        case rel =>
          refine ⟨rfl, ?_, ?_, ?_, fun h => by cases h⟩
          · rw [H2.out, H3.out, ex_none, HL.out]; simp
          · rw [H3.out, HR.out]
          · rw [H2.out, H3.out, Nat.sub_self]; rfl
      · have hd := HDD.out
        have hlt : n < s.size := by
          by_cases h : n < s.size
          · exact h
          · rw [decide_eq_false h] at hd; cases hd
        have cr := HCR.out hlt
        have h2 := HA2.out
        have h3 := HA3.out
        simp only [if_true] at h2 h3
        have hk : n + 1 + dn s (n + 1) ≤ s.size := dn_le s _ hlt
        rw [h2] at h3
        obtain ⟨k, hkk⟩ : ∃ k, k = dn s (n + 1) := ⟨_, rfl⟩
        have HK := Lib.hid hkk
        rw [← hkk] at cr h3 hk
        have H2 := Lib.hid h2
        have H3 := Lib.hid h3
        have k3 := fun wx => slice_run (P := Tryd.prog) 9 Tryd.underlying9 r 1 (k + 1) 1 ((k : Int) + 1) rfl (by omega) (by omega) (by omega) wx
        have k4 := fun wx => slice_from (P := Tryd.prog) 9 Tryd.underlying9 r (k + 1) ((k : Int) + 1) (by omega) (by omega) wx
        have hlr : (r.extract 1 (k + 1)).size = k := by rw [ex_size]; omega
        clear hd h2 h3 hkk
        by_cases hk0 : k = 0
        · have hw : realR s = none := by
            rw [HT.out false (by rw [H2.out, ← HK.out, hk0]; simp)]; rfl
          have HW := Lib.hid hw
          subst hk0
          clear hw
          go_wp2_with (first | (go_at_call 48; refine (cr _).mono ?_; rintro e w' ⟨rfl, rfl⟩) | (go_at_call 49; refine (refNan_c _).mono ?_; rintro e w' ⟨rfl, hb⟩))
          rw [HPO.out]
          exact ⟨⟨_, rfl, by rw [HW.out]; exact hN _⟩, by assumption⟩
        · have t1 : ((k : Int) == 0) = false := beq_eq_false_iff_ne.2 (by omega)
          have hk1 : 0 < k := by omega
          clear hk0
          go_wp2_with (go_at_call 48; refine (cr _).mono ?_; rintro e w' ⟨rfl, rfl⟩)
          go_meet
          case rel =>
            have e1 : r.extract 1 (k + 1) = s.extract (cutA2 s) (cutA3 s) := by
              rw [HR.out, H2.out, H3.out, ex_ex _ _ _ _ _ (Nat.le_refl _)]
              rw [show min (n + (k + 1)) s.size = n + 1 + k by omega]
            have e2 : r.extract (k + 1) r.size = s.extract (cutA3 s) s.size := by
              rw [HR.out, H3.out, ex_size, ex_ex _ _ _ _ _ (Nat.le_refl _)]
              rw [show n + (k + 1) = n + 1 + k by omega, show min (n + (min s.size s.size - n)) s.size = s.size by omega]
            refine ⟨rfl, ?_, ?_, ?_, fun _ => by rw [H2.out, ← HK.out]; omega⟩
            · rw [← e1, HL.out]
            · rw [← e2, hrs]
            · rw [H2.out, H3.out, show n + 1 + k - (n + 1) = k by omega]
    case rest =>
      obtain ⟨rfl, rfl, rfl, rfl, hdk⟩ := hcut
      have hT := HT.out (!(n == 0)) (by
        cases dot
        · simp
        · have : (dn s (cutA2 s) == 0) = false := beq_eq_false_iff_ne.2 (hdk rfl)
          rw [this]; simp)
      have hl9 : (s.extract 0 n ++ s.extract (cutA2 s) (cutA3 s)).size ≤ 281474976710656 := by rw [ByteArray.size_append, ex_size, ex_size]; omega
      have hl8 : (s.extract (cutA3 s) s.size).size ≤ 140737488351232 := by rw [ex_size]; omega
      clear hdk HT HA2 HA3 HCR HDD
      obtain ⟨E, hE⟩ : ∃ E, E = expR (s.extract (cutA3 s) s.size) := ⟨_, rfl⟩
      have cE := refExp_c (s.extract (cutA3 s) s.size)
      rw [← hE] at cE hT
      have hEr : ∀ x, E = some x → -1000000 ≤ x ∧ x ≤ 1000000 := fun x hx => expR_range _ x (by rw [← hE]; exact hx)
      clear hE
      obtain ⟨r2, hr2⟩ : ∃ r2, r2 = s.extract (cutA3 s) s.size := ⟨_, rfl⟩
      rw [← hr2] at cE hl8 ⊢
      clear hr2
      obtain ⟨l2, hl2'⟩ : ∃ l2, l2 = s.extract 0 n ++ s.extract (cutA2 s) (cutA3 s) := ⟨_, rfl⟩
      rw [← hl2'] at hT hl9 HZD ⊢
      clear hl2'
      obtain ⟨d, hd⟩ : ∃ d, d = cutA3 s - cutA2 s := ⟨_, rfl⟩
      have hdl : d ≤ 140737488351232 := by omega
      rw [← hd] at hT ⊢
      clear hd
      have HTT := Lib.hid hT
      clear hT
      cases E with
      | none =>
        have hw : realR s = none := by rw [HTT.out]; split <;> rfl
        have HW := Lib.hid hw
        clear hw hEr
        by_cases hn0 : n = 0
        · subst hn0
          go_wp2_with (first | (go_at_call 50; refine (cE _ hl8).mono ?_; rintro e w' ⟨rfl, rfl⟩) | (go_at_call 49; refine (refNan_c _).mono ?_; rintro e w' ⟨rfl, hb⟩))
          rw [HPO.out]
          exact ⟨⟨_, rfl, by rw [HW.out]; exact hN _⟩, by assumption⟩
        · have t1 : ((n : Int) == 0) = false := beq_eq_false_iff_ne.2 (by omega)
          clear hn0
          go_wp2_with (first | (go_at_call 50; refine (cE _ hl8).mono ?_; rintro e w' ⟨rfl, rfl⟩) | (go_at_call 49; refine (refNan_c _).mono ?_; rintro e w' ⟨rfl, hb⟩))
          rw [HPO.out]
          exact ⟨⟨_, rfl, by rw [HW.out]; exact hN _⟩, by assumption⟩
      | some x =>
        have hx := hEr x rfl
        clear hEr
        by_cases hn0 : n = 0
        · have hw : realR s = none := by rw [HTT.out, hn0]; rfl
          have HW := Lib.hid hw
          subst hn0
          clear hw
          go_wp2_with (first | (go_at_call 50; refine (cE _ hl8).mono ?_; rintro e w' ⟨rfl, rfl⟩) | (go_at_call 49; refine (refNan_c _).mono ?_; rintro e w' ⟨rfl, hb⟩))
          rw [HPO.out]
          exact ⟨⟨_, rfl, by rw [HW.out]; exact hN _⟩, by assumption⟩
        · have t1 : ((n : Int) == 0) = false := beq_eq_false_iff_ne.2 (by omega)
          have hw : realR s = valR (trim0 l2) (x - (d : Int)) := by
            rw [HTT.out]
            have : (n == 0) = false := beq_eq_false_iff_ne.2 hn0
            rw [this]; rfl
          have HW := Lib.hid hw
          clear hn0 hw
          have cv := refValue_c l2 (x - (d : Int))
          go_wp2_with (first | (go_at_call 50; refine (cE _ hl8).mono ?_; rintro e w' ⟨rfl, rfl⟩) | (go_at_call 51; refine (cv _ hl9 (by omega) HZD.out).mono ?_; rintro e w' ⟨⟨b, rfl, hv⟩, hb⟩; have HV := Lib.hid hv; clear hv))
          rw [HPO.out]
          exact ⟨⟨_, rfl, by rw [HW.out]; exact HV.out⟩, by assumption⟩

/-- what the reference makes of a text -/
def RefOk (s : ByteArray) (b : Nat) : Prop := match realR (if firstIs 45 s then s.extract 1 s.size else s) with
  | none => IsN b
  | some r => b = wd (firstIs 45 s) r

theorem valR_le (z : ByteArray) (x : Int) (r : Nat) (hz : ∀ j : Nat, j < z.size → isDc (bt z j) = true) (h : valR z x = some r) : r ≤ 9218868437227405312 := by
  unfold valR at h
  split at h
  · cases h; omega
  split at h
  · cases h; omega
  split at h
  · cases h; omega
  split at h
  · cases h
  · rename_i h1 h2 h3 h4
    cases h
    have hv : wv z z.size < 9007199254740992 := by
      have := wv_lt z z.size (fun j hj => hz j hj)
      have h2 : 10 ^ z.size ≤ 10 ^ 15 := Nat.pow_le_pow_right (by omega) (by omega)
      have h3 : (10 : Nat) ^ 15 = 1000000000000000 := by decide
      omega
    by_cases hx : x < 0
    · exact (valF_neg _ x hv hx (by omega)).2
    · exact (valF_pos _ x hv hx (by omega)).2
theorem realR_le (t : ByteArray) (r : Nat) (h : realR t = some r) : r ≤ 9218868437227405312 := by
  unfold realR at h
  split at h
  · exact valR_le _ _ _ (zdig t) h
  · cases h

set_option maxHeartbeats 800000 in
theorem refReal_c (s : ByteArray) (w : World) (hs : s.size ≤ 140737488351232) :
    Calls Tryd.prog 13 #[.string s] w fun e w' => (∃ b, e = .returned (.float .f64 b) ∧ RefOk s b) ∧ Below w.heap.size w w' := by
  obtain ⟨Post, hPost⟩ : ∃ Post : Ending → World → Prop, Post = fun e w' => (∃ b, e = .returned (.float .f64 b) ∧ RefOk s b) ∧ Below w.heap.size w w' := ⟨_, rfl⟩
  rw [← hPost]
  have HPO := Lib.hid hPost
  clear hPost
  have HOK := Lib.hid (show ∀ b, RefOk s b = (match realR (if firstIs 45 s then s.extract 1 s.size else s) with | none => IsN b | some r => b = wd (firstIs 45 s) r) from fun b => rfl)
  by_cases h0 : 0 < s.size
  · have hb := bt_nat s 0 h0
    rw [show ((0 : Nat) : Int) = 0 from rfl] at hb
    have hf : firstIs 45 s = (bt s 0 == 45) := by unfold firstIs; rw [decide_eq_true h0, Bool.true_and]
    obtain ⟨c, hc⟩ : ∃ c, c = bt s 0 := ⟨_, rfl⟩
    rw [← hc] at hb hf
    clear hc
    rw [hf] at HOK
    clear hf
    by_cases h45 : c = 45
    · have t1 : (c == 45) = true := beq_iff_eq.2 h45
      have k1 := fun wx => slice_from (P := Tryd.prog) 9 Tryd.underlying9 s 1 1 rfl h0 wx
      have hsz : (s.extract 1 s.size).size ≤ 140737488351232 := by rw [ex_size]; omega
      clear h45
      have HOK2 := Lib.hid HOK.out
      rw [t1] at HOK2
      have hneg : ∀ (b : Nat) (w : World), (Op.unary .neg (.float .f64 b)).run Tryd.prog w = .ok (.float .f64 (Op.negFloat .f64 b)) w := fun _ _ => rfl
      go_enter Tryd.func13, Tryd.ntmps13
      go_wp2_with (go_at_call 31; refine (refPlain_c (s.extract 1 s.size) _ hsz).mono ?_; rintro e w' ⟨⟨b, rfl, hv⟩, hb⟩; have HV := Lib.hid hv; clear hv)
      rw [HPO.out]
      refine ⟨⟨_, rfl, ?_⟩, by assumption⟩
      rw [HOK2.out]
      have hv := HV.out
      rw [if_pos trivial]
      unfold Wor at hv
      cases hr : realR (s.extract 1 s.size) with
      | none =>
        rw [hr] at hv
        refine ⟨?_, ?_⟩
        · rw [nanB_neg _ hv.2]; exact hv.1
        · have hb := hv.2
          rw [wd_of b hb, neg_wd _ _ (by omega)]
          unfold wd; split <;> omega
      | some r =>
        rw [hr] at hv
        have hl := realR_le _ _ hr
        dsimp only at hv ⊢
        rw [hv]
        exact neg_wd false r (by omega)
    · have t1 : (c == 45) = false := beq_eq_false_iff_ne.2 h45
      clear h45
      have HOK2 := Lib.hid HOK.out
      rw [t1] at HOK2
      go_enter Tryd.func13, Tryd.ntmps13
      go_wp2_with (go_at_call 31; refine (refPlain_c s _ hs).mono ?_; rintro e w' ⟨⟨b, rfl, hv⟩, hb⟩; have HV := Lib.hid hv; clear hv)
      rw [HPO.out]
      refine ⟨⟨_, rfl, ?_⟩, by assumption⟩
      rw [HOK2.out]
      exact HV.out
  · have hf : firstIs 45 s = false := by unfold firstIs; rw [decide_eq_false h0, Bool.false_and]
    have HOK2 := Lib.hid HOK.out
    rw [hf] at HOK2
    clear hf
    go_enter Tryd.func13, Tryd.ntmps13
    go_wp2_with (go_at_call 31; refine (refPlain_c s _ hs).mono ?_; rintro e w' ⟨⟨b, rfl, hv⟩, hb⟩; have HV := Lib.hid hv; clear hv)
    rw [HPO.out]
    refine ⟨⟨_, rfl, ?_⟩, by assumption⟩
    rw [HOK2.out]
    exact HV.out
end Go.Proofs.YtlgphmpdenkilaaDoor
