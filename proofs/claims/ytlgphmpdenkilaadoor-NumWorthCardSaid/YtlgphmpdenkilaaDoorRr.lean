/- The walks of the third reference: its digits, its exponent, its value, what it makes of a text. Conditions: the text is no longer than a string that comes in can be. -/
import Derived.WalkKit
import Derived.WalkLawsBesides
import Derived.Outline
import Derived.Deep.DeepCutAuto
import Derived.Deep.CutBlock
import Derived.Test.YtlgphmpdenkilaaDoorFw
import Derived.Test.YtlgphmpdenkilaaDoorRp
namespace Go.Proofs.YtlgphmpdenkilaaDoor
open Go.RowKit
open Fl

/-- some NaN -/
def IsN (b : Nat) : Prop := nanB b = true ∧ b < 18446744073709551616
def nanOf (w : World) : Nat := (Question.nanBits .f64 0 0).cut (w.tape w.drawn (.nanBits .f64 0 0))
theorem nanOf_is (w : World) : IsN (nanOf w) := by
  unfold nanOf Question.cut IsN nanB
  generalize w.tape w.drawn (.nanBits .f64 0 0) = t
  dsimp only
  rw [show (2 : Nat) ^ 63 = 9223372036854775808 by decide, show (2 : Nat) ^ 52 = 4503599627370496 by decide]
  rw [decide_eq_true_eq]
  have h1 : t % 2 = 0 ∨ t % 2 = 1 := by omega
  have h2 : t / 2 % (4503599627370496 - 1) < 4503599627370495 := Nat.mod_lt _ (by omega)
  generalize t / 2 % (4503599627370496 - 1) = b at *
  rcases h1 with h1 | h1 <;> rw [h1] <;> omega

theorem refNan_c (w : World) :
    Calls Tryd.prog 49 #[] w fun e w' => e = .returned (.float .f64 (nanOf w)) ∧ Below w.heap.size w w' := by
  have hq : ∀ t, (binOp .quo t (.float .f64 0) (.float .f64 0)).run Tryd.prog w = .ok (.float .f64 (nanOf w)) w.drew := by
    intro t
    have hn : Ieee.double.div 0 0 = none := by decide
    have hn' : FloatKind.f64.format.div 0 0 = none := hn
    simp [binOp, Op.floatArith, hn', nanOf, Question.forced]
  go_enter Tryd.func49, Tryd.ntmps49
  go_wp2
  go_ret
  exact ⟨rfl, (Below.refl _ w).drew⟩

theorem refSort_c (x : Nat) (w : World) (h : x < 18446744073709551616) :
    Calls Tryd.prog 17 #[.float .f64 x] w fun e w' => e = .returned (.int .i64 (sortN x)) ∧ w = w' := by
  have e1 : (FloatKind.f64.format.order x x != some .eq) = nanB x := by
    have := order_eqB x x h h
    unfold bne
    rw [show FloatKind.f64.format = Ieee.double from rfl, this]; unfold eqB; cases nanB x <;> simp
  have e0 : (FloatKind.f64.format.order x 0 == some .eq) = (x % 9223372036854775808 == 0) := by
    have := order_eqB x 0 h (by omega)
    rw [show FloatKind.f64.format = Ieee.double from rfl, this]
    unfold eqB nanB
    rw [Bool.eq_iff_iff]; simp; omega
  have e2 : (FloatKind.f64.format.order x 0 != some .eq) = !(x % 9223372036854775808 == 0) := by unfold bne; rw [e0]
  by_cases n1 : nanB x = true
  · have hs : sortN x = 0 := by unfold sortN; rw [if_pos n1]
    rw [hs]
    rw [n1] at e1
    clear n1 hs e0 e2
    go_enter Tryd.func17, Tryd.ntmps17
    go_wp2
    go_ret
    exact ⟨rfl, rfl⟩
  have n2 : nanB x = false := by simpa using n1
  rw [n2] at e1
  by_cases z1 : x % 9223372036854775808 = 0
  · have hs : sortN x = 2 := by unfold sortN; rw [n2, z1]; rfl
    have z2 : (x % 9223372036854775808 == 0) = true := by simpa using z1
    rw [hs]
    rw [z2] at e0 e2
    rw [Bool.not_true] at e2
    clear z1 z2 hs n1 n2
    go_enter Tryd.func17, Tryd.ntmps17
    go_wp2
    go_ret
    exact ⟨rfl, rfl⟩
  have z2 : (x % 9223372036854775808 == 0) = false := by simpa using z1
  rw [z2] at e0 e2
  rw [Bool.not_false] at e2
  by_cases i1 : x % 9223372036854775808 = 9218868437227405312
  · have hs : sortN x = 1 := by unfold sortN; rw [n2, i1]; rfl
    rw [hs]
    have hx := wd_of x h
    rw [i1] at hx
    have ha : ∀ t w, (binOp .add t (.float .f64 x) (.float .f64 x)).run Tryd.prog w = .ok (.float .f64 x) w := fun t w => run_float_arith w .add t .f64 _ _ _ (by rw [hx]; exact add_inf _)
    have e3 : (FloatKind.f64.format.order x x == some .eq) = true := by
      unfold bne at e1
      simpa using e1
    clear z1 n1 hx i1
    go_enter Tryd.func17, Tryd.ntmps17
    go_wp2
    go_ret
    exact ⟨rfl, rfl⟩
  · have hf : x % 9223372036854775808 < 9218868437227405312 := by
      unfold nanB at n2; simp at n2; omega
    have hs : sortN x = 3 := by unfold sortN; rw [n2, if_neg (by simp), if_neg i1, if_neg z1]
    rw [hs]
    obtain ⟨y, hy, hne⟩ := add_self x h z1 hf
    have hyl : y < 18446744073709551616 := Ieee.Format.add_lt _ hy
    have ha : ∀ t w, (binOp .add t (.float .f64 x) (.float .f64 x)).run Tryd.prog w = .ok (.float .f64 y) w := fun t w => run_float_arith w .add t .f64 _ _ _ hy
    have e3 : (FloatKind.f64.format.order x y == some .eq) = false := by
      have := order_eqB x y h hyl
      rw [show FloatKind.f64.format = Ieee.double from rfl, this, hne]
    clear z1 n1 hf i1 hy hne
    go_enter Tryd.func17, Tryd.ntmps17
    go_wp2
    go_ret
    exact ⟨rfl, rfl⟩

set_option maxHeartbeats 800000 in
theorem refDigits_c (s : ByteArray) (i : Nat) (w : World) (hs : s.size ≤ 140737488351232) (hi : i ≤ s.size) :
    Calls Tryd.prog 48 #[.string s, .int .i64 i] w fun e w' => e = .returned (.int .i64 (dn s i)) ∧ w = w' := by
  go_enter Tryd.func48, Tryd.ntmps48
  go_wp2
  go_loop [5] (fun v => ∃ k : Nat, k ≤ dn s i ∧ k + dn s (i + k) = dn s i ∧ v = .int .i64 k) (fun v => s.size - (intOf v).toNat)
  case atStart => exact ⟨0, Nat.zero_le _, by simp, rfl⟩
  case round =>
    obtain ⟨k, hk, hd, rfl⟩ := hrel
    have hle : i + k ≤ s.size := by have := dn_le s i hi; omega
    have HD := Lib.hid hd
    clear hd
    go_wp2
    case roundEnd =>
      have q1 : (48 : Int) ≤ ((s[i + k]'(by omega)).toNat : Int) := by assumption
      have q2 : ((s[i + k]'(by omega)).toNat : Int) ≤ 57 := by assumption
      have hy := dn_yes s (i + k) (by omega) (dig_yes s (i + k) (by omega) q1 q2)
      have hd := HD.out
      go_round
      case rel => exact ⟨k + 1, by omega, by rw [show i + (k + 1) = i + k + 1 by omega]; omega, by go_num⟩
      case measure => simp [intOf]; omega
    · have q2 : (57 : Int) < ((s[i + k]'(by omega)).toNat : Int) := by assumption
      have hy := dn_no s (i + k) (dig_hi s (i + k) (by omega) q2)
      have hd := HD.out
      obtain rfl : k = dn s i := by omega
      go_ret
      exact ⟨rfl, rfl⟩
    · have q2 : ((s[i + k]'(by omega)).toNat : Int) < 48 := by assumption
      have hy := dn_no s (i + k) (dig_lo s (i + k) (by omega) q2)
      have hd := HD.out
      obtain rfl : k = dn s i := by omega
      go_ret
      exact ⟨rfl, rfl⟩
    · have hy := dn_end s (i + k) (by omega)
      have hd := HD.out
      obtain rfl : k = dn s i := by omega
      go_ret
      exact ⟨rfl, rfl⟩

theorem inB_of (cs : ByteArray) (f : Nat → Bool) (h : ∀ y : Fin 256, inB cs (y.1 : Int) = f y.1) (s : ByteArray) (i : Int) : inB cs (bt s i) = f (bt s i).toNat := by
  have hr := bt_range s i
  have := h ⟨(bt s i).toNat, by omega⟩
  rw [show (((bt s i).toNat : Nat) : Int) = bt s i by omega] at this
  exact this
theorem in_dot (s : ByteArray) (i : Int) : inB ⟨#[46]⟩ (bt s i) = decide (bt s i = 46) := by
  have hr := bt_range s i
  rw [inB_of ⟨#[46]⟩ (fun n => decide (n = 46)) (by decide +kernel), decide_eq_decide]; omega
theorem in_minus (s : ByteArray) (i : Int) : inB ⟨#[45]⟩ (bt s i) = decide (bt s i = 45) := by
  have hr := bt_range s i
  rw [inB_of ⟨#[45]⟩ (fun n => decide (n = 45)) (by decide +kernel), decide_eq_decide]; omega
theorem in_plus (s : ByteArray) (i : Int) : inB ⟨#[43]⟩ (bt s i) = decide (bt s i = 43) := by
  have hr := bt_range s i
  rw [inB_of ⟨#[43]⟩ (fun n => decide (n = 43)) (by decide +kernel), decide_eq_decide]; omega
theorem in_e (s : ByteArray) (i : Int) : inB ⟨#[101, 69]⟩ (bt s i) = decide (bt s i = 101 ∨ bt s i = 69) := by
  have hr := bt_range s i
  rw [inB_of ⟨#[101, 69]⟩ (fun n => decide (n = 101 ∨ n = 69)) (by decide +kernel), decide_eq_decide]; omega

/-- the exponent that a text is -/
def exI (r : ByteArray) : Nat := if 1 < r.size ∧ (bt r 1 = 43 ∨ bt r 1 = 45) then 2 else 1
def expR (r : ByteArray) : Option Int :=
  if r.size = 0 then some 0 else if bt r 0 = 101 ∨ bt r 0 = 69 then
    (if dn r (exI r) = 0 ∨ exI r + dn r (exI r) < r.size then none else some (if bt r 1 = 45 then -(xf r (exI r) (dn r (exI r))) else xf r (exI r) (dn r (exI r))))
  else none

set_option maxHeartbeats 1600000 in
theorem refExp_c (r : ByteArray) (w : World) (hs : r.size ≤ 140737488351232) :
    Calls Tryd.prog 50 #[.string r] w fun e w' => e = .returned (.tuple #[.int .i64 ((expR r).getD 0), .bool (expR r).isSome]) ∧ w = w' := by
  by_cases h0 : r.size = 0
  · have he : expR r = some 0 := by unfold expR; rw [if_pos h0]
    rw [he]
    have hl : (r.toList == ([] : List UInt8)) = true := by
      rw [ByteArray.toList_eq, beq_iff_eq]; exact List.length_eq_zero_iff.1 (by simpa using h0)
    clear h0 he
    go_enter Tryd.func50, Tryd.ntmps50
    go_wp2
    go_ret2
    exact ⟨rfl, rfl⟩
  have hl : (r.toList == ([] : List UInt8)) = false := by
    rw [ByteArray.toList_eq, beq_eq_false_iff_ne]
    intro h
    exact h0 (by rw [← List.length_eq_zero_iff] at h; simpa using h)
  have hpos : 0 < r.size := by omega
  have hb0 := bt_nat r 0 hpos
  have he0 : expR r = if bt r 0 = 101 ∨ bt r 0 = 69 then
    (if dn r (exI r) = 0 ∨ exI r + dn r (exI r) < r.size then none else some (if bt r 1 = 45 then -(xf r (exI r) (dn r (exI r))) else xf r (exI r) (dn r (exI r))))
    else none := by unfold expR; rw [if_neg h0]
  obtain ⟨E, hE⟩ : ∃ E, E = expR r := ⟨_, rfl⟩
  rw [← hE] at he0 ⊢
  clear hE h0
  rw [show ((0 : Nat) : Int) = 0 from rfl] at hb0
  obtain ⟨c0, hc0⟩ : ∃ c0, c0 = bt r 0 := ⟨_, rfl⟩
  rw [← hc0] at he0 hb0
  clear hc0
  by_cases hee : c0 = 101 ∨ c0 = 69
  · rw [if_pos hee] at he0
    have hEE : (c0 != 101) = false ∨ (c0 != 101) = true ∧ (c0 != 69) = false := by
      rcases hee with h | h
      · left; rw [h]; rfl
      · right; rw [h]; exact ⟨rfl, rfl⟩
    clear hee
    have hI : exI r = if 1 < r.size ∧ (bt r 1 = 43 ∨ bt r 1 = 45) then 2 else 1 := rfl
    obtain ⟨c1, hc1⟩ : ∃ c1, c1 = bt r 1 := ⟨_, rfl⟩
    rw [← hc1] at hI he0
    have hI2 : exI r = 1 ∨ exI r = 2 := by rw [hI]; split <;> simp
    have hI3 : exI r ≤ r.size := by rw [hI]; split <;> omega
    obtain ⟨iv, hiv⟩ : ∃ iv, iv = exI r := ⟨_, rfl⟩
    rw [← hiv] at hI hI2 hI3 he0
    clear hiv
    have HI := Lib.hid hI
    have HE0 := Lib.hid he0
    have HC1 := Lib.hid hc1
    have HEE := Lib.hid hEE
    clear hI he0 hc1 hEE
    go_enter Tryd.func50, Tryd.ntmps50
    go_upto_region 3 with fail
    go_cut [17] (fun v17 w' => v17 = .bool false ∧ w = w')
    case first =>
      rcases HEE.out with h | ⟨h, h2⟩
      · go_wp2_with fail
        go_meet
        case rel => exact ⟨rfl, rfl⟩
      · go_wp2_with fail
        go_meet
        case rel => exact ⟨rfl, rfl⟩
    case rest =>
      obtain ⟨rfl, rfl⟩ := hcut
      clear HEE
      have hB6 : ∃ b6 : Bool, b6 = decide (1 < r.size ∧ (c1 = 43 ∨ c1 = 45)) := ⟨_, rfl⟩
      obtain ⟨b6, hb6⟩ := hB6
      have HB6 := Lib.hid hb6
      clear hb6
      go_upto_region 6 with fail
      go_cut [33] (fun v33 w' => v33 = .bool b6 ∧ w = w')
      case first =>
        by_cases k1 : 1 < r.size
        · have hb1 : ((r[1]'k1).toNat : Int) = c1 := by rw [HC1.out]; exact bt_nat r 1 k1
          by_cases k2 : c1 = 43
          · have k2' : (c1 == 43) = true := beq_iff_eq.2 k2
            have hb : b6 = true := by rw [HB6.out]; exact decide_eq_true ⟨k1, .inl k2⟩
            clear k2
            go_wp2_with fail
            go_meet
            case rel => exact ⟨by rw [hb], rfl⟩
          · have k2' : (c1 == 43) = false := beq_eq_false_iff_ne.2 k2
            by_cases k3 : c1 = 45
            · have k3' : (c1 == 45) = true := beq_iff_eq.2 k3
              have hb : b6 = true := by rw [HB6.out]; exact decide_eq_true ⟨k1, .inr k3⟩
              clear k2 k3
              go_wp2_with fail
              go_meet
              case rel => exact ⟨by rw [hb], rfl⟩
            · have k3' : (c1 == 45) = false := beq_eq_false_iff_ne.2 k3
              have hb : b6 = false := by rw [HB6.out]; exact decide_eq_false (fun h => by rcases h.2 with h | h; exact k2 h; exact k3 h)
              clear k2 k3
              go_wp2_with fail
              go_meet
              case rel => exact ⟨by rw [hb], rfl⟩
        · have hb : b6 = false := by rw [HB6.out]; exact decide_eq_false (fun h => k1 h.1)
          go_wp2_with fail
          go_meet
          case rel => exact ⟨by rw [hb], rfl⟩
      case rest =>
        obtain ⟨rfl, rfl⟩ := hcut
        go_upto_if 33 with fail
        go_cut [4] (fun v4 w' => v4 = .int .i64 (iv : Int) ∧ w = w')
        case first =>
          cases b6
          · have hiv : iv = 1 := by
              rw [HI.out, if_neg]; intro h
              have := HB6.out
              rw [decide_eq_true h] at this; cases this
            have HIV := Lib.hid hiv
            clear hiv
            go_wp2_with fail
            go_meet
            case rel => exact ⟨by rw [HIV.out]; rfl, rfl⟩
          · have hiv : iv = 2 := by
              rw [HI.out, if_pos]
              exact of_decide_eq_true HB6.out.symm
            have HIV := Lib.hid hiv
            clear hiv
            go_wp2_with fail
            go_meet
            case rel => exact ⟨by rw [HIV.out]; rfl, rfl⟩
        case rest =>
          obtain ⟨rfl, rfl⟩ := hcut
          clear HB6 HI
          have cd := refDigits_c r iv
          have hdl := dn_le r iv hI3
          have lxr : ∀ k : Nat, k ≤ dn r iv → 0 ≤ xf r iv k ∧ xf r iv k ≤ 1000000 := fun k hk => xf_range r _ _ (fun j hj => dn_digit r _ _ (by omega))
          have ldg : ∀ j : Nat, j < dn r iv → 48 ≤ bt r ((iv + j : Nat) : Int) ∧ bt r ((iv + j : Nat) : Int) ≤ 57 := fun j hj => by
            have := dn_digit r _ _ hj
            unfold isDc at this
            simp only [Bool.and_eq_true, decide_eq_true_eq] at this
            exact this
          obtain ⟨n, hn⟩ : ∃ n, n = dn r iv := ⟨_, rfl⟩
          rw [← hn] at HE0 cd hdl lxr ldg
          clear hn
          have LXR := Lib.hid lxr
          have LDG := Lib.hid ldg
          clear lxr ldg
          by_cases hn0 : n = 0
          · have he : E = none := by rw [HE0.out, if_pos (.inl hn0)]
            have HE := Lib.hid he
            clear he
            subst hn0
            go_wp2_with (go_at_call 48; refine (cd _ hs hI3).mono ?_; rintro e w' ⟨rfl, rfl⟩)
            go_ret2
            exact ⟨by rw [HE.out]; rfl, rfl⟩
          by_cases hlt : iv + n < r.size
          · have he : E = none := by rw [HE0.out, if_pos (.inr hlt)]
            have HE := Lib.hid he
            have hn1 : 0 < n := by omega
            have t1 : ((n : Int) == 0) = false := beq_eq_false_iff_ne.2 (by omega)
            have t2 : decide ((iv : Int) + (n : Int) < (r.size : Int)) = true := decide_eq_true (by omega)
            clear he hn0
            go_wp2_with (go_at_call 48; refine (cd _ hs hI3).mono ?_; rintro e w' ⟨rfl, rfl⟩)
            go_ret2
            exact ⟨by rw [HE.out]; rfl, rfl⟩
          · have hsz : r.size = iv + n := by omega
            have he : E = some (if c1 = 45 then -(xf r iv n) else xf r iv n) := by rw [HE0.out, if_neg (by rintro (h | h); exact hn0 h; exact hlt h)]
            have HE := Lib.hid he
            have HSZ := Lib.hid hsz
            have hn1 : 0 < n := by omega
            have hsl : r.size ≤ iv + n := by omega
            have t1 : ((n : Int) == 0) = false := beq_eq_false_iff_ne.2 (by omega)
            have t2 : decide ((iv : Int) + (n : Int) < (r.size : Int)) = false := decide_eq_false (by omega)
            clear he hn0 hlt hsz HE0
            go_wp2_with (go_at_call 48; refine (cd _ hs hI3).mono ?_; rintro e w' ⟨rfl, rfl⟩)
            go_loop [6, 7] (fun x q => ∃ k : Nat, k ≤ n ∧ q = .int .i64 ((iv + k : Nat) : Int) ∧ x = .int .i64 (xf r iv k)) (fun _ q => r.size - (intOf q).toNat)
            case atStart => exact ⟨0, Nat.zero_le _, rfl, rfl⟩
            case round =>
              obtain ⟨k, hk, rfl, rfl⟩ := hrel
              have hxr := LXR.out k hk
              by_cases hlt : k < n
              · have hd := LDG.out k hlt
                have hbk := bt_nat r (iv + k) (by omega)
                have hx : xf r iv (k + 1) = min 1000000 (10 * xf r iv k + (bt r ((iv + k : Nat) : Int) - 48)) := rfl
                obtain ⟨c, hcc⟩ : ∃ c, c = bt r ((iv + k : Nat) : Int) := ⟨_, rfl⟩
                rw [← hcc] at hd hbk hx
                have HX := Lib.hid hx
                clear hcc hx
                go_wp2_with fail
                all_goals
                  go_round
                  case rel => exact ⟨k + 1, by omega, by go_num, congrArg (Value.int .i64) (by rw [HX.out]; omega)⟩
                  case measure => simp [intOf]; omega
              · obtain rfl : k = n := by omega
                have k1 : 1 < r.size := by omega
                have hb1 : ((r[1]'k1).toNat : Int) = c1 := by rw [HC1.out]; exact bt_nat r 1 k1
                by_cases k3 : c1 = 45
                · have k3' : (c1 == 45) = true := beq_iff_eq.2 k3
                  have he : E = some (-(xf r iv k)) := by rw [HE.out, if_pos k3]
                  have HE' := Lib.hid he
                  clear k3 he
                  go_wp2_with fail
                  go_ret2
                  exact ⟨by rw [HE'.out]; rfl, rfl⟩
                · have k3' : (c1 == 45) = false := beq_eq_false_iff_ne.2 k3
                  have he : E = some (xf r iv k) := by rw [HE.out, if_neg k3]
                  have HE' := Lib.hid he
                  clear k3 he
                  go_wp2_with fail
                  go_ret2
                  exact ⟨by rw [HE'.out]; rfl, rfl⟩
  · rw [if_neg hee] at he0
    subst he0
    have n1 : (c0 != 101) = true := bne_iff_ne.2 (fun h => hee (.inl h))
    have n2 : (c0 != 69) = true := bne_iff_ne.2 (fun h => hee (.inr h))
    clear hee
    go_enter Tryd.func50, Tryd.ntmps50
    go_wp2
    go_ret2
    exact ⟨rfl, rfl⟩

/-- what the reference makes of digits: none: some NaN -/
def Wor (v : Option Nat) (b : Nat) : Prop := match v with
  | none => IsN b
  | some r => b = r

theorem refValue_nil (w : World) :
    Calls Tryd.prog 51 #[.string ⟨#[]⟩, .int .i64 0] w fun e w' => e = .returned (.float .f64 0) ∧ w = w' := by
  go_enter Tryd.func51, Tryd.ntmps51
  go_wp2
  refine wp_loop_rounds 1 ?_
  rw [rounds_succ]
  go_wp2
  go_ret
  exact ⟨rfl, rfl⟩

set_option maxRecDepth 100000 in
set_option maxHeartbeats 3200000 in
theorem refValue_c (l : ByteArray) (x : Int) (w : World) (hs : l.size ≤ 281474976710656) (hx : -281474976710656 ≤ x ∧ x ≤ 281474976710656) (hd : ∀ j : Nat, j < l.size → isDc (bt l j) = true) :
    Calls Tryd.prog 51 #[.string l, .int .i64 x] w fun e w' => (∃ b, e = .returned (.float .f64 b) ∧ Wor (valR (trim0 l) x) b) ∧ Below w.heap.size w w' := by
  obtain ⟨Post, hPost⟩ : ∃ Post : Ending → World → Prop, Post = fun e w' => (∃ b, e = .returned (.float .f64 b) ∧ Wor (valR (trim0 l) x) b) ∧ Below w.heap.size w w' := ⟨_, rfl⟩
  rw [← hPost]
  have HPO := Lib.hid hPost
  clear hPost
  obtain ⟨z, hz⟩ : ∃ z, z = trim0 l := ⟨_, rfl⟩
  have HZ := Lib.hid hz
  have hzl : z.size ≤ l.size := by rw [hz]; unfold trim0; rw [ex_size]; omega
  have hzd : ∀ j : Nat, j < z.size → isDc (bt z j) = true := by
    rw [hz]; unfold trim0
    intro j hj
    have hc := cn_le 48 l 0 (Nat.zero_le _)
    rw [ex_size] at hj
    rw [bt_extract _ _ _ _ (by omega) (by omega)]
    exact hd _ (by omega)
  rw [← hz] at HPO
  clear hz hd
  have HZD := Lib.hid hzd
  clear hzd
  go_enter Tryd.func51, Tryd.ntmps51
  go_upto_block 0 with fail
  go_cut [0] (fun v0 w' => v0 = .string z ∧ w = w')
  case first =>
    go_wp2_with fail
    go_loop [0] (fun v => ∃ k : Nat, k ≤ l.size ∧ k + cn 48 l k = cn 48 l 0 ∧ v = .string (l.extract k l.size)) (fun v => strLen v)
    case atStart => exact ⟨0, Nat.zero_le _, by simp, by rw [ex_all]⟩
    case round =>
      obtain ⟨k, hk, hc, rfl⟩ := hrel
      have HC := Lib.hid hc
      clear hc
      have hz : (l.extract k l.size).size = l.size - k := by rw [ex_size]; omega
      by_cases hlt : k < l.size
      · have hb := bt_nat l k hlt
        have hg : ∀ h, (l.extract k l.size)[0]'h = l[k] := fun h => by rw [ex_get]; rfl
        have hsl := fun wx => slice_from (P := Tryd.prog) 9 Tryd.underlying9 (l.extract k l.size) 1 1 rfl (by omega) wx
        rw [ex_ex _ _ _ _ _ (Nat.le_refl _), hz] at hsl
        rw [show min (k + (l.size - k)) l.size = l.size by omega] at hsl
        by_cases h48 : bt l k = 48
        · have hy := Lib.hid (cn_yes 48 l k hlt h48)
          go_wp2_with fail
          go_round
          case rel => exact ⟨k + 1, by omega, by have := hy.out; have := HC.out; omega, rfl⟩
          case measure => simp only [strLen]; rw [ex_size]; omega
        · have hy := Lib.hid (cn_no 48 l k h48)
          go_wp2_with fail
          go_meet
          have e : k = cn 48 l 0 := by have := hy.out; have := HC.out; omega
          case rel => exact ⟨by rw [HZ.out]; unfold trim0; rw [← e], rfl⟩
      · have hy := Lib.hid (cn_end 48 l k (by omega))
        go_wp2_with fail
        go_meet
        have e : k = cn 48 l 0 := by have := hy.out; have := HC.out; omega
        case rel => exact ⟨by rw [HZ.out]; unfold trim0; rw [← e], rfl⟩
  case rest =>
    obtain ⟨rfl, rfl⟩ := hcut
    clear HZ
    go_upto_region 4 with fail
    obtain ⟨n, hn⟩ : ∃ n, n = z.size := ⟨_, rfl⟩
    have HN := Lib.hid hn
    have HVR := Lib.hid (show valR z x = if n = 0 then some 0 else if 400 < (n : Int) + x then some 9218868437227405312 else if (n : Int) + x < -400 then some 0 else if 15 < n ∨ x < -22 ∨ 22 < x then none else some (valF (wv z n) x) by unfold valR; rw [hn])
    rw [← hn] at hzl ⊢
    clear hn
    have hnl : n ≤ 281474976710656 := by omega
    by_cases hn0 : n = 0
    · have hV : valR z x = some 0 := by rw [HVR.out, if_pos hn0]
      have HV := Lib.hid hV
      subst hn0
      clear hV
      go_wp2_with fail
      rw [HPO.out]
      exact ⟨⟨0, rfl, by rw [HV.out]; rfl⟩, Below.refl _ _⟩
    have t1 : ((n : Int) == 0) = false := beq_eq_false_iff_ne.2 (by omega)
    by_cases h4 : 400 < (n : Int) + x
    · have hV : valR z x = some 9218868437227405312 := by rw [HVR.out, if_neg hn0, if_pos h4]
      have HV := Lib.hid hV
      have t2 : decide ((n : Int) + x < -400) = false := decide_eq_false (by omega)
      have hq : ∀ t w, (binOp .quo t (.float .f64 4607182418800017408) (.float .f64 0)).run Tryd.prog w = .ok (.float .f64 9218868437227405312) w := fun t w => run_float_arith w .quo t .f64 _ _ _ (one_by_zero false)
      clear hV hn0
      go_wp2_with (go_at_call 51; refine (refValue_nil _).mono ?_; rintro e w' ⟨rfl, rfl⟩)
      rw [HPO.out]
      exact ⟨⟨_, rfl, by rw [HV.out]; rfl⟩, Below.refl _ _⟩
    by_cases h5 : (n : Int) + x < -400
    · have hV : valR z x = some 0 := by rw [HVR.out, if_neg hn0, if_neg h4, if_pos h5]
      have HV := Lib.hid hV
      have t2 : decide ((n : Int) + x < -400) = true := decide_eq_true (by omega)
      clear hV hn0
      go_wp2_with fail
      rw [HPO.out]
      exact ⟨⟨0, rfl, by rw [HV.out]; rfl⟩, Below.refl _ _⟩
    have t2 : decide ((n : Int) + x < -400) = false := decide_eq_false (by omega)
    have hl4 : (n : Int) + x ≤ 400 := by omega
    have hl5 : -400 ≤ (n : Int) + x := by omega
    by_cases h6 : 15 < n ∨ x < -22 ∨ 22 < x
    · have hV : valR z x = none := by rw [HVR.out, if_neg hn0, if_neg h4, if_neg h5, if_pos h6]
      have HV := Lib.hid hV
      have hN := nanOf_is
      clear hV hn0 h4 h5
      by_cases h7 : 15 < n
      · have t3 : decide ((15 : Int) < (n : Int)) = true := decide_eq_true (by omega)
        clear h6
        go_wp2_with (go_at_call 49; refine (refNan_c _).mono ?_; rintro e w' ⟨rfl, hb⟩)
        rw [HPO.out]
        exact ⟨⟨_, rfl, by rw [HV.out]; exact hN _⟩, by assumption⟩
      · have t3 : decide ((15 : Int) < (n : Int)) = false := decide_eq_false (by omega)
        by_cases h8 : 22 < x
        · have t4 : decide ((22 : Int) < x) = true := decide_eq_true (by omega)
          clear h6 h7
          go_wp2_with (go_at_call 49; refine (refNan_c _).mono ?_; rintro e w' ⟨rfl, hb⟩)
          rw [HPO.out]
          exact ⟨⟨_, rfl, by rw [HV.out]; exact hN _⟩, by assumption⟩
        · have t4 : decide ((22 : Int) < x) = false := decide_eq_false (by omega)
          have t5 : decide (x < -22) = true := decide_eq_true (by omega)
          clear h6 h7 h8
          go_wp2_with (go_at_call 49; refine (refNan_c _).mono ?_; rintro e w' ⟨rfl, hb⟩)
          rw [HPO.out]
          exact ⟨⟨_, rfl, by rw [HV.out]; exact hN _⟩, by assumption⟩
    have hV : valR z x = some (valF (wv z n) x) := by rw [HVR.out, if_neg hn0, if_neg h4, if_neg h5, if_neg h6]
    have HV := Lib.hid hV
    have k1 : n ≤ 15 := by omega
    have k2 : -22 ≤ x := by omega
    have k3 : x ≤ 22 := by omega
    have t3 : decide ((15 : Int) < (n : Int)) = false := decide_eq_false (by omega)
    have t4 : decide ((22 : Int) < x) = false := decide_eq_false (by omega)
    have t5 : decide (x < -22) = false := decide_eq_false (by omega)
    clear hV hn0 h4 h5 h6
    have hop : ∀ (a b r : Nat), Ieee.double.mul a b = some r → ∀ t w, (binOp .mul t (.float .f64 a) (.float .f64 b)).run Tryd.prog w = .ok (.float .f64 r) w := fun a b r h t w => run_float_arith w .mul t .f64 _ _ _ h
    have HOP := Lib.hid hop
    clear hop
    have lw : ∀ k : Nat, k ≤ n → wv z k < 9007199254740992 := fun k hk => by
      have := wv_lt z k (fun j hj => HZD.out j (by rw [← HN.out]; omega))
      have h2 : 10 ^ k ≤ 10 ^ 15 := Nat.pow_le_pow_right (by omega) (by omega)
      have h3 : (10 : Nat) ^ 15 = 1000000000000000 := by decide
      omega
    have LW := Lib.hid lw
    clear lw
    go_wp2_with fail
    go_loop [7, 8] (fun v i => ∃ k : Nat, k ≤ n ∧ i = .int .i64 k ∧ v = .int .i64 ((wv z k : Nat) : Int)) (fun _ i => n - (intOf i).toNat)
    case atStart => exact ⟨0, Nat.zero_le _, rfl, rfl⟩
    case round =>
      obtain ⟨k, hk, rfl, rfl⟩ := hrel
      have hw := LW.out k hk
      by_cases hlt : k < n
      · have hlz : k < z.size := by rw [← HN.out]; exact hlt
        have hd := HZD.out k hlz
        unfold isDc at hd
        simp only [Bool.and_eq_true, decide_eq_true_eq] at hd
        have hbk := bt_nat z k hlz
        have hv : ((wv z (k + 1) : Nat) : Int) = 10 * (wv z k : Int) + bt z k - 48 := by
          show ((10 * wv z k + (bt z k - 48).toNat : Nat) : Int) = _
          omega
        have HV2 := Lib.hid hv
        clear hv
        obtain ⟨c, hcc⟩ : ∃ c, c = bt z k := ⟨_, rfl⟩
        rw [← hcc] at hd hbk HV2
        clear hcc
        go_wp2_with fail
        go_round
        case rel => exact ⟨k + 1, by omega, by go_num, congrArg (Value.int .i64) (by rw [HV2.out])⟩
        case measure => simp [intOf]; omega
      · obtain rfl : k = n := by omega
        have hfi := ofInt_W (wv z k) hw
        by_cases hy0 : x < 0
        · obtain ⟨e, he⟩ : ∃ e : Nat, x = -(e : Int) := ⟨(-x).toNat, by omega⟩
          subst he
          have hq := valF_neg (wv z k) (-(e : Int)) hw hy0 k2
          rw [show (- -(e : Int)).toNat = e by omega] at hq
          obtain ⟨q, hqq⟩ : ∃ q, q = valF (wv z k) (-(e : Int)) := ⟨_, rfl⟩
          rw [← hqq] at hq HV
          clear hqq
          have hdv : ∀ t w, (binOp .quo t (.float .f64 (W false (wv z k))) (.float .f64 (pw e))).run Tryd.prog w = .ok (.float .f64 q) w := fun t w => run_float_arith w .quo t .f64 _ _ _ hq.1
          clear hq
          go_wp2_with fail
          go_loop [9, 10] (fun p i => ∃ j : Nat, j ≤ e ∧ i = .int .i64 j ∧ p = .float .f64 (pw j)) (fun _ i => e - (intOf i).toNat)
          case atStart => exact ⟨0, Nat.zero_le _, rfl, rfl⟩
          case round =>
            obtain ⟨j, hj, rfl, rfl⟩ := hrel
            by_cases hlt2 : j < e
            · have m1 := HOP.out _ _ _ (pw_mul' j (by omega))
              unfold ten at m1
              obtain ⟨p1, hp1⟩ : ∃ p1, p1 = pw (j + 1) := ⟨_, rfl⟩
              rw [← hp1] at m1
              have HP1 := Lib.hid hp1
              have s1 : decide ((j : Int) < -(e : Int)) = false := decide_eq_false (by omega)
              have s2 : decide ((j : Int) < (e : Int)) = true := decide_eq_true (by omega)
              clear hp1
              go_wp2_with fail
              go_round
              case rel => exact ⟨j + 1, by omega, by go_num, by rw [HP1.out]⟩
              case measure => simp [intOf]; omega
            · obtain rfl : j = e := by omega
              have s1 : decide ((j : Int) < -(j : Int)) = false := decide_eq_false (by omega)
              go_wp2_with fail
              rw [HPO.out]
              exact ⟨⟨_, rfl, by rw [HV.out]; rfl⟩, Below.refl _ _⟩
        · obtain ⟨e, he⟩ : ∃ e : Nat, x = (e : Int) := ⟨x.toNat, by omega⟩
          subst he
          have hq := valF_pos (wv z k) (e : Int) hw hy0 k3
          rw [Int.toNat_natCast] at hq
          obtain ⟨q, hqq⟩ : ∃ q, q = valF (wv z k) (e : Int) := ⟨_, rfl⟩
          rw [← hqq] at hq HV
          clear hqq
          have hdv : ∀ t w, (binOp .mul t (.float .f64 (W false (wv z k))) (.float .f64 (pw e))).run Tryd.prog w = .ok (.float .f64 q) w := fun t w => run_float_arith w .mul t .f64 _ _ _ hq.1
          have HDV := Lib.hid hdv
          clear hq hdv
          go_wp2_with fail
          go_loop [9, 10] (fun p i => ∃ j : Nat, j ≤ e ∧ i = .int .i64 j ∧ p = .float .f64 (pw j)) (fun _ i => e - (intOf i).toNat)
          case atStart => exact ⟨0, Nat.zero_le _, rfl, rfl⟩
          case round =>
            obtain ⟨j, hj, rfl, rfl⟩ := hrel
            by_cases hlt2 : j < e
            · have m1 := HOP.out _ _ _ (pw_mul' j (by omega))
              unfold ten at m1
              obtain ⟨p1, hp1⟩ : ∃ p1, p1 = pw (j + 1) := ⟨_, rfl⟩
              rw [← hp1] at m1
              have HP1 := Lib.hid hp1
              have s1 : decide ((j : Int) < (e : Int)) = true := decide_eq_true (by omega)
              clear hp1
              go_wp2_with fail
              go_round
              case rel => exact ⟨j + 1, by omega, by go_num, by rw [HP1.out]⟩
              case measure => simp [intOf]; omega
            · obtain rfl : j = e := by omega
              have s1 : decide ((j : Int) < (j : Int)) = false := decide_eq_false (by omega)
              have s2 : decide ((j : Int) < -(j : Int)) = false := decide_eq_false (by omega)
              have hdv := HDV.out
              go_wp2_with fail
              rw [HPO.out]
              exact ⟨⟨_, rfl, by rw [HV.out]; rfl⟩, Below.refl _ _⟩
end Go.Proofs.YtlgphmpdenkilaaDoor
