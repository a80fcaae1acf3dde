/- The walks of math.IsNaN, Abs, Signbit, Copysign, Inf, NaN, IsInf and of package real's Sort, Negative, Same, signed: what each returns, by the bits. Conditions: the bits are below 2^64. -/
import Derived.WalkKit
import Derived.WalkLawsBesides
import Derived.Laws.FloatArith
import Derived.Laws.Externs
import Derived.Lib.Hide
import Derived.Test.YtlgphmpdenkilaaDoorProg
import Derived.Test.YtlgphmpdenkilaaDoorFm
namespace Go.Proofs.YtlgphmpdenkilaaDoor
open Go.RowKit
open Fl

theorem c53 (x : Nat) (w : World) : (callFunc 53 #[.float .f64 x]).run Tryd.prog w = .ok (.value (.int .u64 x)) w := by
  rw [run_callFunc_extern (e := Extern.MathFloatBits.float64bits) Tryd.func53 (by kernel_rfl) (by kernel_rfl) (by kernel_rfl) (by kernel_rfl)]
  rfl
theorem c42 (x : Int) (w : World) : (callFunc 42 #[.int .u64 x]).run Tryd.prog w = .ok (.value (.float .f64 x.toNat)) w := by
  rw [run_callFunc_extern (e := Extern.MathFloatBits.float64frombits) Tryd.func42 (by kernel_rfl) (by kernel_rfl) (by kernel_rfl) (by kernel_rfl)]
  rfl

theorem isNaN_c (x : Nat) (w : World) (h : x < 18446744073709551616) :
    Calls Tryd.prog 32 #[.float .f64 x] w fun e w' => e = .returned (.bool (nanB x)) ∧ w = w' := by
  have he : (FloatKind.f64.format.order x x != some .eq) = nanB x := by
    have := order_eqB x x h h
    unfold bne
    rw [show FloatKind.f64.format = Ieee.double from rfl, this]; unfold eqB; cases nanB x <;> simp
  have HE := Lib.hid he
  clear he
  go_enter Tryd.func32, Tryd.ntmps32
  go_wp2
  go_ret
  exact ⟨by rw [HE.out]; rfl, rfl⟩

theorem abs_c (x : Nat) (w : World) (h : x < 18446744073709551616) :
    Calls Tryd.prog 52 #[.float .f64 x] w fun e w' => e = .returned (.float .f64 (x % 9223372036854775808)) ∧ w = w' := by
  have h53 := c53 x
  have h42 := c42
  have hb := u64_clear x h
  go_enter Tryd.func52, Tryd.ntmps52
  go_wp2
  go_ret
  exact ⟨rfl, rfl⟩

theorem signbit_c (x : Nat) (w : World) (h : x < 18446744073709551616) :
    Calls Tryd.prog 34 #[.float .f64 x] w fun e w' => e = .returned (.bool (decide (9223372036854775808 ≤ x))) ∧ w = w' := by
  have h53 := c53 x
  by_cases c : x < 9223372036854775808
  · have HE := Lib.hid (show decide ((x : Int) < 0) = decide (9223372036854775808 ≤ x) by rw [decide_eq_decide]; omega)
    go_enter Tryd.func34, Tryd.ntmps34
    go_wp2
    go_ret
    exact ⟨by rw [← HE.out]; rfl, rfl⟩
  · have HE := Lib.hid (show decide (wrap64 (x : Int) < 0) = decide (9223372036854775808 ≤ x) by rw [decide_eq_decide]; unfold wrap64; omega)
    go_enter Tryd.func34, Tryd.ntmps34
    go_wp2
    go_ret
    exact ⟨by rw [← HE.out]; rfl, rfl⟩

theorem copysign_c (x : Nat) (w : World) (h : x < 9223372036854775808) :
    Calls Tryd.prog 47 #[.float .f64 x, .float .f64 13830554455654793216] w fun e w' => e = .returned (.float .f64 (9223372036854775808 + x)) ∧ w = w' := by
  have h53 := c53
  have h42 := c42
  have hb := u64_clear x (by omega)
  rw [Nat.mod_eq_of_lt h] at hb
  have hc : bits .and .u64 13830554455654793216 9223372036854775808 = 9223372036854775808 := by decide +kernel
  have hd := u64_set x h
  go_enter Tryd.func47, Tryd.ntmps47
  go_wp2
  go_ret
  exact ⟨rfl, rfl⟩

theorem signed_c (x : Nat) (m : Bool) (w : World) (h : x < 9223372036854775808) :
    Calls Tryd.prog 29 #[.float .f64 x, .bool m] w fun e w' => e = .returned (.float .f64 (wd m x)) ∧ w = w' := by
  cases m
  · go_enter Tryd.func29, Tryd.ntmps29
    go_wp2
    go_ret
    exact ⟨rfl, rfl⟩
  · go_enter Tryd.func29, Tryd.ntmps29
    go_wp2_with (go_at_call 47; refine (copysign_c x _ h).mono ?_; rintro e w' ⟨rfl, rfl⟩)
    go_ret
    exact ⟨rfl, rfl⟩

theorem inf_c (w : World) :
    Calls Tryd.prog 30 #[.int .i64 1] w fun e w' => e = .returned (.float .f64 9218868437227405312) ∧ w = w' := by
  have h42 := c42
  go_enter Tryd.func30, Tryd.ntmps30
  go_wp2
  go_ret
  exact ⟨rfl, rfl⟩
theorem nan_c (w : World) :
    Calls Tryd.prog 27 #[] w fun e w' => e = .returned (.float .f64 9221120237041090561) ∧ w = w' := by
  have h42 := c42
  go_enter Tryd.func27, Tryd.ntmps27
  go_wp2
  go_ret
  exact ⟨rfl, rfl⟩

theorem isInf_c (x : Nat) (w : World) (h : x < 18446744073709551616) :
    Calls Tryd.prog 33 #[.float .f64 x, .int .i64 0] w fun e w' => e = .returned (.bool (x % 9223372036854775808 == 9218868437227405312)) ∧ w = w' := by
  have HE := Lib.hid (show (FloatKind.f64.format.order (x % 9223372036854775808) 9218868437227405311 == some .gt) = (x % 9223372036854775808 == 9218868437227405312) from order_gtmax x)
  go_enter Tryd.func33, Tryd.ntmps33
  go_wp2_with (go_at_call 52; refine (abs_c x _ h).mono ?_; rintro e w' ⟨rfl, rfl⟩)
  go_ret
  exact ⟨by rw [← HE.out]; rfl, rfl⟩

theorem negative_c (x : Nat) (w : World) (h : x < 18446744073709551616) :
    Calls Tryd.prog 18 #[.float .f64 x] w fun e w' => e = .returned (.bool (negB x)) ∧ w = w' := by
  have HN := Lib.hid (show negB x = (!nanB x && decide (9223372036854775808 ≤ x)) from rfl)
  obtain ⟨n, hn⟩ : ∃ n, n = nanB x := ⟨_, rfl⟩
  have c1 := isNaN_c x
  rw [← hn] at c1 HN
  clear hn
  have c2 := signbit_c x
  by_cases c : 9223372036854775808 ≤ x
  · rw [show decide (9223372036854775808 ≤ x) = true by simpa using c] at HN c2
    cases n
    · go_enter Tryd.func18, Tryd.ntmps18
      go_wp2_with (first | (go_at_call 34; refine (c2 _ h).mono ?_; rintro e w' ⟨rfl, rfl⟩) | (go_at_call 32; refine (c1 _ h).mono ?_; rintro e w' ⟨rfl, rfl⟩))
      go_ret
      exact ⟨by rw [HN.out]; rfl, rfl⟩
    · go_enter Tryd.func18, Tryd.ntmps18
      go_wp2_with (first | (go_at_call 34; refine (c2 _ h).mono ?_; rintro e w' ⟨rfl, rfl⟩) | (go_at_call 32; refine (c1 _ h).mono ?_; rintro e w' ⟨rfl, rfl⟩))
      go_ret
      exact ⟨by rw [HN.out]; rfl, rfl⟩
  · rw [show decide (9223372036854775808 ≤ x) = false by simpa using c] at HN c2
    go_enter Tryd.func18, Tryd.ntmps18
    go_wp2_with (first | (go_at_call 34; refine (c2 _ h).mono ?_; rintro e w' ⟨rfl, rfl⟩) | (go_at_call 32; refine (c1 _ h).mono ?_; rintro e w' ⟨rfl, rfl⟩))
    go_ret
    exact ⟨by rw [HN.out, Bool.and_false]; rfl, rfl⟩

theorem sort_c (x : Nat) (w : World) (h : x < 18446744073709551616) :
    Calls Tryd.prog 16 #[.float .f64 x] w fun e w' => e = .returned (.int .i64 (sortN x)) ∧ w = w' := by
  have c1 := isNaN_c x
  have c2 := isInf_c x
  have e0 : (FloatKind.f64.format.order x 0 == some .eq) = eqB x 0 := order_eqB x 0 h (by omega)
  have HS := Lib.hid (show sortN x = if nanB x then 0 else if x % 9223372036854775808 = 9218868437227405312 then 1 else if x % 9223372036854775808 = 0 then 2 else 3 from rfl)
  obtain ⟨n, hn⟩ : ∃ n, n = nanB x := ⟨_, rfl⟩
  have hz : eqB x 0 = (!n && (x % 9223372036854775808 == 0)) := by
    rw [hn]; unfold eqB
    have : nanB 0 = false := by decide
    rw [this, Bool.eq_iff_iff]; simp
    intro _ e; omega
  rw [hz] at e0
  rw [← hn] at c1 HS
  obtain ⟨i, hi⟩ : ∃ i, i = (x % 9223372036854775808 == 9218868437227405312) := ⟨_, rfl⟩
  obtain ⟨z, hz⟩ : ∃ z, z = (x % 9223372036854775808 == 0) := ⟨_, rfl⟩
  rw [← hi] at c2
  rw [← hz] at e0
  have HI := Lib.hid hi
  have HZ := Lib.hid hz
  clear hi hz hn
  cases n
  · cases i
    · cases z
      all_goals
        rw [show (!false && _ : Bool) = _ from rfl] at e0
        go_enter Tryd.func16, Tryd.ntmps16
        go_wp2_with (first | (go_at_call 32; refine (c1 _ h).mono ?_; rintro e w' ⟨rfl, rfl⟩) | (go_at_call 33; refine (c2 _ h).mono ?_; rintro e w' ⟨rfl, rfl⟩))
        go_ret
        refine ⟨?_, rfl⟩
        rw [HS.out]
        have hi := HI.out
        have hz := HZ.out
        simp at hi hz
        simp [hi, hz]
    · go_enter Tryd.func16, Tryd.ntmps16
      go_wp2_with (first | (go_at_call 32; refine (c1 _ h).mono ?_; rintro e w' ⟨rfl, rfl⟩) | (go_at_call 33; refine (c2 _ h).mono ?_; rintro e w' ⟨rfl, rfl⟩))
      go_ret
      refine ⟨?_, rfl⟩
      rw [HS.out]
      have hi := HI.out
      simp at hi
      simp [hi]
  · go_enter Tryd.func16, Tryd.ntmps16
    go_wp2_with (first | (go_at_call 32; refine (c1 _ h).mono ?_; rintro e w' ⟨rfl, rfl⟩) | (go_at_call 33; refine (c2 _ h).mono ?_; rintro e w' ⟨rfl, rfl⟩))
    go_ret
    refine ⟨?_, rfl⟩
    rw [HS.out]; rfl

theorem sameB_eq (x y : Nat) (hx : x < 18446744073709551616) (hy : y < 18446744073709551616) (h1 : nanB x = false) (h2 : nanB y = false) :
    sameB x y = (eqB x y && (negB x == negB y)) := by
  unfold sameB eqB negB
  rw [h1, h2, Bool.eq_iff_iff]
  simp
  constructor
  · rintro rfl; simp
  · rintro ⟨h | ⟨h3, h4⟩, h5⟩
    · exact h
    · omega

theorem same_c (x y : Nat) (w : World) (hx : x < 18446744073709551616) (hy : y < 18446744073709551616) :
    Calls Tryd.prog 15 #[.float .f64 x, .float .f64 y] w fun e w' => e = .returned (.bool (sameB x y)) ∧ w = w' := by
  have e0 : (FloatKind.f64.format.order x y == some .eq) = eqB x y := order_eqB x y hx hy
  obtain ⟨r, hr⟩ : ∃ r, r = sameB x y := ⟨_, rfl⟩
  have HR := Lib.hid hr
  rw [← hr]
  clear hr
  have HS := Lib.hid (sameB_eq x y hx hy)
  have HT := Lib.hid (show sameB x y = if nanB x || nanB y then nanB x && nanB y else x == y from rfl)
  have c1 := isNaN_c x
  have c2 := isNaN_c y
  have c3 := negative_c x
  have c4 := negative_c y
  obtain ⟨n, hn⟩ : ∃ n, n = nanB x := ⟨_, rfl⟩
  obtain ⟨m, hm⟩ : ∃ m, m = nanB y := ⟨_, rfl⟩
  obtain ⟨a, ha⟩ : ∃ a, a = negB x := ⟨_, rfl⟩
  obtain ⟨b, hb⟩ : ∃ b, b = negB y := ⟨_, rfl⟩
  obtain ⟨q, hq⟩ : ∃ q, q = eqB x y := ⟨_, rfl⟩
  rw [← hn] at c1 HS HT
  rw [← hm] at c2 HS HT
  rw [← ha] at c3 HS
  rw [← hb] at c4 HS
  rw [← hq] at e0 HS
  clear hn hm ha hb hq
  cases n <;> cases m
  · cases q
    all_goals
      go_enter Tryd.func15, Tryd.ntmps15
      go_wp2_with (first | (go_at_call 32; (first | (with_reducible refine (c1 _ hx).mono ?_) | (with_reducible refine (c2 _ hy).mono ?_)); rintro e w' ⟨rfl, rfl⟩) | (go_at_call 18; (first | (with_reducible refine (c3 _ hx).mono ?_) | (with_reducible refine (c4 _ hy).mono ?_)); rintro e w' ⟨rfl, rfl⟩))
      go_ret
      refine ⟨?_, rfl⟩
      rw [HR.out, HS.out trivial trivial]; simp
  all_goals
    go_enter Tryd.func15, Tryd.ntmps15
    go_wp2_with (first | (go_at_call 32; (first | (with_reducible refine (c1 _ hx).mono ?_) | (with_reducible refine (c2 _ hy).mono ?_)); rintro e w' ⟨rfl, rfl⟩) | (go_at_call 18; (first | (with_reducible refine (c3 _ hx).mono ?_) | (with_reducible refine (c4 _ hy).mono ?_)); rintro e w' ⟨rfl, rfl⟩))
    go_ret
    refine ⟨?_, rfl⟩
    rw [HR.out, HT.out]; rfl

theorem refNegative_c (x : Nat) (w : World) (h : x < 18446744073709551616) :
    Calls Tryd.prog 14 #[.float .f64 x] w fun e w' => e = .returned (.bool (negB x)) ∧ w = w' := by
  have e1 : (FloatKind.f64.format.order x 0 == some .lt) = (negB x && !(x % 9223372036854775808 == 0)) := order_ltz x h
  have e0 : (FloatKind.f64.format.order x 0 == some .eq) = (x % 9223372036854775808 == 0) := by
    have := order_eqB x 0 h (by omega)
    rw [show FloatKind.f64.format = Ieee.double from rfl, this]
    unfold eqB nanB
    rw [Bool.eq_iff_iff]; simp; omega
  by_cases hz : x % 9223372036854775808 = 0
  · have hz' : (x % 9223372036854775808 == 0) = true := by simpa using hz
    rw [hz'] at e0 e1
    rw [Bool.not_true, Bool.and_false] at e1
    have ex := wd_of x h
    rw [hz] at ex
    have eo : negB x = decide (9223372036854775808 ≤ x) := by unfold negB nanB; rw [hz]; simp
    rw [eo]
    obtain ⟨s, hs⟩ : ∃ s, s = decide (9223372036854775808 ≤ x) := ⟨_, rfl⟩
    rw [← hs] at ex ⊢
    clear hs eo hz hz'
    subst ex
    have hq : ∀ t w, (binOp .quo t (.float .f64 4607182418800017408) (.float .f64 (wd s 0))).run Tryd.prog w = .ok (.float .f64 (wd s 9218868437227405312)) w := fun t w => run_float_arith w .quo t .f64 _ _ _ (one_by_zero s)
    have el : (FloatKind.f64.format.order (wd s 9218868437227405312) 0 == some .lt) = s := by
      rw [show FloatKind.f64.format = Ieee.double from rfl, order_ltz _ (by unfold wd; cases s <;> simp)]
      cases s <;> decide
    go_enter Tryd.func14, Tryd.ntmps14
    go_wp2
    go_ret
    exact ⟨rfl, rfl⟩
  · have hz' : (x % 9223372036854775808 == 0) = false := by simpa using hz
    rw [hz'] at e0 e1
    rw [Bool.not_false, Bool.and_true] at e1
    obtain ⟨n, hn⟩ : ∃ n, n = negB x := ⟨_, rfl⟩
    rw [← hn] at e1 ⊢
    clear hn hz' hz
    cases n
    all_goals
      go_enter Tryd.func14, Tryd.ntmps14
      go_wp2
      go_ret
      exact ⟨rfl, rfl⟩

theorem refSame_c (x y : Nat) (w : World) (hx : x < 18446744073709551616) (hy : y < 18446744073709551616) :
    Calls Tryd.prog 11 #[.float .f64 x, .float .f64 y] w fun e w' => e = .returned (.bool (sameB x y)) ∧ w = w' := by
  have e0 : (FloatKind.f64.format.order x y == some .eq) = eqB x y := order_eqB x y hx hy
  have e1 : (FloatKind.f64.format.order x x != some .eq) = nanB x := by
    have := order_eqB x x hx hx
    unfold bne
    rw [show FloatKind.f64.format = Ieee.double from rfl, this]; unfold eqB; cases nanB x <;> simp
  have e2 : (FloatKind.f64.format.order y y != some .eq) = nanB y := by
    have := order_eqB y y hy hy
    unfold bne
    rw [show FloatKind.f64.format = Ieee.double from rfl, this]; unfold eqB; cases nanB y <;> simp
  obtain ⟨r, hr⟩ : ∃ r, r = sameB x y := ⟨_, rfl⟩
  have HR := Lib.hid hr
  rw [← hr]
  clear hr
  have HS := Lib.hid (sameB_eq x y hx hy)
  have HT := Lib.hid (show sameB x y = if nanB x || nanB y then nanB x && nanB y else x == y from rfl)
  have c3 := refNegative_c x
  have c4 := refNegative_c y
  obtain ⟨n, hn⟩ : ∃ n, n = nanB x := ⟨_, rfl⟩
  obtain ⟨m, hm⟩ : ∃ m, m = nanB y := ⟨_, rfl⟩
  obtain ⟨a, ha⟩ : ∃ a, a = negB x := ⟨_, rfl⟩
  obtain ⟨b, hb⟩ : ∃ b, b = negB y := ⟨_, rfl⟩
  obtain ⟨q, hq⟩ : ∃ q, q = eqB x y := ⟨_, rfl⟩
  rw [← hn] at e1 HS HT
  rw [← hm] at e2 HS HT
  rw [← ha] at c3 HS
  rw [← hb] at c4 HS
  rw [← hq] at e0 HS
  clear hn hm ha hb hq
  cases n <;> cases m
  · cases q
    all_goals
      go_enter Tryd.func11, Tryd.ntmps11
      go_wp2_with (go_at_call 14; (first | (with_reducible refine (c3 _ hx).mono ?_) | (with_reducible refine (c4 _ hy).mono ?_)); rintro e w' ⟨rfl, rfl⟩)
      go_ret
      refine ⟨?_, rfl⟩
      rw [HR.out, HS.out trivial trivial]; simp
  all_goals
    go_enter Tryd.func11, Tryd.ntmps11
    go_wp2_with (go_at_call 14; (first | (with_reducible refine (c3 _ hx).mono ?_) | (with_reducible refine (c4 _ hy).mono ?_)); rintro e w' ⟨rfl, rfl⟩)
    go_ret
    refine ⟨?_, rfl⟩
    rw [HR.out, HT.out]; rfl
end Go.Proofs.YtlgphmpdenkilaaDoor
