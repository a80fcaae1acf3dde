/- The walk of RealSorts: it returns true. Conditions: the two floats' bits are below 2^64. -/
import Derived.Test.YtlgphmpdenkilaaDoorLtells
namespace Go.Proofs.YtlgphmpdenkilaaDoor
open Go.RowKit
open Fl

theorem sameB_comm (a b : Nat) : sameB a b = sameB b a := by
  unfold sameB
  have e : (a == b) = (b == a) := by rw [Bool.eq_iff_iff]; simp only [beq_iff_eq]; exact eq_comm
  rw [e]
  cases nanB a <;> cases nanB b <;> rfl
theorem sameB_nan (a b : Nat) (h : nanB a = true) : sameB a b = nanB b := by
  unfold sameB; rw [h]; rfl
theorem negB_neg (a : Nat) (ha : a < 18446744073709551616) (h : nanB a = false) : negB (Op.negFloat .f64 a) = !negB a := by
  have h2 := nanB_neg a ha
  unfold negB
  rw [h2, h]
  have e := wd_of a ha
  obtain ⟨s, hs⟩ : ∃ s, s = decide (9223372036854775808 ≤ a) := ⟨_, rfl⟩
  rw [← hs] at e ⊢
  rw [e, neg_wd _ _ (by omega)]
  have hr : a % 9223372036854775808 < 9223372036854775808 := Nat.mod_lt _ (by omega)
  cases s
  · simp only [wd, Bool.not_false, if_true, Bool.true_and]
    exact decide_eq_true (by omega)
  · simp only [wd, Bool.not_true, Bool.not_false, Bool.false_eq_true, if_false, Bool.true_and]
    exact decide_eq_false (by omega)

set_option maxHeartbeats 400000 in
theorem realSorts_c (a b : Nat) (w : World) (ha : a < 18446744073709551616) (hb : b < 18446744073709551616) :
    Calls Tryd.prog 6 #[.float .f64 a, .float .f64 b] w fun e w' => e = .returned (.bool true) ∧ Below w.heap.size w w' := by
  have e1 : (FloatKind.f64.format.order a a != some .eq) = nanB a := by
    have := order_eqB a a ha ha
    unfold bne
    rw [show FloatKind.f64.format = Ieee.double from rfl, this]; unfold eqB; cases nanB a <;> simp
  have e2 : (FloatKind.f64.format.order b b != some .eq) = nanB b := by
    have := order_eqB b b hb hb
    unfold bne
    rw [show FloatKind.f64.format = Ieee.double from rfl, this]; unfold eqB; cases nanB b <;> simp
  have q1 := fun w => sort_c a w ha
  have m1 := fun w => same_c a a w ha ha
  have m2 := fun w => same_c a b w ha hb
  have m3 := fun w => same_c b a w hb ha
  rw [same_self] at m1
  rw [sameB_comm b a] at m3
  have hna : Op.negFloat .f64 a < 18446744073709551616 := by
    rw [wd_of a ha, neg_wd _ _ (by omega)]; unfold wd; split <;> omega
  have hneg : ∀ (w : World), (Op.unary .neg (.float .f64 a)).run Tryd.prog w = .ok (.float .f64 (Op.negFloat .f64 a)) w := fun _ => rfl
  have p1 := fun w => negative_c a w ha
  have p2 := fun w => negative_c (Op.negFloat .f64 a) w hna
  obtain ⟨na, hnaa⟩ : ∃ na, na = Op.negFloat .f64 a := ⟨_, rfl⟩
  rw [← hnaa] at hneg p2
  have hs : sortN a = if nanB a then 0 else if a % 9223372036854775808 = 9218868437227405312 then 1 else if a % 9223372036854775808 = 0 then 2 else 3 := rfl
  obtain ⟨k, hk⟩ : ∃ k, k = sortN a := ⟨_, rfl⟩
  rw [← hk] at q1 hs
  have e3 : (FloatKind.f64.format.order a 0 == some .eq) = (a % 9223372036854775808 == 0) := by
    have := order_eqB a 0 ha (by omega)
    rw [show FloatKind.f64.format = Ieee.double from rfl, this]
    unfold eqB nanB
    rw [Bool.eq_iff_iff]; simp; omega
  have e4 : (FloatKind.f64.format.order a 0 != some .eq) = !(a % 9223372036854775808 == 0) := by unfold bne; rw [e3]
  clear hk
  by_cases n1 : nanB a = true
  · have m4 := sameB_nan a b n1
    rw [m4] at m2 m3
    rw [n1, if_pos rfl] at hs
    subst hs
    rw [n1] at e1
    obtain ⟨nb, hnb⟩ : ∃ nb, nb = nanB b := ⟨_, rfl⟩
    rw [← hnb] at e2 m2 m3
    clear hnb m4 n1 e3 e4 hna hnaa p1 p2 hneg
    cases nb
    all_goals
     go_enter Tryd.func6, Tryd.ntmps6
     go_upto_region 4 with (first | (go_at_call 10; refine (awake_c _).mono ?_; rintro e w' ⟨rfl, hbl⟩) | (go_at_call 16; refine (q1 _).mono ?_; rintro e w' ⟨rfl, rfl⟩))
     dsimp only [List.append]
     go_wp2_with (first | (go_at_call 15; (first | (with_reducible refine (m1 _).mono ?_) | (with_reducible refine (m2 _).mono ?_) | (with_reducible refine (m3 _).mono ?_)); rintro e w' ⟨rfl, rfl⟩) | (go_at_call 16; refine (q1 _).mono ?_; rintro e w' ⟨rfl, rfl⟩))
     go_ret
     exact ⟨rfl, by repeat (first | assumption | refine bl (by assumption) ?_)⟩
  · have n2 : nanB a = false := by simpa using n1
    have hng := negB_neg a ha n2
    rw [← hnaa] at hng
    rw [hng] at p2
    rw [n2] at e1 hs
    rw [if_neg (by simp)] at hs
    obtain ⟨r, hr⟩ : ∃ r, r = sameB a b := ⟨_, rfl⟩
    rw [← hr] at m2 m3
    obtain ⟨g, hg⟩ : ∃ g, g = negB a := ⟨_, rfl⟩
    rw [← hg] at p1 p2
    clear hr hg hng n1 hnaa hna
    have hrr : (r == r) = true := beq_self_eq_true r
    by_cases i1 : a % 9223372036854775808 = 9218868437227405312
    · rw [if_pos i1] at hs
      subst hs
      have hz : (a % 9223372036854775808 == 0) = false := by rw [i1]; rfl
      rw [hz] at e3 e4
      have hx := wd_of a ha
      rw [i1] at hx
      have hadd : ∀ t w, (binOp .add t (.float .f64 a) (.float .f64 a)).run Tryd.prog w = .ok (.float .f64 a) w := fun t w => run_float_arith w .add t .f64 _ _ _ (by rw [hx]; exact add_inf _)
      have e5 : (FloatKind.f64.format.order a a == some .eq) = true := by
        unfold bne at e1; simpa using e1
      clear hx hz i1 n2 e2
      go_enter Tryd.func6, Tryd.ntmps6
      go_upto_region 4 with (first | (go_at_call 10; refine (awake_c _).mono ?_; rintro e w' ⟨rfl, hbl⟩) | (go_at_call 16; refine (q1 _).mono ?_; rintro e w' ⟨rfl, rfl⟩))
      dsimp only [List.append]
      go_wp2_with (first | (go_at_call 15; (first | (with_reducible refine (m1 _).mono ?_) | (with_reducible refine (m2 _).mono ?_) | (with_reducible refine (m3 _).mono ?_)); rintro e w' ⟨rfl, rfl⟩) | (go_at_call 18; (first | (with_reducible refine (p1 _).mono ?_) | (with_reducible refine (p2 _).mono ?_)); rintro e w' ⟨rfl, rfl⟩))
      go_ret
      exact ⟨by simp, by repeat (first | assumption | refine bl (by assumption) ?_)⟩
    · rw [if_neg i1] at hs
      by_cases z1 : a % 9223372036854775808 = 0
      · rw [if_pos z1] at hs
        subst hs
        have hz : (a % 9223372036854775808 == 0) = true := by rw [z1]; rfl
        rw [hz] at e3
        clear hz z1 i1 n2 e2 e4
        go_enter Tryd.func6, Tryd.ntmps6
        go_upto_region 4 with (first | (go_at_call 10; refine (awake_c _).mono ?_; rintro e w' ⟨rfl, hbl⟩) | (go_at_call 16; refine (q1 _).mono ?_; rintro e w' ⟨rfl, rfl⟩))
        dsimp only [List.append]
        go_wp2_with (first | (go_at_call 15; (first | (with_reducible refine (m1 _).mono ?_) | (with_reducible refine (m2 _).mono ?_) | (with_reducible refine (m3 _).mono ?_)); rintro e w' ⟨rfl, rfl⟩) | (go_at_call 18; (first | (with_reducible refine (p1 _).mono ?_) | (with_reducible refine (p2 _).mono ?_)); rintro e w' ⟨rfl, rfl⟩))
        go_ret
        exact ⟨by simp, by repeat (first | assumption | refine bl (by assumption) ?_)⟩
      · rw [if_neg z1] at hs
        subst hs
        clear e3 z1 i1 n2 e2 e4
        go_enter Tryd.func6, Tryd.ntmps6
        go_upto_region 4 with (first | (go_at_call 10; refine (awake_c _).mono ?_; rintro e w' ⟨rfl, hbl⟩) | (go_at_call 16; refine (q1 _).mono ?_; rintro e w' ⟨rfl, rfl⟩))
        dsimp only [List.append]
        go_wp2_with (first | (go_at_call 15; (first | (with_reducible refine (m1 _).mono ?_) | (with_reducible refine (m2 _).mono ?_) | (with_reducible refine (m3 _).mono ?_)); rintro e w' ⟨rfl, rfl⟩) | (go_at_call 18; (first | (with_reducible refine (p1 _).mono ?_) | (with_reducible refine (p2 _).mono ?_)); rintro e w' ⟨rfl, rfl⟩))
        go_ret
        exact ⟨by simp, by repeat (first | assumption | refine bl (by assumption) ?_)⟩
end Go.Proofs.YtlgphmpdenkilaaDoor
