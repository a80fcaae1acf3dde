/- The walk of chapter 3's awake: the chapter's examples are as it says. No condition. -/
import Derived.Test.YtlgphmpdenkilaaDoorRs
namespace Go.Proofs.YtlgphmpdenkilaaDoor
open Go.RowKit
open Fl

theorem bl {w w1 w2 : World} (a : Below w.heap.size w w1) (b : Below w1.heap.size w1 w2) : Below w.heap.size w w2 := a.trans (b.mono a.size)

theorem v_z : realV ⟨#[45, 48]⟩ = 9223372036854775808 := by decide +kernel
theorem v_i : realV ⟨#[49, 101, 57, 57, 57]⟩ = 9218868437227405312 := by decide +kernel
theorem v_n : realV ⟨#[49, 50, 51, 52, 53, 54, 55, 56, 57, 48, 49, 50, 51, 52, 53, 54, 55]⟩ = 9221120237041090561 := by decide +kernel
theorem v_f : realV ⟨#[49, 46, 53, 101, 49]⟩ = 4624633867356078080 := by decide +kernel

set_option maxHeartbeats 800000 in
theorem awake_c (w : World) :
    Calls Tryd.prog 10 #[] w fun e w' => e = .returned (.bool true) ∧ Below w.heap.size w w' := by
  have k1 := fun w => real_c ⟨#[45, 48]⟩ w (by decide)
  have k2 := fun w => real_c ⟨#[49, 101, 57, 57, 57]⟩ w (by decide)
  have k3 := fun w => real_c ⟨#[49, 50, 51, 52, 53, 54, 55, 56, 57, 48, 49, 50, 51, 52, 53, 54, 55]⟩ w (by decide)
  have k4 := fun w => real_c ⟨#[49, 46, 53, 101, 49]⟩ w (by decide)
  rw [v_z] at k1
  rw [v_i] at k2
  rw [v_n] at k3
  rw [v_f] at k4
  have n1 := fun w => negative_c 9223372036854775808 w (by omega)
  have n2 := fun w => negative_c 9218868437227405312 w (by omega)
  rw [show negB 9223372036854775808 = true by decide] at n1
  rw [show negB 9218868437227405312 = false by decide] at n2
  have s2 := fun w => sort_c 9218868437227405312 w (by omega)
  have s3 := fun w => sort_c 9221120237041090561 w (by omega)
  rw [show sortN 9218868437227405312 = 1 by decide] at s2
  rw [show sortN 9221120237041090561 = 0 by decide] at s3
  have m1 := fun w => same_c 9221120237041090561 9221120237041090561 w (by omega) (by omega)
  have m2 := fun w => same_c 9223372036854775808 0 w (by omega) (by omega)
  rw [show sameB 9221120237041090561 9221120237041090561 = true by decide] at m1
  rw [show sameB 9223372036854775808 0 = false by decide] at m2
  have o1 : (FloatKind.f64.format.order 4624633867356078080 4624633867356078080 == some .eq) = true := by decide +kernel
  have o2 : (FloatKind.f64.format.order 9223372036854775808 0 == some .eq) = true := by decide +kernel
  go_enter Tryd.func10, Tryd.ntmps10
  go_wp2_with (first | (go_at_call 12; (first | (with_reducible refine (k1 _).mono ?_) | (with_reducible refine (k2 _).mono ?_) | (with_reducible refine (k3 _).mono ?_) | (with_reducible refine (k4 _).mono ?_)); rintro e w' ⟨rfl, hb⟩) | (go_at_call 18; (first | (with_reducible refine (n1 _).mono ?_) | (with_reducible refine (n2 _).mono ?_)); rintro e w' ⟨rfl, rfl⟩) | (go_at_call 16; (first | (with_reducible refine (s2 _).mono ?_) | (with_reducible refine (s3 _).mono ?_)); rintro e w' ⟨rfl, rfl⟩) | (go_at_call 15; (first | (with_reducible refine (m1 _).mono ?_) | (with_reducible refine (m2 _).mono ?_)); rintro e w' ⟨rfl, rfl⟩))
  go_ret
  exact ⟨rfl, by repeat (first | assumption | refine bl (by assumption) ?_)⟩
end Go.Proofs.YtlgphmpdenkilaaDoor
