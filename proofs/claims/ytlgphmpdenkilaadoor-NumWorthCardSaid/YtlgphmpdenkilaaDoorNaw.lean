/- The walks of num.Whole and of chapter 5's awake. Condition of the first: the text is no longer than a string that comes in can be. -/
import Derived.Test.YtlgphmpdenkilaaDoorNv
import Derived.Test.YtlgphmpdenkilaaDoorRa
namespace Go.Proofs.YtlgphmpdenkilaaDoor
open Go.RowKit
/-- is a text a number? -/
def wholeR (s : ByteArray) : Bool := (numI s 0).2.2 && (numI s 0).2.1 == s.size
theorem whole_c (s : ByteArray) (w : World) (hs : s.size ≤ 140737488351232) : Calls Tryd.prog 20 #[.string s] w fun e w' => e = .returned (.bool (wholeR s)) ∧ Below w.heap.size w w' := by
  have k := fun w => number_c s 0 w hs
  have hw : wholeR s = ((numI s 0).2.2 && (numI s 0).2.1 == s.size) := rfl
  obtain ⟨x, hx⟩ : ∃ x, x = (numI s 0).1 := ⟨_, rfl⟩
  obtain ⟨y, hy⟩ : ∃ y, y = (numI s 0).2.1 := ⟨_, rfl⟩
  obtain ⟨z, hz⟩ : ∃ z, z = (numI s 0).2.2 := ⟨_, rfl⟩
  rw [← hx, ← hy, ← hz] at k
  rw [← hy, ← hz] at hw
  rw [hw]
  clear hx hy hz hw
  cases z
  · go_enter Tryd.func20, Tryd.ntmps20
    go_wp2_with (go_at_call 21; with_reducible refine (k _).mono ?_; rintro e w' ⟨rfl, hb⟩)
    go_ret
    exact ⟨rfl, by assumption⟩
  · obtain ⟨b, hb⟩ : ∃ b, b = (y == (s.size : Int)) := ⟨_, rfl⟩
    have hb1 : (y == (s.size : Int)) = b := hb.symm
    rw [hb1]
    clear hb
    go_enter Tryd.func20, Tryd.ntmps20
    go_wp2_with (go_at_call 21; with_reducible refine (k _).mono ?_; rintro e w' ⟨rfl, hb⟩)
    go_ret
    exact ⟨rfl, by assumption⟩

theorem n_1 : numI ⟨#[45, 49, 50, 46, 53, 101, 51]⟩ 0 = (4, 7, true) := by decide +kernel
theorem n_2 : numI ⟨#[48, 49]⟩ 0 = (0, 1, false) := by decide +kernel
theorem n_3 : numI ⟨#[49, 46]⟩ 0 = (0, 2, false) := by decide +kernel
theorem n_4 : numI ⟨#[49, 97]⟩ 0 = (0, 1, false) := by decide +kernel
theorem n_5 : wholeR ⟨#[48]⟩ = true := by decide +kernel
theorem n_6 : wholeR ⟨#[48, 32]⟩ = false := by decide +kernel

set_option maxHeartbeats 800000 in
theorem awake5_c (w : World) : Calls Tryd.prog 19 #[] w fun e w' => e = .returned (.bool true) ∧ Below w.heap.size w w' := by
  have k1 := fun w => number_c ⟨#[45, 49, 50, 46, 53, 101, 51]⟩ 0 w (by decide)
  have k2 := fun w => number_c ⟨#[48, 49]⟩ 0 w (by decide)
  have k3 := fun w => number_c ⟨#[49, 46]⟩ 0 w (by decide)
  have k4 := fun w => number_c ⟨#[49, 97]⟩ 0 w (by decide)
  have k5 := fun w => whole_c ⟨#[48]⟩ w (by decide)
  have k6 := fun w => whole_c ⟨#[48, 32]⟩ w (by decide)
  rw [n_1] at k1
  rw [n_2] at k2
  rw [n_3] at k3
  rw [n_4] at k4
  rw [n_5] at k5
  rw [n_6] at k6
  go_enter Tryd.func19, Tryd.ntmps19
  go_wp2_with (first | (go_at_call 21; (first | (with_reducible refine (k1 _).mono ?_) | (with_reducible refine (k2 _).mono ?_) | (with_reducible refine (k3 _).mono ?_) | (with_reducible refine (k4 _).mono ?_)); rintro e w' ⟨rfl, hb⟩) | (go_at_call 20; (first | (with_reducible refine (k5 _).mono ?_) | (with_reducible refine (k6 _).mono ?_)); rintro e w' ⟨rfl, hb⟩))
  go_ret
  exact ⟨rfl, by repeat (first | assumption | refine bl (by assumption) ?_)⟩
end Go.Proofs.YtlgphmpdenkilaaDoor
