/- The walk of num.Number at any place. Condition: the text is no longer than a string that comes in can be. -/
import Derived.Test.YtklkgcogaekokaaDoorNw
namespace Go.Proofs.YtklkgcogaekokaaDoor
open Go.RowKit
set_option maxHeartbeats 400000 in
theorem number_out (t : ByteArray) (i : Int) (w : World) (h : i < 0 ∨ (t.size : Int) ≤ i) : Calls Tryd.prog 21 #[.string t, .int .i64 i] w fun e w' =>
    e = .returned (.tuple #[.int .i64 0, .int .i64 i, .bool false]) ∧ Below w.heap.size w w' := by
  obtain ⟨Post, hPost⟩ : ∃ Post : Ending → World → Prop, Post = (fun e w' => e = .returned (.tuple #[.int .i64 0, .int .i64 i, .bool false]) ∧ Below w.heap.size w w') := ⟨_, rfl⟩
  rw [← hPost]
  have HPO := Lib.hid hPost
  clear hPost
  by_cases h1 : i < 0
  · have t1 : decide (i < 0) = true := decide_eq_true h1
    clear h h1
    go_enter Tryd.func21, Tryd.ntmps21
    go_wp2
    apply wp_scope_out 0
    case hf => rfl
    go_wp2
    show bodyPost Tryd.prog Tryd.f21 Post Exit.ret _ _
    go_ret3
    rw [HPO.out]
    exact ⟨rfl, (Below.refl _ w).alloc (Nat.le_refl _) _⟩
  · have t1 : decide (i < 0) = false := decide_eq_false h1
    have t2 : decide ((t.size : Int) ≤ i) = true := decide_eq_true (by omega)
    clear h h1
    go_enter Tryd.func21, Tryd.ntmps21
    go_wp2
    apply wp_scope_out 0
    case hf => rfl
    go_wp2
    show bodyPost Tryd.prog Tryd.f21 Post Exit.ret _ _
    go_ret3
    rw [HPO.out]
    exact ⟨rfl, (Below.refl _ w).alloc (Nat.le_refl _) _⟩
/-- num.Number at any place -/
def numI (t : ByteArray) (i : Int) : Int × Int × Bool := if i < 0 ∨ (t.size : Int) ≤ i then (0, i, false) else ((numR t i.toNat).1, ((numR t i.toNat).2.1 : Int), (numR t i.toNat).2.2)
theorem number_c (t : ByteArray) (i : Int) (w : World) (hs : t.size ≤ 140737488351232) : Calls Tryd.prog 21 #[.string t, .int .i64 i] w fun e w' =>
    e = .returned (.tuple #[.int .i64 (numI t i).1, .int .i64 (numI t i).2.1, .bool (numI t i).2.2]) ∧ Below w.heap.size w w' := by
  unfold numI
  by_cases h : i < 0 ∨ (t.size : Int) ≤ i
  · rw [if_pos h]; exact number_out t i w h
  · rw [if_neg h]
    obtain ⟨a, rfl⟩ : ∃ a : Nat, i = a := ⟨i.toNat, by omega⟩
    exact number_in t a w hs (by omega)
end Go.Proofs.YtklkgcogaekokaaDoor
