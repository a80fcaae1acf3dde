/- The walk of RealTells: it returns true. Conditions: the two floats' bits are below 2^64, the text is no longer than a string that comes in can be. -/
import Derived.Test.YtlgphmpdenkilaaDoorRa
namespace Go.Proofs.YtlgphmpdenkilaaDoor
open Go.RowKit
open Fl

theorem same_self (x : Nat) : sameB x x = true := by
  unfold sameB; cases nanB x <;> simp
theorem same_nan (x y : Nat) (h1 : nanB x = true) (h2 : nanB y = true) : sameB x y = true := by
  unfold sameB; rw [h1, h2]; rfl
theorem refOk_same (s : ByteArray) (b : Nat) (h : RefOk s b) : sameB (realV s) b = true := by
  unfold RefOk at h
  unfold realV
  cases hr : realR (if firstIs 45 s then s.extract 1 s.size else s) with
  | none =>
    rw [hr] at h
    exact same_nan _ _ (show nanB 9221120237041090561 = true by decide) h.1
  | some r =>
    rw [hr] at h
    dsimp only at h
    rw [h]
    exact same_self _
theorem refOk_lt (s : ByteArray) (b : Nat) (h : RefOk s b) : b < 18446744073709551616 := by
  unfold RefOk at h
  cases hr : realR (if firstIs 45 s then s.extract 1 s.size else s) with
  | none => rw [hr] at h; exact h.2
  | some r =>
    rw [hr] at h
    dsimp only at h
    have := realR_le _ _ hr
    rw [h]; unfold wd; split <;> omega
theorem realV_lt (s : ByteArray) : realV s < 18446744073709551616 := by
  unfold realV
  cases hr : realR (if firstIs 45 s then s.extract 1 s.size else s) with
  | none => simp [bitsR]
  | some r =>
    have := realR_le _ _ hr
    simp only [bitsR]
    unfold wd; split <;> omega

set_option maxHeartbeats 1600000 in
theorem realTells_c (s : ByteArray) (a b : Nat) (w : World) (hs : s.size ≤ 140737488351232) (ha : a < 18446744073709551616) (hb : b < 18446744073709551616) :
    Calls Tryd.prog 3 #[.string s, .float .f64 a, .float .f64 b] w fun e w' => e = .returned (.bool true) ∧ Below w.heap.size w w' := by
  by_cases h600 : 600 < s.size
  · go_enter Tryd.func3, Tryd.ntmps3
    go_wp2_with (go_at_call 10; refine (awake_c _).mono ?_; rintro e w' ⟨rfl, hbl⟩)
    go_ret
    exact ⟨rfl, by assumption⟩
  · have h6 : s.size ≤ 600 := by omega
    have k1 := fun w => real_c s w hs
    have hv := realV_lt s
    have HRS := Lib.hid (refOk_same s)
    have HRL := Lib.hid (refOk_lt s)
    obtain ⟨v, hvv⟩ : ∃ v, v = realV s := ⟨_, rfl⟩
    rw [← hvv] at k1 hv HRS
    have k2 := fun w => refReal_c s w hs
    have m1 := fun w => refSame_c a b w ha hb
    have m2 := fun w => same_c a b w ha hb
    have p1 := fun w => refNegative_c a w ha
    have p2 := fun w => negative_c a w ha
    have q1 := fun w => sort_c a w ha
    have q2 := fun w => refSort_c a w ha
    clear hvv h600
    go_enter Tryd.func3, Tryd.ntmps3
    go_wp2_with (first | (go_at_call 10; refine (awake_c _).mono ?_; rintro e w' ⟨rfl, hbl⟩) | (go_at_call 12; refine (k1 _).mono ?_; rintro e w' ⟨rfl, hbl⟩) | (go_at_call 13; refine (k2 _).mono ?_; rintro e w' ⟨⟨y, rfl, hok⟩, hbl⟩; have hyl := HRL.out _ hok; have hys := HRS.out _ hok; have m3 := fun w => refSame_c v y w hv hyl; rw [hys] at m3; clear hys hok) | (go_at_call 11; (first | (with_reducible refine (m1 _).mono ?_) | (with_reducible refine (m3 _).mono ?_)); rintro e w' ⟨rfl, rfl⟩) | (go_at_call 14; refine (p1 _).mono ?_; rintro e w' ⟨rfl, rfl⟩) | (go_at_call 15; refine (m2 _).mono ?_; rintro e w' ⟨rfl, rfl⟩) | (go_at_call 16; refine (q1 _).mono ?_; rintro e w' ⟨rfl, rfl⟩) | (go_at_call 17; refine (q2 _).mono ?_; rintro e w' ⟨rfl, rfl⟩) | (go_at_call 18; refine (p2 _).mono ?_; rintro e w' ⟨rfl, rfl⟩))
    go_ret
    exact ⟨rfl, by repeat (first | assumption | refine bl (by assumption) ?_)⟩
end Go.Proofs.YtlgphmpdenkilaaDoor
