/- Plain facts: what a text that is a number is worth: of which sort, and with which sign. No condition. -/
import Derived.Test.YtlgphmpdenkilaaDoorNp
import Derived.Test.YtlgphmpdenkilaaDoorNaw
import Derived.Test.YtlgphmpdenkilaaDoorWh
namespace Go.Proofs.YtlgphmpdenkilaaDoor
open Go.RowKit
open Fl

theorem sort_sign (s : ByteArray) (h : sortN (realV s) ≠ 0) : negB (realV s) = firstIs 45 s := by
  unfold realV at h ⊢
  cases hr : realR (if firstIs 45 s then s.extract 1 s.size else s) with
  | none => rw [hr] at h; exact absurd (show sortN 9221120237041090561 = 0 by decide) h
  | some r => exact (sortN_wd _ r (realR_le _ r hr)).2.2
theorem sort_fin (m : Bool) (r : Nat) (h : r < 9218868437227405312) : 2 ≤ sortN (wd m r) := by
  have hn : nanB (wd m r) = false := by rw [nanB_wd _ _ (by omega)]; exact decide_eq_false (by omega)
  have e : wd m r % 9223372036854775808 = r := by
    cases m
    · show r % 9223372036854775808 = r; omega
    · show (9223372036854775808 + r) % 9223372036854775808 = r; omega
  unfold sortN
  rw [hn, if_neg (by simp), e, if_neg (by omega)]
  split <;> omega
/-- at most 15 digits, behind a minus or not -/
theorem sort_short (s t : ByteArray) (ht : t = if firstIs 45 s then s.extract 1 s.size else s) (hd : AllD t) (h0 : 0 < t.size) (h1 : t.size ≤ 15) : 2 ≤ sortN (realV s) := by
  have h := head_plain t ByteArray.empty hd h0 dn_empty (at_empty _)
  rw [sh_empty] at h
  have hr := realR_bare t t.size 0 t h rfl
  have hv := val_down t hd h1 0 (wv t t.size) (by omega) (by rw [Nat.pow_zero, Nat.mul_one])
  rw [hv] at hr
  have hl := wv_lt t t.size (fun j hj => hd j hj)
  have h2 := ten_le t.size h1
  unfold realV
  rw [← ht, hr]
  exact sort_fin _ _ (rung_lt _ (by omega))
theorem first_hasB (s : ByteArray) : hasB [45] s 0 = firstIs 45 s := by
  unfold hasB firstIs
  by_cases h : bt s ((0 : Nat) : Int) = 45
  · rw [List.contains_iff_mem.2 (by rw [h]; simp), show (bt s 0 == 45) = true from beq_iff_eq.2 h]
  · rw [show ([45] : List Int).contains (bt s ((0 : Nat) : Int)) = false from by simpa using h, show (bt s 0 == 45) = false from beq_eq_false_iff_ne.2 h]
theorem digits_all (s : ByteArray) (i : Nat) (h : i + dn s i = s.size) : AllD (s.extract i s.size) := by
  intro j hj
  rw [ex_size] at hj
  rw [bt_extract s i s.size j (by omega) (Nat.le_refl _)]
  exact dn_digit s i j (by omega)
/-- what NumWorth asks of a text that is a number -/
theorem worth_plain (s : ByteArray) (h : wholeR s = true) : ∃ (i : Nat) (k : Int), numI s 0 = (k, (s.size : Int), true) ∧ NumP s i k ∧ ((i = 0 ∧ firstIs 45 s = false) ∨ (i = 1 ∧ firstIs 45 s = true)) ∧
    (k = 3 → s.size - i ≤ 15 → 2 ≤ sortN (realV s)) := by
  unfold wholeR at h
  rw [Bool.and_eq_true] at h
  obtain ⟨h1, h2⟩ := h
  have h2 := beq_iff_eq.1 h2
  unfold numI at h1 h2
  by_cases hc : (0 : Int) < 0 ∨ (s.size : Int) ≤ 0
  · rw [if_pos hc] at h1; cases h1
  · rw [if_neg hc] at h1 h2
    have h1 : (numR s 0).2.2 = true := h1
    have h2 : (((numR s 0).2.1 : Nat) : Int) = s.size := h2
    have P := num_plain s h1 (by omega)
    have hi : nA1 s 0 = if firstIs 45 s then 1 else 0 := by unfold nA1; rw [first_hasB]
    refine ⟨nA1 s 0, (numR s 0).1, ?_, P, ?_, ?_⟩
    · unfold numI; rw [if_neg hc, show (0 : Int).toNat = 0 from rfl, h1, h2]
    · rw [hi]; cases firstIs 45 s
      · exact .inl ⟨rfl, rfl⟩
      · exact .inr ⟨rfl, rfl⟩
    · intro hk hl
      have hkind := P.kind
      have hpos := P.pos
      have hlt := P.lt
      have he : nA1 s 0 + dn s (nA1 s 0) = s.size := by rcases hkind with h | h
                                                        · exact h.2
                                                        · omega
      have hd := digits_all s _ he
      refine sort_short s (s.extract (nA1 s 0) s.size) ?_ hd (by rw [ex_size]; omega) (by rw [ex_size]; omega)
      rw [hi]
      cases firstIs 45 s
      · exact ex_all s
      · rfl
end Go.Proofs.YtlgphmpdenkilaaDoor
