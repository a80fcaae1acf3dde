/- Plain facts: what it says of a text that it is a number: where its digits end, and of what kind it is. No condition. -/
import Derived.Test.YtlgphmpdenkilaaDoorNn
namespace Go.Proofs.YtlgphmpdenkilaaDoor
open Go.RowKit

theorem hasB_one {c : Int} {t : ByteArray} {a : Nat} (h : hasB [c] t a = true) : a < t.size ∧ bt t a = c := by
  unfold hasB at h
  rw [Bool.and_eq_true, decide_eq_true_eq, List.contains_iff_mem, List.mem_singleton] at h; exact h
theorem hasB_no {c : Int} {t : ByteArray} {a : Nat} (h : hasB [c] t a = false) (ha : a < t.size) : bt t a ≠ c := by
  intro hc
  have : hasB [c] t a = true := by
    unfold hasB
    rw [Bool.and_eq_true, decide_eq_true_eq, List.contains_iff_mem, List.mem_singleton]; exact ⟨ha, hc⟩
  rw [this] at h; cases h
theorem hasB_two {c d : Int} {t : ByteArray} {a : Nat} (h : hasB [c, d] t a = true) : a < t.size ∧ (bt t a = c ∨ bt t a = d) := by
  unfold hasB at h
  rw [Bool.and_eq_true, decide_eq_true_eq, List.contains_iff_mem] at h; simpa using h

/-- a text that is a number, from its first byte to its last -/
structure NumP (s : ByteArray) (i : Nat) (k : Int) : Prop where
  lt : i < s.size
  pos : 0 < dn s i
  kind : (k = 3 ∧ i + dn s i = s.size) ∨ (k = 4 ∧ i + dn s i < s.size)
  zero : bt s i = 48 → dn s i = 1

theorem num_plain (s : ByteArray) (hn : (numR s 0).2.2 = true) (he : (numR s 0).2.1 = s.size) : NumP s (nA1 s 0) (numR s 0).1 := by
  unfold numR at hn he ⊢
  by_cases h2 : nF2 s 0 = true
  · rw [if_pos h2] at hn; cases hn
  · by_cases h3 : nF3 s 0 = true
    · rw [if_neg h2, if_pos h3] at hn; cases hn
    · by_cases h4 : nF4 s 0 = true
      · rw [if_neg h2, if_neg h3, if_pos h4] at hn; cases hn
      · by_cases h5 : nStop s 0 = true
        · rw [if_neg h2, if_neg h3, if_neg h4, if_pos h5] at hn he ⊢
          have he : nA5 s 0 = s.size := he
          show NumP s (nA1 s 0) (if nD s 0 || nE s 0 then 4 else 3)
          have f2 : nF2 s 0 = false := by simpa using h2
          have l2 := nA2_le s 0 (Nat.zero_le _)
          -- behind the digits no digit stands
          have hno : dn s (nA2 s 0) = 0 := by
            by_cases hd : nD s 0 = true
            · have := hasB_one hd
              exact dn_no s _ (by rw [this.2]; decide)
            · have e3 : nA3 s 0 = nA2 s 0 := by unfold nA3; rw [if_neg hd]
              by_cases hx : nE s 0 = true
              · have hx' := hx
                unfold nE at hx'
                rw [e3] at hx'
                have := hasB_two hx'
                exact dn_no s _ (by rcases this.2 with h | h <;> rw [h] <;> decide)
              · have e5 : nA5 s 0 = nA3 s 0 := by unfold nA5; rw [if_neg hx]
                exact dn_end s _ (by omega)
          have hA2 : nA2 s 0 = nA1 s 0 + dn s (nA1 s 0) ∧ nA1 s 0 < s.size ∧ 0 < dn s (nA1 s 0) ∧ (bt s (nA1 s 0 : Nat) = 48 → dn s (nA1 s 0) = 1) := by
            by_cases hz : nZ s 0 = true
            · have hb := hasB_one hz
              have e2 : nA2 s 0 = nA1 s 0 + 1 := by unfold nA2; rw [if_pos hz]
              have hy := dn_yes s (nA1 s 0) hb.1 (by rw [hb.2]; decide)
              rw [e2] at hno
              exact ⟨by omega, hb.1, by omega, fun _ => by omega⟩
            · have e2 : nA2 s 0 = nA1 s 0 + dn s (nA1 s 0) := by unfold nA2; rw [if_neg hz]
              have hz' : nZ s 0 = false := by simpa using hz
              unfold nF2 at f2
              rw [hz'] at f2
              have hd0 : dn s (nA1 s 0) ≠ 0 := by simpa using f2
              have hlt : nA1 s 0 < s.size := by
                by_cases h : nA1 s 0 < s.size
                · exact h
                · exact absurd (dn_end s _ (by omega)) hd0
              exact ⟨e2, hlt, by omega, fun h => absurd h (hasB_no hz' hlt)⟩
          refine ⟨hA2.2.1, hA2.2.2.1, ?_, hA2.2.2.2⟩
          by_cases hd : nD s 0 = true
          · have := hasB_one hd
            rw [hd]
            exact .inr ⟨rfl, by omega⟩
          · have e3 : nA3 s 0 = nA2 s 0 := by unfold nA3; rw [if_neg hd]
            have hd' : nD s 0 = false := by simpa using hd
            by_cases hx : nE s 0 = true
            · have hx' := hx
              unfold nE at hx'
              rw [e3] at hx'
              have := hasB_two hx'
              rw [hd', hx]
              exact .inr ⟨rfl, by omega⟩
            · have e5 : nA5 s 0 = nA3 s 0 := by unfold nA5; rw [if_neg hx]
              have hx' : nE s 0 = false := by simpa using hx
              rw [hd', hx']
              exact .inl ⟨rfl, by omega⟩
        · rw [if_neg h2, if_neg h3, if_neg h4, if_neg h5] at hn; cases hn
end Go.Proofs.YtlgphmpdenkilaaDoor
