/- Plain facts on tokens: where they end, or go wrong. No condition. -/
import Derived.Test.YtklkgcogaekokaaDoorOc
namespace Go.Proofs.YtklkgcogaekokaaDoor
open Go.RowKit

theorem hexOk_le {s : ByteArray} {i : Nat} (h : hexOk s i = true) : i + 4 ≤ s.size := by
  unfold hexOk at h
  simp only [Bool.and_eq_true, decide_eq_true_eq] at h
  exact h.1.1.1.1
theorem escR_le (s : ByteArray) (i : Nat) (t : ByteArray) (e : Nat) (h : escR s i = some (t, e)) : i < e ∧ e ≤ s.size := by
  unfold escR at h
  split at h
  · cases h
  · split at h
    · simp only [Option.some.injEq, Prod.mk.injEq] at h; omega
    · split at h
      · cases h
      · rename_i h3
        have h4 : hexOk s (i + 2) = true := by
          simp only [Bool.not_eq_true', Bool.not_eq_false] at h3
          rw [Bool.and_eq_true] at h3; exact h3.2
        have h5 := hexOk_le h4
        split at h
        · simp only [Option.some.injEq, Prod.mk.injEq] at h; omega
        · split at h
          · rename_i h6
            simp only [Bool.and_eq_true] at h6
            have h7 := hexOk_le h6.1.1.2
            simp only [Option.some.injEq, Prod.mk.injEq] at h; omega
          · cases h
theorem strF_le (s : ByteArray) : ∀ n a o, a ≤ s.size → a ≤ (strF s n a o).2.1 ∧ (strF s n a o).2.1 ≤ s.size ∧ ((strF s n a o).2.2 = true → a < (strF s n a o).2.1)
  | 0, a, _, h => ⟨Nat.le_refl _, h, fun h => by cases h⟩
  | n + 1, a, o, h => by
    unfold strF
    split
    · rename_i h1
      rw [Bool.and_eq_true, decide_eq_true_eq] at h1
      exact ⟨by show a ≤ a + 1; omega, by show a + 1 ≤ _; omega, fun _ => by show a < a + 1; omega⟩
    · split
      · split
        · exact ⟨Nat.le_refl _, h, fun h => by cases h⟩
        · rename_i t e he
          have hl := escR_le s a t e he
          have ih := strF_le s n e (o ++ t) hl.2
          exact ⟨by omega, ih.2.1, fun _ => by omega⟩
      · split
        · exact ⟨Nat.le_refl _, h, fun h => by cases h⟩
        · rename_i h3
          have hl := nextR_le s a h
          have ih := strF_le s n (a + (nextR s a).2) (o ++ s.extract a (a + (nextR s a).2)) hl.1
          exact ⟨by omega, ih.2.1, fun _ => by omega⟩
theorem rawF_le (s : ByteArray) : ∀ n a o, a ≤ s.size → a ≤ (rawF s n a o).2.1 ∧ (rawF s n a o).2.1 ≤ s.size
  | 0, a, _, h => ⟨Nat.le_refl _, h⟩
  | n + 1, a, o, h => by
    unfold rawF
    split
    · rename_i h1
      have := pfL_le s quotes3.data.toList a h h1
      exact ⟨by show a ≤ a + 3; omega, this⟩
    · split
      · rename_i h1
        have := pfL_le s back3.data.toList a h h1
        have ih := rawF_le s n (a + 4) (o ++ quotes3) this
        exact ⟨by omega, ih.2⟩
      · split
        · exact ⟨Nat.le_refl _, h⟩
        · have hl := nextR_le s a h
          have ih := rawF_le s n (a + (nextR s a).2) (o ++ s.extract a (a + (nextR s a).2)) hl.1
          exact ⟨by omega, ih.2⟩
theorem numR_lt (t : ByteArray) (a : Nat) (hok : (numR t a).2.2 = true) : a < (numR t a).2.1 := by
  have g1 : a ≤ nA1 t a := by unfold nA1; split <;> omega
  have g3 : nA2 t a ≤ nA3 t a := by unfold nA3; split <;> omega
  have g4 : nA3 t a ≤ nA4 t a := by unfold nA4; split <;> omega
  have g5 : nA3 t a ≤ nA5 t a := by unfold nA5; split <;> omega
  unfold numR at hok ⊢
  split at hok
  · cases hok
  · rename_i h2
    have g2 : a < nA2 t a := by
      unfold nF2 at h2
      unfold nA2
      cases hz : nZ t a
      · rw [hz] at h2
        have : dn t (nA1 t a) ≠ 0 := by simpa using h2
        rw [if_neg (by simp)]; omega
      · rw [if_pos rfl]; omega
    rw [if_neg h2]
    split at hok
    · cases hok
    · rename_i h3
      rw [if_neg h3]
      split at hok
      · cases hok
      · rename_i h4
        rw [if_neg h4]
        split at hok
        · rename_i h5
          rw [if_pos h5]; show a < nA5 t a; omega
        · cases hok
theorem isLt_nm {c : Int} (h : isLt c = true) : isNm c = true := by unfold isNm; rw [h]; rfl
/-- a token ends behind its first byte, and in the text; what goes wrong goes wrong there, too -/
theorem oneT_le (s : ByteArray) (i : Nat) (hi : i < s.size) : i ≤ (oneT s i).p ∧ (oneT s i).p ≤ s.size ∧ ((oneT s i).e = 0 → i < (oneT s i).p) := by
  unfold oneT
  split
  · split
    · rename_i h
      have := pfL_le s dots3.data.toList i (by omega) h
      exact ⟨by show i ≤ i + 3; omega, this, fun _ => by show i < i + 3; omega⟩
    · exact ⟨Nat.le_refl _, by show i ≤ _; omega, fun h => by cases h⟩
  · split
    · exact ⟨by show i ≤ i + 1; omega, hi, fun _ => by show i < i + 1; omega⟩
    · split
      · rename_i h
        have h1 := nm_yes s i hi (isLt_nm h)
        have h2 := nm_le s i (by omega)
        exact ⟨by show i ≤ i + nm s i; omega, h2, fun _ => by show i < i + nm s i; omega⟩
      · split
        · have h1 := numR_le s i (by omega)
          unfold numT
          split
          · rename_i hok
            exact ⟨h1.2, h1.1, fun _ => numR_lt s i hok⟩
          · exact ⟨h1.2, h1.1, fun h => by cases h⟩
        · split
          · split
            · rename_i h
              have h3 := pfL_le s quotes3.data.toList i (by omega) h
              have h4 := rawF_le s (s.size - i + 1) (i + 3) ByteArray.empty h3
              have h4 : i + 3 ≤ (rawR s i).2.1 ∧ (rawR s i).2.1 ≤ s.size := h4
              unfold rawT
              split
              · exact ⟨by show i ≤ (rawR s i).2.1; omega, h4.2, fun _ => by show i < (rawR s i).2.1; omega⟩
              · exact ⟨by show i ≤ (rawR s i).2.1; omega, h4.2, fun h => by cases h⟩
            · have h4 := strF_le s (s.size - i + 1) (i + 1) ByteArray.empty hi
              have h4 : i + 1 ≤ (strR s i).2.1 ∧ (strR s i).2.1 ≤ s.size ∧ _ := h4
              unfold strT
              split
              · exact ⟨by show i ≤ (strR s i).2.1; omega, h4.2.1, fun _ => by show i < (strR s i).2.1; omega⟩
              · exact ⟨by show i ≤ (strR s i).2.1; omega, h4.2.1, fun h => by cases h⟩
          · exact ⟨Nat.le_refl _, by show i ≤ _; omega, fun h => by cases h⟩

/-- what the iterator hands on: each token, or why there is none, with its place -/
def stF (s : ByteArray) : Nat → Nat → List (OneT × Nat)
  | 0, _ => []
  | n + 1, a => if a < s.size then (if (oneT s a).e = 0 then (oneT s a, a) :: stF s n (blR s (oneT s a).p) else [(oneT s a, a)]) else []
def stR (s : ByteArray) : List (OneT × Nat) := stF s (s.size + 1) (blR s 0)
theorem stF_end (s : ByteArray) (n a : Nat) (h : s.size ≤ a) : stF s n a = [] := by
  cases n
  · rfl
  · unfold stF; rw [if_neg (by omega)]
theorem stF_fuel (s : ByteArray) : ∀ n m a, s.size ≤ a + n → s.size ≤ a + m → stF s n a = stF s m a
  | 0, m, a, h, _ => by rw [stF_end s m a (by omega)]; rfl
  | n + 1, 0, a, _, h => by rw [stF_end s (n + 1) a (by omega)]; rfl
  | n + 1, m + 1, a, h1, h2 => by
    unfold stF
    by_cases hi : a < s.size
    · rw [if_pos hi, if_pos hi]
      by_cases h0 : (oneT s a).e = 0
      · have hl := oneT_le s a hi
        have hb := blR_le s (oneT s a).p hl.2.1
        have := hl.2.2 h0
        rw [if_pos h0, if_pos h0, stF_fuel s n m _ (by omega) (by omega)]
      · rw [if_neg h0, if_neg h0]
    · rw [if_neg hi, if_neg hi]
def tkOf (x : OneT × Nat) : Tk := ⟨x.1.k, x.1.v, x.2, x.1.p⟩
/-- all the tokens, where none goes wrong -/
theorem lexF_all (s : ByteArray) : ∀ n a l, (∀ y ∈ stF s n a, y.1.e = 0) → s.size < a + n → a ≤ s.size → lexF s n a l = (l ++ (stF s n a).map tkOf, 0, s.size)
  | 0, a, l, _, h, ha => by omega
  | n + 1, a, l, hy, h, ha => by
    unfold stF at hy ⊢; unfold lexF
    by_cases hi : a < s.size
    · rw [if_pos hi] at hy ⊢
      rw [if_pos hi]
      by_cases h0 : (oneT s a).e = 0
      · have hl := oneT_le s a hi
        have hb := blR_le s (oneT s a).p hl.2.1
        have := hl.2.2 h0
        rw [if_pos h0] at hy ⊢
        rw [if_pos h0, lexF_all s n _ _ (fun y hm => hy y (List.mem_cons_of_mem _ hm)) (by omega) (by omega)]
        simp [tkOf]
      · rw [if_neg h0] at hy
        exact absurd (hy (oneT s a, a) (by simp)) h0
    · rw [if_neg hi, if_neg hi]; simp
/-- the first that goes wrong -/
theorem lexF_bad (s : ByteArray) : ∀ n a l (q : List (OneT × Nat)) (x : OneT × Nat), q ++ [x] <+: stF s n a → (∀ y ∈ q, y.1.e = 0) → x.1.e ≠ 0 → lexF s n a l = ([], x.1.e, x.1.p)
  | 0, _, _, q, x, h, _, _ => by
    have := h.length_le
    simp [stF] at this
  | n + 1, a, l, q, x, h, hq, hx => by
    unfold stF at h; unfold lexF
    by_cases hi : a < s.size
    · rw [if_pos hi] at h ⊢
      by_cases h0 : (oneT s a).e = 0
      · rw [if_pos h0] at h ⊢
        cases q with
        | nil =>
          obtain ⟨t, ht⟩ := h
          simp at ht
          rw [ht.1] at hx; exact absurd h0 hx
        | cons y q =>
          obtain ⟨t, ht⟩ := h
          simp at ht
          exact lexF_bad s n _ _ q x ⟨t, by simpa using ht.2⟩ (fun y hy => hq y (List.mem_cons_of_mem _ hy)) hx
      · rw [if_neg h0] at h ⊢
        cases q with
        | nil =>
          obtain ⟨t, ht⟩ := h
          simp at ht
          rw [ht.1]
        | cons y q =>
          have hl := h.length_le
          simp at hl
    · rw [if_neg hi] at h
      have := h.length_le
      simp at this
theorem lexT_all (s : ByteArray) (hm : mayR s = true) (h : ∀ y ∈ stR s, y.1.e = 0) : lexT s = ((stR s).map tkOf, 0, s.size) := by
  unfold lexT
  rw [if_pos hm, lexF_all s _ _ _ h (by omega) (blR_le s 0 (Nat.zero_le _)).2]; rfl
theorem lexT_bad (s : ByteArray) (hm : mayR s = true) (q : List (OneT × Nat)) (x : OneT × Nat) (h : q ++ [x] <+: stR s) (hq : ∀ y ∈ q, y.1.e = 0) (hx : x.1.e ≠ 0) : lexT s = ([], x.1.e, x.1.p) := by
  unfold lexT
  rw [if_pos hm, lexF_bad s _ _ _ q x h hq hx]
end Go.Proofs.YtklkgcogaekokaaDoor
