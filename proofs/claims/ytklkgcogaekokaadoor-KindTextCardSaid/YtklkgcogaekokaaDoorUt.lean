/- Plain facts on the characters of a text: what the model decodes at a place, and its bytes. No condition. -/
import Derived.Test.YtklkgcogaekokaaDoorBt
import Derived.Lib.MapLaws
import Derived.Laws.Runes
import Derived.Laws.RangeAny
namespace Go.Proofs.YtklkgcogaekokaaDoor
open Go.RowKit

theorem get_in (s : ByteArray) (i : Nat) (h : i < s.size) : s.get! i = s[i] := by
  have := get_at s i h
  exact this
theorem ex1 (s : ByteArray) (i : Nat) (h : i + 1 ≤ s.size) : s.extract i (i + 1) = ⟨#[s.get! i]⟩ := by
  refine ba_ext (by rw [ex_size]; show min (i + 1) s.size - i = 1; omega) (fun j h1 h2 => ?_)
  have h2 : j < 1 := h2
  obtain rfl : j = 0 := by omega
  rw [ex_get, get_in s i (by omega)]; rfl
theorem ex2 (s : ByteArray) (i : Nat) (h : i + 2 ≤ s.size) : s.extract i (i + 2) = ⟨#[s.get! i, s.get! (i + 1)]⟩ := by
  refine ba_ext (by rw [ex_size]; show min (i + 2) s.size - i = 2; omega) (fun j h1 h2 => ?_)
  have h2 : j < 2 := h2
  rw [ex_get, get_in s i (by omega), get_in s (i + 1) (by omega)]
  have : j = 0 ∨ j = 1 := by omega
  rcases this with rfl | rfl <;> rfl
theorem ex3 (s : ByteArray) (i : Nat) (h : i + 3 ≤ s.size) : s.extract i (i + 3) = ⟨#[s.get! i, s.get! (i + 1), s.get! (i + 2)]⟩ := by
  refine ba_ext (by rw [ex_size]; show min (i + 3) s.size - i = 3; omega) (fun j h1 h2 => ?_)
  have h2 : j < 3 := h2
  rw [ex_get, get_in s i (by omega), get_in s (i + 1) (by omega), get_in s (i + 2) (by omega)]
  have : j = 0 ∨ j = 1 ∨ j = 2 := by omega
  rcases this with rfl | rfl | rfl <;> rfl
theorem ex4 (s : ByteArray) (i : Nat) (h : i + 4 ≤ s.size) : s.extract i (i + 4) = ⟨#[s.get! i, s.get! (i + 1), s.get! (i + 2), s.get! (i + 3)]⟩ := by
  refine ba_ext (by rw [ex_size]; show min (i + 4) s.size - i = 4; omega) (fun j h1 h2 => ?_)
  have h2 : j < 4 := h2
  rw [ex_get, get_in s i (by omega), get_in s (i + 1) (by omega), get_in s (i + 2) (by omega), get_in s (i + 3) (by omega)]
  have : j = 0 ∨ j = 1 ∨ j = 2 ∨ j = 3 := by omega
  rcases this with rfl | rfl | rfl | rfl <;> rfl
theorem byte_of (x : UInt8) (n : Nat) (h : n = x.toNat) : UInt8.ofNat n = x := by subst h; simp
theorem arr1 {a a' : UInt8} (h1 : a = a') : (⟨#[a]⟩ : ByteArray) = ⟨#[a']⟩ := by rw [h1]
theorem arr2 {a a' b b' : UInt8} (h1 : a = a') (h2 : b = b') : (⟨#[a, b]⟩ : ByteArray) = ⟨#[a', b']⟩ := by rw [h1, h2]
theorem arr3 {a a' b b' c c' : UInt8} (h1 : a = a') (h2 : b = b') (h3 : c = c') : (⟨#[a, b, c]⟩ : ByteArray) = ⟨#[a', b', c']⟩ := by rw [h1, h2, h3]
theorem arr4 {a a' b b' c c' d d' : UInt8} (h1 : a = a') (h2 : b = b') (h3 : c = c') (h4 : d = d') : (⟨#[a, b, c, d]⟩ : ByteArray) = ⟨#[a', b', c', d']⟩ := by rw [h1, h2, h3, h4]
theorem enc_valid (c : Nat) (h : c < 55296 ∨ (57344 ≤ c ∧ c ≤ 1114111)) : (if Utf8.valid (c : Int) then ((c : Int)).toNat else Utf8.runeError) = c := by
  have : Utf8.valid (c : Int) = true := by
    unfold Utf8.valid
    simp
    omega
  rw [this, if_pos rfl]; omega

/-- what is decoded at a place: no character, or one, its bytes being those that stand there -/
structure DecOk (s : ByteArray) (i r k : Nat) : Prop where
  dec : Utf8.decode s i = (r, k)
  lo : 1 ≤ k
  hi : k ≤ 4
  le : i + k ≤ s.size
  ne : ¬ (r = 65533 ∧ k = 1)
  ok : r < 55296 ∨ (57344 ≤ r ∧ r ≤ 1114111)
  enc : Utf8.encode (r : Int) = s.extract i (i + k)
theorem dec_cases (s : ByteArray) (i : Nat) (hi : i < s.size) : Utf8.decode s i = (65533, 1) ∨ ∃ r k, DecOk s i r k := by
  have hd := Lib.decode_at s i
  have k0 := (s.get! i).toNat_lt
  have k1 := (s.get! (i + 1)).toNat_lt
  have k2 := (s.get! (i + 2)).toNat_lt
  have k3 := (s.get! (i + 3)).toNat_lt
  rcases Lib.decodeN_shape (s.size - i) (s.get! i).toNat (s.get! (i + 1)).toNat (s.get! (i + 2)).toNat (s.get! (i + 3)).toNat with ⟨a, h⟩ | ⟨a, b, c, d, h⟩ | ⟨a, b, c, d, e, g, h⟩ | ⟨a, b, c, d, e, g, m, h⟩ | h
  · refine .inr ⟨_, _, hd.trans h, by omega, by omega, by omega, by omega, .inl (by omega), ?_⟩
    unfold Utf8.encode
    rw [enc_valid _ (.inl (by omega)), if_pos (by omega), ex1 s i (by omega)]
    exact arr1 (byte_of _ _ (by omega))
  · refine .inr ⟨_, _, hd.trans h, by omega, by omega, by omega, by omega, .inl (by omega), ?_⟩
    unfold Utf8.encode
    rw [enc_valid _ (.inl (by omega)), if_neg (by omega), if_pos (by omega), ex2 s i (by omega)]
    exact arr2 (byte_of _ _ (by omega)) (byte_of _ _ (by omega))
  · refine .inr ⟨_, _, hd.trans h, by omega, by omega, by omega, by omega, by omega, ?_⟩
    unfold Utf8.encode
    rw [enc_valid _ (by omega), if_neg (by omega), if_neg (by omega), if_pos (by omega), ex3 s i (by omega)]
    exact arr3 (byte_of _ _ (by omega)) (byte_of _ _ (by omega)) (byte_of _ _ (by omega))
  · refine .inr ⟨_, _, hd.trans h, by omega, by omega, by omega, by omega, by omega, ?_⟩
    unfold Utf8.encode
    rw [enc_valid _ (by omega), if_neg (by omega), if_neg (by omega), if_neg (by omega), ex4 s i (by omega)]
    exact arr4 (byte_of _ _ (by omega)) (byte_of _ _ (by omega)) (byte_of _ _ (by omega)) (byte_of _ _ (by omega))
  · exact .inl (hd.trans h)
/-- where no character is, the three bytes of the replacement character don't stand -/
theorem dec_none (s : ByteArray) (i : Nat) (h3 : i + 3 ≤ s.size) (hd : Utf8.decode s i = (65533, 1)) : s.extract i (i + 3) ≠ Utf8.encode 65533 := by
  intro h
  rw [ex3 s i h3] at h
  have e : Utf8.encode 65533 = ⟨#[239, 191, 189]⟩ := by decide +kernel
  rw [e] at h
  injection h with h
  injection h with h
  injection h with a b
  injection b with b c
  injection c with c d
  have hd' := Lib.decode_at s i
  rw [hd, a, b, c] at hd'
  have : Lib.decodeN (s.size - i) 239 191 189 (s.get! (i + 3)).toNat = (65533, 3) := by
    unfold Lib.decodeN
    rw [if_neg (by omega), if_neg (by omega), if_pos (by omega), if_pos (by omega)]
  rw [show (239 : UInt8).toNat = 239 from rfl, show (191 : UInt8).toNat = 191 from rfl, show (189 : UInt8).toNat = 189 from rfl, this] at hd'
  cases hd'

/-- a character that may stand in a source -/
def isCh (r : Int) : Bool := r == 9 || (r == 10 || (r == 13 || (decide (32 ≤ r) && (decide (r ≤ 1114111) && !(decide (55296 ≤ r) && decide (r ≤ 57343))))))
/-- the character at a place, and how many bytes it has; 0, 0 where there is none -/
def nextR (s : ByteArray) (i : Nat) : Nat × Nat :=
  if i < s.size then (if isCh (Utf8.decode s i).1 && !((Utf8.decode s i).1 == 65533 && (Utf8.decode s i).2 == 1) then Utf8.decode s i else (0, 0)) else (0, 0)
def nextI (s : ByteArray) (i : Int) : Nat × Nat := if i < 0 then (0, 0) else nextR s i.toNat
theorem nextR_out (s : ByteArray) (i : Nat) (h : s.size ≤ i) : nextR s i = (0, 0) := by unfold nextR; rw [if_neg (by omega)]
theorem nextR_bad (s : ByteArray) (i : Nat) (h : Utf8.decode s i = (65533, 1)) : nextR s i = (0, 0) := by
  unfold nextR; split
  · rw [h]; rfl
  · rfl
theorem nextR_no (s : ByteArray) (i r k : Nat) (h : DecOk s i r k) (hc : isCh r = false) : nextR s i = (0, 0) := by
  unfold nextR; split
  · rw [h.dec]; simp only []; rw [hc]; rfl
  · rfl
theorem nextR_yes (s : ByteArray) (i r k : Nat) (h : DecOk s i r k) (hc : isCh r = true) : nextR s i = (r, k) := by
  have hl := h.le
  have hlo := h.lo
  unfold nextR; rw [if_pos (by omega), h.dec]
  simp only []
  have : (r == 65533 && k == 1) = false := by
    rw [Bool.eq_false_iff]; intro hh
    rw [Bool.and_eq_true] at hh
    exact h.ne ⟨beq_iff_eq.1 hh.1, beq_iff_eq.1 hh.2⟩
  rw [hc, this]; rfl
theorem nextR_cases (s : ByteArray) (i : Nat) : nextR s i = (0, 0) ∨ ∃ r k, nextR s i = (r, k) ∧ DecOk s i r k ∧ isCh r = true := by
  by_cases hi : i < s.size
  · rcases dec_cases s i hi with h | ⟨r, k, h⟩
    · exact .inl (nextR_bad s i h)
    · cases hc : isCh r
      · exact .inl (nextR_no s i r k h hc)
      · exact .inr ⟨r, k, nextR_yes s i r k h hc, h, hc⟩
  · exact .inl (nextR_out s i (by omega))
theorem nextR_le (s : ByteArray) (i : Nat) (h : i ≤ s.size) : i + (nextR s i).2 ≤ s.size ∧ (nextR s i).2 ≤ 4 := by
  rcases nextR_cases s i with e | ⟨r, k, e, d, _⟩
  · rw [e]; exact ⟨h, by omega⟩
  · rw [e]; exact ⟨d.le, d.hi⟩
/-- where a text is not of characters: -1, if it is -/
def badF (s : ByteArray) : Nat → Nat → Int
  | 0, _ => -1
  | n + 1, i => if i < s.size then (if (nextR s i).2 = 0 then (i : Int) else badF s n (i + (nextR s i).2)) else -1
def badR (s : ByteArray) : Int := badF s s.size 0
def mayR (s : ByteArray) : Bool := decide (badR s < 0)
end Go.Proofs.YtklkgcogaekokaaDoor
