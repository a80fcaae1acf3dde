/- Plain facts on the bytes of a string: the byte at a place, digits, cuts of cuts. No condition. -/
import Derived.WalkKit
import Derived.WalkLawsBesides
import Derived.Laws.IdiomStrings
import Derived.Lib.Hide
namespace Go.Proofs.YtklkgcogaekokaaDoor
open Go.RowKit

/-- the byte at a place, as a number; 0 beyond the end -/
def bt (s : ByteArray) (i : Int) : Int := if h : i.toNat < s.size then ((s[i.toNat]'h).toNat : Int) else 0
theorem bt_at (s : ByteArray) (i : Int) : ∀ h : i.toNat < s.size, ((s[i.toNat]'h).toNat : Int) = bt s i := fun h => by simp [bt, h]
theorem bt_nat (s : ByteArray) (i : Nat) : ∀ h : i < s.size, ((s[i]'h).toNat : Int) = bt s i := fun h => by simp [bt, h]
theorem bt_range (s : ByteArray) (i : Int) : 0 ≤ bt s i ∧ bt s i ≤ 255 := by
  unfold bt
  split
  · rename_i h
    have := (s[i.toNat]'h).toNat_lt
    omega
  · omega

theorem ex_size (s : ByteArray) (a b : Nat) : (s.extract a b).size = min b s.size - a := ByteArray.size_extract
theorem ex_get (s : ByteArray) (a b i : Nat) (h : i < (s.extract a b).size) : (s.extract a b)[i] = s[a + i]'(by rw [ex_size] at h; omega) := by
  rw [ByteArray.getElem_extract]
theorem ba_ext {s t : ByteArray} (h : s.size = t.size) (g : ∀ i (h1 : i < s.size) (h2 : i < t.size), s[i] = t[i]) : s = t := ByteArray.ext_getElem h g

theorem bt_extract (s : ByteArray) (a b i : Nat) (h : a + i < b) (hb : b ≤ s.size) : bt (s.extract a b) i = bt s ((a + i : Nat) : Int) := by
  unfold bt
  have h1 : ((i : Int)).toNat < (s.extract a b).size := by rw [ex_size]; omega
  have h2 : (((a + i : Nat) : Int)).toNat < s.size := by omega
  rw [dif_pos h1, dif_pos h2]
  simp only [Int.toNat_natCast]
  rw [ex_get]

theorem ex_ex (s : ByteArray) (a b c d : Nat) (hb : b ≤ s.size) : (s.extract a b).extract c d = s.extract (a + c) (min (a + d) b) := by
  apply ba_ext
  · simp only [ex_size]; omega
  · intro i h1 h2
    rw [ex_get, ex_get, ex_get]
    congr 1; omega
theorem ex_all (s : ByteArray) : s.extract 0 s.size = s := by
  apply ba_ext
  · simp only [ex_size]; omega
  · intro i h1 h2
    rw [ex_get]
    congr 1; omega
theorem ex_none (s : ByteArray) (a : Nat) : s.extract a a = ByteArray.empty := by
  apply ba_ext
  · simp only [ex_size, ByteArray.size_empty]; omega
  · intro i h1 h2; simp at h2

/-- is a byte a digit? -/
def isDc (c : Int) : Bool := decide (48 ≤ c) && decide (c ≤ 57)
/-- how many digits stand from a place on: at most n -/
def dnF (s : ByteArray) : Nat → Nat → Nat
  | 0, _ => 0
  | n + 1, i => if isDc (bt s i) then dnF s n (i + 1) + 1 else 0
/-- how many digits stand from a place on -/
def dn (s : ByteArray) (i : Nat) : Nat := dnF s (s.size - i) i

theorem dn_end (s : ByteArray) (i : Nat) (h : s.size ≤ i) : dn s i = 0 := by
  unfold dn; rw [show s.size - i = 0 by omega]; rfl
theorem dn_no (s : ByteArray) (i : Nat) (h : isDc (bt s i) = false) : dn s i = 0 := by
  by_cases hi : i < s.size
  · unfold dn
    obtain ⟨n, hn⟩ : ∃ n, s.size - i = n + 1 := ⟨s.size - i - 1, by omega⟩
    rw [hn]; simp only [dnF]; rw [h]; rfl
  · exact dn_end s i (by omega)
theorem dn_yes (s : ByteArray) (i : Nat) (hi : i < s.size) (h : isDc (bt s i) = true) : dn s i = dn s (i + 1) + 1 := by
  unfold dn
  rw [show s.size - i = (s.size - (i + 1)) + 1 by omega]; simp only [dnF]; rw [h]; rfl
theorem dn_le (s : ByteArray) (i : Nat) (h : i ≤ s.size) : i + dn s i ≤ s.size := by
  by_cases hi : i < s.size
  · by_cases hd : isDc (bt s i) = true
    · rw [dn_yes s i hi hd]
      have := dn_le s (i + 1) hi
      omega
    · rw [dn_no s i (by simpa using hd)]; omega
  · rw [dn_end s i (by omega)]; omega
termination_by s.size - i
theorem dn_digit (s : ByteArray) (i j : Nat) (h : j < dn s i) : isDc (bt s ((i + j : Nat) : Int)) = true := by
  by_cases hi : i < s.size
  · by_cases hd : isDc (bt s i) = true
    · rw [dn_yes s i hi hd] at h
      cases j with
      | zero => exact hd
      | succ j =>
        have := dn_digit s (i + 1) j (by omega)
        rw [show i + (j + 1) = i + 1 + j by omega]; exact this
    · rw [dn_no s i (by simpa using hd)] at h; omega
  · rw [dn_end s i (by omega)] at h; omega
termination_by s.size - i
theorem dn_stop (s : ByteArray) (i : Nat) (h : i + dn s i < s.size) : isDc (bt s ((i + dn s i : Nat) : Int)) = false := by
  have hi : i < s.size := by omega
  by_cases hd : isDc (bt s i) = true
  · rw [dn_yes s i hi hd] at h ⊢
    have := dn_stop s (i + 1) (by omega)
    rw [show i + (dn s (i + 1) + 1) = i + 1 + dn s (i + 1) by omega]; exact this
  · rw [dn_no s i (by simpa using hd)]; simpa using hd
termination_by s.size - i
theorem dn_extract (s : ByteArray) (a i : Nat) (ha : a ≤ s.size) : dn (s.extract a s.size) i = dn s (a + i) := by
  by_cases hi : a + i < s.size
  · have e : bt (s.extract a s.size) i = bt s ((a + i : Nat) : Int) := bt_extract s a s.size i hi (Nat.le_refl _)
    have h2 : i < (s.extract a s.size).size := by rw [ex_size]; omega
    by_cases hd : isDc (bt s ((a + i : Nat) : Int)) = true
    · rw [dn_yes _ i h2 (by rw [e]; exact hd), dn_yes s (a + i) hi hd, dn_extract s a (i + 1) ha]; rfl
    · rw [dn_no _ i (by rw [e]; simpa using hd), dn_no s (a + i) (by simpa using hd)]
  · rw [dn_end _ i (by rw [ex_size]; omega), dn_end s (a + i) (by omega)]
termination_by s.size - (a + i)

theorem slice_run {P : Program} (T : TypeId) (hu : P.underlying T = some .string) (s : ByteArray) (a b : Nat) (i j : Int) (hi : i = a) (hj : j = b) (h1 : a ≤ b) (h2 : b ≤ s.size) (wx : World) :
    (Instr.slice T (.string s) (some (.int .i64 i)) (some (.int .i64 j)) none).run P wx = .ok (.string (s.extract a b)) wx := by
  subst hi hj
  have := run_slice_string (P := P) wx T s .i64 .i64 (a : Int) (b : Int) hu (by omega) (by omega) (by omega)
  simpa using this
theorem slice_from {P : Program} (T : TypeId) (hu : P.underlying T = some .string) (s : ByteArray) (a : Nat) (i : Int) (hi : i = a) (h2 : a ≤ s.size) (wx : World) :
    (Instr.slice T (.string s) (some (.int .i64 i)) none none).run P wx = .ok (.string (s.extract a s.size)) wx := by
  subst hi
  have := run_slice_string_from_if (P := P) wx T s .i64 (a : Int) hu
  rw [if_pos (by omega)] at this
  simpa using this
theorem slice_to {P : Program} (T : TypeId) (hu : P.underlying T = some .string) (s : ByteArray) (b : Nat) (j : Int) (hj : j = b) (h2 : b ≤ s.size) (wx : World) :
    (Instr.slice T (.string s) none (some (.int .i64 j)) none).run P wx = .ok (.string (s.extract 0 b)) wx := by
  subst hj
  have := run_slice_string_to_if (P := P) wx T s .i64 (b : Int) hu
  rw [if_pos (by omega)] at this
  simpa using this

theorem dig_yes (s : ByteArray) (i : Nat) (hi : i < s.size) (h1 : (48 : Int) ≤ ((s[i]'hi).toNat : Int)) (h2 : ((s[i]'hi).toNat : Int) ≤ 57) : isDc (bt s i) = true := by
  rw [← bt_nat s i hi]; unfold isDc; simp [h1, h2]
theorem dig_lo (s : ByteArray) (i : Nat) (hi : i < s.size) (h1 : ((s[i]'hi).toNat : Int) < 48) : isDc (bt s i) = false := by
  rw [← bt_nat s i hi]; unfold isDc; rw [Bool.and_eq_false_iff]; left; simpa using h1
theorem dig_hi (s : ByteArray) (i : Nat) (hi : i < s.size) (h1 : (57 : Int) < ((s[i]'hi).toNat : Int)) : isDc (bt s i) = false := by
  rw [← bt_nat s i hi]; unfold isDc; rw [Bool.and_eq_false_iff]; right; simpa using h1

/-- how many bytes that are c stand from a place on: at most n -/
def cnF (c : Int) (s : ByteArray) : Nat → Nat → Nat
  | 0, _ => 0
  | n + 1, i => if bt s i = c then cnF c s n (i + 1) + 1 else 0
/-- how many bytes that are c stand from a place on -/
def cn (c : Int) (s : ByteArray) (i : Nat) : Nat := cnF c s (s.size - i) i
theorem cn_end (c : Int) (s : ByteArray) (i : Nat) (h : s.size ≤ i) : cn c s i = 0 := by
  unfold cn; rw [show s.size - i = 0 by omega]; rfl
theorem cn_no (c : Int) (s : ByteArray) (i : Nat) (h : bt s i ≠ c) : cn c s i = 0 := by
  by_cases hi : i < s.size
  · unfold cn
    obtain ⟨n, hn⟩ : ∃ n, s.size - i = n + 1 := ⟨s.size - i - 1, by omega⟩
    rw [hn]; simp only [cnF]; rw [if_neg h]
  · exact cn_end c s i (by omega)
theorem cn_yes (c : Int) (s : ByteArray) (i : Nat) (hi : i < s.size) (h : bt s i = c) : cn c s i = cn c s (i + 1) + 1 := by
  unfold cn
  rw [show s.size - i = (s.size - (i + 1)) + 1 by omega]; simp only [cnF]; rw [if_pos h]
theorem cn_le (c : Int) (s : ByteArray) (i : Nat) (h : i ≤ s.size) : i + cn c s i ≤ s.size := by
  by_cases hi : i < s.size
  · by_cases hd : bt s i = c
    · rw [cn_yes c s i hi hd]
      have := cn_le c s (i + 1) hi
      omega
    · rw [cn_no c s i hd]; omega
  · rw [cn_end c s i (by omega)]; omega
termination_by s.size - i
/-- without the nought digits ahead -/
def trim0 (s : ByteArray) : ByteArray := s.extract (cn 48 s 0) s.size

/-- a text's bytes, in a new slice -/
theorem bytes_conv {P : Program} (T S E : TypeId) (hT : P.underlying T = some .string) (hS : P.underlying S = some (.slice E)) (hE : P.underlying E = some (.int .u8)) (s : ByteArray) (w : World) :
    ∃ cap w1, (convert T S (.string s)).run P w = .ok (.slice (some ⟨w.heap.size, 0, none⟩) s.size cap) w1 ∧ Below w.heap.size w w1 ∧ w.heap.size < w1.heap.size ∧
      ∀ j : Nat, j < s.size → w1.cell? ⟨w.heap.size, j, none⟩ = some (.int .u8 (bt s j)) := by
  refine ⟨_, _, run_bytes_of_string w T S E s hT hS hE, ?_, ?_, ?_⟩
  · exact (Below.refl _ w).drew.alloc (Nat.le_refl _) _
  · rw [World.size_alloc]; exact Nat.lt_succ_self _
  · intro j hj
    have h1 := bt_nat s j hj
    rw [← h1]
    have e1 : (w.drew).heap.size = w.heap.size := rfl
    rw [← e1, World.cell?_alloc_mark]
    unfold bytesRow
    rw [Array.getElem?_append_left (by simpa using hj)]
    simp
    refine ⟨s.data[j]'hj, by simp, rfl⟩
attribute [irreducible] dn cn
end Go.Proofs.YtklkgcogaekokaaDoor
