/- Plain facts on float arithmetic: products, sums and quotients of whole numbers that stay below 2^53 are exact; a float added to itself; one by a zero; signs turned. -/
import Derived.Test.YtlgphmpdenkilaaDoorFl
import Derived.Laws.BitsAllLaws
namespace Go.Proofs.YtlgphmpdenkilaaDoor.Fl
open Ieee

theorem W_mul (s t : Bool) (M N : Nat) (hM : M < 9007199254740992) (hN : N < 9007199254740992) (h : M * N < 9007199254740992) :
    Ieee.double.mul (W s M) (W t N) = some (W (s ^^ t) (M * N)) := by
  obtain ⟨a, ha⟩ := read_W s M hM
  obtain ⟨b, hb⟩ := read_W t N hN
  unfold Format.mul
  rw [ha, hb]
  show some (Ieee.double.nearest (s ^^ t) (M * 2 ^ a * (N * 2 ^ b)) (-(a : Int) + -(b : Int))) = _
  rw [show M * 2 ^ a * (N * 2 ^ b) = M * N * 2 ^ (a + b) by rw [Nat.pow_add]; ac_rfl, show -(a : Int) + -(b : Int) = -((a + b : Nat) : Int) by omega]
  rw [nearest_ex _ _ _ h]

theorem W_add (M N : Nat) (hM : M < 9007199254740992) (hN : N < 9007199254740992) (h : M + N < 9007199254740992) :
    Ieee.double.add (W false M) (W false N) = some (W false (M + N)) := by
  obtain ⟨a, ha⟩ := read_W false M hM
  obtain ⟨b, hb⟩ := read_W false N hN
  unfold Format.add
  rw [ha, hb]
  obtain ⟨c, hc⟩ : ∃ c, c = max a b := ⟨_, rfl⟩
  have e1 : (-(a : Int) - -(c : Int)).toNat = c - a := by omega
  have e2 : (-(b : Int) - -(c : Int)).toNat = c - b := by omega
  have e3 : min (-(a : Int)) (-(b : Int)) = -(c : Int) := by omega
  have s1 : Ieee.signed false (M * 2 ^ a) (c - a) = ((M * 2 ^ c : Nat) : Int) := by
    unfold Ieee.signed; rw [if_neg (by simp), Nat.shiftLeft_eq, Nat.mul_assoc, ← Nat.pow_add, show a + (c - a) = c by omega]
  have s2 : Ieee.signed false (N * 2 ^ b) (c - b) = ((N * 2 ^ c : Nat) : Int) := by
    unfold Ieee.signed; rw [if_neg (by simp), Nat.shiftLeft_eq, Nat.mul_assoc, ← Nat.pow_add, show b + (c - b) = c by omega]
  unfold Datum.sum
  dsimp only
  rw [e3, e1, e2, s1, s2]
  have e4 : ((M * 2 ^ c : Nat) : Int) + ((N * 2 ^ c : Nat) : Int) = (((M + N) * 2 ^ c : Nat) : Int) := by rw [Nat.add_mul]; push_cast; rfl
  rw [e4]
  rw [Option.map_some]
  have e5 : (if (((M + N) * 2 ^ c : Nat) : Int) = 0 then (false && false) else decide ((((M + N) * 2 ^ c : Nat) : Int) < 0)) = false := by
    split
    · rfl
    · rw [decide_eq_false_iff_not]; have := Int.natCast_nonneg ((M + N) * 2 ^ c); omega
  rw [e5, Int.natAbs_natCast]
  show some (Ieee.double.nearest false ((M + N) * 2 ^ c) (-(c : Int))) = _
  rw [nearest_ex _ _ _ h]

theorem log2_mul_le (M N : Nat) (hM : M ≠ 0) (hN : N ≠ 0) : (M * N).log2 ≤ M.log2 + N.log2 + 1 := by
  have h0 : M * N ≠ 0 := Nat.mul_ne_zero hM hN
  have h1 : M < 2 ^ (M.log2 + 1) := Nat.lt_log2_self
  have h2 : N < 2 ^ (N.log2 + 1) := Nat.lt_log2_self
  have h3 : M * N < 2 ^ (M.log2 + 1) * 2 ^ (N.log2 + 1) := Nat.mul_lt_mul'' h1 h2
  rw [← Nat.pow_add] at h3
  have := (Nat.log2_lt h0).2 h3
  omega

theorem W_div (Q N : Nat) (hN0 : N ≠ 0) (hQ : Q < 9007199254740992) (hN : N < 9007199254740992) (h : Q * N < 9007199254740992) :
    Ieee.double.div (W false (Q * N)) (W false N) = some (W false Q) := by
  obtain ⟨a, ha⟩ := read_W false (Q * N) h
  obtain ⟨b, hb⟩ := read_W false N hN
  unfold Format.div
  rw [ha, hb]
  have hb0 : N * 2 ^ b ≠ 0 := Nat.mul_ne_zero hN0 (by have := Nat.two_pow_pos b; omega)
  unfold Datum.quotient
  dsimp only
  rw [if_neg hb0]
  simp only [Option.map_some]
  by_cases hQ0 : Q = 0
  · subst hQ0
    simp only [Nat.zero_mul, Nat.zero_shiftLeft, Nat.zero_div, Nat.mul_zero, Nat.zero_mod]
    show some (Ieee.double.nearest false 0 _) = _
    unfold Format.nearest W rung
    rw [if_pos (by simp), if_pos rfl, word_wd]
  · have hM0 : Q * N ≠ 0 := Nat.mul_ne_zero hQ0 hN0
    rw [log2_shift _ _ hM0, log2_shift _ _ hN0]
    have l1 := log2_mul_le Q N hQ0 hN0
    have l2 := log2_lt53 Q hQ0 hQ
    obtain ⟨m, hm⟩ : ∃ m, m = Ieee.double.fractionBits + 2 + (N.log2 + b) - ((Q * N).log2 + a) := ⟨_, rfl⟩
    rw [← hm]
    have hfb : Ieee.double.fractionBits = 52 := rfl
    rw [hfb] at hm
    have hk : b ≤ a + m := by omega
    have e : (Q * N * 2 ^ a) <<< m = (Q * 2 ^ (a + m - b)) * (N * 2 ^ b) := by
      rw [Nat.shiftLeft_eq]
      rw [show Q * N * 2 ^ a * 2 ^ m = Q * N * 2 ^ (a + m) by rw [Nat.pow_add]; ac_rfl]
      rw [show Q * 2 ^ (a + m - b) * (N * 2 ^ b) = Q * N * (2 ^ (a + m - b) * 2 ^ b) by ac_rfl, ← Nat.pow_add, show a + m - b + b = a + m by omega]
    rw [e, Nat.mul_div_cancel _ (by omega), Nat.mul_mod_left]
    have e0 : ((0 : Nat) != 0).toNat = 0 := rfl
    rw [e0, Nat.add_zero]
    show some (Ieee.double.nearest false (2 * (Q * 2 ^ (a + m - b))) (-(a : Int) - -(b : Int) - (m : Int) - 1)) = _
    rw [show 2 * (Q * 2 ^ (a + m - b)) = Q * 2 ^ (a + m - b + 1) by rw [Nat.pow_succ]; ac_rfl, show -(a : Int) - -(b : Int) - (m : Int) - 1 = -((a + m - b + 1 : Nat) : Int) by omega]
    rw [nearest_ex _ _ _ hQ]

theorem ofInt_W (n : Nat) (h : n < 9007199254740992) : floatOfInt .f64 (n : Int) = W false n := by
  show Ieee.double.nearest (decide ((n : Int) < 0)) ((n : Int).natAbs) 0 = _
  rw [show decide ((n : Int) < 0) = false by simp, Int.natAbs_natCast]
  have := nearest_ex false n 0 h
  simpa using this

/-- a finite float that is not nought, added to itself, is another one -/
theorem add_self (x : Nat) (hx : x < 18446744073709551616) (h0 : x % 9223372036854775808 ≠ 0) (h1 : x % 9223372036854775808 < 9218868437227405312) :
    ∃ y, Ieee.double.add x x = some y ∧ eqB x y = false := by
  obtain ⟨s, hs⟩ : ∃ s, s = decide (9223372036854775808 ≤ x) := ⟨_, rfl⟩
  obtain ⟨r, hr⟩ : ∃ r, r = x % 9223372036854775808 := ⟨_, rfl⟩
  have ex := wd_of x hx
  rw [← hr, ← hs] at ex
  rw [← hr] at h0 h1
  have erd : Ieee.double.read x = rd s r := by rw [hs, hr]; exact read_bits x hx
  have key : ∃ q, Ieee.double.add x x = some (wd s q) ∧ r < q ∧ q ≤ 9218868437227405312 := by
    unfold Format.add
    rw [erd]
    have sum2 : ∀ (m : Nat) (i : Int), m ≠ 0 → Datum.sum (.number s m i) (.number s m i) = some (.number s (2 * m) i) := by
      intro m i hm
      unfold Datum.sum
      have e : (i - min i i).toNat = 0 := by omega
      simp only [e]
      unfold Ieee.signed
      rw [show min i i = i by omega]
      cases s
      · simp; omega
      · simp; omega
    unfold rd
    by_cases c : r < 4503599627370496
    · rw [if_pos c, sum2 _ _ h0]
      refine ⟨2 * r, ?_, by omega, by omega⟩
      show some (Ieee.double.nearest s (2 * r) (-1074)) = _
      unfold Format.nearest
      rw [if_neg (by omega)]
      dsimp only
      have hl : (2 * r).log2 ≤ 52 := by
        have := (Nat.log2_lt (n := 2 * r) (k := 53) (by omega)).2 (by omega)
        omega
      rw [d_least, d_fb, show max (-1074 + ((2 * r).log2 : Int) - (52 : Nat)) (-1074) = (-1074 : Int) by omega]
      rw [show ((-1074 : Int) - -1074).toNat = 0 by rfl]
      have := cut_exact s (2 * r) 0 (by omega)
      rw [Nat.pow_zero, Nat.mul_one] at this
      rw [Nat.shiftLeft_zero, this, Nat.zero_mul, Nat.zero_add, d_inf, word_wd, Nat.min_eq_left (by omega)]
    · rw [if_neg c, if_pos h1, sum2 _ _ (by omega)]
      obtain ⟨m, hm⟩ : ∃ m, m = 4503599627370496 + r % 4503599627370496 := ⟨_, rfl⟩
      rw [← hm]
      refine ⟨min (r + 4503599627370496) 9218868437227405312, ?_, by omega, by omega⟩
      show some (Ieee.double.nearest s (2 * m) (-1074 + ((r / 4503599627370496 - 1 : Nat) : Int))) = _
      unfold Format.nearest
      rw [if_neg (by omega)]
      dsimp only
      have hl : (2 * m).log2 = 53 := by
        rw [Nat.log2_eq_iff (by omega)]
        have p53 : (2 : Nat) ^ 53 = 9007199254740992 := by decide
        have p54 : (2 : Nat) ^ 54 = 18014398509481984 := by decide
        rw [p53, p54]; omega
      rw [hl, d_least, d_fb]
      rw [show max (-1074 + ((r / 4503599627370496 - 1 : Nat) : Int) + ((53 : Nat) : Int) - ((52 : Nat) : Int)) (-1074) = -1074 + ((r / 4503599627370496 : Nat) : Int) by omega]
      rw [show (-1074 + ((r / 4503599627370496 - 1 : Nat) : Int) - (-1074 + ((r / 4503599627370496 : Nat) : Int))).toNat = 0 by omega]
      rw [show (-1074 + ((r / 4503599627370496 : Nat) : Int) - (-1074 + ((r / 4503599627370496 - 1 : Nat) : Int))).toNat = 1 by omega]
      rw [show (-1074 + ((r / 4503599627370496 : Nat) : Int) - -1074).toNat = r / 4503599627370496 by omega]
      have := cut_exact s m 1 (by omega)
      rw [Nat.pow_one, Nat.mul_comm] at this
      rw [Nat.shiftLeft_zero, this, d_binade, d_inf, word_wd]
      rw [show r / 4503599627370496 * 4503599627370496 + m = r + 4503599627370496 by omega]
  obtain ⟨q, hq, h2, h3⟩ := key
  refine ⟨_, hq, ?_⟩
  unfold eqB
  have hxq : (x == wd s q) = false := by
    rw [ex]; unfold wd
    cases s
    · simp; omega
    · simp; omega
  have hz : (x % 9223372036854775808 == 0) = false := by simp; omega
  rw [hxq, hz]; simp

theorem add_inf (s : Bool) : Ieee.double.add (wd s 9218868437227405312) (wd s 9218868437227405312) = some (wd s 9218868437227405312) := by cases s <;> decide +kernel
theorem add_zero (s : Bool) : Ieee.double.add (wd s 0) (wd s 0) = some (wd s 0) := by cases s <;> decide +kernel
theorem one_by_zero (s : Bool) : Ieee.double.div 4607182418800017408 (wd s 0) = some (wd s 9218868437227405312) := by cases s <;> decide +kernel

theorem xor_lo (x : Nat) (h : x < 9223372036854775808) : x ^^^ 9223372036854775808 = 9223372036854775808 + x := by
  have e63 : (9223372036854775808 : Nat) = 2 ^ 63 := by decide
  apply Nat.eq_of_testBit_eq
  intro i
  rw [Nat.testBit_xor, e63, Nat.testBit_two_pow]
  rcases Nat.lt_trichotomy i 63 with h1 | h1 | h1
  · rw [Nat.testBit_two_pow_add_gt h1, show decide (63 = i) = false by simp; omega, Bool.xor_false]
  · subst h1; rw [Nat.testBit_two_pow_add_eq]; simp
  · have b1 : x < 2 ^ i := Nat.lt_of_lt_of_le h (by rw [e63]; exact Nat.pow_le_pow_right (by omega) (by omega))
    have b2 : 2 ^ 63 + x < 2 ^ i := by
      have : 2 ^ 64 ≤ 2 ^ i := Nat.pow_le_pow_right (by omega) (by omega)
      rw [show (2 : Nat) ^ 64 = 18446744073709551616 by decide] at this
      rw [← e63]; omega
    rw [Nat.testBit_lt_two_pow b1, Nat.testBit_lt_two_pow b2, show decide (63 = i) = false by simp; omega]; rfl
theorem neg_wd (s : Bool) (r : Nat) (h : r < 9223372036854775808) : Op.negFloat .f64 (wd s r) = wd (!s) r := by
  show wd s r ^^^ 2 ^ 63 = _
  rw [show (2 : Nat) ^ 63 = 9223372036854775808 by decide]
  cases s
  · exact xor_lo r h
  · show (9223372036854775808 + r) ^^^ 9223372036854775808 = r
    rw [← xor_lo r h, Nat.xor_assoc, Nat.xor_self, Nat.xor_zero]

theorem or_hi (x : Nat) (h : x < 9223372036854775808) : x ||| 9223372036854775808 = 9223372036854775808 + x := by
  have e63 : (9223372036854775808 : Nat) = 2 ^ 63 := by decide
  rw [e63] at h ⊢
  have := Nat.two_pow_add_eq_or_of_lt h 1
  rw [Nat.mul_one] at this
  rw [this, Nat.or_comm]
theorem u64_clear (x : Nat) (h : x < 18446744073709551616) : bits .andNot .u64 (x : Int) 9223372036854775808 = ((x % 9223372036854775808 : Nat) : Int) := by
  have := u64_andNot_nat x 9223372036854775808 h (by omega)
  rw [show ((9223372036854775808 : Nat) : Int) = 9223372036854775808 from rfl] at this
  have h2 := Nat.and_two_pow_sub_one_eq_mod x 63
  rw [this, show 18446744073709551615 - 9223372036854775808 = 2 ^ 63 - 1 by decide, h2]
theorem u64_set (x : Nat) (h : x < 9223372036854775808) : bits .or .u64 (x : Int) 9223372036854775808 = ((9223372036854775808 + x : Nat) : Int) := by
  have := u64_or_nat x 9223372036854775808 (by omega) (by omega)
  rw [show ((9223372036854775808 : Nat) : Int) = 9223372036854775808 from rfl] at this
  rw [this, or_hi x h]

theorem nanB_wd (s : Bool) (r : Nat) (h : r < 9223372036854775808) : nanB (wd s r) = decide (9218868437227405312 < r) := by
  unfold nanB wd; cases s
  · simp only [Bool.false_eq_true, if_false]; rw [Nat.mod_eq_of_lt h]
  · simp only [if_true]; rw [show (9223372036854775808 + r) % 9223372036854775808 = r by omega]
theorem nanB_neg (x : Nat) (h : x < 18446744073709551616) : nanB (Op.negFloat .f64 x) = nanB x := by
  rw [wd_of x h, neg_wd _ _ (by omega), nanB_wd _ _ (by omega), nanB_wd _ _ (by omega)]
end Go.Proofs.YtlgphmpdenkilaaDoor.Fl
