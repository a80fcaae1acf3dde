/- Plain facts on the model's binary floats: whole numbers below 2^53 are exact; how two words are ordered; sorts, signs, sameness by the bits. No condition but the bounds that each fact names. -/
import Derived.Laws.FloatArith
namespace Go.Proofs.YtlgphmpdenkilaaDoor.Fl
open Ieee

theorem d_binade : Ieee.double.binade = 4503599627370496 := by decide
theorem d_inf : Ieee.double.infRung = 9218868437227405312 := by decide
theorem d_sw : Ieee.double.signWeight = 9223372036854775808 := by decide
theorem d_least : Ieee.double.leastPlace = -1074 := by decide
theorem d_fb : Ieee.double.fractionBits = 52 := rfl
theorem d_fmt : FloatKind.f64.format = Ieee.double := rfl

def wd (s : Bool) (r : Nat) : Nat := if s then 9223372036854775808 + r else r
theorem word_wd (s : Bool) (r : Nat) : Ieee.double.word s r = wd s r := by unfold Format.word wd; rw [d_sw]

/-- the rung of a whole number below 2^53 -/
def rung (N : Nat) : Nat := if N = 0 then 0 else (N.log2 + 1022) * 4503599627370496 + N * 2 ^ (52 - N.log2)
/-- a whole number as a float -/
def W (s : Bool) (N : Nat) : Nat := wd s (rung N)

theorem log2_shift (N k : Nat) (h : N ≠ 0) : (N * 2 ^ k).log2 = N.log2 + k := by
  have hk : 0 < 2 ^ k := Nat.two_pow_pos k
  have h' : N * 2 ^ k ≠ 0 := Nat.mul_ne_zero h (by omega)
  rw [Nat.log2_eq_iff h']
  have h1 := Nat.log2_self_le h
  have h2 : N < 2 ^ (N.log2 + 1) := Nat.lt_log2_self
  constructor
  · rw [Nat.pow_add]; exact Nat.mul_le_mul_right _ h1
  · rw [show N.log2 + k + 1 = (N.log2 + 1) + k by omega, Nat.pow_add]; exact Nat.mul_lt_mul_of_pos_right h2 hk

theorem log2_lt53 (N : Nat) (h0 : N ≠ 0) (h : N < 9007199254740992) : N.log2 ≤ 52 := by
  have h1 := Nat.log2_self_le h0
  by_cases hc : N.log2 ≤ 52
  · exact hc
  · exfalso
    have : 2 ^ 53 ≤ 2 ^ N.log2 := Nat.pow_le_pow_right (by omega) (by omega)
    have e : (2 : Nat) ^ 53 = 9007199254740992 := by decide
    omega

theorem top_lo (N : Nat) (h0 : N ≠ 0) (h : N < 9007199254740992) : 4503599627370496 ≤ N * 2 ^ (52 - N.log2) := by
  have hl := log2_lt53 N h0 h
  have h1 := Nat.log2_self_le h0
  have e : 2 ^ N.log2 * 2 ^ (52 - N.log2) = 4503599627370496 := by rw [← Nat.pow_add, show N.log2 + (52 - N.log2) = 52 by omega]
  rw [← e]; exact Nat.mul_le_mul_right _ h1
theorem top_hi (N : Nat) (h0 : N ≠ 0) (h : N < 9007199254740992) : N * 2 ^ (52 - N.log2) < 9007199254740992 := by
  have hl := log2_lt53 N h0 h
  have h2 : N < 2 ^ (N.log2 + 1) := Nat.lt_log2_self
  have e : 2 ^ (N.log2 + 1) * 2 ^ (52 - N.log2) = 9007199254740992 := by rw [← Nat.pow_add, show N.log2 + 1 + (52 - N.log2) = 53 by omega]
  rw [← e]; exact Nat.mul_lt_mul_of_pos_right h2 (Nat.two_pow_pos _)

theorem cut_exact (s : Bool) (a d : Nat) (ha : a ≠ 0) : Toward.even.cut s (a * 2 ^ d) d = a := by
  have hl : d ≤ (a * 2 ^ d).log2 := by rw [log2_shift a d ha]; omega
  have hm : min d ((a * 2 ^ d).log2 + 2) = d := by omega
  have hp : 0 < 2 ^ d := Nat.two_pow_pos d
  unfold Toward.cut
  simp only [hm, Nat.one_shiftLeft, Nat.mul_mod_left, Nat.mul_zero, Nat.mul_div_cancel _ hp]
  have e1 : (decide (2 ^ d < 0)) = false := by simp
  have e2 : (2 ^ d == 0) = false := by simp
  rw [e1, e2]; rfl

theorem nearest_ex (s : Bool) (N k : Nat) (h : N < 9007199254740992) : Ieee.double.nearest s (N * 2 ^ k) (-(k : Int)) = W s N := by
  unfold W rung
  by_cases h0 : N = 0
  · subst h0; rw [if_pos rfl, ← word_wd]; unfold Format.nearest; simp
  · have hk : 0 < 2 ^ k := Nat.two_pow_pos k
    have h' : N * 2 ^ k ≠ 0 := Nat.mul_ne_zero h0 (by omega)
    have hl := log2_lt53 N h0 h
    have t1 := top_lo N h0 h
    have t2 := top_hi N h0 h
    rw [if_neg h0, ← word_wd]
    unfold Format.nearest
    rw [if_neg h']
    dsimp only
    rw [log2_shift N k h0, d_least, d_fb, d_binade, d_inf]
    have hlast : max (-(k : Int) + ((N.log2 + k : Nat) : Int) - (52 : Nat)) (-1074) = (N.log2 : Int) - 52 := by omega
    rw [hlast]
    rw [show (-(k : Int) - ((N.log2 : Int) - 52)).toNat = 52 - N.log2 - k by omega]
    rw [show ((N.log2 : Int) - 52 - -(k : Int)).toNat = N.log2 + k - 52 by omega]
    rw [show ((N.log2 : Int) - 52 - -1074).toNat = N.log2 + 1022 by omega]
    have e : (N * 2 ^ k) <<< (52 - N.log2 - k) = (N * 2 ^ (52 - N.log2)) * 2 ^ (N.log2 + k - 52) := by
      rw [Nat.shiftLeft_eq, Nat.mul_assoc, Nat.mul_assoc, ← Nat.pow_add, ← Nat.pow_add]
      rw [show k + (52 - N.log2 - k) = 52 - N.log2 + (N.log2 + k - 52) by omega]
    rw [e, cut_exact _ _ _ (by omega)]
    rw [Nat.min_eq_left (by omega)]

theorem rung_lt (N : Nat) (h : N < 9007199254740992) : rung N < 9218868437227405312 := by
  unfold rung
  by_cases h0 : N = 0
  · rw [if_pos h0]; omega
  · rw [if_neg h0]
    have hl := log2_lt53 N h0 h
    have t2 := top_hi N h0 h
    omega

/-- What a word stands for, by sign and rung. -/
def rd (s : Bool) (r : Nat) : Datum :=
  if r < 4503599627370496 then .number s r (-1074)
  else if r < 9218868437227405312 then .number s (4503599627370496 + r % 4503599627370496) (-1074 + (r / 4503599627370496 - 1 : Nat))
  else if r = 9218868437227405312 then .infinity s
  else .nan s (r - 9218868437227405312)

theorem read_wd (s : Bool) (r : Nat) (h : r < 9223372036854775808) : Ieee.double.read (wd s r) = rd s r := by
  unfold Format.read rd wd
  rw [d_sw, d_binade, d_inf, d_least]
  cases s
  · have e1 : (r / 9223372036854775808 % 2 == 1) = false := by rw [Nat.div_eq_of_lt h]; rfl
    simp only [Bool.false_eq_true, if_false, e1, Nat.mod_eq_of_lt h]
  · have e1 : ((9223372036854775808 + r) / 9223372036854775808 % 2 == 1) = true := by
      have : (9223372036854775808 + r) / 9223372036854775808 = 1 := by omega
      rw [this]; rfl
    have e2 : (9223372036854775808 + r) % 9223372036854775808 = r := by omega
    simp only [if_true, e1, e2]

theorem read_W (s : Bool) (N : Nat) (h : N < 9007199254740992) : ∃ k : Nat, Ieee.double.read (W s N) = .number s (N * 2 ^ k) (-(k : Int)) := by
  unfold W
  rw [read_wd _ _ (Nat.lt_trans (rung_lt N h) (by omega))]
  unfold rd
  by_cases h0 : N = 0
  · subst h0; exact ⟨1074, by simp only [rung, if_true, Nat.zero_mul]; rfl⟩
  · have hl := log2_lt53 N h0 h
    have t1 := top_lo N h0 h
    have t2 := top_hi N h0 h
    have hr := rung_lt N h
    refine ⟨52 - N.log2, ?_⟩
    unfold rung at hr ⊢
    rw [if_neg h0] at hr ⊢
    rw [if_neg (by omega), if_pos hr]
    generalize N * 2 ^ (52 - N.log2) = m at *
    have e1 : 4503599627370496 + ((N.log2 + 1022) * 4503599627370496 + m) % 4503599627370496 = m := by omega
    have e2 : ((N.log2 + 1022) * 4503599627370496 + m) / 4503599627370496 - 1 = N.log2 + 1022 := by omega
    rw [e1, e2, show (-1074 : Int) + ((N.log2 + 1022 : Nat) : Int) = -((52 - N.log2 : Nat) : Int) by omega]
/-- a word by its sign and rung -/
theorem wd_of (x : Nat) (h : x < 18446744073709551616) : x = wd (decide (9223372036854775808 ≤ x)) (x % 9223372036854775808) := by
  unfold wd
  by_cases c : 9223372036854775808 ≤ x
  · rw [if_pos (by simpa using c)]; omega
  · rw [if_neg (by simpa using c)]; omega

/-- a rung's magnitude, in units of the least place -/
def mg (r : Nat) : Nat := if r < 4503599627370496 then r else (4503599627370496 + r % 4503599627370496) * 2 ^ (r / 4503599627370496 - 1)

theorem mg_mono {r q : Nat} (h : r < q) : mg r < mg q := by
  unfold mg
  by_cases h1 : r < 4503599627370496
  · rw [if_pos h1]
    by_cases h2 : q < 4503599627370496
    · rw [if_pos h2]; exact h
    · rw [if_neg h2]
      have hp : 0 < 2 ^ (q / 4503599627370496 - 1) := Nat.two_pow_pos _
      have : 4503599627370496 * 1 ≤ (4503599627370496 + q % 4503599627370496) * 2 ^ (q / 4503599627370496 - 1) := Nat.mul_le_mul (by omega) hp
      omega
  · rw [if_neg h1, if_neg (by omega)]
    by_cases h3 : r / 4503599627370496 = q / 4503599627370496
    · rw [h3]; exact Nat.mul_lt_mul_of_pos_right (by omega) (Nat.two_pow_pos _)
    · have h4 : r / 4503599627370496 < q / 4503599627370496 := by omega
      have e1 : (4503599627370496 + r % 4503599627370496) * 2 ^ (r / 4503599627370496 - 1) < 9007199254740992 * 2 ^ (r / 4503599627370496 - 1) := Nat.mul_lt_mul_of_pos_right (by omega) (Nat.two_pow_pos _)
      have e2 : 9007199254740992 * 2 ^ (r / 4503599627370496 - 1) = 4503599627370496 * 2 ^ (r / 4503599627370496) := by
        obtain ⟨n, hn⟩ : ∃ n, r / 4503599627370496 = n + 1 := ⟨r / 4503599627370496 - 1, by omega⟩
        rw [hn, Nat.add_sub_cancel, Nat.pow_succ]
        generalize 2 ^ n = y
        omega
      have e3 : 4503599627370496 * 2 ^ (r / 4503599627370496) ≤ (4503599627370496 + q % 4503599627370496) * 2 ^ (q / 4503599627370496 - 1) :=
        Nat.mul_le_mul (by omega) (Nat.pow_le_pow_right (by omega) (by omega))
      omega

theorem mg_inj {r q : Nat} (h : mg r = mg q) : r = q := by
  rcases Nat.lt_trichotomy r q with h1 | h1 | h1
  · exact absurd (mg_mono h1) (by omega)
  · exact h1
  · exact absurd (mg_mono h1) (by omega)
theorem mg_zero : mg 0 = 0 := by decide
theorem mg_pos {r : Nat} (h : r ≠ 0) : 0 < mg r := by have := mg_mono (r := 0) (q := r) (by omega); rw [mg_zero] at this; exact this

theorem rd_fin (s : Bool) (r : Nat) (h : r < 9218868437227405312) : ∃ m e : Nat, rd s r = .number s m (-1074 + (e : Int)) ∧ m * 2 ^ e = mg r := by
  unfold rd mg
  by_cases h1 : r < 4503599627370496
  · rw [if_pos h1, if_pos h1]; exact ⟨r, 0, rfl, by simp⟩
  · rw [if_neg h1, if_neg h1, if_pos h]; exact ⟨_, _, rfl, rfl⟩
theorem rd_nan (s : Bool) (r : Nat) (h : 9218868437227405312 < r) : ∃ t, rd s r = .nan s t := by
  unfold rd; rw [if_neg (by omega), if_neg (by omega), if_neg (by omega)]; exact ⟨_, rfl⟩
theorem rd_inf (s : Bool) : rd s 9218868437227405312 = .infinity s := rfl

def sg (s : Bool) (n : Nat) : Int := if s then -(n : Int) else n

theorem cmp_sg (a b : Int) : (some (compare a b) == some Ordering.eq) = decide (a = b) ∧ (some (compare a b) == some Ordering.lt) = decide (a < b) ∧ (some (compare a b) == some Ordering.gt) = decide (b < a) := by
  have e : compare a b = if a < b then .lt else if a = b then .eq else .gt := rfl
  rw [e]
  by_cases h1 : a < b
  · rw [if_pos h1]; refine ⟨?_, ?_, ?_⟩ <;> (simp; try omega)
  · rw [if_neg h1]
    by_cases h2 : a = b
    · rw [if_pos h2]; refine ⟨?_, ?_, ?_⟩ <;> (simp; try omega)
    · rw [if_neg h2]; refine ⟨?_, ?_, ?_⟩ <;> (simp; try omega)

theorem order_num (s t : Bool) (m n e f : Nat) : Datum.order (.number s m (-1074 + (e : Int))) (.number t n (-1074 + (f : Int))) = some (compare (sg s (m * 2 ^ (e - min e f))) (sg t (n * 2 ^ (f - min e f)))) := by
  unfold Datum.order
  have e1 : ((-1074 + (e : Int)) - min (-1074 + (e : Int)) (-1074 + (f : Int))).toNat = e - min e f := by omega
  have e2 : ((-1074 + (f : Int)) - min (-1074 + (e : Int)) (-1074 + (f : Int))).toNat = f - min e f := by omega
  simp only [e1, e2]
  unfold Ieee.signed sg
  rw [Nat.shiftLeft_eq, Nat.shiftLeft_eq]

theorem scale_eq (s t : Bool) (A B g : Nat) : (sg s A = sg t B) ↔ (sg s (A * 2 ^ g) = sg t (B * 2 ^ g)) := by
  have hp : (0 : Int) < ((2 ^ g : Nat) : Int) := by exact_mod_cast Nat.two_pow_pos g
  have k : ∀ (u : Bool) (X : Nat), sg u (X * 2 ^ g) = sg u X * ((2 ^ g : Nat) : Int) := by
    intro u X; unfold sg; cases u <;> simp [Int.natCast_mul, Int.neg_mul]
  rw [k, k]
  constructor
  · intro h; rw [h]
  · intro h; exact Int.eq_of_mul_eq_mul_right (by omega) h
theorem scale_lt (s t : Bool) (A B g : Nat) : (sg s A < sg t B) ↔ (sg s (A * 2 ^ g) < sg t (B * 2 ^ g)) := by
  have hp : (0 : Int) < ((2 ^ g : Nat) : Int) := by exact_mod_cast Nat.two_pow_pos g
  have k : ∀ (u : Bool) (X : Nat), sg u (X * 2 ^ g) = sg u X * ((2 ^ g : Nat) : Int) := by
    intro u X; unfold sg; cases u <;> simp [Int.natCast_mul, Int.neg_mul]
  rw [k, k]
  constructor
  · intro h; exact Int.mul_lt_mul_of_pos_right h hp
  · intro h; exact Int.lt_of_mul_lt_mul_right h (by omega)

/-- finite words are ordered as their magnitudes with signs -/
theorem order_fin (s t : Bool) (r q : Nat) (hr : r < 9218868437227405312) (hq : q < 9218868437227405312) :
    (Datum.order (rd s r) (rd t q) == some Ordering.eq) = decide (sg s (mg r) = sg t (mg q)) ∧
    (Datum.order (rd s r) (rd t q) == some Ordering.lt) = decide (sg s (mg r) < sg t (mg q)) ∧
    (Datum.order (rd s r) (rd t q) == some Ordering.gt) = decide (sg t (mg q) < sg s (mg r)) := by
  obtain ⟨m, e, h1, h2⟩ := rd_fin s r hr
  obtain ⟨n, f, h3, h4⟩ := rd_fin t q hq
  rw [h1, h3, order_num]
  obtain ⟨c1, c2, c3⟩ := cmp_sg (sg s (m * 2 ^ (e - min e f))) (sg t (n * 2 ^ (f - min e f)))
  have k1 : m * 2 ^ (e - min e f) * 2 ^ (min e f) = mg r := by rw [Nat.mul_assoc, ← Nat.pow_add, show e - min e f + min e f = e by omega, h2]
  have k2 : n * 2 ^ (f - min e f) * 2 ^ (min e f) = mg q := by rw [Nat.mul_assoc, ← Nat.pow_add, show f - min e f + min e f = f by omega, h4]
  rw [c1, c2, c3]
  refine ⟨?_, ?_, ?_⟩
  · rw [decide_eq_decide, scale_eq s t _ _ (min e f), k1, k2]
  · rw [decide_eq_decide, scale_lt s t _ _ (min e f), k1, k2]
  · rw [decide_eq_decide, scale_lt t s _ _ (min e f), k1, k2]

theorem order_nan_l (s : Bool) (r : Nat) (h : 9218868437227405312 < r) (d : Datum) : Datum.order (rd s r) d = none := by
  obtain ⟨t, e⟩ := rd_nan s r h; rw [e]; cases d <;> rfl
theorem order_nan_r (s : Bool) (r : Nat) (h : 9218868437227405312 < r) (d : Datum) : Datum.order d (rd s r) = none := by
  obtain ⟨t, e⟩ := rd_nan s r h; rw [e]; cases d <;> rfl

def nanB (x : Nat) : Bool := decide (9218868437227405312 < x % 9223372036854775808)
def negB (x : Nat) : Bool := !nanB x && decide (9223372036854775808 ≤ x)
def sameB (a b : Nat) : Bool := if nanB a || nanB b then nanB a && nanB b else a == b
def sortN (x : Nat) : Int := if nanB x then 0 else if x % 9223372036854775808 = 9218868437227405312 then 1 else if x % 9223372036854775808 = 0 then 2 else 3
def eqB (x y : Nat) : Bool := !nanB x && !nanB y && (x == y || x % 9223372036854775808 == 0 && y % 9223372036854775808 == 0)

theorem order_eqB (x y : Nat) (hx : x < 18446744073709551616) (hy : y < 18446744073709551616) : (Ieee.double.order x y == some Ordering.eq) = eqB x y := by
  unfold Format.order eqB nanB
  obtain ⟨r, hr⟩ : ∃ r, r = x % 9223372036854775808 := ⟨_, rfl⟩
  obtain ⟨q, hq⟩ : ∃ q, q = y % 9223372036854775808 := ⟨_, rfl⟩
  obtain ⟨s, hs⟩ : ∃ s, s = decide (9223372036854775808 ≤ x) := ⟨_, rfl⟩
  obtain ⟨t, ht⟩ : ∃ t, t = decide (9223372036854775808 ≤ y) := ⟨_, rfl⟩
  have ex := wd_of x hx
  have ey := wd_of y hy
  rw [← hr, ← hs] at ex
  rw [← hq, ← ht] at ey
  have hr' : r < 9223372036854775808 := by omega
  have hq' : q < 9223372036854775808 := by omega
  rw [← hr, ← hq]
  have exy : (x == y) = (s == t && r == q) := by
    rw [Bool.eq_iff_iff]; simp only [beq_iff_eq, Bool.and_eq_true]
    constructor
    · intro h; subst h; exact ⟨by rw [hs, ht], by rw [hr, hq]⟩
    · intro h; rw [ex, ey, h.1, h.2]
  rw [exy]
  rw [show Ieee.double.read x = rd s r by rw [ex]; exact read_wd s r hr', show Ieee.double.read y = rd t q by rw [ey]; exact read_wd t q hq']
  clear ex ey exy hr hq hs ht
  by_cases n1 : 9218868437227405312 < r
  · rw [order_nan_l s r n1]; simp [n1]
  by_cases n2 : 9218868437227405312 < q
  · rw [order_nan_r t q n2]; simp [n2]
  have d1 : decide (9218868437227405312 < r) = false := by simp; omega
  have d2 : decide (9218868437227405312 < q) = false := by simp; omega
  rw [d1, d2]
  simp only [Bool.not_false, Bool.true_and]
  by_cases f1 : r < 9218868437227405312
  · by_cases f2 : q < 9218868437227405312
    · rw [(order_fin s t r q f1 f2).1, Bool.eq_iff_iff]
      simp only [decide_eq_true_eq, Bool.or_eq_true, Bool.and_eq_true, beq_iff_eq]
      constructor
      · intro h
        unfold sg at h
        by_cases z1 : r = 0
        · subst z1; rw [mg_zero] at h
          have : q = 0 := by
            by_cases z2 : q = 0
            · exact z2
            · have := mg_pos z2; cases s <;> cases t <;> simp at h <;> omega
          exact .inr ⟨rfl, this⟩
        · have := mg_pos z1
          refine .inl ?_
          cases s <;> cases t <;> simp at h
          · exact ⟨rfl, mg_inj (by omega)⟩
          · omega
          · omega
          · exact ⟨rfl, mg_inj (by omega)⟩
      · rintro (⟨rfl, rfl⟩ | ⟨rfl, rfl⟩)
        · rfl
        · rw [mg_zero]; cases s <;> cases t <;> rfl
    · obtain rfl : q = 9218868437227405312 := by omega
      obtain ⟨m, e, h1, _⟩ := rd_fin s r f1
      rw [h1, rd_inf]
      have : (r == 9218868437227405312) = false := by simp; omega
      rw [this]
      cases t <;> simp [Datum.order]
  · obtain rfl : r = 9218868437227405312 := by omega
    by_cases f2 : q < 9218868437227405312
    · obtain ⟨m, e, h1, _⟩ := rd_fin t q f2
      rw [h1, rd_inf]
      have : ((9218868437227405312 : Nat) == q) = false := by simp; omega
      rw [this]
      cases s <;> simp [Datum.order]
    · obtain rfl : q = 9218868437227405312 := by omega
      rw [rd_inf, rd_inf]
      cases s <;> cases t <;> rfl

theorem read_bits (x : Nat) (h : x < 18446744073709551616) : Ieee.double.read x = rd (decide (9223372036854775808 ≤ x)) (x % 9223372036854775808) := by
  have := read_wd (decide (9223372036854775808 ≤ x)) (x % 9223372036854775808) (by omega)
  rw [← wd_of x h] at this; exact this

theorem order_ltz (x : Nat) (hx : x < 18446744073709551616) : (Ieee.double.order x 0 == some Ordering.lt) = (negB x && !(x % 9223372036854775808 == 0)) := by
  unfold Format.order negB nanB
  rw [read_bits x hx, read_bits 0 (by omega)]
  generalize hs : decide (9223372036854775808 ≤ x) = s
  generalize hr : x % 9223372036854775808 = r
  have e0 : rd (decide (9223372036854775808 ≤ 0)) (0 % 9223372036854775808) = rd false 0 := rfl
  rw [e0]
  have hr' : r < 9223372036854775808 := by omega
  clear hs hr
  by_cases n1 : 9218868437227405312 < r
  · rw [order_nan_l s r n1]; simp [n1]
  have d1 : decide (9218868437227405312 < r) = false := by simp; omega
  rw [d1]
  by_cases f1 : r < 9218868437227405312
  · rw [(order_fin s false r 0 f1 (by omega)).2.1, mg_zero, Bool.eq_iff_iff]
    unfold sg
    by_cases z1 : r = 0
    · subst z1; rw [mg_zero]; cases s <;> simp
    · have := mg_pos z1; cases s <;> simp <;> omega
  · obtain rfl : r = 9218868437227405312 := by omega
    cases s <;> rfl

theorem order_gtmax (x : Nat) : (Ieee.double.order (x % 9223372036854775808) 9218868437227405311 == some Ordering.gt) = (x % 9223372036854775808 == 9218868437227405312) := by
  unfold Format.order
  generalize hr : x % 9223372036854775808 = r
  have hr' : r < 9223372036854775808 := by omega
  clear hr
  have e1 : Ieee.double.read r = rd false r := read_wd false r hr'
  have e2 : Ieee.double.read 9218868437227405311 = rd false 9218868437227405311 := read_wd false 9218868437227405311 (by omega)
  rw [e1, e2]
  by_cases n1 : 9218868437227405312 < r
  · rw [order_nan_l false r n1]; symm; simp; omega
  by_cases f1 : r < 9218868437227405312
  · rw [(order_fin false false r 9218868437227405311 f1 (by omega)).2.2]
    have h1 : mg r ≤ mg 9218868437227405311 := by
      by_cases e : r = 9218868437227405311
      · rw [e]; exact Nat.le_refl _
      · exact Nat.le_of_lt (mg_mono (by omega))
    have h2 : (r == 9218868437227405312) = false := by simp; omega
    rw [h2]; unfold sg; simp; omega
  · obtain rfl : r = 9218868437227405312 := by omega
    obtain ⟨m, e, h1, _⟩ := rd_fin false 9218868437227405311 (by omega)
    rw [h1, rd_inf]; rfl
end Go.Proofs.YtlgphmpdenkilaaDoor.Fl
