/- What a whole number's text is worth, with its zeros and its exponents. Plain Lean. No condition but the bounds that each fact names. -/
import Derived.Test.YtlgphmpdenkilaaDoorLedges
namespace Go.Proofs.YtlgphmpdenkilaaDoor
open Go.RowKit
open Fl

theorem cn_is (c : Int) (s : ByteArray) (i j : Nat) (h : j < cn c s i) : bt s ((i + j : Nat) : Int) = c := by
  by_cases hi : i < s.size
  · by_cases hd : bt s i = c
    · rw [cn_yes c s i hi hd] at h
      cases j with
      | zero => exact hd
      | succ j =>
        have := cn_is c s (i + 1) j (by omega)
        rw [show i + (j + 1) = i + 1 + j by omega]; exact this
    · rw [cn_no c s i hd] at h; omega
  · rw [cn_end c s i (by omega)] at h; omega
termination_by s.size - i
theorem wv_zero (s : ByteArray) (n : Nat) (h : ∀ j < n, bt s (j : Nat) = 48) : wv s n = 0 := by
  induction n with
  | zero => rfl
  | succ n ih =>
    simp only [wv]
    rw [ih (fun j hj => h j (by omega)), h n (by omega)]; rfl
theorem wv_cut (s : ByteArray) (c n : Nat) (hc : c + n ≤ s.size) (h0 : wv s c = 0) : wv (s.extract c s.size) n = wv s (c + n) := by
  induction n with
  | zero => exact h0.symm
  | succ n ih =>
    rw [show c + (n + 1) = c + n + 1 by omega]
    simp only [wv]
    rw [ih (by omega), bt_extract s c s.size n (by omega) (Nat.le_refl _)]
/-- the noughts ahead change no number -/
theorem wv_trim (M : ByteArray) : wv (trim0 M) (trim0 M).size = wv M M.size := by
  have hc := cn_le 48 M 0 (Nat.zero_le _)
  unfold trim0
  have e : (M.extract (cn 48 M 0) M.size).size = M.size - cn 48 M 0 := by rw [ex_size]; omega
  rw [e, wv_cut M _ _ (by omega) (wv_zero M _ (fun j hj => by have := cn_is 48 M 0 j hj; rw [Nat.zero_add] at this; exact this))]
  rw [show cn 48 M 0 + (M.size - cn 48 M 0) = M.size by omega]
theorem trim_le (M : ByteArray) : (trim0 M).size ≤ M.size := by
  unfold trim0; rw [ex_size]; omega
theorem wv_app_l (A B : ByteArray) (n : Nat) (h : n ≤ A.size) : wv (A ++ B) n = wv A n := by
  induction n with
  | zero => rfl
  | succ n ih =>
    simp only [wv]
    rw [ih (by omega), bt_append_l A B n (by omega)]
theorem wv_app (A B : ByteArray) (n : Nat) (h : n ≤ B.size) : wv (A ++ B) (A.size + n) = wv A A.size * 10 ^ n + wv B n := by
  induction n with
  | zero => simp only [wv, Nat.add_zero, Nat.pow_zero, Nat.mul_one]; exact wv_app_l A B _ (Nat.le_refl _)
  | succ n ih =>
    rw [show A.size + (n + 1) = A.size + n + 1 by omega]
    simp only [wv]
    rw [ih (by omega), bt_append_r A B n (by omega), Nat.pow_succ, Nat.mul_add, ← Nat.mul_assoc, Nat.mul_comm 10, Nat.mul_assoc, Nat.mul_comm 10]
    omega
theorem wv_app0 (A B : ByteArray) (hB : All0 B) : wv (A ++ B) (A ++ B).size = wv A A.size * 10 ^ B.size := by
  rw [ByteArray.size_append, wv_app A B B.size (Nat.le_refl _), wv_zero B B.size (fun j hj => hB j hj), Nat.add_zero]
theorem wv_front (u : UInt8) (d : Nat) (hu : (u.toNat : Int) = 48 + d) (s : ByteArray) : wv (⟨#[u]⟩ ++ s) (⟨#[u]⟩ ++ s).size = d * 10 ^ s.size + wv s s.size := by
  rw [ByteArray.size_append, wv_app ⟨#[u]⟩ s s.size (Nat.le_refl _)]
  have : wv ⟨#[u]⟩ (⟨#[u]⟩ : ByteArray).size = d := by
    show 10 * 0 + (bt ⟨#[u]⟩ ((0 : Nat) : Int) - 48).toNat = d
    rw [show bt ⟨#[u]⟩ ((0 : Nat) : Int) = (u.toNat : Int) from rfl, hu]; omega
  rw [this]

theorem pw_W (k : Nat) (h : k ≤ 15) : pw k = W false (10 ^ k) := by
  have : ∀ j : Fin 16, pw j.1 = W false (10 ^ j.1) := by decide +kernel
  exact this ⟨k, by omega⟩
theorem ten_le (k : Nat) (h : k ≤ 15) : 10 ^ k ≤ 1000000000000000 := by
  have : ∀ j : Fin 16, 10 ^ j.1 ≤ 1000000000000000 := by decide
  exact this ⟨k, by omega⟩
theorem pow_le15 (k : Nat) (h : 10 ^ k < 1000000000000000) : k < 15 := by
  have h2 : (1000000000000000 : Nat) = 10 ^ 15 := by decide
  rw [h2] at h
  exact (Nat.pow_lt_pow_iff_right (by omega)).1 h
theorem W_zero : W false 0 = 0 := rfl

/-- digits with an exponent that takes zeros back -/
theorem val_down (M : ByteArray) (hM : AllD M) (hs : M.size ≤ 15) (k q : Nat) (hk : k ≤ 9) (hv : wv M M.size = q * 10 ^ k) : valR (trim0 M) (-(k : Int)) = some (W false q) := by
  have hz := trim_le M
  have hlt := wv_lt M M.size (fun j hj => hM j hj)
  have h15 := ten_le M.size hs
  have hpk := ten_le k (by omega)
  have hp0 : 0 < 10 ^ k := Nat.pow_pos (by omega)
  have hq : q ≤ q * 10 ^ k := Nat.le_mul_of_pos_right q hp0
  unfold valR
  split
  · rename_i h
    have := wv_trim M
    rw [h, hv] at this
    have h0 : q * 10 ^ k = 0 := this.symm
    obtain rfl : q = 0 := by omega
    rfl
  · rw [if_neg (by omega), if_neg (by omega), if_neg (by omega), wv_trim, hv]
    unfold valF
    by_cases h0 : k = 0
    · subst h0
      have e : Ieee.double.mul (W false q) (W false 1) = some (W false q) := by
        have := W_mul false false q 1 (by omega) (by omega) (by omega)
        rw [Nat.mul_one] at this; exact this
      rw [if_neg (by simp), Nat.pow_zero, Nat.mul_one, show pw (-((0 : Nat) : Int)).toNat = W false 1 by decide +kernel, e]; rfl
    · rw [if_pos (by omega), show (-(-(k : Int))).toNat = k by omega, pw_W k (by omega), W_div q (10 ^ k) (by omega) (by omega) (by omega) (by omega)]; rfl
/-- digits with an exponent that brings zeros -/
theorem val_up (M : ByteArray) (hM : AllD M) (k : Nat) (hs : M.size + k ≤ 15) : valR (trim0 M) (k : Int) = some (W false (wv M M.size * 10 ^ k)) := by
  have hz := trim_le M
  have hlt := wv_lt M M.size (fun j hj => hM j hj)
  have h15 := ten_le M.size (by omega)
  have hpk := ten_le k (by omega)
  have hp0 : 0 < 10 ^ k := Nat.pow_pos (by omega)
  have hmul : wv M M.size * 10 ^ k < 1000000000000001 := by
    have h1 : wv M M.size * 10 ^ k ≤ 10 ^ M.size * 10 ^ k := Nat.mul_le_mul_right _ (by omega)
    rw [← Nat.pow_add] at h1
    have h2 := ten_le (M.size + k) hs
    omega
  unfold valR
  split
  · rename_i h
    have := wv_trim M
    rw [h] at this
    have h0 : wv M M.size = 0 := this.symm
    rw [h0, Nat.zero_mul]; rfl
  · rw [if_neg (by omega), if_neg (by omega), if_neg (by omega), wv_trim]
    unfold valF
    rw [if_neg (by omega), show (k : Int).toNat = k by omega, pw_W k (by omega), W_mul false false _ (10 ^ k) (by omega) (by omega) (by omega)]; rfl

theorem xf_one (u : UInt8) (d : Nat) (hd : d ≤ 9) (hu : (u.toNat : Int) = 48 + d) : xf ⟨#[u]⟩ 0 (⟨#[u]⟩ : ByteArray).size = d := by
  show min 1000000 (10 * 0 + (bt ⟨#[u]⟩ ((0 + 0 : Nat) : Int) - 48)) = (d : Int)
  rw [show bt ⟨#[u]⟩ ((0 + 0 : Nat) : Int) = (u.toNat : Int) from rfl, hu]; omega
theorem dg (u : UInt8) (d : Nat) (hd : d ≤ 9) (hu : (u.toNat : Int) = 48 + d) : AllD ⟨#[u]⟩ :=
  allD_one u (by unfold isDc; rw [decide_eq_true (by omega), decide_eq_true (by omega)]; rfl)

/-- s -/
theorem wt1 (s : ByteArray) (hs : AllD s) (h0 : 0 < s.size) (h1 : s.size ≤ 15) : realV s = W false (wv s s.size) := by
  have h := head_plain s ByteArray.empty hs h0 dn_empty (at_empty _)
  rw [sh_empty] at h
  have hr := realR_bare s s.size 0 s h rfl
  have hv := val_down s hs h1 0 (wv s s.size) (by omega) (by rw [Nat.pow_zero, Nat.mul_one])
  rw [hv] at hr
  exact val_plain s (hs 0 h0) _ hr
/-- s.0 -/
theorem wt2 (s : ByteArray) (hs : AllD s) (h0 : 0 < s.size) (h1 : s.size ≤ 14) : realV (s ++ ⟨#[46, 48]⟩) = W false (wv s s.size) := by
  have d48 : AllD ⟨#[48]⟩ := dg 48 0 (by omega) rfl
  have z48 : All0 ⟨#[48]⟩ := fun j hj => by
    have : j < 1 := hj
    obtain rfl : j = 0 := by omega
    rfl
  have h := head_dot s ⟨#[48]⟩ ByteArray.empty hs h0 d48 (by show 0 < 1; omega) dn_empty
  rw [sh_empty, show (⟨#[46]⟩ ++ ⟨#[48]⟩ : ByteArray) = ⟨#[46, 48]⟩ from rfl] at h
  have hr := realR_bare _ _ _ _ h (by rw [ByteArray.size_append]; rfl)
  have hv := val_down (s ++ ⟨#[48]⟩) (allD_app _ _ hs d48) (by rw [ByteArray.size_append, sz1]; omega) 1 (wv s s.size) (by omega) (by rw [wv_app0 s _ z48]; rfl)
  have hr2 := hr.trans hv
  exact val_plain _ (firstA _ _ h0 (hs 0 h0)) _ hr2
/-- s with an exponent of noughts or more -/
theorem wt3 (s : ByteArray) (hs : AllD s) (h0 : 0 < s.size) (h1 : s.size ≤ 15) : realV (s ++ ⟨#[101, 48]⟩) = W false (wv s s.size) := by
  have h := head_plain s (⟨#[101]⟩ ++ ⟨#[48]⟩) hs h0 (dn_e _) (by rw [at_one]; decide +kernel)
  have hr := exp_plain 101 (by decide +kernel) s ⟨#[48]⟩ (dg 48 0 (by omega) rfl) (by show 0 < 1; omega) 0 s h
  rw [xf_one 48 0 (by omega) rfl] at hr
  have hv := val_down s hs h1 0 (wv s s.size) (by omega) (by rw [Nat.pow_zero, Nat.mul_one])
  have hr2 : realR (s ++ ⟨#[101, 48]⟩) = some (W false (wv s s.size)) := hr.trans hv
  exact val_plain _ (firstA _ _ h0 (hs 0 h0)) _ hr2
/-- s and k noughts, with those taken back -/
theorem wt4 (s z : ByteArray) (hs : AllD s) (h0 : 0 < s.size) (hz : All0 z) (h1 : s.size + z.size ≤ 15) (h9 : z.size ≤ 9) (u : UInt8) (hu : (u.toNat : Int) = 48 + z.size) :
    realV (((s ++ z) ++ ⟨#[69, 45]⟩) ++ ⟨#[u]⟩) = W false (wv s s.size) := by
  have hsz := allD_app s z hs (all0_d z hz)
  have hp : 0 < (s ++ z).size := by rw [ByteArray.size_append]; omega
  have hd := dg u z.size h9 hu
  have h := head_plain (s ++ z) (⟨#[69]⟩ ++ (⟨#[45]⟩ ++ ⟨#[u]⟩)) hsz hp (dn_one _ _ (by decide)) (by rw [at_one]; decide +kernel)
  have hr := exp_sign 69 (by decide +kernel) 45 true (.inl ⟨rfl, rfl⟩) (s ++ z) ⟨#[u]⟩ hd (by show 0 < 1; omega) 0 _ h
  rw [xf_one u z.size h9 hu, if_pos rfl] at hr
  have hv := val_down (s ++ z) hsz (by rw [ByteArray.size_append]; omega) z.size (wv s s.size) h9 (wv_app0 s z hz)
  have hr2 : realR ((s ++ z) ++ (⟨#[69]⟩ ++ (⟨#[45]⟩ ++ ⟨#[u]⟩))) = some (W false (wv s s.size)) := by
    rw [hr, ← hv]; refine congrArg _ ?_; omega
  rw [show (⟨#[69, 45]⟩ : ByteArray) = ⟨#[69]⟩ ++ ⟨#[45]⟩ from rfl, ByteArray.append_assoc, ByteArray.append_assoc (a := ⟨#[69]⟩)]
  exact val_plain _ (firstA _ _ hp (hsz 0 hp)) _ hr2
/-- s with an exponent that brings k noughts -/
theorem wt5 (s : ByteArray) (k : Nat) (hs : AllD s) (h0 : 0 < s.size) (h1 : s.size + k ≤ 15) (h9 : k ≤ 9) (u : UInt8) (hu : (u.toNat : Int) = 48 + k) :
    realV ((s ++ ⟨#[101, 43]⟩) ++ ⟨#[u]⟩) = W false (wv s s.size * 10 ^ k) := by
  have hd := dg u k h9 hu
  have h := head_plain s (⟨#[101]⟩ ++ (⟨#[43]⟩ ++ ⟨#[u]⟩)) hs h0 (dn_one _ _ (by decide)) (by rw [at_one]; decide +kernel)
  have hr := exp_sign 101 (by decide +kernel) 43 false (.inr ⟨rfl, rfl⟩) s ⟨#[u]⟩ hd (by show 0 < 1; omega) 0 _ h
  rw [xf_one u k h9 hu, if_neg (by simp)] at hr
  have hv := val_up s hs k h1
  have hr2 : realR (s ++ (⟨#[101]⟩ ++ (⟨#[43]⟩ ++ ⟨#[u]⟩))) = some (W false (wv s s.size * 10 ^ k)) := by
    rw [hr, ← hv]; refine congrArg _ ?_; omega
  rw [show (⟨#[101, 43]⟩ : ByteArray) = ⟨#[101]⟩ ++ ⟨#[43]⟩ from rfl, ByteArray.append_assoc, ByteArray.append_assoc (a := ⟨#[101]⟩)]
  exact val_plain _ (firstA _ _ h0 (hs 0 h0)) _ hr2
/-- s and k noughts -/
theorem wt6 (s z : ByteArray) (hs : AllD s) (h0 : 0 < s.size) (hz : All0 z) (h1 : s.size + z.size ≤ 15) : realV (s ++ z) = W false (wv s s.size * 10 ^ z.size) := by
  have := wt1 (s ++ z) (allD_app s z hs (all0_d z hz)) (by rw [ByteArray.size_append]; omega) (by rw [ByteArray.size_append]; omega)
  rw [wv_app0 s z hz] at this; exact this
end Go.Proofs.YtlgphmpdenkilaaDoor
