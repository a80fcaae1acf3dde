/- What a number's text is worth, in plain Lean: how it is read, and what its digits and its exponent come to. No condition. -/
import Derived.Test.YtlgphmpdenkilaaDoorFm
import Derived.Test.YtlgphmpdenkilaaDoorRc
namespace Go.Proofs.YtlgphmpdenkilaaDoor
open Go.RowKit
open Fl

/-- an exponent out of n digits from a place on -/
def xf (s : ByteArray) (i : Nat) : Nat → Int
  | 0 => 0
  | n + 1 => min 1000000 (10 * xf s i n + (bt s ((i + n : Nat) : Int) - 48))
/-- the first n digits of a text, as a number -/
def wv (s : ByteArray) : Nat → Nat
  | 0 => 0
  | n + 1 => 10 * wv s n + (bt s n - 48).toNat
def ten : Nat := 4621819117588971520
/-- powers of ten as floats -/
def pw : Nat → Nat
  | 0 => 4607182418800017408
  | n + 1 => (Ieee.double.mul (pw n) ten).getD 0

theorem pw_mul (n : Nat) (h : n < 22) : Ieee.double.mul (pw n) ten = some (pw (n + 1)) := by
  have : ∀ k : Fin 22, Ieee.double.mul (pw k.1) ten = some (pw (k.1 + 1)) := by decide +kernel
  exact this ⟨n, h⟩
theorem pw_mul' (n : Nat) (h : n < 22) : Ieee.double.mul ten (pw n) = some (pw (n + 1)) := by
  have : ∀ k : Fin 22, Ieee.double.mul ten (pw k.1) = some (pw (k.1 + 1)) := by decide +kernel
  exact this ⟨n, h⟩

theorem xf_range (s : ByteArray) (i n : Nat) (h : ∀ j < n, isDc (bt s ((i + j : Nat) : Int)) = true) : 0 ≤ xf s i n ∧ xf s i n ≤ 1000000 := by
  induction n with
  | zero => simp [xf]
  | succ n ih =>
    have := ih (fun j hj => h j (by omega))
    have hd := h n (by omega)
    unfold isDc at hd
    simp only [Bool.and_eq_true, decide_eq_true_eq] at hd
    simp only [xf]
    omega

theorem wv_lt (s : ByteArray) (n : Nat) (h : ∀ j < n, isDc (bt s (j : Int)) = true) : wv s n < 10 ^ n := by
  induction n with
  | zero => simp [wv]
  | succ n ih =>
    have := ih (fun j hj => h j (by omega))
    have hd := h n (by omega)
    unfold isDc at hd
    simp only [Bool.and_eq_true, decide_eq_true_eq] at hd
    simp only [wv]
    rw [Nat.pow_succ]
    omega

/-- the greatest of what a product or a quotient of two floats without a sign comes to is infinity -/
theorem nearest_le (m : Nat) (p : Int) : Ieee.double.nearest false m p ≤ 9218868437227405312 := by
  unfold Ieee.Format.nearest
  split
  · unfold Ieee.Format.word; simp
  · dsimp only; unfold Ieee.Format.word; rw [d_inf]; simp; omega

theorem mul_pos (x y : Nat) (hx : x < 9218868437227405312) (hy : y < 9218868437227405312) : ∃ r, Ieee.double.mul x y = some r ∧ r ≤ 9218868437227405312 := by
  obtain ⟨m, e, h1, _⟩ := rd_fin false x hx
  obtain ⟨n, f, h2, _⟩ := rd_fin false y hy
  unfold Ieee.Format.mul
  rw [show Ieee.double.read x = rd false x from read_wd false x (by omega), show Ieee.double.read y = rd false y from read_wd false y (by omega), h1, h2]
  exact ⟨_, rfl, nearest_le _ _⟩
theorem div_pos (x y : Nat) (hx : x < 9218868437227405312) (hy : y < 9218868437227405312) (h0 : y ≠ 0) : ∃ r, Ieee.double.div x y = some r ∧ r ≤ 9218868437227405312 := by
  obtain ⟨m, e, h1, _⟩ := rd_fin false x hx
  obtain ⟨n, f, h2, h3⟩ := rd_fin false y hy
  have hn : n ≠ 0 := by
    intro h; subst h
    have := mg_pos h0
    omega
  unfold Ieee.Format.div
  rw [show Ieee.double.read x = rd false x from read_wd false x (by omega), show Ieee.double.read y = rd false y from read_wd false y (by omega), h1, h2]
  unfold Ieee.Datum.quotient
  dsimp only
  rw [if_neg hn]
  exact ⟨_, rfl, nearest_le _ _⟩

theorem pw_lt (n : Nat) (h : n ≤ 22) : pw n < 9218868437227405312 ∧ pw n ≠ 0 := by
  have : ∀ k : Fin 23, pw k.1 < 9218868437227405312 ∧ pw k.1 ≠ 0 := by decide +kernel
  exact this ⟨n, by omega⟩

/-- digits v with exponent x, exactly where they are exact -/
def valF (v : Nat) (x : Int) : Nat := if x < 0 then (Ieee.double.div (W false v) (pw (-x).toNat)).getD 0 else (Ieee.double.mul (W false v) (pw x.toNat)).getD 0
theorem valF_neg (v : Nat) (x : Int) (hv : v < 9007199254740992) (h1 : x < 0) (h2 : -22 ≤ x) : Ieee.double.div (W false v) (pw (-x).toNat) = some (valF v x) ∧ valF v x ≤ 9218868437227405312 := by
  have hp := pw_lt (-x).toNat (by omega)
  obtain ⟨r, hr, hl⟩ := div_pos (W false v) (pw (-x).toNat) (rung_lt v hv) hp.1 hp.2
  unfold valF
  rw [if_pos h1, hr]
  exact ⟨rfl, hl⟩
theorem valF_pos (v : Nat) (x : Int) (hv : v < 9007199254740992) (h1 : ¬ x < 0) (h2 : x ≤ 22) : Ieee.double.mul (W false v) (pw x.toNat) = some (valF v x) ∧ valF v x ≤ 9218868437227405312 := by
  have hp := pw_lt x.toNat (by omega)
  obtain ⟨r, hr, hl⟩ := mul_pos (W false v) (pw x.toNat) (rung_lt v hv) hp.1
  unfold valF
  rw [if_neg h1, hr]
  exact ⟨rfl, hl⟩

/-- what digits with an exponent are worth: none, where that is not told -/
def valR (z : ByteArray) (x : Int) : Option Nat :=
  if z.size = 0 then some 0 else if 400 < (z.size : Int) + x then some 9218868437227405312 else if (z.size : Int) + x < -400 then some 0
  else if 15 < z.size ∨ x < -22 ∨ 22 < x then none else some (valF (wv z z.size) x)


def cutA2 (t : ByteArray) : Nat := if isAt ⟨#[46]⟩ t (dn t 0) then dn t 0 + 1 else dn t 0
def cutA3 (t : ByteArray) : Nat := if isAt ⟨#[46]⟩ t (dn t 0) then cutA2 t + dn t (cutA2 t) else dn t 0
def cutE (t : ByteArray) : Bool := isAt ⟨#[101, 69]⟩ t (cutA3 t)
def cutDown (t : ByteArray) : Bool := isAt ⟨#[45]⟩ t (cutA3 t + 1)
def cutA5 (t : ByteArray) : Nat := if cutDown t then cutA3 t + 2 else if isAt ⟨#[43]⟩ t (cutA3 t + 1) then cutA3 t + 2 else cutA3 t + 1
def cutA6 (t : ByteArray) : Nat := if cutE t then cutA5 t + dn t (cutA5 t) else cutA3 t
def cutX (t : ByteArray) : Int := if cutE t then (if cutDown t then -(xf t (cutA5 t) (dn t (cutA5 t))) else xf t (cutA5 t) (dn t (cutA5 t))) else 0
def cutFine (t : ByteArray) : Bool := !(dn t 0 == 0) && (!(isAt ⟨#[46]⟩ t (dn t 0)) || !(dn t (cutA2 t) == 0)) && (!(cutE t) || !(dn t (cutA5 t) == 0))
def realR (t : ByteArray) : Option Nat :=
  if cutFine t && decide (t.size ≤ cutA6 t) then valR (trim0 (t.extract 0 (dn t 0) ++ t.extract (cutA2 t) (cutA3 t))) (cutX t - (cutA3 t - cutA2 t : Nat)) else none
def bitsR (m : Bool) : Option Nat → Nat
  | none => 9221120237041090561
  | some r => wd m r
/-- what package real makes of a text -/
def realV (s : ByteArray) : Nat := bitsR (firstIs 45 s) (realR (if firstIs 45 s then s.extract 1 s.size else s))
end Go.Proofs.YtlgphmpdenkilaaDoor
