/- What a text of a told shape is worth: digits, a dot with digits, an exponent. Plain Lean. No condition. -/
import Derived.Test.YtlgphmpdenkilaaDoorLminus
namespace Go.Proofs.YtlgphmpdenkilaaDoor
open Go.RowKit
open Fl

/-- all bytes are digits -/
def AllD (a : ByteArray) : Prop := ∀ j < a.size, isDc (bt a (j : Nat)) = true

theorem sh_size (a r : ByteArray) : a.size ≤ (a ++ r).size := by rw [ByteArray.size_append]; omega
theorem sh_dn (a r : ByteArray) (i : Nat) : dn (a ++ r) (a.size + i) = dn r i := by
  have := dn_extract (a ++ r) a.size i (sh_size a r)
  rw [ext_app] at this; exact this.symm
theorem sh_at (cs a r : ByteArray) (i : Nat) : isAt cs (a ++ r) (a.size + i) = isAt cs r i := by
  have := isAt_ext cs (a ++ r) a.size i (sh_size a r)
  rw [ext_app] at this; exact this.symm
theorem sh_xf (a r : ByteArray) (i n : Nat) (h : i + n ≤ r.size) : xf (a ++ r) (a.size + i) n = xf r i n := by
  have := xf_ext (a ++ r) a.size i n (by rw [ByteArray.size_append]; omega)
  rw [ext_app] at this; exact this.symm
theorem sh_ex (a r : ByteArray) (i j : Nat) : (a ++ r).extract (a.size + i) (a.size + j) = r.extract i j := by
  have h1 := ex_ex (a ++ r) a.size (a ++ r).size i j (Nat.le_refl _)
  rw [ext_app] at h1
  rw [h1]
  apply ba_ext
  · simp only [ex_size, ByteArray.size_append]; omega
  · intro k h2 h3; rw [ex_get, ex_get]
theorem sh_take (a r : ByteArray) : (a ++ r).extract 0 a.size = a := by
  apply ba_ext
  · rw [ex_size, ByteArray.size_append]; omega
  · intro i h1 h2
    rw [ex_get, ByteArray.getElem_append_left (by omega)]
    congr 1; omega
theorem sh_dn0 (a : ByteArray) (ha : AllD a) (r : ByteArray) (hr : dn r 0 = 0) : ∀ n i, i + n = a.size → dn (a ++ r) i = n
  | 0, i, h => by
    have := sh_dn a r 0
    rw [hr, Nat.add_zero] at this
    rw [show i = a.size by omega]; exact this
  | n + 1, i, h => by
    have hb := bt_append_l a r i (by omega)
    rw [dn_yes _ i (by rw [ByteArray.size_append]; omega) (by rw [hb]; exact ha i (by omega))]
    rw [sh_dn0 a ha r hr n (i + 1) (by omega)]
theorem sh_dnA (a r : ByteArray) (ha : AllD a) (hr : dn r 0 = 0) : dn (a ++ r) 0 = a.size := sh_dn0 a ha r hr a.size 0 (by omega)
theorem sh_empty (a : ByteArray) : a ++ ByteArray.empty = a := by
  apply ba_ext
  · rw [ByteArray.size_append]; rfl
  · intro i h1 h2; rw [ByteArray.getElem_append_left h2]
theorem empty_sh (a : ByteArray) : ByteArray.empty ++ a = a := by
  apply ba_ext
  · rw [ByteArray.size_append]; simp
  · intro i h1 h2
    rw [ByteArray.getElem_append_right (by simp)]
    simp
theorem dn_empty : dn ByteArray.empty 0 = 0 := dn_end _ _ (Nat.le_refl _)
theorem sh_dnE (a : ByteArray) (ha : AllD a) : dn a 0 = a.size := by
  have := sh_dnA a ByteArray.empty ha dn_empty
  rw [sh_empty] at this; exact this
theorem at_empty (cs : ByteArray) : isAt cs ByteArray.empty 0 = false := rfl
theorem at_one (cs : ByteArray) (c : UInt8) (r : ByteArray) : isAt cs (⟨#[c]⟩ ++ r) 0 = inB cs (c.toNat : Int) := by
  unfold isAt
  rw [show ((0 : Nat) : Int) = 0 from rfl, bt_one, decide_eq_true (by rw [ByteArray.size_append]; show 0 < 1 + r.size; omega), Bool.true_and]
theorem dn_one (c : UInt8) (r : ByteArray) (h : isDc (c.toNat : Int) = false) : dn (⟨#[c]⟩ ++ r) 0 = 0 :=
  dn_no _ 0 (by rw [show ((0 : Nat) : Int) = 0 from rfl, bt_one]; exact h)
/-- a digit stands where one of no digits may not -/
theorem at_dig (cs r : ByteArray) (h : isDc (bt r 0) = true) (hc : ∀ k : Int, isDc k = true → inB cs k = false) : isAt cs r 0 = false := by
  unfold isAt
  rw [show ((0 : Nat) : Int) = 0 from rfl, hc _ h, Bool.and_false]
theorem no_dig (cs : ByteArray) (h : ∀ k : Fin 10, inB cs ((48 + k.1 : Nat) : Int) = false) : ∀ k : Int, isDc k = true → inB cs k = false := by
  intro k hk
  unfold isDc at hk
  simp only [Bool.and_eq_true, decide_eq_true_eq] at hk
  have := h ⟨(k - 48).toNat, by omega⟩
  rw [show ((48 + (k - 48).toNat : Nat) : Int) = k by omega] at this
  exact this
theorem no_minus : ∀ k : Int, isDc k = true → inB ⟨#[45]⟩ k = false := no_dig _ (by decide +kernel)
theorem no_plus : ∀ k : Int, isDc k = true → inB ⟨#[43]⟩ k = false := no_dig _ (by decide +kernel)
theorem allD_first (a : ByteArray) (ha : AllD a) (h : 0 < a.size) : isDc (bt a 0) = true := ha 0 h
theorem allD_app (a b : ByteArray) (ha : AllD a) (hb : AllD b) : AllD (a ++ b) := by
  intro j hj
  rw [ByteArray.size_append] at hj
  by_cases h : j < a.size
  · rw [bt_append_l a b j h]; exact ha j h
  · have := bt_append_r a b (j - a.size) (by omega)
    rw [show a.size + (j - a.size) = j by omega] at this
    rw [this]; exact hb _ (by omega)

/-- what stands ahead of an exponent -/
structure Head (t : ByteArray) (q p : Nat) (M : ByteArray) : Prop where
  d0 : (dn t 0 == 0) = false
  dot : (!(isAt ⟨#[46]⟩ t (dn t 0)) || !(dn t (cutA2 t) == 0)) = true
  a3 : cutA3 t = q
  pl : cutA3 t - cutA2 t = p
  m : t.extract 0 (dn t 0) ++ t.extract (cutA2 t) (cutA3 t) = M

theorem head_plain (A X : ByteArray) (ha : AllD A) (h0 : 0 < A.size) (hx : dn X 0 = 0) (hd : isAt ⟨#[46]⟩ X 0 = false) : Head (A ++ X) A.size 0 A := by
  have e1 := sh_dnA A X ha hx
  have e2 : isAt ⟨#[46]⟩ (A ++ X) A.size = false := by
    have := sh_at ⟨#[46]⟩ A X 0
    rw [Nat.add_zero, hd] at this; exact this
  have e3 : cutA3 (A ++ X) = A.size := by unfold cutA3; rw [e1, e2]; rfl
  have e4 : cutA2 (A ++ X) = A.size := by unfold cutA2; rw [e1, e2]; rfl
  refine ⟨?_, ?_, e3, ?_, ?_⟩
  · rw [e1]; exact beq_eq_false_iff_ne.2 (by omega)
  · rw [e1, e2]; rfl
  · rw [e3, e4]; omega
  · rw [e1, e3, e4, sh_take, ex_none, sh_empty]

theorem head_dot (A B X : ByteArray) (ha : AllD A) (h0 : 0 < A.size) (hb : AllD B) (hb0 : 0 < B.size) (hx : dn X 0 = 0) :
    Head (A ++ (⟨#[46]⟩ ++ (B ++ X))) (A.size + 1 + B.size) B.size (A ++ B) := by
  obtain ⟨Y, hY⟩ : ∃ Y, Y = (⟨#[46]⟩ ++ (B ++ X) : ByteArray) := ⟨_, rfl⟩
  have y1 : dn Y 0 = 0 := by rw [hY]; exact dn_one _ _ (by decide)
  have y2 : isAt ⟨#[46]⟩ Y 0 = true := by rw [hY, at_one]; decide +kernel
  have y3 : dn Y 1 = B.size := by
    rw [hY]
    have := sh_dn ⟨#[46]⟩ (B ++ X) 0
    rw [sh_dnA B X hb hx] at this; exact this
  have y4 : Y.extract 1 (1 + B.size) = B := by
    rw [hY]
    have := sh_ex ⟨#[46]⟩ (B ++ X) 0 B.size
    rw [sh_take] at this; exact this
  rw [← hY]
  have e1 := sh_dnA A Y ha y1
  have e2 : isAt ⟨#[46]⟩ (A ++ Y) A.size = true := by
    have := sh_at ⟨#[46]⟩ A Y 0
    rw [Nat.add_zero, y2] at this; exact this
  have e4 : cutA2 (A ++ Y) = A.size + 1 := by unfold cutA2; rw [e1, e2]; rfl
  have e5 : dn (A ++ Y) (A.size + 1) = B.size := by rw [sh_dn, y3]
  have e3 : cutA3 (A ++ Y) = A.size + 1 + B.size := by unfold cutA3; rw [e1, e2, e4, e5]; rfl
  refine ⟨?_, ?_, e3, ?_, ?_⟩
  · rw [e1]; exact beq_eq_false_iff_ne.2 (by omega)
  · rw [e4, e5, show (B.size == 0) = false from beq_eq_false_iff_ne.2 (by omega)]; simp
  · rw [e3, e4]; omega
  · rw [e1, e3, e4, sh_take]
    have := sh_ex A Y 1 (1 + B.size)
    rw [y4, ← Nat.add_assoc] at this
    rw [this]

/-- no exponent -/
theorem realR_bare (t : ByteArray) (q p : Nat) (M : ByteArray) (h : Head t q p M) (hq : q = t.size) : realR t = valR (trim0 M) (-(p : Int)) := by
  have e1 : cutE t = false := by
    unfold cutE isAt; rw [h.a3, hq, decide_eq_false (by omega), Bool.false_and]
  have e2 : cutFine t = true := by unfold cutFine; rw [h.d0, h.dot, e1]; rfl
  have e3 : cutA6 t = q := by unfold cutA6; rw [e1, h.a3]; rfl
  have e4 : cutX t = 0 := by unfold cutX; rw [e1]; rfl
  unfold realR
  rw [e2, e3, e4, h.m, h.pl, decide_eq_true (by omega)]
  rw [if_pos (show (true && true) = true from rfl)]
  refine congrArg _ ?_; omega

/-- an exponent: what is read of it -/
theorem realR_exp (Q X : ByteArray) (p : Nat) (M : ByteArray) (h : Head (Q ++ X) Q.size p M) (x : Int) (k : Nat) (d : Bool)
    (h1 : isAt ⟨#[101, 69]⟩ X 0 = true) (h2 : isAt ⟨#[45]⟩ X 1 = d) (h3 : (if d then 2 else if isAt ⟨#[43]⟩ X 1 then 2 else 1) = k)
    (h4 : dn X k = X.size - k) (h5 : k < X.size) (h6 : (if d then -(xf X k (X.size - k)) else xf X k (X.size - k)) = x) : realR (Q ++ X) = valR (trim0 M) (x - p) := by
  have a1 := sh_at ⟨#[101, 69]⟩ Q X 0
  have a2 := sh_at ⟨#[45]⟩ Q X 1
  have a3 := sh_at ⟨#[43]⟩ Q X 1
  have a4 := sh_dn Q X k
  have a5 := sh_xf Q X k (X.size - k) (by omega)
  rw [Nat.add_zero, h1] at a1
  rw [h2] at a2
  rw [h4] at a4
  have e1 : cutE (Q ++ X) = true := by unfold cutE; rw [h.a3, a1]
  have e2 : cutDown (Q ++ X) = d := by unfold cutDown; rw [h.a3, a2]
  have e3 : cutA5 (Q ++ X) = Q.size + k := by
    unfold cutA5; rw [e2, h.a3, a3, ← h3]
    cases d
    · cases isAt ⟨#[43]⟩ X 1 <;> rfl
    · rfl
  have e4 : cutFine (Q ++ X) = true := by
    unfold cutFine; rw [h.d0, h.dot, e1, e3, a4, show (X.size - k == 0) = false from beq_eq_false_iff_ne.2 (by omega)]; rfl
  have e5 : cutA6 (Q ++ X) = (Q ++ X).size := by
    unfold cutA6; rw [e1, e3, a4, ByteArray.size_append, if_pos rfl]; omega
  have e6 : cutX (Q ++ X) = x := by unfold cutX; rw [e1, e2, e3, a4, a5, if_pos rfl, h6]
  unfold realR
  rw [e4, e5, e6, h.m, h.pl, decide_eq_true (Nat.le_refl _)]
  rfl

/-- an exponent's letter and digits -/
theorem exp_plain (c : UInt8) (hc : inB ⟨#[101, 69]⟩ (c.toNat : Int) = true) (Q L : ByteArray) (hL : AllD L) (h0 : 0 < L.size) (p : Nat) (M : ByteArray) (h : Head (Q ++ (⟨#[c]⟩ ++ L)) Q.size p M) :
    realR (Q ++ (⟨#[c]⟩ ++ L)) = valR (trim0 M) (xf L 0 L.size - p) := by
  have hz : (⟨#[c]⟩ ++ L : ByteArray).size = 1 + L.size := by rw [ByteArray.size_append]; rfl
  have b1 := sh_at ⟨#[45]⟩ ⟨#[c]⟩ L 0
  rw [at_dig _ L (allD_first L hL h0) no_minus] at b1
  have b2 := sh_at ⟨#[43]⟩ ⟨#[c]⟩ L 0
  rw [at_dig _ L (allD_first L hL h0) no_plus] at b2
  have b3 := sh_dn ⟨#[c]⟩ L 0
  rw [sh_dnE L hL] at b3
  have b4 := sh_xf ⟨#[c]⟩ L 0 L.size (by omega)
  refine realR_exp Q _ p M h _ 1 false (by rw [at_one]; exact hc) b1 (by rw [show isAt ⟨#[43]⟩ (⟨#[c]⟩ ++ L) 1 = false from b2]; rfl) ?_ (by omega) ?_
  · rw [hz, show 1 + L.size - 1 = L.size by omega]; exact b3
  · rw [hz, show 1 + L.size - 1 = L.size by omega]; exact b4

theorem exp_sign (c : UInt8) (hc : inB ⟨#[101, 69]⟩ (c.toNat : Int) = true) (g : UInt8) (d : Bool) (hg : (g = 45 ∧ d = true) ∨ (g = 43 ∧ d = false)) (Q L : ByteArray) (hL : AllD L) (h0 : 0 < L.size) (p : Nat) (M : ByteArray)
    (h : Head (Q ++ (⟨#[c]⟩ ++ (⟨#[g]⟩ ++ L))) Q.size p M) :
    realR (Q ++ (⟨#[c]⟩ ++ (⟨#[g]⟩ ++ L))) = valR (trim0 M) ((if d then -(xf L 0 L.size) else xf L 0 L.size) - p) := by
  have hz : (⟨#[c]⟩ ++ (⟨#[g]⟩ ++ L) : ByteArray).size = 2 + L.size := by
    rw [ByteArray.size_append, ByteArray.size_append]; show 1 + (1 + L.size) = _; omega
  have b1 := sh_at ⟨#[45]⟩ ⟨#[c]⟩ (⟨#[g]⟩ ++ L) 0
  have b2 := sh_at ⟨#[43]⟩ ⟨#[c]⟩ (⟨#[g]⟩ ++ L) 0
  rw [at_one] at b1 b2
  have b3 := sh_dn ⟨#[c]⟩ (⟨#[g]⟩ ++ L) 1
  have b3' := sh_dn ⟨#[g]⟩ L 0
  rw [sh_dnE L hL] at b3'
  rw [show dn (⟨#[g]⟩ ++ L) 1 = L.size from b3'] at b3
  have b4 := sh_xf ⟨#[c]⟩ (⟨#[g]⟩ ++ L) 1 L.size (by rw [ByteArray.size_append]; show _ ≤ 1 + L.size; omega)
  have b4' := sh_xf ⟨#[g]⟩ L 0 L.size (by omega)
  rw [show xf (⟨#[g]⟩ ++ L) 1 L.size = xf L 0 L.size from b4'] at b4
  refine realR_exp Q _ p M h _ 2 d (by rw [at_one]; exact hc) ?_ ?_ ?_ (by omega) ?_
  · rw [show isAt ⟨#[45]⟩ (⟨#[c]⟩ ++ (⟨#[g]⟩ ++ L)) 1 = inB ⟨#[45]⟩ (g.toNat : Int) from b1]
    rcases hg with ⟨rfl, rfl⟩ | ⟨rfl, rfl⟩ <;> decide +kernel
  · rw [show isAt ⟨#[43]⟩ (⟨#[c]⟩ ++ (⟨#[g]⟩ ++ L)) 1 = inB ⟨#[43]⟩ (g.toNat : Int) from b2]
    rcases hg with ⟨rfl, rfl⟩ | ⟨rfl, rfl⟩ <;> decide +kernel
  · rw [hz, show 2 + L.size - 2 = L.size by omega]; exact b3
  · rw [hz, show 2 + L.size - 2 = L.size by omega, show xf (⟨#[c]⟩ ++ (⟨#[g]⟩ ++ L)) 2 L.size = xf L 0 L.size from b4]
end Go.Proofs.YtlgphmpdenkilaaDoor
