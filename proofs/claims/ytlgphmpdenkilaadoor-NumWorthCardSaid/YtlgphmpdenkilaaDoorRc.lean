/- The walks of real.Real's two closures: what stands in their two captured variables, and what becomes of the place. Conditions: the two variables hold the text and a place of it. -/
import Derived.WalkKit
import Derived.WalkLawsBesides
import Derived.Outline
import Derived.Laws.Externs
import Derived.Test.YtlgphmpdenkilaaDoorProg
import Derived.Test.YtlgphmpdenkilaaDoorBt
namespace Go.Proofs.YtlgphmpdenkilaaDoor
open Go.RowKit

/-- the two captured variables: the text in block B, the place in block B + 1 -/
structure St (B : Nat) (t : ByteArray) (a : Nat) (w : World) : Prop where
  size : B + 1 < w.heap.size
  ct : w.cell? ⟨B, 0, none⟩ = some (.string t)
  ca : w.cell? ⟨B + 1, 0, none⟩ = some (.int .i64 a)
  fa : w.frozen? ⟨B + 1, 0, none⟩ = false

theorem St.put {B : Nat} {t : ByteArray} {a : Nat} {w : World} (h : St B t a w) (b : Nat) : St B t b (w.setCell ⟨B + 1, 0, none⟩ (.int .i64 b)) where
  size := by simpa [World.setCell] using h.size
  ct := by rw [World.cell?_setCell_other _ _ _ _ (by simp)]; exact h.ct
  ca := World.cell?_setCell_same' _ _ _ (by rw [h.ca]; rfl)
  fa := by rw [World.frozen?_setCell]; exact h.fa

set_option maxHeartbeats 800000 in
theorem digits_c (B : Nat) (t : ByteArray) (a : Nat) (w : World) (h : St B t a w) (hs : t.size ≤ 140737488351232) (ha : a ≤ t.size) :
    Calls Tryd.prog 24 #[.pointer (some ⟨B + 1, 0, none⟩), .pointer (some ⟨B, 0, none⟩)] w fun e w' =>
      e = .returned (.string (t.extract a (a + dn t a))) ∧ St B t (a + dn t a) w' ∧ Below B w w' := by
  have h1 := h.ct
  have h2 := h.ca
  go_enter Tryd.func24, Tryd.ntmps24
  go_wp2
  go_loopw [] (fun wr => ∃ k : Nat, k ≤ dn t a ∧ k + dn t (a + k) = dn t a ∧ St B t (a + k) wr ∧ Below B w wr) (fun wr => t.size - (intOf ((wr.cell? ⟨B + 1, 0, none⟩).getD undef)).toNat)
  case atStart => exact ⟨0, Nat.zero_le _, by simp, h, Below.refl _ _⟩
  case round =>
    obtain ⟨k, hk, hd, hst, hb⟩ := hrel
    have g1 := hst.ct
    have g2 := hst.ca
    have g3 := hst.fa
    have hle : a + k ≤ t.size := by have := dn_le t a ha; omega
    have hsl := fun wx => slice_run (P := Tryd.prog) 9 Tryd.underlying9 t a (a + k) (a : Int) ((a : Int) + (k : Int)) rfl (by omega) (by omega) hle wx
    go_wp2
    case roundEnd =>
      have q1 : (48 : Int) ≤ ((t[a + k]'(by omega)).toNat : Int) := by assumption
      have q2 : ((t[a + k]'(by omega)).toNat : Int) ≤ 57 := by assumption
      have hy := dn_yes t (a + k) (by omega) (dig_yes t (a + k) (by omega) q1 q2)
      go_roundw
      case rel => exact ⟨k + 1, by omega, by rw [show a + (k + 1) = a + k + 1 by omega]; omega, by have := hst.put (a + k + 1); rw [show ((a + k + 1 : Nat) : Int) = (a : Int) + k + 1 by omega] at this; exact this, hb.setCell (by simp) _⟩
      case measure =>
        rw [World.cell?_setCell_same' _ _ _ (by rw [g2]; rfl), g2]
        simp [intOf]; omega
    · have q2 : (57 : Int) < ((t[a + k]'(by omega)).toNat : Int) := by assumption
      have hy := dn_no t (a + k) (dig_hi t (a + k) (by omega) q2)
      obtain rfl : k = dn t a := by omega
      go_ret
      exact ⟨rfl, hst, hb⟩
    · have q2 : ((t[a + k]'(by omega)).toNat : Int) < 48 := by assumption
      have hy := dn_no t (a + k) (dig_lo t (a + k) (by omega) q2)
      obtain rfl : k = dn t a := by omega
      go_ret
      exact ⟨rfl, hst, hb⟩
    · have hy := dn_end t (a + k) (by omega)
      obtain rfl : k = dn t a := by omega
      go_ret
      exact ⟨rfl, hst, hb⟩

theorem c58 (s : ByteArray) (c : Int) (w : World) : (callFunc 58 #[.string s, .int .u8 c]).run Tryd.prog w = .ok (.value (.int .i64 (firstIdx s c.toNat.toUInt8))) w := by
  rw [run_callFunc_extern (e := Extern.BytealgIndexByte.indexByte) Tryd.func58 (by kernel_rfl) (by kernel_rfl) (by kernel_rfl) (by kernel_rfl)]
  rw [run_indexByte_string]; rfl

theorem idxByte0_c (s : ByteArray) (c : Int) (w : World) :
    Calls Tryd.prog 41 #[.string s, .int .u8 c] w fun e w' => e = .returned (.int .i64 (firstIdx s c.toNat.toUInt8)) ∧ w = w' := by
  have h58 := c58 s c
  obtain ⟨r, hr⟩ : ∃ r, r = firstIdx s c.toNat.toUInt8 := ⟨_, rfl⟩
  rw [← hr] at h58 ⊢
  clear hr
  go_enter Tryd.func41, Tryd.ntmps41
  go_wp2
  go_ret
  exact ⟨rfl, rfl⟩
theorem idxByte_c (s : ByteArray) (c : Int) (w : World) :
    Calls Tryd.prog 26 #[.string s, .int .u8 c] w fun e w' => e = .returned (.int .i64 (firstIdx s c.toNat.toUInt8)) ∧ w = w' := by
  have c1 := idxByte0_c s c
  obtain ⟨r, hr⟩ : ∃ r, r = firstIdx s c.toNat.toUInt8 := ⟨_, rfl⟩
  rw [← hr] at c1 ⊢
  clear hr
  go_enter Tryd.func26, Tryd.ntmps26
  go_wp2_with (go_at_call 41; refine (c1 _).mono ?_; rintro e w' ⟨rfl, rfl⟩)
  go_ret
  exact ⟨rfl, rfl⟩

def inB (cs : ByteArray) (c : Int) : Bool := decide (0 ≤ firstIdx cs c.toNat.toUInt8)
def isAt (cs t : ByteArray) (a : Nat) : Bool := decide (a < t.size) && inB cs (bt t a)

set_option maxHeartbeats 800000 in
theorem is_c (cs : ByteArray) (B : Nat) (t : ByteArray) (a : Nat) (w : World) (hst : St B t a w) (hs : t.size ≤ 140737488351232) :
    Calls Tryd.prog 25 #[.string cs, .pointer (some ⟨B + 1, 0, none⟩), .pointer (some ⟨B, 0, none⟩)] w fun e w' =>
      e = .returned (.bool (isAt cs t a)) ∧ St B t (if isAt cs t a then a + 1 else a) w' ∧ Below B w w' := by
  have h1 := hst.ct
  have h2 := hst.ca
  have h3 := hst.fa
  by_cases hlt : a < t.size
  · have hbt := bt_nat t a hlt
    have hi : isAt cs t a = decide (0 ≤ firstIdx cs (bt t a).toNat.toUInt8) := by unfold isAt inB; simp [hlt]
    obtain ⟨r, hr⟩ : ∃ r, r = isAt cs t a := ⟨_, rfl⟩
    rw [← hr] at hi ⊢
    clear hr
    have c1 := idxByte_c cs (bt t a)
    obtain ⟨x, hx⟩ : ∃ x, x = firstIdx cs (bt t a).toNat.toUInt8 := ⟨_, rfl⟩
    rw [← hx] at c1 hi
    clear hx
    cases r
    · have hn : decide (0 ≤ x) = false := hi.symm
      clear hi
      go_enter Tryd.func25, Tryd.ntmps25
      go_wp2_with (go_at_call 26; refine (c1 _).mono ?_; rintro e w' ⟨rfl, rfl⟩)
      go_ret
      exact ⟨rfl, hst, Below.refl _ _⟩
    · have hn : decide (0 ≤ x) = true := hi.symm
      clear hi
      go_enter Tryd.func25, Tryd.ntmps25
      go_wp2_with (go_at_call 26; refine (c1 _).mono ?_; rintro e w' ⟨rfl, rfl⟩)
      go_ret
      exact ⟨rfl, by have := hst.put (a + 1); rw [show ((a + 1 : Nat) : Int) = (a : Int) + 1 by omega] at this; exact this, (Below.refl _ _).setCell (by simp) _⟩
  · have hi : isAt cs t a = false := by unfold isAt; simp [hlt]
    rw [hi]
    clear hi
    go_enter Tryd.func25, Tryd.ntmps25
    go_wp2_with fail
    go_ret
    exact ⟨rfl, hst, Below.refl _ _⟩

def strLen : Value → Nat
  | .string y => y.size
  | _ => 0

set_option maxHeartbeats 800000 in
theorem trimByte_c (z : ByteArray) (w : World) :
    Calls Tryd.prog 43 #[.string z, .int .u8 48] w fun e w' => e = .returned (.string (trim0 z)) ∧ w = w' := by
  go_enter Tryd.func43, Tryd.ntmps43
  go_wp2
  go_loop [0] (fun v => ∃ k : Nat, k ≤ z.size ∧ k + cn 48 z k = cn 48 z 0 ∧ v = .string (z.extract k z.size)) (fun v => strLen v)
  case atStart => exact ⟨0, Nat.zero_le _, by simp, by rw [ex_all]⟩
  case round =>
    obtain ⟨k, hk, hc, rfl⟩ := hrel
    have HC := Lib.hid hc
    clear hc
    have hz : (z.extract k z.size).size = z.size - k := by rw [ex_size]; omega
    by_cases hlt : k < z.size
    · have hb := bt_nat z k hlt
      have hg : ∀ h, (z.extract k z.size)[0]'h = z[k] := fun h => by rw [ex_get]; rfl
      have hsl := fun wx => slice_from (P := Tryd.prog) 9 Tryd.underlying9 (z.extract k z.size) 1 1 rfl (by omega) wx
      rw [ex_ex _ _ _ _ _ (Nat.le_refl _), hz] at hsl
      rw [show min (k + (z.size - k)) z.size = z.size by omega] at hsl
      by_cases h48 : bt z k = 48
      · have hy := Lib.hid (cn_yes 48 z k hlt h48)
        go_wp2
        go_round
        case rel => exact ⟨k + 1, by omega, by have := hy.out; have := HC.out; omega, rfl⟩
        case measure => simp only [strLen]; rw [ex_size]; omega
      · have hy := Lib.hid (cn_no 48 z k h48)
        go_wp2
        go_ret
        have e : k = cn 48 z 0 := by have := hy.out; have := HC.out; omega
        exact ⟨by unfold trim0; rw [← e]; rfl, rfl⟩
    · have hy := Lib.hid (cn_end 48 z k (by omega))
      go_wp2
      go_ret
      have e : k = cn 48 z 0 := by have := hy.out; have := HC.out; omega
      exact ⟨by unfold trim0; rw [← e]; rfl, rfl⟩

set_option maxRecDepth 100000 in
theorem trimLeft_c (z : ByteArray) (w : World) :
    Calls Tryd.prog 28 #[.string z, .string ⟨#[48]⟩] w fun e w' => e = .returned (.string (trim0 z)) ∧ w = w' := by
  by_cases h0 : z.size = 0
  · have e : trim0 z = z := by unfold trim0; rw [cn_end _ _ _ (by omega)]; exact ex_all z
    rw [e]
    have hl : z.toList = [] := by rw [ByteArray.toList_eq]; exact List.length_eq_zero_iff.1 (by simpa using h0)
    go_enter Tryd.func28, Tryd.ntmps28
    go_wp2_with fail
    go_ret
    exact ⟨rfl, rfl⟩
  · have hl : (z.toList == ([] : List UInt8)) = false := by
      rw [ByteArray.toList_eq, beq_eq_false_iff_ne]
      intro h
      exact h0 (by rw [← List.length_eq_zero_iff] at h; simpa using h)
    clear h0
    have c1 := trimByte_c z
    obtain ⟨r, hr⟩ : ∃ r, r = trim0 z := ⟨_, rfl⟩
    rw [← hr] at c1 ⊢
    clear hr
    go_enter Tryd.func28, Tryd.ntmps28
    go_wp2_with (go_at_call 43; refine (c1 _).mono ?_; rintro e w' ⟨rfl, rfl⟩)
    go_ret
    exact ⟨rfl, rfl⟩

theorem hasPrefix_c (s p : ByteArray) (w : World) :
    Calls Tryd.prog 57 #[.string s, .string p] w fun e w' => e = .returned (.bool (decide (p.size ≤ s.size) && (s.extract 0 p.size).toList == p.toList)) ∧ w = w' := by
  by_cases h : p.size ≤ s.size
  · have hsl := fun wx => slice_to (P := Tryd.prog) 9 Tryd.underlying9 s p.size (p.size : Int) rfl h wx
    rw [show decide (p.size ≤ s.size) = true by simpa using h, Bool.true_and]
    go_enter Tryd.func57, Tryd.ntmps57
    go_wp2
    go_ret
    exact ⟨rfl, rfl⟩
  · rw [show decide (p.size ≤ s.size) = false by simpa using h, Bool.false_and]
    go_enter Tryd.func57, Tryd.ntmps57
    go_wp2
    go_ret
    exact ⟨rfl, rfl⟩

/-- does a text begin with a byte? -/
def firstIs (c : Int) (s : ByteArray) : Bool := decide (0 < s.size) && bt s 0 == c
theorem prefix_one (s : ByteArray) (c : UInt8) : (decide ((⟨#[c]⟩ : ByteArray).size ≤ s.size) && (s.extract 0 (⟨#[c]⟩ : ByteArray).size).toList == (⟨#[c]⟩ : ByteArray).toList) = firstIs (c.toNat : Int) s := by
  have e1 : (⟨#[c]⟩ : ByteArray).size = 1 := rfl
  rw [e1]
  unfold firstIs
  by_cases h : 0 < s.size
  · have e2 : (s.extract 0 1).toList = [s[0]] := by
      rw [ByteArray.toList_eq, ByteArray.data_extract]
      apply List.ext_getElem
      · simp; have : s.data.size = s.size := rfl; omega
      · intro i h1 h2
        have : i = 0 := by simp at h2; omega
        subst this
        simp; rfl
    have e3 : (⟨#[c]⟩ : ByteArray).toList = [c] := by rw [ByteArray.toList_eq]
    rw [e2, e3, show bt s 0 = ((s[0]'h).toNat : Int) from (bt_nat s 0 h).symm]
    have d1 : decide (1 ≤ s.size) = true := decide_eq_true h
    have d2 : decide (0 < s.size) = true := by simpa using h
    rw [d1, d2, Bool.true_and, Bool.true_and, Bool.eq_iff_iff]
    simp only [beq_iff_eq, List.cons.injEq, and_true]
    constructor
    · intro h; rw [h]
    · intro h; exact UInt8.toNat_inj.1 (by omega)
  · have d1 : decide (1 ≤ s.size) = false := decide_eq_false (by omega)
    have d2 : decide (0 < s.size) = false := decide_eq_false (by omega)
    rw [d1, d2]; rfl

theorem cutPrefix0_c (s : ByteArray) (w : World) :
    Calls Tryd.prog 40 #[.string s, .string ⟨#[45]⟩] w fun e w' => e = .returned (.tuple #[.string (if firstIs 45 s then s.extract 1 s.size else s), .bool (firstIs 45 s)]) ∧ w = w' := by
  have c1 := hasPrefix_c s ⟨#[45]⟩
  rw [prefix_one s 45] at c1
  rw [show (((45 : UInt8).toNat : Nat) : Int) = 45 from rfl] at c1
  have hpos : firstIs 45 s = true → 1 ≤ s.size := by unfold firstIs; simp; intro h _; exact h
  obtain ⟨r, hr⟩ : ∃ r, r = firstIs 45 s := ⟨_, rfl⟩
  rw [← hr] at c1 hpos ⊢
  clear hr
  cases r
  · go_enter Tryd.func40, Tryd.ntmps40
    go_wp2_with (go_at_call 57; refine (c1 _).mono ?_; rintro e w' ⟨rfl, rfl⟩)
    go_ret2
    exact ⟨rfl, rfl⟩
  · have h1 := hpos rfl
    have hsl := fun wx => slice_from (P := Tryd.prog) 9 Tryd.underlying9 s 1 1 rfl h1 wx
    clear hpos
    go_enter Tryd.func40, Tryd.ntmps40
    go_wp2_with (go_at_call 57; refine (c1 _).mono ?_; rintro e w' ⟨rfl, rfl⟩)
    go_ret2
    exact ⟨rfl, rfl⟩

theorem cutPrefix_c (s : ByteArray) (w : World) :
    Calls Tryd.prog 23 #[.string s, .string ⟨#[45]⟩] w fun e w' => e = .returned (.tuple #[.string (if firstIs 45 s then s.extract 1 s.size else s), .bool (firstIs 45 s)]) ∧ w = w' := by
  have c1 := cutPrefix0_c s
  obtain ⟨r, hr⟩ : ∃ r, r = firstIs 45 s := ⟨_, rfl⟩
  rw [← hr] at c1 ⊢
  clear hr
  cases r
  all_goals
    go_enter Tryd.func23, Tryd.ntmps23
    go_wp2_with (go_at_call 40; refine (c1 _).mono ?_; rintro e w' ⟨rfl, rfl⟩)
    go_ret2
    exact ⟨rfl, rfl⟩
end Go.Proofs.YtlgphmpdenkilaaDoor
