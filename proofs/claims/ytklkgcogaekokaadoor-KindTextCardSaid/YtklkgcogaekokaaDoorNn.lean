/- num.Number: what it computes, its walk. Condition: the text is no longer than a string that comes in can be. -/
import Derived.Test.YtklkgcogaekokaaDoorNb
import Derived.ScopeJumps
import Derived.WalkMore
import Derived.Deep.DeepCutAuto
namespace Go.Proofs.YtklkgcogaekokaaDoor
open Go.RowKit

/-- a scope out of which every goto goes to one label, and none behind it -/
theorem wp_scope_out {P : Program} {a : Act} {w : World} {Q : Exit → Act → World → Prop} {c rest : Code} (l : Nat) (hf : findLabel c l = some rest)
    (first : c.wp P (Exit.jump l (fun a w => rest.wp P (Exit.noGoto Q) a w) Q) a w) : (Code.scope c).wp P Q a w := by
  refine wp_scope_jumps l (fun a w => rest.wp P (Exit.noGoto Q) a w) (fun _ _ => 0) hf first (fun a w h => ?_)
  refine wp_mono h (fun e a' w' hq => ?_)
  cases e with
  | goto l' => exact hq.elim
  | normal => exact hq
  | exit id => exact hq
  | ret => exact hq
  | panic ch => exact hq
  | outgrown => exact hq

def nA1 (t : ByteArray) (a : Nat) : Nat := if hasB [45] t a then a + 1 else a
def nZ (t : ByteArray) (a : Nat) : Bool := hasB [48] t (nA1 t a)
def nA2 (t : ByteArray) (a : Nat) : Nat := if nZ t a then nA1 t a + 1 else nA1 t a + dn t (nA1 t a)
def nF2 (t : ByteArray) (a : Nat) : Bool := !(nZ t a) && (dn t (nA1 t a) == 0)
def nD (t : ByteArray) (a : Nat) : Bool := hasB [46] t (nA2 t a)
def nA3 (t : ByteArray) (a : Nat) : Nat := if nD t a then nA2 t a + 1 + dn t (nA2 t a + 1) else nA2 t a
def nF3 (t : ByteArray) (a : Nat) : Bool := nD t a && (dn t (nA2 t a + 1) == 0)
def nE (t : ByteArray) (a : Nat) : Bool := hasB [101, 69] t (nA3 t a)
def nA4 (t : ByteArray) (a : Nat) : Nat := if hasB [43, 45] t (nA3 t a + 1) then nA3 t a + 2 else nA3 t a + 1
def nA5 (t : ByteArray) (a : Nat) : Nat := if nE t a then nA4 t a + dn t (nA4 t a) else nA3 t a
def nF4 (t : ByteArray) (a : Nat) : Bool := nE t a && (dn t (nA4 t a) == 0)
def nStop (t : ByteArray) (a : Nat) : Bool := decide (nA5 t a = t.size) || (!(bt t (nA5 t a) == 46) && !(isLt (bt t (nA5 t a))) && (dn t (nA5 t a) == 0))
/-- what kind of number begins at a place of a text, and where it ends -/
def numR (t : ByteArray) (a : Nat) : Int × Nat × Bool :=
  if nF2 t a then (0, nA2 t a, false) else if nF3 t a then (0, nA3 t a, false) else if nF4 t a then (0, nA5 t a, false)
  else if nStop t a then (if nD t a || nE t a then 4 else 3, nA5 t a, true) else (0, nA5 t a, false)

theorem hasB_le {l : List Int} {t : ByteArray} {a : Nat} (h : hasB l t a = true) : a < t.size := by
  unfold hasB at h
  rw [Bool.and_eq_true, decide_eq_true_eq] at h; exact h.1
theorem nA1_le (t : ByteArray) (a : Nat) (h : a ≤ t.size) : nA1 t a ≤ t.size := by
  unfold nA1; split
  · have := hasB_le (by assumption : hasB [45] t a = true); omega
  · exact h
theorem nA2_le (t : ByteArray) (a : Nat) (h : a ≤ t.size) : nA2 t a ≤ t.size := by
  have h1 := nA1_le t a h
  unfold nA2; split
  · rename_i hz; have := hasB_le hz; omega
  · exact dn_le t _ h1
theorem nA3_le (t : ByteArray) (a : Nat) (h : a ≤ t.size) : nA3 t a ≤ t.size := by
  have h1 := nA2_le t a h
  unfold nA3; split
  · rename_i hz; have := hasB_le hz; exact dn_le t _ (by omega)
  · exact h1
theorem nA4_le (t : ByteArray) (a : Nat) (h : nE t a = true) : nA4 t a ≤ t.size := by
  have h1 := hasB_le h
  unfold nA4; split
  · rename_i hz; have := hasB_le hz; omega
  · omega
theorem nA5_le (t : ByteArray) (a : Nat) (h : a ≤ t.size) : nA5 t a ≤ t.size := by
  unfold nA5; split
  · rename_i hz; exact dn_le t _ (nA4_le t a hz)
  · exact nA3_le t a h

/-- the call of the first closure, with one byte or two -/
theorem is1_c (c : Int) (B : Nat) (t : ByteArray) (a : Nat) (w : World) (hst : St B t a w) (hs : t.size ≤ 140737488351232) :
    Calls Tryd.prog 42 #[.slice (some ⟨w.heap.size, 0, none⟩) 1 1, .pointer (some ⟨B + 1, 0, none⟩), .pointer (some ⟨B, 0, none⟩)] (w.alloc (Obj.cells #[.int .u8 c] 5)) fun e w' =>
      e = .returned (.bool (hasB [c] t a)) ∧ St B t (if hasB [c] t a then a + 1 else a) w' ∧ Below B w w' := by
  have hb : Below w.heap.size w (w.alloc (Obj.cells #[.int .u8 c] 5)) := (Below.refl _ w).alloc (Nat.le_refl _) _
  have hsz := hst.size
  refine (isN_c [c] w.heap.size B t a _ (hst.below hb) hs (by simp) (fun j hj => ?_)).mono (fun e w' h => ⟨h.1, h.2.1, (hb.mono (by omega)).trans h.2.2⟩)
  have : j < 1 := hj
  obtain rfl : j = 0 := by omega
  exact (World.cell?_alloc_mark w _ 5 _ 0).trans rfl
theorem is2_c (c d : Int) (B : Nat) (t : ByteArray) (a : Nat) (w : World) (hst : St B t a w) (hs : t.size ≤ 140737488351232) :
    Calls Tryd.prog 42 #[.slice (some ⟨w.heap.size, 0, none⟩) 2 2, .pointer (some ⟨B + 1, 0, none⟩), .pointer (some ⟨B, 0, none⟩)] (w.alloc (Obj.cells #[.int .u8 c, .int .u8 d] 5)) fun e w' =>
      e = .returned (.bool (hasB [c, d] t a)) ∧ St B t (if hasB [c, d] t a then a + 1 else a) w' ∧ Below B w w' := by
  have hb : Below w.heap.size w (w.alloc (Obj.cells #[.int .u8 c, .int .u8 d] 5)) := (Below.refl _ w).alloc (Nat.le_refl _) _
  have hsz := hst.size
  refine (isN_c [c, d] w.heap.size B t a _ (hst.below hb) hs (by simp) (fun j hj => ?_)).mono (fun e w' h => ⟨h.1, h.2.1, (hb.mono (by omega)).trans h.2.2⟩)
  have : j < 2 := hj
  have : j = 0 ∨ j = 1 := by omega
  rcases this with rfl | rfl
  · exact (World.cell?_alloc_mark w _ 5 _ 0).trans rfl
  · exact (World.cell?_alloc_mark w _ 5 _ 1).trans rfl
end Go.Proofs.YtklkgcogaekokaaDoor
