/- The walks of lex.One's two closures. Conditions: the variables hold the text and a place of it. -/
import Derived.Test.YtklkgcogaekokaaDoorLp
import Derived.Test.YtklkgcogaekokaaDoorNv
import Derived.Test.YtklkgcogaekokaaDoorUc
import Derived.BigQuiet
import Derived.RegionTactic
import Derived.BigRegion
import Derived.ChangeAlike
namespace Go.Proofs.YtklkgcogaekokaaDoor
open Go.RowKit

/-- a token as a value -/
abbrev tokV (k : Int) (v : ByteArray) (i p : Int) : Value := .agg #[.int .i64 k, .string v, .int .i64 i, .int .i64 p]
/-- what stands in two variables: the text in block B, the place in block B + 1 -/
structure Sv (B : Nat) (t : ByteArray) (a : Nat) (w : World) : Prop where
  size : B + 1 < w.heap.size
  ct : w.cell? ⟨B, 0, none⟩ = some (.string t)
  ca : w.cell? ⟨B + 1, 0, none⟩ = some (.int .i64 a)
theorem Sv.below {B : Nat} {t : ByteArray} {a : Nat} {w w' : World} (h : Sv B t a w) (hb : Below w.heap.size w w') : Sv B t a w' where
  size := Nat.lt_of_lt_of_le h.size hb.size
  ct := (hb.cell (p := ⟨B, 0, none⟩) (by have := h.size; show B < _; omega)).trans h.ct
  ca := (hb.cell (p := ⟨B + 1, 0, none⟩) h.size).trans h.ca

set_option maxHeartbeats 800000 in
set_option maxRecDepth 100000 in
theorem tok_c (B : Nat) (t : ByteArray) (a p : Nat) (k : Int) (w : World) (h : Sv B t a w) (hp : a ≤ p) (hp2 : p ≤ t.size) :
    Calls Tryd.prog 27 #[.int .i64 k, .int .i64 (p : Int), .pointer (some ⟨B, 0, none⟩), .pointer (some ⟨B + 1, 0, none⟩)] w fun e w' =>
      e = .returned (.tuple #[tokV k (t.extract a p) a p, .int .i64 0, .int .i64 p]) ∧ Below w.heap.size w w' := by
  have h1 := h.ct
  have h2 := h.ca
  have h3 := h.size
  have c1 := fun o => cell_past (W := w) o h1
  have c2 := fun o => cell_past (W := w) o h2
  have l1 := fun wx => slice_run (P := Tryd.prog) 9 rfl t a p (a : Int) (p : Int) rfl rfl hp hp2 wx
  go_enter Tryd.func27, Tryd.ntmps27
  go_wp2
  go_region
  go_wp2
  exact bodyPost_ret (v := .tuple #[tokV k (t.extract a p) a p, .int .i64 0, .int .i64 p]) (by simp [results, Tryd.results27, go_sem]) rfl ⟨rfl, ((Below.refl _ w).alloc (Nat.le_refl _) _).drew⟩

set_option maxHeartbeats 800000 in
set_option maxRecDepth 100000 in
theorem val_c (B : Nat) (t v : ByteArray) (a p : Nat) (w : World) (h : Sv B t a w) :
    Calls Tryd.prog 28 #[.string v, .int .i64 (p : Int), .pointer (some ⟨B + 1, 0, none⟩)] w fun e w' =>
      e = .returned (.tuple #[tokV 5 v a p, .int .i64 0, .int .i64 p]) ∧ Below w.heap.size w w' := by
  have h2 := h.ca
  have h3 := h.size
  have c2 := fun o => cell_past (W := w) o h2
  go_enter Tryd.func28, Tryd.ntmps28
  go_wp2
  exact bodyPost_ret (v := .tuple #[tokV 5 v a p, .int .i64 0, .int .i64 p]) (by simp [results, Tryd.results28, go_sem]) rfl ⟨rfl, (Below.refl _ w).alloc (Nat.le_refl _) _⟩
end Go.Proofs.YtklkgcogaekokaaDoor
