/- A text and a place of it in two captured variables; small laws. No condition. (Seats d and z alone: seat r has its own text of this name.) -/
import Derived.WalkKit
import Derived.WalkLawsBesides
import Derived.Outline
import Derived.Laws.Externs
import Derived.Test.YtklkgcogaekokaaDoorProg
import Derived.Test.YtklkgcogaekokaaDoorBt
namespace Go.Proofs.YtklkgcogaekokaaDoor
open Go.RowKit

/-- the two captured variables: the text in block B, the place in block B + 1 -/
structure St (B : Nat) (t : ByteArray) (a : Nat) (w : World) : Prop where
  size : B + 1 < w.heap.size
  ct : w.cell? ⟨B, 0, none⟩ = some (.string t)
  ca : w.cell? ⟨B + 1, 0, none⟩ = some (.int .i64 a)
  fa : w.frozen? ⟨B + 1, 0, none⟩ = false

theorem St.put {B : Nat} {t : ByteArray} {a : Nat} {w : World} (h : St B t a w) (b : Nat) : St B t b (w.setCell ⟨B + 1, 0, none⟩ (.int .i64 b)) where
  size := by simpa [World.setCell] using h.size
  ct := by rw [World.cell?_setCell_other _ _ _ _ (by simp)]; exact h.ct
  ca := World.cell?_setCell_same' _ _ _ (by rw [h.ca]; rfl)
  fa := by rw [World.frozen?_setCell]; exact h.fa

theorem bl {w w1 w2 : World} (a : Below w.heap.size w w1) (b : Below w1.heap.size w1 w2) : Below w.heap.size w w2 := a.trans (b.mono a.size)
end Go.Proofs.YtklkgcogaekokaaDoor
