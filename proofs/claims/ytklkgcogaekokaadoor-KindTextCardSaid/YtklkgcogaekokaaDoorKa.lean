/- The terminals' texts: what the package-level variable kind.texts holds, where it reads as its text lays it; the walks of kind.Text, kind.In. Condition: that variable reads as its text lays it. -/
import Derived.Test.YtklkgcogaekokaaDoorAw
import Derived.Test.YtklkgcogaekokaaDoorRows
import Derived.Lib.LaidU8
import Derived.MakeChecks
import Derived.OpenShut
namespace Go.Proofs.YtklkgcogaekokaaDoor
open Go.RowKit Go.ChangeShapes Go.WideShapes

def txL : List (List UInt8) := [[], [33], [36], [38], [40], [41], [46, 46, 46], [58], [61], [64], [91], [93], [123], [124], [125], [], [], [], [], [113, 117, 101, 114, 121], [109, 117, 116, 97, 116, 105, 111, 110], [115, 117, 98, 115, 99, 114, 105, 112, 116, 105, 111, 110], [102, 114, 97, 103, 109, 101, 110, 116], [111, 110], [116, 121, 112, 101], [105, 110, 116, 101, 114, 102, 97, 99, 101], [101, 110, 117, 109], [117, 110, 105, 111, 110], [105, 110, 112, 117, 116], [115, 99, 97, 108, 97, 114], [105, 109, 112, 108, 101, 109, 101, 110, 116, 115]]
def tx (j : Nat) : ByteArray := ⟨(txL.getD j []).toArray⟩
theorem tx_laid : (Rows.laid_copperplate_kind_texts : DataW Unit) = .agg (txL.map fun l => .lit (.string l)) := by kernel_rfl
/-- the cells of the variable -/
def TxAt (w : World) : Prop := ∀ j, j < 31 → w.cell? ⟨0, j, none⟩ = some (.string (tx j))
theorem tx_cells {w : World} (h : Lib.VarReads Tryd.prog w "copperplate/kind.texts" Rows.laid_copperplate_kind_texts) : TxAt w := by
  intro r hr
  obtain ⟨g, t, cs, fuel, p, hg, ht, hv, hd⟩ := h
  obtain rfl := Option.some.inj ((show Tryd.prog.globalNamed "copperplate/kind.texts" = some 0 by kernel_rfl).symm.trans hg)
  obtain rfl := Option.some.inj ((show (Tryd.prog.globals[0]?).map (·.type) = some 46 by kernel_rfl).symm.trans ht)
  obtain ⟨xs, m, _, ex, _, hl, hel⟩ := DataW.trod_array Tryd.underlying46 hd
  have c9 : Tryd.prog.cellsOf 9 = 1 := by kernel_rfl
  have hE := hel r hr
  rw [c9, Nat.mul_one, List.getElem?_eq_getElem (by omega)] at hE
  obtain ⟨z, e1, e2, _⟩ := DataW.trod_string Tryd.underlying9 hE
  rw [tx_laid] at ex
  have hlen : txL.length = 31 := by kernel_rfl
  have e3 : (xs.map (·.1)) = txL.map fun l => .lit (.string l) := (DataW.agg.inj (Prod.mk.inj ex).1).symm
  have e4 : (xs.map (·.1))[r]? = (txL.map fun l => (DataW.lit (.string l) : DataW Unit))[r]? := by rw [e3]
  rw [List.getElem?_map, List.getElem?_map, List.getElem?_eq_getElem (by omega : r < xs.length), List.getElem?_eq_getElem (by omega : r < txL.length), e2] at e4
  have hz : z = tx r := by
    simp only [Option.map_some, Option.some.injEq, DataW.lit.injEq, Lit.string.injEq] at e4
    unfold tx
    rw [List.getD, List.getElem?_eq_getElem (by omega : r < txL.length)]
    apply ByteArray.ext
    apply Array.toList_inj.1
    rw [e4]; rfl
  rw [World.var?_cell hg hv r, ← hz]
  have : cs.toList[r]? = some (.string z) := by
    have h0 : ((cs.toList.drop r).take 1)[0]? = some (.string z) := by rw [e1]; rfl
    simpa using h0
  simpa using this
theorem TxAt.below {w w' : World} (h : TxAt w) (hb : Below w.heap.size w w') : TxAt w' := fun j hj => by
  have h0 := h j hj
  have hlt : 0 < w.heap.size := by
    cases hh : w.heap[0]? with
    | none => simp [World.cell?, hh] at h0
    | some o => exact (Array.getElem?_eq_some_iff.1 hh).1
  exact (hb.cell (p := ⟨0, j, none⟩) hlt).trans h0
end Go.Proofs.YtklkgcogaekokaaDoor
