/- The walks of kind.Text, kind.find, kind.Of, kind.In. Condition: the variable kind.texts reads as its text lays it. -/
import Derived.Test.YtklkgcogaekokaaDoorKa
namespace Go.Proofs.YtklkgcogaekokaaDoor
open Go.RowKit

def hasT (te : Int) : Bool := decide (0 ≤ te) && decide (te < 31) && !((tx te.toNat).toList == [])
set_option maxHeartbeats 800000 in
theorem text_c (te : Int) (w : World) (h : TxAt w) : Calls Tryd.prog 11 #[.int .i64 te] w fun e w' => e = .returned (.tuple #[.string (if hasT te then tx te.toNat else ByteArray.empty), .bool (hasT te)]) ∧ w = w' := by
  by_cases h0 : te < 0
  · have t1 : decide (te < 0) = true := decide_eq_true h0
    have e : hasT te = false := by unfold hasT; rw [decide_eq_false (by omega)]; rfl
    rw [e]
    clear e h0
    go_enter Tryd.func11, Tryd.ntmps11
    go_wp2
    go_ret2
    exact ⟨rfl, rfl⟩
  · have t1 : decide (te < 0) = false := decide_eq_false h0
    by_cases h1 : 31 ≤ te
    · have t2 : decide (31 ≤ te) = true := decide_eq_true h1
      have e : hasT te = false := by unfold hasT; rw [decide_eq_false (show ¬ te < 31 by omega)]; simp
      rw [e]
      clear e h0 h1
      go_enter Tryd.func11, Tryd.ntmps11
      go_wp2
      go_ret2
      exact ⟨rfl, rfl⟩
    · have t2 : decide (31 ≤ te) = false := decide_eq_false h1
      obtain ⟨j, rfl⟩ : ∃ j : Nat, te = j := ⟨te.toNat, by omega⟩
      have hj : j < 31 := by omega
      have hc := h j hj
      have e : hasT (j : Int) = !((tx j).toList == []) := by unfold hasT; rw [decide_eq_true (by omega), decide_eq_true (by omega)]; rfl
      rw [e, show ((j : Int)).toNat = j by omega]
      obtain ⟨T, hT⟩ : ∃ T, T = tx j := ⟨_, rfl⟩
      rw [← hT] at hc ⊢
      clear e hT h0 h1
      cases hq : (T.toList == [])
      · go_enter Tryd.func11, Tryd.ntmps11
        go_wp2
        go_ret2
        exact ⟨rfl, rfl⟩
      · go_enter Tryd.func11, Tryd.ntmps11
        go_wp2
        go_ret2
        exact ⟨rfl, rfl⟩

def txs : List ByteArray := txL.map fun l => ⟨l.toArray⟩
theorem txs_get (j : Nat) (h : j < txs.length) : txs[j]! = tx j := by
  have h31 : j < 31 := h
  have : ∀ k : Fin 31, txs[k.1]!.data = (tx k.1).data := by decide +kernel
  exact ByteArray.ext (this ⟨j, h31⟩)
def isTx (s y : ByteArray) : Bool := (y.toList == s.toList) && !(s.toList == [])
def findZ (s : ByteArray) : Int := Lib.idxBy (fun _ y => isTx s y) txs default
theorem find_p (s : ByteArray) (w : World) (B : Nat) (hB : B < w.heap.size) (hc : w.cell? ⟨B, 0, none⟩ = some (.string s)) :
    PredAt Tryd.prog 48 #[.pointer (some ⟨B, 0, none⟩)] Value.string (isTx s) w := fun W x hb => by
  have hc' : W.cell? ⟨B, 0, none⟩ = some (.string s) := (hb.cell (p := ⟨B, 0, none⟩) hB).trans hc
  show Calls Tryd.prog 48 #[.string x, .pointer (some ⟨B, 0, none⟩)] W fun e w' => e = .returned (.bool (isTx s x)) ∧ ∃ q, w' = W.drewN q
  have h0 : isTx s x = ((x.toList == s.toList) && !(s.toList == [])) := rfl
  rw [h0]
  clear h0
  cases h1 : (x.toList == s.toList)
  · go_enter Tryd.func48, Tryd.ntmps48
    go_wp2
    go_ret
    exact ⟨rfl, 0, rfl⟩
  · cases h2 : (s.toList == [])
    · go_enter Tryd.func48, Tryd.ntmps48
      go_wp2
      go_ret
      exact ⟨rfl, 0, rfl⟩
    · go_enter Tryd.func48, Tryd.ntmps48
      go_wp2
      go_ret
      exact ⟨rfl, 0, rfl⟩
def findR (sort : Int) (s : ByteArray) : Int := if decide (findZ s < 0) || (decide (18 ≤ findZ s) != (sort == 1)) then 0 else findZ s
set_option maxHeartbeats 800000 in
set_option maxRecDepth 100000 in
theorem find_c (sort : Int) (s : ByteArray) (w : World) (h : TxAt w) : Calls Tryd.prog 25 #[.int .i64 sort, .string s] w fun e w' => e = .returned (.int .i64 (findR sort s)) ∧ Below w.heap.size w w' := by
  have hC := fun (W : World) (hb : Below w.heap.size w W) (hB : w.heap.size < W.heap.size) (hc : W.cell? ⟨w.heap.size, 0, none⟩ = some (.string s)) =>
    Tryd.slices_IndexFunc Value.string (isTx s) 48 #[.pointer (some ⟨w.heap.size, 0, none⟩)] (enters_of Tryd.func48 (by kernel_rfl) rfl) 0 0 31 31 txs W (find_p s W w.heap.size hB hc) (Nat.le_refl _) (by omega)
      (fun j hj => by rw [txs_get j hj, Nat.zero_add]; exact (h.below hb) j hj)
  rw [show txs.take 31 = txs from rfl, show Lib.idxBy (fun _ y => isTx s y) txs default = findZ s from rfl] at hC
  have hr : findR sort s = if decide (findZ s < 0) || (decide (18 ≤ findZ s) != (sort == 1)) then 0 else findZ s := rfl
  rw [hr]
  obtain ⟨z, hz⟩ : ∃ z, z = findZ s := ⟨_, rfl⟩
  rw [← hz] at hC ⊢
  have hC' := hC (w.alloc (.cells #[.string s] 9)) ((Below.refl _ w).alloc (Nat.le_refl _) _) (by simp) (new_cell w _ _).1
  clear hz hr hC
  cases h1 : decide (z < 0)
  · obtain ⟨p, hp⟩ : ∃ p, p = decide (18 ≤ z) := ⟨_, rfl⟩
    obtain ⟨q, hq⟩ : ∃ q, q = (sort == 1) := ⟨_, rfl⟩
    have hp' : decide (18 ≤ z) = p := hp.symm
    have hq' : (sort == 1) = q := hq.symm
    rw [hp', hq']
    clear hp hq
    cases p <;> cases q
    all_goals
      go_enter Tryd.func25, Tryd.ntmps25
      go_wp2_with (go_at_call 47; with_reducible refine hC'.mono ?_; rintro e w2 ⟨rfl, nq, rfl⟩)
      go_ret
      exact ⟨rfl, ((Below.refl _ w).alloc (Nat.le_refl _) _).trans ⟨rfl, rfl, rfl, Nat.le_refl _, fun _ _ => rfl⟩⟩
  · go_enter Tryd.func25, Tryd.ntmps25
    go_wp2_with (go_at_call 47; with_reducible refine hC'.mono ?_; rintro e w2 ⟨rfl, nq, rfl⟩)
    go_ret
    exact ⟨rfl, ((Below.refl _ w).alloc (Nat.le_refl _) _).trans ⟨rfl, rfl, rfl, Nat.le_refl _, fun _ _ => rfl⟩⟩
end Go.Proofs.YtklkgcogaekokaaDoor
