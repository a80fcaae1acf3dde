/- The walk of chapter 9's awake: the chapter's example is as it says. No condition. -/
import Derived.Test.YtklkgcogaekokaaDoorOd
namespace Go.Proofs.YtklkgcogaekokaaDoor
open Go.RowKit

theorem sameZ_self : ∀ l : List Tz, sameZ l l = true
  | [] => rfl
  | a :: l => by unfold sameZ eqZ; rw [sameZ_self l]; simp
def ex9 : ByteArray := ⟨#[123, 97, 40, 98, 58, 45, 49, 41, 125]⟩
def toks9 : List Tk := [⟨1, ⟨#[123]⟩, 0, 1⟩, ⟨2, ⟨#[97]⟩, 1, 2⟩, ⟨1, ⟨#[40]⟩, 2, 3⟩, ⟨2, ⟨#[98]⟩, 3, 4⟩, ⟨1, ⟨#[58]⟩, 4, 5⟩, ⟨3, ⟨#[45, 49]⟩, 5, 7⟩, ⟨1, ⟨#[41]⟩, 7, 8⟩, ⟨1, ⟨#[125]⟩, 8, 9⟩]
theorem owns_cell {w : World} {n₀ n g cap : Nat} {xs : List Value} (h : w.ownsRow n₀ 31 4 (.slice (some ⟨g, 0, none⟩) n cap) n xs) (j : Nat) (u : Value) (hj : xs[j]? = some u) : w.cell? ⟨g, j, none⟩ = some u ∧ g < w.heap.size := by
  rcases h.2 with ⟨h0, _⟩ | ⟨g', cap', cur, h0, _, hg, _, _, _, ht⟩
  · cases h0
  · cases h0
    refine ⟨?_, (Array.getElem?_eq_some_iff.1 hg).1⟩
    rw [← ht] at hj
    simp only [World.cell?, hg]
    rw [List.getElem?_take] at hj
    split at hj
    · rw [Array.getElem?_toList] at hj; exact hj
    · cases hj
theorem lex9_c (w : World) : Calls Tryd.prog 12 #[.string ex9] w fun e w' => ∃ g cap, e = .returned (.tuple #[.slice (some ⟨g, 0, none⟩) 8 cap, .int .i64 0, .int .i64 9]) ∧ w'.cell? ⟨g, 20, none⟩ = some (.int .i64 3) ∧ g < w'.heap.size ∧
    TkAt w' (.slice (some ⟨g, 0, none⟩) 8 cap) (toks9.map tzOf) ∧ Below w.heap.size w w' := by
  refine (lex_c ex9 w (by decide) (oneAll_nq ex9 (by decide) (by decide +kernel))).mono (fun e w' h => ?_)
  obtain ⟨v, he, hown, _, hb⟩ := h
  have hl : lexT ex9 = (toks9, 0, 9) := lex_1
  rw [hl] at he hown
  have ht := owns_tkAt hown
  obtain ⟨g, cap, rfl⟩ := ownsRow_succ (k := 7) hown
  have hc := owns_cell hown 20 (.int .i64 3) rfl
  exact ⟨g, cap, he, hc.1, hc.2, ht, hb⟩
theorem one9_c (w : World) : Calls Tryd.prog 17 #[.string ⟨#[46, 46, 46, 120]⟩, .int .i64 0] w fun e w' => e = .returned (.tuple #[tokV 1 ⟨#[46, 46, 46]⟩ 0 3, .int .i64 0, .int .i64 3]) ∧ Below w.heap.size w w' := by
  refine (one_nq ⟨#[46, 46, 46, 120]⟩ 0 w (by decide) (by decide) (by decide)).mono (fun e w' h => ?_)
  unfold OneSays at h
  rw [one_1] at h
  exact h

set_option maxHeartbeats 1600000 in
set_option maxRecDepth 100000 in
theorem awake9_c (w : World) : Calls Tryd.prog 15 #[] w fun e w' => e = .returned (.bool true) ∧ Below w.heap.size w w' := by
  have kl : ∀ w : World, Calls Tryd.prog 12 #[.string ⟨#[123, 97, 40, 98, 58, 45, 49, 41, 125]⟩] w _ := fun w => lex9_c w
  have ks := fun (w : World) (v : Value) (h : TkAt w v (toks9.map tzOf)) => same_c v v _ _ w h h (by decide)
  rw [sameZ_self] at ks
  go_enter Tryd.func15, Tryd.ntmps15
  go_wp2_with (first | (go_at_call 12; with_reducible refine (kl _).mono ?_; rintro e w1 ⟨g, cap, rfl, hc, hg, ht, hb1⟩) | (go_at_call 17; with_reducible refine (one9_c _).mono ?_; rintro e w2 ⟨rfl, hb2⟩; have hc2 := fun o => cell_past (W := w2) o ((hb2.cell (p := ⟨g, 20, none⟩) hg).trans hc); have ht2 := ht.below hb2) | (go_at_call 26; with_reducible refine (ks _ _ (ht2.below ((Below.refl _ _).alloc (Nat.le_refl _) _))).mono ?_; rintro e w3 ⟨rfl, hb3⟩))
  go_ret
  refine ⟨rfl, bl hb1 (bl hb2 (bl ((Below.refl _ _).alloc (Nat.le_refl _) _) hb3))⟩
end Go.Proofs.YtklkgcogaekokaaDoor
