/- The walks of utf.Bad and utf.May. Condition: the text is no longer than a string that comes in can be. -/
import Derived.Test.YtklkgcogaekokaaDoorUb
namespace Go.Proofs.YtklkgcogaekokaaDoor
open Go.RowKit Go.Shelf
attribute [local go_sem] Oper.semAt_some

theorem places_c (s : ByteArray) (w : World) : Calls Tryd.prog 45 #[.string s] w fun e w' => e = .returned (.func (.func 75) #[] #[.pointer (some ⟨w.heap.size, 0, none⟩)]) ∧ w' = w.alloc (.cells #[.string s] 9) := by
  go_enter Tryd.func45, Tryd.ntmps45
  go_wp2
  go_ret
  exact ⟨rfl, rfl⟩

set_option maxRecDepth 100000 in
set_option maxHeartbeats 2000000 in
theorem bad_c (s : ByteArray) (w : World) (hs : s.size ≤ 140737488351232) : Calls Tryd.prog 23 #[.string s] w fun e w' => e = .returned (.int .i64 (badR s)) ∧ Below w.heap.size w w' := by
  have hro : Fence.wide.round = none := rfl
  refine (callsIn_wide (n := 3)).1 ?_
  refine callsIn_of_wp_marks Tryd.func23 rfl trivial ?_ hro
  simp only [Tryd.ntmps23, List.size_toArray, List.length_cons, List.length_nil, Nat.reduceAdd, Nat.reduceSub, Array.replicate_succ, Array.replicate_zero, List.push_toArray, List.append_toArray, List.nil_append, List.cons_append]
  gi_wp2_with (refine ⟨trivial, ?_⟩; gi_at_call 45; refine (callsIn_wide.2 (places_c s _)).mono ?_; rintro e w' ⟨rfl, rfl⟩)
  have c0 := new_cell w (.int .i64 0) 3
  have c1 := new_cell (w.alloc (.cells #[.int .i64 0] 3)) (.string s) 9
  simp only [World.size_alloc] at c1
  have hB0 : Below w.heap.size w ((w.alloc (.cells #[.int .i64 0] 3)).alloc (.cells #[.string s] 9)) := ((Below.refl _ w).alloc (Nat.le_refl _) _).alloc (by simp) _
  have hseq : SeqStopsK Fence.wide (3 - 1) Tryd.prog 75 #[.pointer (some ⟨w.heap.size + 1, 0, none⟩)] (fun x : Nat × Bool => #[Value.int .i64 ((x.1 : Nat) : Int), .bool x.2]) (KpB (w.heap.size + 1)) (fun ys => ys = plR s) (fun pre => pre <+: plR s) (plR s).length ((w.alloc (.cells #[.int .i64 0] 3)).alloc (.cells #[.string s] 9)) :=
    fun l J Jx W hW hJ _ hY h0 => places1_in 2 (by omega) l (w.heap.size + 1) W.heap.size s hs J Jx hJ hY W (by have := hW.size; simp at this; omega) ((hW.cell (p := ⟨w.heap.size + 1, 0, none⟩) (by simp)).trans c1.1) h0
  refine wpIn_rangeFunc_ownF hro (by omega) (gf := 75) (lb := #[.pointer (some ⟨w.heap.size + 1, 0, none⟩)]) rfl trivial (enters_of Tryd.func75 (by kernel_rfl) rfl)
    hseq kpB_t (kpB_b (by simp)) (Below.refl _ _) (fun _ => rfl)
    (fun pre W => ((∀ y ∈ pre, y.2 = true) ∧ W.cell? ⟨w.heap.size, 0, none⟩ = some (.int .i64 0) ∧ W.frozen? ⟨w.heap.size, 0, none⟩ = false) ∧ Below w.heap.size w W)
    (fun c pre W => (c = .ret ∧ ∃ q a, pre = q ++ [(a, false)] ∧ (∀ y ∈ q, y.2 = true) ∧ W.cell? ⟨w.heap.size, 0, none⟩ = some (.int .i64 ((a : Nat) : Int))) ∧ Below w.heap.size w W)
    (OwnFrom.and (Own.from (fun s A B row hs hg hr => ⟨hs.1, cell_kept hs.2.1 hg hr, (frozen_kept hs.2.1 hg hr).trans hs.2.2⟩) _) (ownFrom_below (Nat.le_refl _) (by simp; omega)))
    (fun c => OwnFrom.and (Own.from (fun s A B row hs hg hr => ⟨hs.1, by obtain ⟨_, q, a, h1, h2, h3⟩ := hs; exact ⟨q, a, h1, h2, cell_kept h3 hg hr⟩⟩) _) (ownFrom_below (Nat.le_refl _) (by simp; omega)))
    ⟨⟨by simp, cell_past _ c0.1, frozen_past _ c0.1 c0.2⟩, hB0⟩
    (fun x => { tmps := #[.string s, undef, .pointer (some ⟨w.heap.size, 0, none⟩), .int .i64 ((x.1 : Nat) : Int), .bool x.2, .string s, .func (.func 75) #[] #[.pointer (some ⟨w.heap.size + 1, 0, none⟩)], .int .i64 ((x.1 : Nat) : Int), .bool x.2, undef, undef, undef], defers := [] }) ?assign ?body ?done ?stop
  case assign =>
    intro l x W K hK
    gi_wp2
    exact hK
  case body =>
    rintro l pre ⟨a, f⟩ W ⟨⟨hp, hcr, hfr⟩, hB⟩ _
    cases f
    · gi_wp2
      exact ⟨KeepsOthers.setCell _ _ _, ⟨rfl, pre, a, rfl, hp, World.cell?_setCell_same' _ _ _ (by rw [hcr]; rfl)⟩, hB.setCell (p := ⟨w.heap.size, 0, none⟩) (by simp) _⟩
    · gi_wp2
      exact ⟨KeepsOthers.refl _, ⟨Nat.le_refl _, rfl⟩, ⟨fun y hy => (List.mem_append.1 hy).elim (hp y) (fun e => by simp at e; rw [e]), hcr, hfr⟩, hB⟩
  case done =>
    rintro D ys W hD rfl ⟨⟨hp, hcr, hfr⟩, hB⟩ hK
    gi_wp2
    have hK' := (KeepsOthers.setCell W ⟨w.heap.size, 0, none⟩ (.int .i64 (-1))).same D _ hK rfl
    refine ⟨by simp, .inl ⟨_, _, rfl, run_takeDeferred hK', ?_⟩⟩
    have hc5 := cell_kept (World.cell?_setCell_same' W ⟨w.heap.size, 0, none⟩ (.int .i64 (-1)) (by rw [hcr]; rfl)) (grownBy_putObj' _ D (.deferred none)) (fun r e => by cases e; exact ⟨_, hK', rfl⟩)
    refine ⟨.int .i64 (-1), ?_, by rw [show badR s = -1 from plF_bad s s.size 0 hp], (hB.setCell (p := ⟨w.heap.size, 0, none⟩) (by simp) _).trans (belowK_b (w := w) (Nat.le_refl _) _ D _ _ (by simp at hD; omega) hK' rfl rfl)⟩
    simp [results, Tryd.f23, go_sem, hc5]
  case stop =>
    rintro D c pre W hD hpre ⟨⟨rfl, q, a, rfl, hq, hcr⟩, hB⟩ hK
    gi_wp2
    refine ⟨by simp, .inl ⟨_, _, rfl, run_takeDeferred hK, ?_⟩⟩
    have hc5 := cell_kept hcr (grownBy_putObj' _ D (.deferred none)) (fun r e => by cases e; exact ⟨_, hK, rfl⟩)
    refine ⟨.int .i64 ((a : Nat) : Int), ?_, by rw [show badR s = a from plF_at s s.size 0 q a hpre hq], hB.trans (belowK_b (w := w) (Nat.le_refl _) W D _ _ (by simp at hD; omega) hK rfl rfl)⟩
    simp [results, Tryd.f23, go_sem, hc5]

theorem may_c (s : ByteArray) (w : World) (hs : s.size ≤ 140737488351232) : Calls Tryd.prog 16 #[.string s] w fun e w' => e = .returned (.bool (mayR s)) ∧ Below w.heap.size w w' := by
  have k := fun w => bad_c s w hs
  have hm : mayR s = decide (badR s < 0) := rfl
  rw [hm]
  obtain ⟨b, hb⟩ : ∃ b, b = badR s := ⟨_, rfl⟩
  rw [← hb] at k ⊢
  clear hb hm
  go_enter Tryd.func16, Tryd.ntmps16
  go_wp2_with (go_at_call 23; with_reducible refine (k _).mono ?_; rintro e w' ⟨rfl, hb⟩)
  go_ret
  exact ⟨rfl, by assumption⟩
end Go.Proofs.YtklkgcogaekokaaDoor
