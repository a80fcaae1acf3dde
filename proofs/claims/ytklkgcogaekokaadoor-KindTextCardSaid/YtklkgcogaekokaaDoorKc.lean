/- The walks of kind.Of at punctuation and names, kind.In, kind.All, chapter 10's awake. Condition: the variable kind.texts reads as its text lays it. -/
import Derived.Test.YtklkgcogaekokaaDoorKb
import Derived.OwnWalk
namespace Go.Proofs.YtklkgcogaekokaaDoor
open Go.RowKit

theorem TxAt.mono2 {w w' : World} (h : TxAt w) (hb : Below w.heap.size w w') : TxAt w' := h.below hb
def ofR (k : Int) (v : ByteArray) : Int := if k == 1 then findR 0 v else if findR 1 v == 0 then 18 else findR 1 v
set_option maxHeartbeats 800000 in
set_option maxRecDepth 100000 in
theorem of_c (k : Int) (v : ByteArray) (i p : Int) (w : World) (h : TxAt w) (hk : k = 1 ∨ k = 2) : Calls Tryd.prog 13 #[.agg #[.int .i64 k, .string v, .int .i64 i, .int .i64 p]] w fun e w' => e = .returned (.int .i64 (ofR k v)) ∧ Below w.heap.size w w' := by
  have hb := (Below.refl w.heap.size w).alloc (Nat.le_refl _) (.cells #[.int .i64 k, .string v, .int .i64 i, .int .i64 p] 31)
  rcases hk with rfl | rfl
  · have kf := find_c 0 v _ (h.below hb)
    rw [show ofR 1 v = findR 0 v from rfl]
    obtain ⟨x, hx⟩ : ∃ x, x = findR 0 v := ⟨_, rfl⟩
    rw [← hx] at kf ⊢
    clear hx
    go_enter Tryd.func13, Tryd.ntmps13
    go_wp2_with (go_at_call 25; with_reducible refine kf.mono ?_; rintro e w2 ⟨rfl, hb2⟩)
    go_ret
    exact ⟨rfl, hb.trans (hb2.mono hb.size)⟩
  · have kf := find_c 1 v _ (h.below hb)
    have hr : ofR 2 v = if findR 1 v == 0 then 18 else findR 1 v := rfl
    rw [hr]
    clear hr
    obtain ⟨x, hx⟩ : ∃ x, x = findR 1 v := ⟨_, rfl⟩
    rw [← hx] at kf ⊢
    clear hx
    cases hq : (x == 0)
    · have hq' : (x != 0) = true := by rw [bne, hq]; rfl
      go_enter Tryd.func13, Tryd.ntmps13
      go_wp2_with (go_at_call 25; with_reducible refine kf.mono ?_; rintro e w2 ⟨rfl, hb2⟩)
      go_ret
      exact ⟨rfl, hb.trans (hb2.mono hb.size)⟩
    · have hq' : (x != 0) = false := by rw [bne, hq]; rfl
      go_enter Tryd.func13, Tryd.ntmps13
      go_wp2_with (go_at_call 25; with_reducible refine kf.mono ?_; rintro e w2 ⟨rfl, hb2⟩)
      go_ret
      exact ⟨rfl, hb.trans (hb2.mono hb.size)⟩

def inN (te : Int) : Bool := decide (18 ≤ te) && decide (te < 31)
theorem in0_c (te : Int) (w : World) : Calls Tryd.prog 14 #[.int .i64 0, .int .i64 te] w fun e w' => e = .returned (.bool (inN te)) ∧ w' = w := by
  have h0 : inN te = (decide (18 ≤ te) && decide (te < 31)) := rfl
  rw [h0]
  clear h0
  cases h1 : decide (18 ≤ te)
  · go_enter Tryd.func14, Tryd.ntmps14
    go_wp2
    go_ret
    exact ⟨rfl, rfl⟩
  · obtain ⟨q, hq⟩ : ∃ q, q = decide (te < 31) := ⟨_, rfl⟩
    have hq' : decide (te < 31) = q := hq.symm
    rw [hq']
    clear hq
    go_enter Tryd.func14, Tryd.ntmps14
    go_wp2
    go_ret
    exact ⟨rfl, rfl⟩
theorem in1_c (w : World) : Calls Tryd.prog 14 #[.int .i64 1, .int .i64 23] w fun e w' => e = .returned (.bool false) ∧ w' = w := by
  go_enter Tryd.func14, Tryd.ntmps14
  go_wp2
  go_ret
  exact ⟨rfl, rfl⟩

theorem own_ne (v : Value) : v.ownBlock = none ∨ v.ownBlock ≠ none := by cases v.ownBlock <;> simp
theorem info3 : (Tryd.prog.info? 3).map (fun i => (i.zero, i.size, i.bytes)) = some (some (.int .i64 0), 1, 8) := by kernel_rfl
set_option maxHeartbeats 1600000 in
set_option maxRecDepth 100000 in
/-- two tokens of one text -/
theorem all_c (b cap : Nat) (v : ByteArray) (i p : Int) (w : World) (h : TxAt w) (hb : b < w.heap.size)
    (hc : ∀ k, k < 2 → w.cell? ⟨b, k * 4, none⟩ = some (.int .i64 2) ∧ w.cell? ⟨b, k * 4 + 1, none⟩ = some (.string v) ∧ w.cell? ⟨b, k * 4 + 2, none⟩ = some (.int .i64 i) ∧ w.cell? ⟨b, k * 4 + 3, none⟩ = some (.int .i64 p)) :
    Calls Tryd.prog 22 #[.slice (some ⟨b, 0, none⟩) 2 cap] w fun e w' => ∃ g c, e = .returned (.slice g 2 c) ∧ Below w.heap.size w w' := by
  obtain ⟨i0, hti, hz0, hz1, hz2⟩ := info_parts info3
  go_enter Tryd.func22, Tryd.ntmps22
  go_wp2
  go_loopw [3, 8] (fun o v wr => ∃ (k : Nat) (xs : List Int), v = .int .i64 (k : Int) ∧ k ≤ 2 ∧ xs.length = k ∧ wr.ownsRow w.heap.size 3 1 o xs.length (xs.map (Value.int .i64)) ∧ Below w.heap.size w wr) (fun _ v _ => 2 - (intOf v).toNat)
  case atStart => exact ⟨0, [], rfl, by omega, rfl, World.ownsRow_nil _ _ _ _, Below.refl _ _⟩
  case round =>
    obtain ⟨k, xs, rfl, hk, hxs, hown, hB⟩ := hrel
    by_cases hlt : k < 2
    · obtain ⟨c0, c1, c2, c3⟩ := hc k hlt
      have d0 := (hB.cell (p := ⟨b, k * 4, none⟩) hb).trans c0
      have d1 := (hB.cell (p := ⟨b, k * 4 + 1, none⟩) hb).trans c1
      have d2 := (hB.cell (p := ⟨b, k * 4 + 2, none⟩) hb).trans c2
      have d3 := (hB.cell (p := ⟨b, k * 4 + 3, none⟩) hb).trans c3
      clear c0 c1 c2 c3
      have ko := of_c 2 v i p _ ((h.mono2 hB).below ((Below.refl wr.heap.size wr).alloc (Nat.le_refl _) (.cells #[.int .i64 2, .string v, .int .i64 i, .int .i64 p] 31))) (.inr rfl)
      obtain ⟨y, hy⟩ : ∃ y, y = ofR 2 v := ⟨_, rfl⟩
      rw [← hy] at ko
      clear hy hc
      go_wp2_with (first | (go_at_call 13; with_reducible refine ko.mono ?_; rintro e w2 ⟨rfl, hb2⟩; have hB2 := (hB.alloc hB.size (.cells #[.int .i64 2, .string v, .int .i64 i, .int .i64 p] 31)).trans (hb2.mono (by rw [World.size_alloc]; have := hB.size; omega)); have hown2 := (hown.alloc (.cells #[.int .i64 2, .string v, .int .i64 i, .int .i64 p] 31)).kept (grown_of_below hb2) (own_ne _)) | (at_builtin; refine wpList_append_own _ rfl _ _ 44 rfl w.heap.size 3 i0 (.int .i64 0) 1 8 Tryd.underlying44 hti hz0 hz1 hz2 rfl (by decide) _ _ _ rfl (hown2.alloc _) ⟨w2.heap.size, 0, none⟩ 1 1 [.int .i64 y] rfl rfl (cell_one_new _ _ _) (by simp [Value.oneCell']) (by unfold maxLen; omega) (by omega) (by rw [World.size_alloc]; have := hB2.size; omega) ?_; intro v' w3 hown3 hgrow _))
      go_roundw
      case rel =>
        refine ⟨k + 1, xs ++ [y], by rw [show ((k + 1 : Nat) : Int) = (k : Int) + 1 by omega], hlt, by simp [hxs], ?_, ?_⟩
        · simpa using hown3
        · exact (hB2.alloc hB2.size _).grown hgrow (by rw [World.size_alloc]; have := hB2.size; omega) (fun q e => (hown2.lt q e).1)
      case measure => simp [intOf]; omega
    · obtain rfl : k = 2 := by omega
      rcases hown.2 with ⟨rfl, h0⟩ | ⟨g, c, cur, rfl, _⟩
      · exfalso; omega
      · rw [hxs]
        have H := Lib.hid hxs
        clear hxs
        go_wp2
        go_ret
        exact ⟨_, _, rfl, hB⟩

theorem tx_on : tx 23 = ⟨#[111, 110]⟩ := rfl
theorem of_on : ofR 2 ⟨#[111, 110]⟩ = 23 := by decide +kernel
set_option maxHeartbeats 1600000 in
set_option maxRecDepth 100000 in
theorem awake10_c (w : World) (h : TxAt w) : Calls Tryd.prog 10 #[] w fun e w' => e = .returned (.bool true) ∧ Below w.heap.size w w' := by
  have ha := (Below.refl w.heap.size w).alloc (Nat.le_refl _) (.cells #[.int .i64 2, .string ⟨#[111, 110]⟩, .int .i64 0, .int .i64 0] 31)
  have h1 := h.below ha
  have kt := text_c 6 _ h1
  rw [show hasT 6 = true by decide +kernel, show tx (6 : Int).toNat = ⟨#[46, 46, 46]⟩ from rfl] at kt
  replace kt : Calls Tryd.prog 11 #[.int .i64 6] _ fun e w' => e = .returned (.tuple #[.string ⟨#[46, 46, 46]⟩, .bool true]) ∧ _ = w' := kt
  have ko := of_c 2 ⟨#[111, 110]⟩ 0 0 _ h1 (.inr rfl)
  rw [of_on] at ko
  have ki := fun w => (in0_c 23 w).mono (fun e w' h => (⟨h.1, h.2.symm⟩ : e = .returned (.bool true) ∧ w = w'))
  have kj := fun w => (in1_c w).mono (fun e w' h => (⟨h.1, h.2.symm⟩ : e = .returned (.bool false) ∧ w = w'))
  have kall : ∀ w2 : World, TxAt w2 → Calls Tryd.prog 22 #[.slice (some ⟨w2.heap.size, 0, none⟩) 2 2] (w2.alloc (.cells #[.int .i64 2, .string ⟨#[111, 110]⟩, .int .i64 0, .int .i64 0, .int .i64 2, .string ⟨#[111, 110]⟩, .int .i64 0, .int .i64 0] 31)) _ := fun w2 h2 =>
    all_c w2.heap.size 2 ⟨#[111, 110]⟩ 0 0 _ (h2.below ((Below.refl _ _).alloc (Nat.le_refl _) _)) (by simp) (fun k hk => by
      have : k = 0 ∨ k = 1 := by omega
      rcases this with rfl | rfl
      · exact ⟨World.cell?_alloc_mark w2 _ _ _ 0, World.cell?_alloc_mark w2 _ _ _ 1, World.cell?_alloc_mark w2 _ _ _ 2, World.cell?_alloc_mark w2 _ _ _ 3⟩
      · exact ⟨World.cell?_alloc_mark w2 _ _ _ 4, World.cell?_alloc_mark w2 _ _ _ 5, World.cell?_alloc_mark w2 _ _ _ 6, World.cell?_alloc_mark w2 _ _ _ 7⟩)
  go_enter Tryd.func10, Tryd.ntmps10
  go_wp2_with (first | (go_at_call 11; with_reducible refine kt.mono ?_; rintro e w2 ⟨rfl, rfl⟩) | (go_at_call 13; with_reducible refine ko.mono ?_; rintro e w3 ⟨rfl, hb3⟩; have h3 := h1.below hb3; obtain ⟨hcc, hff⟩ := bcell hb3) | (go_at_call 14; (first | with_reducible refine (ki _).mono ?_ | with_reducible refine (kj _).mono ?_); rintro e w2 ⟨rfl, rfl⟩) | (go_at_call 22; with_reducible refine (kall _ h3).mono ?_; rintro e w4 ⟨g, c, rfl, hb4⟩))
  go_ret
  exact ⟨rfl, (ha.trans (hb3.mono ha.size)).trans ((((Below.refl _ w3).alloc (Nat.le_refl _) _).trans (hb4.mono (by rw [World.size_alloc]; omega))).mono (Nat.le_trans ha.size hb3.size))⟩
end Go.Proofs.YtklkgcogaekokaaDoor
