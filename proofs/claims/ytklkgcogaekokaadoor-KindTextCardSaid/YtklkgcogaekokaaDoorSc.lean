/- scan.Name: its walk, and the plain law of strings.IndexFunc under it. Condition: the text is no longer than a string that comes in can be. -/
import Derived.Test.YtklkgcogaekokaaDoorNa
namespace Go.Proofs.YtklkgcogaekokaaDoor
open Go.RowKit

/-- is a byte a letter, a low line or a digit? -/
def isNm (c : Int) : Bool := isLt c || isDc c
theorem isNm_high (c : Int) (h : 128 ≤ c) : isNm c = false := by
  unfold isNm isLt isDc
  rw [decide_eq_false (show ¬ c ≤ 122 by omega), decide_eq_false (show ¬ c ≤ 90 by omega), decide_eq_false (show ¬ c ≤ 57 by omega), decide_eq_false (show ¬ c = 95 by omega)]; simp
/-- how many of them stand from a place on -/
def nm (s : ByteArray) (i : Nat) : Nat := soF isNm s (s.size - i) i
theorem nm_le (s : ByteArray) (i : Nat) (h : i ≤ s.size) : i + nm s i ≤ s.size := by
  have := soF_le isNm s (s.size - i) i
  unfold nm; omega
theorem nm_end (s : ByteArray) (i : Nat) (h : s.size ≤ i) : nm s i = 0 := by unfold nm; rw [show s.size - i = 0 by omega]; rfl
theorem nm_no (s : ByteArray) (i : Nat) (h : isNm (bt s i) = false) : nm s i = 0 := by
  unfold nm
  cases s.size - i
  · rfl
  · unfold soF; rw [if_neg (by rw [h]; simp)]
theorem nm_yes (s : ByteArray) (i : Nat) (hi : i < s.size) (h : isNm (bt s i) = true) : nm s i = nm s (i + 1) + 1 := by
  unfold nm
  rw [show s.size - i = s.size - (i + 1) + 1 by omega]
  conv => lhs; unfold soF
  rw [if_pos h]
theorem soF_extract (f : Int → Bool) (s : ByteArray) (a : Nat) (ha : a ≤ s.size) : ∀ n i, a + i + n = s.size → soF f (s.extract a s.size) n i = soF f s n (a + i)
  | 0, _, _ => rfl
  | n + 1, i, h => by
    unfold soF
    rw [bt_extract s a s.size i (by omega) (Nat.le_refl _), soF_extract f s a ha n (i + 1) (by omega), show a + (i + 1) = a + i + 1 by omega]
theorem nm_extract (s : ByteArray) (a i : Nat) (ha : a ≤ s.size) (hi : a + i ≤ s.size) : nm (s.extract a s.size) i = nm s (a + i) := by
  unfold nm
  rw [ex_size, show min s.size s.size - a - i = s.size - (a + i) by omega]
  exact soF_extract isNm s a ha _ i (by omega)
theorem idx_nm (s : ByteArray) : Lib.idxFunc (offB isNm) true s = if nm s 0 < s.size then ((nm s 0 : Nat) : Int) else -1 := by
  unfold Lib.idxFunc
  rw [idx_so isNm isNm_high s s.size 0 (by omega), Nat.zero_add]
  rfl

theorem name1_c (c : Int) (w : World) (hc : 0 ≤ c ∧ c ≤ 255) : Calls Tryd.prog 55 #[.int .u8 c] w fun e w' => e = .returned (.bool (isNm c)) ∧ w = w' := by
  have k1 := fun w => letter_c c w hc
  have k2 := fun w => digit_c c w
  have h0 : isNm c = (isLt c || isDc c) := rfl
  rw [h0]
  clear h0
  obtain ⟨x, hx⟩ : ∃ x, x = isLt c := ⟨_, rfl⟩
  obtain ⟨y, hy⟩ : ∃ y, y = isDc c := ⟨_, rfl⟩
  rw [← hx] at k1 ⊢
  rw [← hy] at k2 ⊢
  clear hx hy
  cases x
  all_goals
    go_enter Tryd.func55, Tryd.ntmps55
    go_wp2_with (first | (go_at_call 53; with_reducible refine (k1 _).mono ?_; rintro e w' ⟨rfl, rfl⟩) | (go_at_call 56; with_reducible refine (k2 _).mono ?_; rintro e w' ⟨rfl, rfl⟩))
    go_ret
    exact ⟨rfl, rfl⟩

set_option maxHeartbeats 1000000 in
set_option maxRecDepth 100000 in
theorem isName_p (w : World) (B : Nat) (hB : B < w.heap.size) (hc : w.cell? ⟨B, 0, none⟩ = some (.func (.func 55) #[] #[])) :
    PredAtRunes Tryd.prog 78 #[.pointer (some ⟨B, 0, none⟩)] (offB isNm) w := fun W r hr hb => by
  have hc' : W.cell? ⟨B, 0, none⟩ = some (.func (.func 55) #[] #[]) := (hb.cell (p := ⟨B, 0, none⟩) hB).trans hc
  show Calls Tryd.prog 78 #[.int .i32 (r : Int), .pointer (some ⟨B, 0, none⟩)] W fun e w' => e = .returned (.bool (offB isNm r)) ∧ ∃ q, w' = W.drewN q
  by_cases h1 : 128 ≤ r
  · have ho : offB isNm r = true := by unfold offB; rw [decide_eq_true h1]; rfl
    rw [ho]
    clear ho
    go_enter Tryd.func78, Tryd.ntmps78
    go_wp2
    go_ret
    exact ⟨rfl, 0, rfl⟩
  · have k := fun w => name1_c (r : Int) w (by omega)
    obtain ⟨d, hd⟩ : ∃ d, d = isNm (r : Int) := ⟨_, rfl⟩
    rw [← hd] at k
    have ho : offB isNm r = !d := by unfold offB; rw [hd, decide_eq_false h1]; rfl
    rw [ho]
    clear ho hd hr
    go_enter Tryd.func78, Tryd.ntmps78
    go_wp2_with (go_at_call 55; with_reducible refine (k _).mono ?_; rintro e w' ⟨rfl, rfl⟩)
    go_ret
    refine ⟨?_, 0, rfl⟩
    show Ending.returned (Value.bool (decide ((128 : Int) ≤ (r : Int)) || !d)) = _
    rw [decide_eq_false (by omega)]; rfl

set_option maxHeartbeats 1000000 in
set_option maxRecDepth 100000 in
theorem upton_c (s : ByteArray) (a : Nat) (w : World) (hs : s.size ≤ 140737488351232) (ha : a ≤ s.size) :
    Calls Tryd.prog 54 #[.string s, .int .i64 (a : Int), .func (.func 55) #[] #[]] w fun e w' => e = .returned (.int .i64 ((a : Int) + (nm s a : Nat))) ∧ Below w.heap.size w w' := by
  have l1 := fun wx => slice_from (P := Tryd.prog) 9 rfl s a (a : Int) rfl ha wx
  obtain ⟨t, ht⟩ : ∃ t, t = s.extract a s.size := ⟨_, rfl⟩
  have hd : nm t 0 = nm s a := by rw [ht, nm_extract s a 0 ha (by omega)]; rfl
  have hz : t.size = s.size - a := by rw [ht, ex_size]; omega
  rw [← ht] at l1
  have hx := idx_nm t
  rw [hd, hz] at hx
  have hle := nm_le s a ha
  clear ht hd
  have hC := fun (W : World) (hB : w.heap.size < W.heap.size) (hc : W.cell? ⟨w.heap.size, 0, none⟩ = some (.func (.func 55) #[] #[])) =>
    Tryd.strings_IndexFunc_runes 78 #[.pointer (some ⟨w.heap.size, 0, none⟩)] (enters_of Tryd.func78 (by kernel_rfl) rfl) _ t W (isName_p W w.heap.size hB hc)
  rw [hx] at hC
  clear hx hz
  have t1 : decide ((a : Int) < 0) = false := decide_eq_false (by omega)
  have t2 : decide ((s.size : Int) < (a : Int)) = false := decide_eq_false (by omega)
  by_cases h2 : nm s a < s.size - a
  · rw [if_pos h2] at hC
    go_enter Tryd.func54, Tryd.ntmps54
    go_wp2_with (go_at_call 77; with_reducible refine (hC _ (by simp) (by simp)).mono ?_; rintro e w' ⟨rfl, hb⟩)
    go_ret
    exact ⟨rfl, ((Below.refl _ w).alloc (Nat.le_refl _) _).trans (hb.mono (by simp))⟩
  · rw [if_neg h2] at hC
    rw [show (a : Int) + (nm s a : Nat) = (s.size : Int) by omega]
    go_enter Tryd.func54, Tryd.ntmps54
    go_wp2_with (go_at_call 77; with_reducible refine (hC _ (by simp) (by simp)).mono ?_; rintro e w' ⟨rfl, hb⟩)
    go_ret
    exact ⟨rfl, ((Below.refl _ w).alloc (Nat.le_refl _) _).trans (hb.mono (by simp))⟩

/-- where a name that begins with a letter at a place of a text ends -/
theorem name_c (s : ByteArray) (a : Nat) (w : World) (hs : s.size ≤ 140737488351232) (ha : a < s.size) (hl : isLt (bt s a) = true) :
    Calls Tryd.prog 32 #[.string s, .int .i64 (a : Int)] w fun e w' => e = .returned (.int .i64 ((a : Int) + (nm s a : Nat))) ∧ Below w.heap.size w w' := by
  have k := fun w => upton_c s a w hs (by omega)
  have hb := bt_nat s a ha
  have hr := bt_range s a
  have k2 := fun w => letter_c (bt s a) w hr
  rw [hl] at k2
  obtain ⟨c, hc⟩ : ∃ c, c = bt s a := ⟨_, rfl⟩
  rw [← hc] at k2 hb
  have t1 : decide ((a : Int) < 0) = false := decide_eq_false (by omega)
  have t2 : decide ((s.size : Int) ≤ (a : Int)) = false := decide_eq_false (by omega)
  have t2' : decide (s.size ≤ a) = false := decide_eq_false (by omega)
  clear hl hr hc
  go_enter Tryd.func32, Tryd.ntmps32
  go_wp2_with (first | (go_at_call 53; with_reducible refine (k2 _).mono ?_; rintro e w' ⟨rfl, rfl⟩) | (go_at_call 54; with_reducible refine (k _).mono ?_; rintro e w' ⟨rfl, hbl⟩))
  go_ret
  exact ⟨rfl, by assumption⟩
end Go.Proofs.YtklkgcogaekokaaDoor
