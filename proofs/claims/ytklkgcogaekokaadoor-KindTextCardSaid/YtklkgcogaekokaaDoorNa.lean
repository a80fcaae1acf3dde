/- scan.Digits, scan.Begins: the walks and the plain law of strings.IndexFunc at a predicate on bytes. Condition: the text is no longer than a string that comes in can be. -/
import Derived.Test.YtklkgcogaekokaaDoorLaid
import Derived.Test.YtklkgcogaekokaaDoorRc
import Derived.Laws.RangeAny
namespace Go.Proofs.YtklkgcogaekokaaDoor
open Go.RowKit

/-- how many bytes of which f holds stand from a place on: at most n -/
def soF (f : Int → Bool) (s : ByteArray) : Nat → Nat → Nat
  | 0, _ => 0
  | n + 1, i => if f (bt s i) then soF f s n (i + 1) + 1 else 0
/-- a predicate on bytes, as the library is asked it: where a rune is none -/
def offB (f : Int → Bool) (x : Nat) : Bool := decide (128 ≤ x) || !(f x)

theorem soF_le (f : Int → Bool) (s : ByteArray) : ∀ n i, soF f s n i ≤ n
  | 0, _ => Nat.le_refl _
  | n + 1, i => by
    unfold soF; split
    · have := soF_le f s n (i + 1); omega
    · omega
theorem idx_so (f : Int → Bool) (hf : ∀ c : Int, 128 ≤ c → f c = false) (s : ByteArray) : ∀ (n i : Nat), i + n = s.size →
    Lib.idxFuncFrom (offB f) true s n i = if i + soF f s n i < s.size then ((i + soF f s n i : Nat) : Int) else -1
  | 0, i, h => by
    unfold soF
    rw [if_neg (by omega)]; rfl
  | n + 1, i, h => by
    have hi : i < s.size := by omega
    have hb := bt_nat s i hi
    unfold Lib.idxFuncFrom soF
    rw [if_pos hi]
    by_cases h1 : (s[i]'hi).toNat < 128
    · rw [decode_ascii s i hi h1]
      by_cases hfc : f (bt s i) = true
      · have e : offB f (s[i]'hi).toNat = false := by
          unfold offB; rw [hb, hfc, decide_eq_false (by omega)]; rfl
        rw [if_neg (by rw [e]; simp), if_pos hfc, idx_so f hf s n (i + 1) (by omega)]
        rw [show i + 1 + soF f s n (i + 1) = i + (soF f s n (i + 1) + 1) by omega]
      · have hff : f (bt s i) = false := by simpa using hfc
        have e : offB f (s[i]'hi).toNat = true := by
          unfold offB; rw [hb, hff]; simp
        rw [if_pos e, if_neg hfc, Nat.add_zero, if_pos hi]
    · have h2 := decode_high s i hi (by omega)
      have hff : f (bt s i) = false := hf _ (by omega)
      have e : offB f (Utf8.decode s i).1 = true := by
        unfold offB; rw [decide_eq_true h2.1]; rfl
      rw [if_pos e, show (if f (bt s i) = true then soF f s n (i + 1) + 1 else 0) = 0 from if_neg (by rw [hff]; simp), Nat.add_zero, if_pos hi]
theorem so_dn (s : ByteArray) (n i : Nat) (h : i + n = s.size) : soF isDc s n i = dn s i := by
  induction n generalizing i with
  | zero => rw [dn_end s i (by omega)]; rfl
  | succ n ih =>
    unfold soF
    by_cases hd : isDc (bt s i) = true
    · rw [if_pos hd, dn_yes s i (by omega) hd, ih (i + 1) (by omega)]
    · rw [if_neg hd, dn_no s i (by simpa using hd)]
theorem isDc_high (c : Int) (h : 128 ≤ c) : isDc c = false := by
  unfold isDc; rw [decide_eq_false (show ¬ c ≤ 57 by omega), Bool.and_false]
/-- what strings.IndexFunc finds: where digits end -/
theorem idx_dn (s : ByteArray) : Lib.idxFunc (offB isDc) true s = if dn s 0 < s.size then ((dn s 0 : Nat) : Int) else -1 := by
  unfold Lib.idxFunc
  rw [idx_so isDc isDc_high s s.size 0 (by omega), so_dn s s.size 0 (by omega), Nat.zero_add]

theorem digit_c (c : Int) (w : World) : Calls Tryd.prog 56 #[.int .u8 c] w fun e w' => e = .returned (.bool (isDc c)) ∧ w = w' := by
  have h0 : isDc c = (decide (48 ≤ c) && decide (c ≤ 57)) := rfl
  by_cases h1 : 48 ≤ c
  · by_cases h2 : c ≤ 57
    · rw [h0, decide_eq_true h1, decide_eq_true h2]
      go_enter Tryd.func56, Tryd.ntmps56
      go_wp2
      go_ret
      exact ⟨rfl, rfl⟩
    · rw [h0, decide_eq_true h1, decide_eq_false h2]
      go_enter Tryd.func56, Tryd.ntmps56
      go_wp2
      go_ret
      exact ⟨rfl, rfl⟩
  · rw [h0, decide_eq_false h1]
    go_enter Tryd.func56, Tryd.ntmps56
    go_wp2
    go_ret
    exact ⟨rfl, rfl⟩

set_option maxHeartbeats 1000000 in
set_option maxRecDepth 100000 in
theorem isDigit_p (w : World) (B : Nat) (hB : B < w.heap.size) (hc : w.cell? ⟨B, 0, none⟩ = some (.func (.func 56) #[] #[])) :
    PredAtRunes Tryd.prog 78 #[.pointer (some ⟨B, 0, none⟩)] (offB isDc) w := fun W r hr hb => by
  have hc' : W.cell? ⟨B, 0, none⟩ = some (.func (.func 56) #[] #[]) := (hb.cell (p := ⟨B, 0, none⟩) hB).trans hc
  show Calls Tryd.prog 78 #[.int .i32 (r : Int), .pointer (some ⟨B, 0, none⟩)] W fun e w' => e = .returned (.bool (offB isDc r)) ∧ ∃ q, w' = W.drewN q
  have k := fun w => digit_c (r : Int) w
  obtain ⟨d, hd⟩ : ∃ d, d = isDc (r : Int) := ⟨_, rfl⟩
  rw [← hd] at k
  have ho : offB isDc r = (decide (128 ≤ r) || !d) := by unfold offB; rw [hd]
  rw [ho]
  clear ho hd hr
  by_cases h1 : 128 ≤ r
  · rw [decide_eq_true h1]
    go_enter Tryd.func78, Tryd.ntmps78
    go_wp2
    go_ret
    exact ⟨rfl, 0, rfl⟩
  · rw [decide_eq_false h1]
    go_enter Tryd.func78, Tryd.ntmps78
    go_wp2_with (go_at_call 56; with_reducible refine (k _).mono ?_; rintro e w' ⟨rfl, rfl⟩)
    go_ret
    refine ⟨?_, 0, rfl⟩
    show Ending.returned (Value.bool (decide ((128 : Int) ≤ (r : Int)) || !d)) = _
    rw [decide_eq_false (by omega)]

/-- where digits end, from any place on -/
def digI (s : ByteArray) (i : Int) : Int := if i < 0 ∨ (s.size : Int) < i then i else i + dn s i.toNat

set_option maxHeartbeats 1000000 in
set_option maxRecDepth 100000 in
theorem upto_c (s : ByteArray) (i : Int) (w : World) (hs : s.size ≤ 140737488351232) (hi : -9223372036854775808 ≤ i ∧ i ≤ 9223372036854775807) :
    Calls Tryd.prog 54 #[.string s, .int .i64 i, .func (.func 56) #[] #[]] w fun e w' => e = .returned (.int .i64 (digI s i)) ∧ Below w.heap.size w w' := by
  by_cases h1 : i < 0 ∨ (s.size : Int) < i
  · have e : digI s i = i := if_pos h1
    rw [e]
    go_enter Tryd.func54, Tryd.ntmps54
    go_wp2
    all_goals
      first
        | (exfalso; omega)
        | (go_ret; exact ⟨rfl, (Below.refl _ w).alloc (Nat.le_refl _) _⟩)
  · obtain ⟨a, rfl⟩ : ∃ a : Nat, i = a := ⟨i.toNat, by omega⟩
    have ha : a ≤ s.size := by omega
    have e : digI s a = a + dn s a := if_neg h1
    rw [e]
    clear e h1 hi
    have l1 := fun wx => slice_from (P := Tryd.prog) 9 rfl s a (a : Int) rfl ha wx
    obtain ⟨t, ht⟩ : ∃ t, t = s.extract a s.size := ⟨_, rfl⟩
    have hd : dn t 0 = dn s a := by rw [ht, dn_extract s a 0 ha]; rfl
    have hz : t.size = s.size - a := by rw [ht, ex_size]; omega
    rw [← ht] at l1
    have hx := idx_dn t
    rw [hd, hz] at hx
    have hle := dn_le s a ha
    clear ht hd
    have hC := fun (W : World) (hB : w.heap.size < W.heap.size) (hc : W.cell? ⟨w.heap.size, 0, none⟩ = some (.func (.func 56) #[] #[])) =>
      Tryd.strings_IndexFunc_runes 78 #[.pointer (some ⟨w.heap.size, 0, none⟩)] (enters_of Tryd.func78 (by kernel_rfl) rfl) _ t W (isDigit_p W w.heap.size hB hc)
    rw [hx] at hC
    clear hx hz
    have t1 : decide ((a : Int) < 0) = false := decide_eq_false (by omega)
    have t2 : decide ((s.size : Int) < (a : Int)) = false := decide_eq_false (by omega)
    by_cases h2 : dn s a < s.size - a
    · rw [if_pos h2] at hC
      go_enter Tryd.func54, Tryd.ntmps54
      go_wp2_with (go_at_call 77; with_reducible refine (hC _ (by simp) (by simp)).mono ?_; rintro e w' ⟨rfl, hb⟩)
      go_ret
      exact ⟨rfl, ((Below.refl _ w).alloc (Nat.le_refl _) _).trans (hb.mono (by simp))⟩
    · rw [if_neg h2] at hC
      rw [show (a : Int) + (dn s a : Nat) = (s.size : Int) by omega]
      go_enter Tryd.func54, Tryd.ntmps54
      go_wp2_with (go_at_call 77; with_reducible refine (hC _ (by simp) (by simp)).mono ?_; rintro e w' ⟨rfl, hb⟩)
      go_ret
      exact ⟨rfl, ((Below.refl _ w).alloc (Nat.le_refl _) _).trans (hb.mono (by simp))⟩

theorem digits2_c (s : ByteArray) (i : Int) (w : World) (hs : s.size ≤ 140737488351232) (hi : -9223372036854775808 ≤ i ∧ i ≤ 9223372036854775807) :
    Calls Tryd.prog 44 #[.string s, .int .i64 i] w fun e w' => e = .returned (.int .i64 (digI s i)) ∧ Below w.heap.size w w' := by
  have k := fun w => upto_c s i w hs hi
  go_enter Tryd.func44, Tryd.ntmps44
  go_wp2_with (go_at_call 54; with_reducible refine (k _).mono ?_; rintro e w' ⟨rfl, hb⟩)
  go_ret
  exact ⟨rfl, by assumption⟩

/-- is a byte a letter, or a low line? -/
def isLt (c : Int) : Bool := (decide (97 ≤ c) && decide (c ≤ 122)) || (decide (65 ≤ c) && decide (c ≤ 90)) || decide (c = 95)
theorem isLt_bits (c : Int) (hc : 0 ≤ c ∧ c ≤ 255) : isLt c = ((decide (97 ≤ bits BinOp.or IntKind.u8 c 32) && decide (bits BinOp.or IntKind.u8 c 32 ≤ 122)) || c == 95) := by
  have : ∀ k : Fin 256, isLt ((k.1 : Nat) : Int) = ((decide (97 ≤ bits BinOp.or IntKind.u8 ((k.1 : Nat) : Int) 32) && decide (bits BinOp.or IntKind.u8 ((k.1 : Nat) : Int) 32 ≤ 122)) || ((k.1 : Nat) : Int) == 95) := by decide +kernel
  have h := this ⟨c.toNat, by omega⟩
  rw [show ((c.toNat : Nat) : Int) = c by omega] at h
  exact h
theorem letter_c (c : Int) (w : World) (hc : 0 ≤ c ∧ c ≤ 255) : Calls Tryd.prog 53 #[.int .u8 c] w fun e w' => e = .returned (.bool (isLt c)) ∧ w = w' := by
  have hL := Lib.hid (isLt_bits c hc)
  go_enter Tryd.func53, Tryd.ntmps53
  go_wp2
  all_goals
    go_ret
    refine ⟨?_, rfl⟩
    rw [hL.out]
    simp [*]
    try omega
theorem begins_c (c : Int) (w : World) (hc : 0 ≤ c ∧ c ≤ 255) : Calls Tryd.prog 31 #[.int .u8 c] w fun e w' => e = .returned (.bool (isLt c)) ∧ w = w' := by
  have k := fun w => letter_c c w hc
  go_enter Tryd.func31, Tryd.ntmps31
  go_wp2_with (go_at_call 53; with_reducible refine (k _).mono ?_; rintro e w' ⟨rfl, rfl⟩)
  go_ret
  exact ⟨rfl, rfl⟩
end Go.Proofs.YtklkgcogaekokaaDoor
