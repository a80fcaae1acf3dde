/- strings.IndexAny at "\r\n": its walk. Condition: the text is shorter than 4294967281 bytes. -/
import Derived.Test.YtklkgcogaekokaaDoorIa
namespace Go.Proofs.YtklkgcogaekokaaDoor
open Go.RowKit

theorem iterAt_size (w : World) (k : Nat) (s : ByteArray) (q : Nat) : (w.iterAt k s q).heap.size = w.heap.size := by simp [World.iterAt]
theorem iterAt_get (w : World) (k : Nat) (s : ByteArray) (q : Nat) (h : k < w.heap.size) : (w.iterAt k s q).heap[k]? = some (.stringIter s q) := by
  simp only [World.iterAt]
  rw [Array.getElem?_setIfInBounds_self_of_lt h]
theorem below_iterAt {w wr : World} (h : Below w.heap.size w wr) (s : ByteArray) (q : Nat) : Below w.heap.size w (wr.iterAt w.heap.size s q) :=
  ⟨h.os, h.tape, h.output, by rw [iterAt_size]; exact h.size, fun k hk => by
    simp only [World.iterAt]
    rw [Array.getElem?_setIfInBounds_ne (by omega)]; exact h.block k hk⟩
theorem iterPos_get {w : World} {k : Nat} {s : ByteArray} {q : Nat} (h : w.heap[k]? = some (.stringIter s q)) : w.iterPos k = q := by
  unfold World.iterPos; rw [h]
theorem ret_int {k : IntKind} {a b : Int} (h : a = b) : Ending.returned (.int k a) = .returned (.int k b) := by rw [h]
/-- where a line ends: -1, if none does -/
def eolR (s : ByteArray) (i : Nat) : Int := if i + el s i < s.size then ((el s i : Nat) : Int) else -1
theorem dec_at (s : ByteArray) (p : Nat) (hp : p < s.size) : (∃ r k, Utf8.decode s p = (r, k) ∧ 1 ≤ k ∧ p + k ≤ s.size ∧ (r < 55296 ∨ (57344 ≤ r ∧ r ≤ 1114111)) ∧
    ((0 ≤ crlfAt r ∧ el s p = 0) ∨ (crlfAt r = -1 ∧ el s p = k + el s (p + k)))) := by
  by_cases hb : 128 ≤ bt s p
  · have h1 := dec_hi s p hp hb
    have h2 := el_dec s p hp hb
    have h3 := decode_high s p hp (by have := bt_nat s p hp; omega)
    refine ⟨(Utf8.decode s p).1, (Utf8.decode s p).2, rfl, h3.2, h1.1, ?_, .inr ⟨crlfAt_hi _ h3.1, h2⟩⟩
    rcases dec_cases s p hp with h | ⟨r, k, h⟩
    · rw [h]; omega
    · rw [h.dec]; exact h.ok
  · have hn := bt_nat s p hp
    have hr := bt_range s p
    refine ⟨_, _, decode_ascii s p hp (by omega), Nat.le_refl _, by omega, .inl (by omega), ?_⟩
    by_cases he : noEol (bt s p) = true
    · refine .inr ⟨?_, by rw [el_yes s p hp he]; omega⟩
      unfold noEol at he
      simp at he
      unfold crlfAt
      rw [if_neg (by omega), if_neg (by omega)]
    · refine .inl ⟨?_, el_no s p (by simpa using he)⟩
      unfold noEol at he
      simp at he
      unfold crlfAt
      by_cases h13 : (s[p]).toNat = 13
      · rw [if_pos h13]; omega
      · rw [if_neg h13, if_pos (by omega)]; omega

set_option maxHeartbeats 1000000 in
set_option maxRecDepth 100000 in
theorem indexAny_short (s : ByteArray) (w : World) (h8 : s.size ≤ 8) : Calls Tryd.prog 41 #[.string s, .string crlf] w fun e w' => e = .returned (.int .i64 (eolR s 0)) ∧ Below w.heap.size w w' := by
  have t1 : (crlf.toList == []) = false := by rw [Lib.toList_data]; decide
  have t1' : crlf.toList.isEmpty = false := by rw [Lib.toList_data]; decide
  have t2 : ((crlf.size : Int) == 1) = false := by decide
  have t2' : (crlf.size == 1) = false := by decide
  have ks := fun w => (Tryd.strings_shouldUseASCIISet (s.size : Int) w).mono (fun e w' h => (⟨h.1, h.2.symm⟩ : e = .returned (.bool (decide ((8 : Int) < (s.size : Int)))) ∧ w = w'))
  rw [decide_eq_false (show ¬ (8 : Int) < (s.size : Int) by omega)] at ks
  go_enter Tryd.func41, Tryd.ntmps41
  go_wp2_with (go_at_call 72; with_reducible refine (ks _).mono ?_; rintro e w' ⟨rfl, rfl⟩)
  go_loopw [] (fun wr => ∃ p : Nat, p ≤ s.size ∧ wr.heap[w.heap.size]? = some (.stringIter s p) ∧ el s 0 = p + el s p ∧ Below w.heap.size w wr) (fun wr => s.size - wr.iterPos w.heap.size)
  case atStart => exact ⟨0, Nat.zero_le _, World.iter_heap w s 0, by omega, (Below.refl _ w).alloc (Nat.le_refl _) _⟩
  case round =>
    obtain ⟨p, hp, hit, hel, hb⟩ := hrel
    have hgt : w.heap.size < wr.heap.size := (Array.getElem?_eq_some_iff.1 hit).1
    have HEL := Lib.hid hel
    clear hel
    by_cases hlt : p < s.size
    · obtain ⟨r, k, hd, hk, hpk, hv, hcase⟩ := dec_at s p hlt
      have hnx : ∀ ty, (Instr.next (.pointer (some ⟨w.heap.size, 0, none⟩)) true ty).run Tryd.prog wr = _ := fun ty => Lib.run_next_any_at wr w.heap.size s p ty hit hlt
      rw [hd] at hnx
      have kc := fun w => crlfRune_c r w hv
      have HC := Lib.hid hcase
      clear hd hv hcase
      by_cases hr : 0 ≤ crlfAt r
      · have q1 : decide (0 ≤ crlfAt r) = true := decide_eq_true hr
        have he : el s p = 0 := by
          rcases HC.out with h | h
          · exact h.2
          · omega
        have HE := Lib.hid he
        clear he hr
        obtain ⟨x, hx⟩ : ∃ x, x = crlfAt r := ⟨_, rfl⟩
        rw [← hx] at q1 kc
        clear hx HC
        go_wp2_with (go_at_call 71; with_reducible refine (kc _).mono ?_; rintro e w2 ⟨rfl, hb2⟩)
        go_ret
        refine ⟨ret_int ?_, ?_⟩
        · unfold eolR
          rw [HEL.out, HE.out, if_pos (by omega)]; omega
        · exact (below_iterAt hb s (p + k)).trans (hb2.mono (by rw [iterAt_size]; omega))
      · have q1 : decide (0 ≤ crlfAt r) = false := decide_eq_false hr
        have he : el s p = k + el s (p + k) := by
          rcases HC.out with h | h
          · exact absurd h.1 hr
          · exact h.2
        have HE := Lib.hid he
        clear he hr
        obtain ⟨x, hx⟩ : ∃ x, x = crlfAt r := ⟨_, rfl⟩
        rw [← hx] at q1 kc
        clear hx HC
        go_wp2_with (go_at_call 71; with_reducible refine (kc _).mono ?_; rintro e w2 ⟨rfl, hb2⟩)
        have hi2 : w2.heap[w.heap.size]? = some (.stringIter s (p + k)) := (hb2.block _ (by rw [iterAt_size]; exact hgt)).trans (iterAt_get wr w.heap.size s (p + k) hgt)
        refine ⟨⟨p + k, hpk, hi2, by rw [HEL.out, HE.out]; omega, (below_iterAt hb s (p + k)).trans (hb2.mono (by rw [iterAt_size]; omega))⟩, ?_⟩
        rw [iterPos_get hi2, iterPos_get hit]; omega
    · have hnx : ∀ ty, (Instr.next (.pointer (some ⟨w.heap.size, 0, none⟩)) true ty).run Tryd.prog wr = _ := fun ty => Lib.run_next_end_at wr w.heap.size s p ty hit hlt
      go_wp2
      go_ret
      refine ⟨ret_int ?_, hb⟩
      unfold eolR
      rw [HEL.out, if_neg (by omega)]

theorem indexAny_c (s : ByteArray) (w : World) (hs : s.size < 4294967281) : Calls Tryd.prog 41 #[.string s, .string crlf] w fun e w' => e = .returned (.int .i64 (eolR s 0)) ∧ Below w.heap.size w w' := by
  by_cases h8 : s.size ≤ 8
  · exact indexAny_short s w h8
  · have h116 : (Tryd.prog.info? 101).map (fun i => (i.zero, i.size)) = some (some (.agg (Array.replicate 256 (.bool false))), 256) := by kernel_rfl
    have k := Tryd.strings_IndexAny_long (zero_of_info h116).1 s crlf w (by decide) (by omega) hs (by decide) (fun j b hj => by
      have : j = 0 ∨ j = 1 ∨ 2 ≤ j := by omega
      rcases this with rfl | rfl | h
      · cases hj; decide
      · cases hj; decide
      · rw [List.getElem?_eq_none (by show 2 ≤ j; exact h)] at hj; cases hj)
    rw [indexAny_eol] at k
    refine k.mono (fun e w' h => ⟨?_, ?_⟩)
    · rw [h.1]; unfold eolR; rw [Nat.zero_add]
    · rw [h.2]; exact ((Below.refl _ w).alloc (Nat.le_refl _) _).alloc (by simp) _
end Go.Proofs.YtklkgcogaekokaaDoor
