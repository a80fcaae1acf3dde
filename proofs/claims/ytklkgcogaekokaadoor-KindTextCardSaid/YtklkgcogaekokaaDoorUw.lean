/- The walks of utf.is and utf.Next. Condition: the text is no longer than a string that comes in can be. -/
import Derived.Test.YtklkgcogaekokaaDoorUt
import Derived.Test.YtklkgcogaekokaaDoorRc
import Derived.Test.YtklkgcogaekokaaDoorLaid
import Derived.BigQuiet
import Derived.Lib.RuneCountTail
namespace Go.Proofs.YtklkgcogaekokaaDoor
open Go.RowKit

theorem ba_toList {a b : ByteArray} (h : a.toList = b.toList) : a = b := by
  rw [Lib.toList_data, Lib.toList_data] at h
  exact ByteArray.ext (Array.toList_inj.1 h)
theorem utfIs_c (r : Nat) (w : World) (hr : r ≤ 1114111) : Calls Tryd.prog 79 #[.int .i64 (r : Int)] w fun e w' => e = .returned (.bool (isCh r)) ∧ w = w' := by
  have kv := fun w => Tryd.utf8_ValidRune (r : Int) w
  have hv : Lib.validRune (r : Int) = !(decide (55296 ≤ (r : Int)) && decide ((r : Int) ≤ 57343)) := by
    unfold Lib.validRune
    by_cases h1 : 55296 ≤ (r : Int)
    · by_cases h2 : (r : Int) ≤ 57343
      · rw [decide_eq_true h1, decide_eq_true h2, decide_eq_false (by omega)]; rfl
      · rw [decide_eq_true h1, decide_eq_false h2, decide_eq_true (by omega)]; rfl
    · rw [decide_eq_false h1, decide_eq_true (by omega)]; rfl
  rw [hv] at kv
  clear hv
  obtain ⟨v, hv⟩ : ∃ v, v = !(decide (55296 ≤ (r : Int)) && decide ((r : Int) ≤ 57343)) := ⟨_, rfl⟩
  rw [← hv] at kv
  have hi : isCh r = ((r : Int) == 9 || ((r : Int) == 10 || ((r : Int) == 13 || (decide (32 ≤ (r : Int)) && (decide ((r : Int) ≤ 1114111) && v))))) := by rw [hv]; rfl
  rw [decide_eq_true (show (r : Int) ≤ 1114111 by omega), Bool.true_and] at hi
  clear hv
  have t5 : decide ((r : Int) ≤ 1114111) = true := decide_eq_true (by omega)
  have t5' : decide (r ≤ 1114111) = true := decide_eq_true (by omega)
  have kv' := fun w => (kv w).mono (fun e w' h => (⟨h.1, h.2.symm⟩ : e = .returned (.bool v) ∧ w = w'))
  have HI := Lib.hid hi
  clear hi kv
  go_enter Tryd.func79, Tryd.ntmps79
  go_wp2_with (go_at_call 91; with_reducible refine (kv' _).mono ?_; rintro e w' ⟨rfl, rfl⟩)
  all_goals
    go_ret
    refine ⟨?_, rfl⟩
    rw [HI.out]
    first
      | (rw [show decide (32 ≤ (r : Int)) = false from decide_eq_false (by omega)]; simp [Bool.or_assoc]; done)
      | (rw [show decide (32 ≤ (r : Int)) = true from decide_eq_true (by omega)]; simp [Bool.or_assoc]; done)
      | (simp [*]; done)

set_option maxHeartbeats 800000 in
set_option maxRecDepth 100000 in
theorem next_in (s : ByteArray) (i : Nat) (w : World) (hs : s.size ≤ 140737488351232) (hi : i < s.size) : Calls Tryd.prog 57 #[.string s, .int .i64 (i : Int)] w fun e w' =>
    e = .returned (.tuple #[.int .i64 ((nextR s i).1 : Int), .int .i64 ((nextR s i).2 : Int)]) ∧ Below w.heap.size w w' := by
  have t1 : decide ((i : Int) < 0) = false := decide_eq_false (by omega)
  have t2 : decide ((s.size : Int) ≤ (i : Int)) = false := decide_eq_false (by omega)
  have t2' : decide (s.size ≤ i) = false := decide_eq_false (by omega)
  have l1 := fun wx => slice_from (P := Tryd.prog) 9 rfl s i (i : Int) rfl (by omega) wx
  have htl := Lib.tail_decode s i 0
  rw [Nat.add_zero] at htl
  obtain ⟨t, ht⟩ : ∃ t, t = s.extract i s.size := ⟨_, rfl⟩
  have hz : 0 < t.size := by rw [ht, ex_size]; omega
  rw [← ht] at l1 htl
  clear ht
  have hnx := fun (ty : TypeId) => run_next_any (P := Tryd.prog) w t 0 ty hz
  rw [htl] at hnx
  rcases dec_cases s i hi with hd | ⟨r, k, hd⟩
  · -- no character stands there
    rw [nextR_bad s i hd]
    rw [hd] at hnx
    have ki : ∀ w : World, Calls Tryd.prog 79 #[.int .i64 65533] w fun e w' => e = .returned (.bool true) ∧ w = w' := fun w => utfIs_c 65533 w (by omega)
    have cv : ∀ wx : World, (convert 21 9 (.int .i32 65533)).run Tryd.prog wx = .ok (.string (Utf8.encode 65533)) wx := fun wx => by
      rw [run_convert_int_string _ _ _ _ _ (by rw [Tryd.underlying21]; rfl) Tryd.underlying9]
    have hz3 : (Utf8.encode 65533).size = 3 := by decide +kernel
    have hne := fun h => dec_none s i h hd
    obtain ⟨E, hE⟩ : ∃ E, E = Utf8.encode 65533 := ⟨_, rfl⟩
    rw [← hE] at cv hz3 hne
    have z2 : ((E.size : Nat) : Int) = 3 := by omega
    clear hE hz3 htl hd
    by_cases h3 : i + 3 ≤ s.size
    · have z1 : decide ((3 : Int) ≤ (s.size : Int) - (i : Int)) = true := decide_eq_true (by omega)
      have l2 := fun wx => slice_run (P := Tryd.prog) 9 rfl s i (i + 3) (i : Int) ((i : Int) + 3) rfl (by omega) (by omega) h3 wx
      have hx := hne h3
      clear hne
      obtain ⟨X, hX⟩ : ∃ X, X = s.extract i (i + 3) := ⟨_, rfl⟩
      rw [← hX] at l2 hx
      have hq : (X.toList == E.toList) = false := by
        rw [beq_eq_false_iff_ne]; intro h
        exact hx (ba_toList h)
      clear hX hx h3
      go_enter Tryd.func57, Tryd.ntmps57
      go_wp2
      go_loopw [] (fun wr => wr = w.iter t 0) (fun _ => 0)
      case atStart => rfl
      case round =>
        subst hrel
        go_wp2_with (go_at_call 79; with_reducible refine (ki _).mono ?_; rintro e w' ⟨rfl, rfl⟩)
        go_ret2
        exact ⟨rfl, (Below.refl _ w).alloc (Nat.le_refl _) _⟩
    · have z1 : decide ((3 : Int) ≤ (s.size : Int) - (i : Int)) = false := decide_eq_false (by omega)
      clear hne h3
      go_enter Tryd.func57, Tryd.ntmps57
      go_wp2
      go_loopw [] (fun wr => wr = w.iter t 0) (fun _ => 0)
      case atStart => rfl
      case round =>
        subst hrel
        go_wp2_with (go_at_call 79; with_reducible refine (ki _).mono ?_; rintro e w' ⟨rfl, rfl⟩)
        go_ret2
        exact ⟨rfl, (Below.refl _ w).alloc (Nat.le_refl _) _⟩
  · have hr : r ≤ 1114111 := by have := hd.ok; omega
    have ki := fun w => utfIs_c r w hr
    rw [hd.dec] at hnx
    cases hc : isCh (r : Int)
    · rw [nextR_no s i r k hd hc]
      rw [hc] at ki
      have cv : ∀ wx : World, (convert 21 9 (.int .i32 (r : Int))).run Tryd.prog wx = .ok (.string (Utf8.encode (r : Int))) wx := fun wx => by
        rw [run_convert_int_string _ _ _ _ _ (by rw [Tryd.underlying21]; rfl) Tryd.underlying9]
      clear hd hc htl
      go_enter Tryd.func57, Tryd.ntmps57
      go_wp2
      go_loopw [] (fun wr => wr = w.iter t 0) (fun _ => 0)
      case atStart => rfl
      case round =>
        subst hrel
        go_wp2_with (go_at_call 79; with_reducible refine (ki _).mono ?_; rintro e w' ⟨rfl, rfl⟩)
        go_ret2
        exact ⟨rfl, (Below.refl _ w).alloc (Nat.le_refl _) _⟩
    · rw [nextR_yes s i r k hd hc]
      rw [hc] at ki
      have hk := hd.le
      have hlo := hd.lo
      have he := hd.enc
      have l2 := fun wx => slice_run (P := Tryd.prog) 9 rfl s i (i + k) (i : Int) ((i : Int) + (k : Int)) rfl (by omega) (by omega) hk wx
      rw [← he] at l2
      have hes : (Utf8.encode (r : Int)).size = k := by rw [he, ex_size]; omega
      have cv : ∀ wx : World, (convert 21 9 (.int .i32 (r : Int))).run Tryd.prog wx = .ok (.string (Utf8.encode (r : Int))) wx := fun wx => by
        rw [run_convert_int_string _ _ _ _ _ (by rw [Tryd.underlying21]; rfl) Tryd.underlying9]
      obtain ⟨E, hE⟩ : ∃ E, E = Utf8.encode (r : Int) := ⟨_, rfl⟩
      rw [← hE] at l2 hes cv
      have z1 : decide ((k : Int) ≤ (s.size : Int) - (i : Int)) = true := decide_eq_true (by omega)
      clear hd hc he hE htl hi
      have HES := Lib.hid hes
      have z2 : ((E.size : Nat) : Int) = k := by omega
      clear hes
      go_enter Tryd.func57, Tryd.ntmps57
      go_wp2
      go_loopw [] (fun wr => wr = w.iter t 0) (fun _ => 0)
      case atStart => rfl
      case round =>
        subst hrel
        go_wp2_with (go_at_call 79; with_reducible refine (ki _).mono ?_; rintro e w' ⟨rfl, rfl⟩)
        go_ret2
        exact ⟨rfl, (Below.refl _ w).alloc (Nat.le_refl _) _⟩
theorem next_c (s : ByteArray) (i : Int) (w : World) (hs : s.size ≤ 140737488351232) : Calls Tryd.prog 57 #[.string s, .int .i64 i] w fun e w' =>
    e = .returned (.tuple #[.int .i64 ((nextI s i).1 : Int), .int .i64 ((nextI s i).2 : Int)]) ∧ Below w.heap.size w w' := by
  by_cases h0 : i < 0
  · rw [show nextI s i = (0, 0) from if_pos h0]
    have t1 : decide (i < 0) = true := decide_eq_true h0
    clear h0
    go_enter Tryd.func57, Tryd.ntmps57
    go_wp2
    go_ret2
    exact ⟨rfl, Below.refl _ w⟩
  · have t1 : decide (i < 0) = false := decide_eq_false h0
    by_cases h1 : (s.size : Int) ≤ i
    · rw [show nextI s i = (0, 0) by unfold nextI; rw [if_neg h0]; exact nextR_out s _ (by omega)]
      have t2 : decide ((s.size : Int) ≤ i) = true := decide_eq_true h1
      clear h0 h1
      go_enter Tryd.func57, Tryd.ntmps57
      go_wp2
      go_ret2
      exact ⟨rfl, Below.refl _ w⟩
    · obtain ⟨a, rfl⟩ : ∃ a : Nat, i = a := ⟨i.toNat, by omega⟩
      rw [show nextI s a = nextR s a by unfold nextI; rw [if_neg h0]; rfl]
      exact next_in s a w hs (by omega)
end Go.Proofs.YtklkgcogaekokaaDoor
