/- The walk of NumWorth: it returns true. Condition: the text is no longer than a string that comes in can be. -/
import Derived.Test.YtlgphmpdenkilaaDoorNl
namespace Go.Proofs.YtlgphmpdenkilaaDoor
open Go.RowKit
open Fl
set_option maxHeartbeats 3200000 in
set_option maxRecDepth 100000 in
theorem numWorth_c (s : ByteArray) (w : World) (hs : s.size ≤ 140737488351232) :
    Calls Tryd.prog 9 #[.string s] w fun e w' => e = .returned (.bool true) ∧ Below w.heap.size w w' := by
  by_cases h600 : 600 < s.size
  · have t1 : decide ((600 : Int) < (s.size : Int)) = true := decide_eq_true (by omega)
    go_enter Tryd.func9, Tryd.ntmps9
    go_wp2_with (go_at_call 19; refine (awake5_c _).mono ?_; rintro e w' ⟨rfl, hbl⟩)
    go_ret
    exact ⟨rfl, by assumption⟩
  have h6 : s.size ≤ 600 := by omega
  have t1 : decide ((600 : Int) < (s.size : Int)) = false := decide_eq_false (by omega)
  clear h600
  have kw := fun w => whole_c s w hs
  cases hw : wholeR s with
  | false =>
    rw [hw] at kw
    clear hw
    go_enter Tryd.func9, Tryd.ntmps9
    go_wp2_with (first | (go_at_call 19; refine (awake5_c _).mono ?_; rintro e w' ⟨rfl, hbl⟩) | (go_at_call 20; with_reducible refine (kw _).mono ?_; rintro e w' ⟨rfl, hb2⟩))
    go_ret
    exact ⟨rfl, by repeat (first | assumption | refine bl (by assumption) ?_)⟩
  | true =>
    rw [hw] at kw
    obtain ⟨i, k, hN, P, hi, hS⟩ := worth_plain s hw
    clear hw
    have hlt := P.lt
    have hpos := P.pos
    have hkind := P.kind
    have hzero := P.zero
    have kn := fun w => number_c s 0 w hs
    rw [hN] at kn
    have kd := fun w => digits2_c s i w hs (by omega)
    have hdd : digI s i = ((i + dn s i : Nat) : Int) := by
      unfold digI
      rw [if_neg (by omega), show ((i : Int)).toNat = i by omega]; omega
    rw [hdd] at kd
    obtain ⟨d, hd⟩ : ∃ d, d = i + dn s i := ⟨_, rfl⟩
    rw [← hd] at kd hkind
    have kr := fun w => real_c s w hs
    have kso := fun w => sort_c (realV s) w (realV_lt s)
    have kng := fun w => negative_c (realV s) w (realV_lt s)
    have hsg := sort_sign s
    obtain ⟨v, hv⟩ : ∃ v, v = realV s := ⟨_, rfl⟩
    obtain ⟨so, hso⟩ : ∃ so, so = sortN v := ⟨_, rfl⟩
    obtain ⟨ng, hng⟩ : ∃ ng, ng = negB v := ⟨_, rfl⟩
    rw [← hv] at kr kso kng hsg hS
    rw [← hso] at kso hsg hS
    rw [← hng] at kng hsg
    have hb0 := bt_nat s 0 (Nat.lt_of_le_of_lt (Nat.zero_le _) hlt)
    have hbi := bt_nat s i hlt
    have hdi : d ≠ i := by omega
    have hz : bt s i = 48 → d ≤ i + 1 := fun h => by have := hzero h; omega
    clear hN P hdd hzero hpos hd hv hso hng
    have n3 : ((s.size : Int) == 0) = false := beq_eq_false_iff_ne.2 (by omega)
    have n4 : (s.size == 0) = false := beq_eq_false_iff_ne.2 (by omega)
    have hse : ¬ s = ByteArray.empty := fun h => by rw [h] at hlt; exact absurd hlt (Nat.not_lt_zero _)
    have hse2 : ¬ s.size = 0 := by omega
    have KAW := fun w => awake5_c w
    rcases hi with ⟨rfl, hf⟩ | ⟨rfl, hf⟩
    · have hf0 : bt s 0 ≠ 45 := fun h => by unfold firstIs at hf; rw [decide_eq_true (by omega), h] at hf; cases hf
      rw [show ((0 : Nat) : Int) = 0 from rfl] at hb0
      obtain ⟨c0, hc0⟩ : ∃ c0, c0 = bt s 0 := ⟨_, rfl⟩
      rw [show ((0 : Nat) : Int) = 0 from rfl] at hbi hz
      rw [← hc0] at hb0 hf0 hbi hz
      clear hbi
      rw [hf] at hsg
      have m0 : (c0 == 45) = false := beq_eq_false_iff_ne.2 hf0
      clear hf hf0 hc0
      rw [show ((0 : Nat) : Int) = 0 from rfl] at kd
      have n1 : decide ((s.size : Int) ≤ 0) = false := decide_eq_false (by omega)
      have n2 : ((d : Int) == 0) = false := beq_eq_false_iff_ne.2 (by omega)
      have n1' : decide (s.size ≤ 0) = false := decide_eq_false (by omega)
      have n2' : (d == 0) = false := beq_eq_false_iff_ne.2 (by omega)
      have hz' : ((c0 == 48) = true ∧ decide ((1 : Int) < (d : Int)) = false ∧ decide (1 < d) = false) ∨ (c0 == 48) = false := by
        by_cases h : c0 = 48
        · have := hz h; exact .inl ⟨beq_iff_eq.2 h, decide_eq_false (by omega), decide_eq_false (by omega)⟩
        · exact .inr (beq_eq_false_iff_ne.2 h)
      have hs' : (so != 0) = false ∧ (so == 0) = true ∨ ((so != 0) = true ∧ (so == 0) = false) ∧ ng = false := by
        by_cases h : so = 0
        · exact .inl ⟨by rw [h]; rfl, by rw [h]; rfl⟩
        · exact .inr ⟨⟨by rw [bne, beq_eq_false_iff_ne.2 h]; rfl, beq_eq_false_iff_ne.2 h⟩, hsg h⟩
      have hk' : (k = 3 ∧ (d = s.size) ∧ (decide ((15 : Int) < (s.size : Int)) = true ∨ (decide ((15 : Int) < (s.size : Int)) = false ∧ decide (2 ≤ so) = true))) ∨ (k = 4 ∧ ((d : Int) == (s.size : Int)) = false ∧ (d == s.size) = false) := by
        rcases hkind with ⟨h1, h2⟩ | ⟨h1, h2⟩
        · refine .inl ⟨h1, h2, ?_⟩
          by_cases h : (15 : Int) < (s.size : Int)
          · exact .inl (decide_eq_true h)
          · exact .inr ⟨decide_eq_false h, decide_eq_true (hS h1 (by omega))⟩
        · exact .inr ⟨h1, beq_eq_false_iff_ne.2 (by omega), beq_eq_false_iff_ne.2 (by omega)⟩
      clear hz hsg hkind hS hdi
      rcases hk' with ⟨rfl, rfl, q1 | ⟨q1, q2⟩⟩ | ⟨rfl, q1, q2⟩ <;> rcases hz' with ⟨z1, z2, z3⟩ | z1 <;> rcases hs' with ⟨y1, y2⟩ | ⟨⟨y1, y2⟩, rfl⟩
      all_goals
        go_enter Tryd.func9, Tryd.ntmps9
        go_wp2_with (first | (go_at_call 19; with_reducible refine (KAW _).mono ?_; rintro e w' ⟨rfl, hbl⟩) | (go_at_call 20; with_reducible refine (kw _).mono ?_; rintro e w' ⟨rfl, hb2⟩) | (go_at_call 21; with_reducible refine (kn _).mono ?_; rintro e w' ⟨rfl, hb3⟩) | (go_at_call 22; with_reducible refine (kd _).mono ?_; rintro e w' ⟨rfl, hb4⟩) | (go_at_call 12; with_reducible refine (kr _).mono ?_; rintro e w' ⟨rfl, hb5⟩) | (go_at_call 16; with_reducible refine (kso _).mono ?_; rintro e w' ⟨rfl, rfl⟩) | (go_at_call 18; with_reducible refine (kng _).mono ?_; rintro e w' ⟨rfl, rfl⟩))
        go_ret
        exact ⟨rfl, by repeat (first | assumption | refine bl (by assumption) ?_)⟩
    · have hf0 : bt s 0 = 45 := by unfold firstIs at hf; rw [Bool.and_eq_true] at hf; exact beq_iff_eq.1 hf.2
      rw [show ((0 : Nat) : Int) = 0 from rfl] at hb0
      obtain ⟨c0, hc0⟩ : ∃ c0, c0 = bt s 0 := ⟨_, rfl⟩
      rw [show ((1 : Nat) : Int) = 1 from rfl] at hbi hz
      obtain ⟨c1, hc1⟩ : ∃ c1, c1 = bt s 1 := ⟨_, rfl⟩
      rw [← hc1] at hbi hz
      rw [← hc0] at hb0 hf0
      rw [hf] at hsg
      have m0 : (c0 == 45) = true := beq_iff_eq.2 hf0
      clear hf hf0 hc0 hc1
      rw [show ((1 : Nat) : Int) = 1 from rfl] at kd
      have n1 : decide ((s.size : Int) ≤ 1) = false := decide_eq_false (by omega)
      have n2 : ((d : Int) == 1) = false := beq_eq_false_iff_ne.2 (by omega)
      have n1' : decide (s.size ≤ 1) = false := decide_eq_false (by omega)
      have n2' : (d == 1) = false := beq_eq_false_iff_ne.2 (by omega)
      have hz' : ((c1 == 48) = true ∧ decide ((2 : Int) < (d : Int)) = false ∧ decide (2 < d) = false) ∨ (c1 == 48) = false := by
        by_cases h : c1 = 48
        · have := hz h; exact .inl ⟨beq_iff_eq.2 h, decide_eq_false (by omega), decide_eq_false (by omega)⟩
        · exact .inr (beq_eq_false_iff_ne.2 h)
      have hs' : (so != 0) = false ∧ (so == 0) = true ∨ ((so != 0) = true ∧ (so == 0) = false) ∧ ng = true := by
        by_cases h : so = 0
        · exact .inl ⟨by rw [h]; rfl, by rw [h]; rfl⟩
        · exact .inr ⟨⟨by rw [bne, beq_eq_false_iff_ne.2 h]; rfl, beq_eq_false_iff_ne.2 h⟩, hsg h⟩
      have hk' : (k = 3 ∧ (d = s.size) ∧ (decide ((15 : Int) < (s.size : Int) - 1) = true ∨ (decide ((15 : Int) < (s.size : Int) - 1) = false ∧ decide (2 ≤ so) = true))) ∨ (k = 4 ∧ ((d : Int) == (s.size : Int)) = false ∧ (d == s.size) = false) := by
        rcases hkind with ⟨h1, h2⟩ | ⟨h1, h2⟩
        · refine .inl ⟨h1, h2, ?_⟩
          by_cases h : (15 : Int) < (s.size : Int) - 1
          · exact .inl (decide_eq_true h)
          · exact .inr ⟨decide_eq_false h, decide_eq_true (hS h1 (by omega))⟩
        · exact .inr ⟨h1, beq_eq_false_iff_ne.2 (by omega), beq_eq_false_iff_ne.2 (by omega)⟩
      clear hz hsg hkind hS hdi
      rcases hk' with ⟨rfl, rfl, q1 | ⟨q1, q2⟩⟩ | ⟨rfl, q1, q2⟩ <;> rcases hz' with ⟨z1, z2, z3⟩ | z1 <;> rcases hs' with ⟨y1, y2⟩ | ⟨⟨y1, y2⟩, rfl⟩
      all_goals
        go_enter Tryd.func9, Tryd.ntmps9
        go_wp2_with (first | (go_at_call 19; with_reducible refine (KAW _).mono ?_; rintro e w' ⟨rfl, hbl⟩) | (go_at_call 20; with_reducible refine (kw _).mono ?_; rintro e w' ⟨rfl, hb2⟩) | (go_at_call 21; with_reducible refine (kn _).mono ?_; rintro e w' ⟨rfl, hb3⟩) | (go_at_call 22; with_reducible refine (kd _).mono ?_; rintro e w' ⟨rfl, hb4⟩) | (go_at_call 12; with_reducible refine (kr _).mono ?_; rintro e w' ⟨rfl, hb5⟩) | (go_at_call 16; with_reducible refine (kso _).mono ?_; rintro e w' ⟨rfl, rfl⟩) | (go_at_call 18; with_reducible refine (kng _).mono ?_; rintro e w' ⟨rfl, rfl⟩))
        go_ret
        exact ⟨rfl, by repeat (first | assumption | refine bl (by assumption) ?_)⟩
end Go.Proofs.YtlgphmpdenkilaaDoor
