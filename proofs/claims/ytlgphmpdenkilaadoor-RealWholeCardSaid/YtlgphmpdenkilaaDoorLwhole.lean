/- The walk of RealWhole: it returns true. Condition: what comes in is well formed. -/
import Derived.Test.YtlgphmpdenkilaaDoorWh
namespace Go.Proofs.YtlgphmpdenkilaaDoor
open Go.RowKit
open Fl

def noneV : Value → Nat
  | .string s => if s.size = 0 then 1 else 0
  | _ => 0

/-- a text that is worth a word -/
theorem bcall (t : ByteArray) (x : Nat) (h : realV t = x) (hs : t.size ≤ 140737488351232) (w : World) :
    Calls Tryd.prog 12 #[.string t] w fun e w' => e = .returned (.float .f64 x) ∧ Below w.heap.size w w' := by
  have := real_c t w hs
  rw [h] at this; exact this
theorem wsame (n : Nat) (h : n < 9007199254740992) (w : World) : Calls Tryd.prog 15 #[.float .f64 (W false n), .float .f64 (W false n)] w fun e w' => e = .returned (.bool true) ∧ w = w' := by
  have hl : W false n < 18446744073709551616 := by have := rung_lt n h; show rung n < _; omega
  have := same_c (W false n) (W false n) w hl hl
  rw [same_self] at this; exact this
theorem tens (k : Nat) (h : k ≤ 10) : zeros20.extract 0 k = (⟨#[48, 48, 48, 48, 48, 48, 48, 48, 48, 48]⟩ : ByteArray).extract 0 k := by
  have : ∀ j : Fin 11, zeros20.extract 0 j.1 = (⟨#[48, 48, 48, 48, 48, 48, 48, 48, 48, 48]⟩ : ByteArray).extract 0 j.1 := by decide +kernel
  exact this ⟨k, by omega⟩

/-- one digit more ahead -/
theorem whole_step (N m : Nat) (s : ByteArray) (u : UInt8) (hv : N = m * 10 ^ s.size + wv s s.size) (hs : AllD s) (h14 : s.size ≤ 14) (hlt : N < 100000000000000) (hgo : 0 < m ∨ s.size = 0) (hu : (u.toNat : Int) = 48 + (m : Int) % 10) :
    AllD (⟨#[u]⟩ ++ s) ∧ N = (m / 10) * 10 ^ (⟨#[u]⟩ ++ s : ByteArray).size + wv (⟨#[u]⟩ ++ s) (⟨#[u]⟩ ++ s : ByteArray).size ∧ (⟨#[u]⟩ ++ s : ByteArray).size ≤ 14 := by
  have hu2 : (u.toNat : Int) = 48 + ((m % 10 : Nat) : Int) := by rw [hu]; omega
  refine ⟨allD_app _ _ (dg u (m % 10) (by omega) hu2) hs, ?_, ?_⟩
  · rw [wv_front u (m % 10) hu2 s, ByteArray.size_append, sz1, Nat.pow_add, Nat.pow_one]
    obtain ⟨P, hP⟩ : ∃ P, P = 10 ^ s.size := ⟨_, rfl⟩
    rw [← hP] at hv ⊢
    have e : m * P = (10 * (m / 10) + m % 10) * P := by rw [Nat.div_add_mod]
    rw [hv, e, Nat.add_mul, ← Nat.add_assoc, ← Nat.mul_assoc (m / 10), Nat.mul_comm (m / 10) 10]
  · rw [ByteArray.size_append, sz1]
    rcases hgo with h | h
    · have h1 : 10 ^ s.size ≤ m * 10 ^ s.size := Nat.le_mul_of_pos_left _ h
      have h2 : (10 : Nat) ^ s.size < 10 ^ 14 := by
        have : (10 : Nat) ^ 14 = 100000000000000 := by decide
        omega
      have := (Nat.pow_lt_pow_iff_right (a := 10) (by omega)).1 h2
      omega
    · omega

theorem a1 (w : World) (o : Obj) : Below w.heap.size w (w.alloc o) := (Below.refl _ w).alloc (Nat.le_refl _) o
set_option maxHeartbeats 0 in
theorem realWhole_c (n k : Int) (w : World) (_hn : (Lit.int .i64 n).wf = true) (_hk : (Lit.int .i64 k).wf = true) :
    Calls Tryd.prog 5 #[.int .i64 n, .int .i64 k] w fun r w' => r = .returned (.bool true) ∧ Below w.heap.size w w' := by
  by_cases hr : 0 ≤ n ∧ n ≤ 99999999999999 ∧ 0 ≤ k ∧ k ≤ 9
  · obtain ⟨n1, n2, k1, k2⟩ := hr
    obtain ⟨N, rfl⟩ : ∃ a : Nat, n = a := ⟨n.toNat, by omega⟩
    obtain ⟨K, rfl⟩ : ∃ a : Nat, k = a := ⟨k.toNat, by omega⟩
    have t1 : decide ((N : Int) < 0) = false := decide_eq_false (by omega)
    have t2 : decide ((99999999999999 : Int) < (N : Int)) = false := decide_eq_false (by omega)
    have t3 : decide ((K : Int) < 0) = false := decide_eq_false (by omega)
    have t4 : decide ((9 : Int) < (K : Int)) = false := decide_eq_false (by omega)
    have hN : N < 9007199254740992 := by omega
    have hN14 : N < 100000000000000 := by omega
    have hK : K ≤ 9 := by omega
    clear n1 n2 k1 k2
    go_enter Tryd.func5, Tryd.ntmps5
    go_wp2_with (go_at_call 10; refine (awake_c _).mono ?_; rintro e w' ⟨rfl, hbl⟩)
    go_loopw [6, 7] (fun v6 v7 wr => ∃ (m : Nat) (s : ByteArray), v6 = .string s ∧ v7 = .int .i64 m ∧ AllD s ∧ N = m * 10 ^ s.size + wv s s.size ∧ s.size ≤ 14 ∧ Below w.heap.size w wr) (fun v6 v7 _ => (intOf v7).toNat + noneV v6)
    case atStart => exact ⟨N, ByteArray.empty, rfl, rfl, fun j hj => absurd hj (Nat.not_lt_zero _), by show N = N * 1 + 0; omega, by decide, hbl⟩
    case round =>
      obtain ⟨m, s, rfl, rfl, hd, hv, hl, hB⟩ := hrel
      clear hbl
      have hm14 : m < 100000000000000 := by
        have := Nat.le_mul_of_pos_right m (Nat.pow_pos (n := s.size) (show 0 < 10 by omega))
        omega
      by_cases hm : 0 < m
      · obtain ⟨u, hu⟩ : ∃ u : UInt8, (u.toNat : Int) = 48 + (m : Int) % 10 := ⟨_, u8_of _ (by omega)⟩
        have c1 := fun w => conv1 w u
        rw [hu] at c1
        obtain ⟨q1, q2, q3⟩ := whole_step N m s u hv hd hl hN14 (.inl hm) hu
        have qm : m / 10 + noneV (.string (⟨#[u]⟩ ++ s)) < m + noneV (.string s) := by
          unfold noneV
          dsimp only
          rw [if_neg (by rw [ByteArray.size_append, sz1]; omega)]
          split <;> omega
        have QM := Lib.hid qm
        have Q2 := Lib.hid q2
        have Q3 := Lib.hid q3
        clear qm q2 q3 hv
        go_upto_region 9 with fail
        case roundEnd =>
          have qm := QM.out
          have q2 := Q2.out
          have q3 := Q3.out
          exact ⟨⟨m / 10, _, rfl, rfl, q1, q2, q3, hB.alloc hB.size _⟩, qm⟩
      · obtain rfl : m = 0 := by omega
        rw [Nat.zero_mul, Nat.zero_add] at hv
        by_cases hs : s.size = 0
        · have g2 := toList_nil s hs
          have c1 : ∀ w : World, (convert 30 9 (.slice (some ⟨w.heap.size, 0, none⟩) 1 1)).run Tryd.prog (w.alloc (Obj.cells #[.int .u8 48] 5)) = .ok (.string ⟨#[48]⟩) (w.alloc (Obj.cells #[.int .u8 48] 5)) := fun w => conv1 w 48
          obtain ⟨q1, q2, q3⟩ := whole_step N 0 s 48 (by rw [Nat.zero_mul, Nat.zero_add]; exact hv) hd hl hN14 (.inr hs) rfl
          have qm : 0 + noneV (.string (⟨#[48]⟩ ++ s)) < 0 + noneV (.string s) := by
            unfold noneV
            dsimp only
            rw [if_neg (by rw [ByteArray.size_append, sz1]; omega), if_pos hs]; omega
          have QM := Lib.hid qm
          have Q2 := Lib.hid q2
          have Q3 := Lib.hid q3
          clear qm q2 q3 hv hs
          go_upto_region 9 with fail
          case roundEnd =>
            have qm := QM.out
            have q2 := Q2.out
            have q3 := Q3.out
            exact ⟨⟨0, _, rfl, rfl, q1, q2, q3, hB.alloc hB.size _⟩, qm⟩
        · have g2 := toList_cons s hs
          have hs0 : 0 < s.size := by omega
          subst hv
          obtain ⟨Z, hZ⟩ : ∃ Z, Z = zeros20.extract 0 K := ⟨_, rfl⟩
          have l1 : ∀ wx, (Instr.slice 9 (.string ⟨#[48, 48, 48, 48, 48, 48, 48, 48, 48, 48]⟩) none (some (.int .i64 (K : Int))) none).run Tryd.prog wx = .ok (.string Z) wx := fun wx => by
            rw [hZ, tens K (by omega)]; exact slice_to 9 rfl _ K _ rfl (by show K ≤ 10; omega) wx
          have hZ0 : All0 Z := by rw [hZ]; exact zeros20_all K (by omega)
          have sZ : Z.size = K := by rw [hZ, ex_size]; show min K 20 - 0 = K; omega
          clear hZ
          obtain ⟨u, hu⟩ : ∃ u : UInt8, (u.toNat : Int) = 48 + (K : Int) := ⟨_, u8_of _ (by omega)⟩
          have c1 := fun w => conv1 w u
          rw [hu] at c1
          have m3 : ∀ wx, (convert 3 22 (.int .i64 ((wv s s.size : Nat) : Int))).run Tryd.prog wx = .ok (.float .f64 (W false (wv s s.size))) wx := fun wx => by
            have := run_convert_int_float (P := Tryd.prog) (w := wx) 3 22 .i64 .f64 ((wv s s.size : Nat) : Int) (by rw [Tryd.underlying3]; rfl) Tryd.underlying22
            rw [ofInt_W _ hN] at this; exact this
          have v1 := wt1 s hd hs0 (by omega)
          have v2 := wt2 s hd hs0 (by omega)
          have v3 := wt3 s hd hs0 (by omega)
          have z1 : s.size ≤ 140737488351232 := by omega
          have z2 : (s ++ ⟨#[46, 48]⟩).size ≤ 140737488351232 := by rw [ByteArray.size_append, sz2]; omega
          have z3 : (s ++ ⟨#[101, 48]⟩).size ≤ 140737488351232 := by rw [ByteArray.size_append, sz2]; omega
          by_cases h15 : 15 < s.size + K
          · have g3 : decide ((15 : Int) < (s.size : Int) + (K : Int)) = true := decide_eq_true (by omega)
            obtain ⟨V, hV⟩ : ∃ V, V = wv s s.size := ⟨_, rfl⟩
            rw [← hV] at v1 v2 v3 m3 hN
            rw [← hV]
            clear hV hd hZ0 hu hN14
            go_upto_region 12 with fail
            go_wp2_with (first
              | (go_at_call 12; (first | with_reducible refine (bcall _ _ v1 z1 _).mono ?_ | with_reducible refine (bcall _ _ v2 z2 _).mono ?_ | with_reducible refine (bcall _ _ v3 z3 _).mono ?_); rintro e w' ⟨rfl, hbl⟩)
              | (go_at_call 15; (first | with_reducible refine (wsame _ hN _).mono ?_); rintro e w' ⟨rfl, rfl⟩))
            go_ret
            exact ⟨rfl, bl hB (bl (a1 wr (Obj.cells #[.int .u8 (48 + (K : Int))] 5)) (by repeat (first | assumption | refine bl (by assumption) ?_)))⟩
          · have g3 : decide ((15 : Int) < (s.size : Int) + (K : Int)) = false := decide_eq_false (by omega)
            have v4 := wt4 s Z hd hs0 hZ0 (by omega) (by omega) u (by omega)
            have v5 := wt5 s K hd hs0 (by omega) (by omega) u hu
            have v6 := wt6 s Z hd hs0 hZ0 (by omega)
            rw [sZ] at v6
            have hN2 : wv s s.size * 10 ^ K < 9007199254740992 := by
              have h1 := wv_lt s s.size (fun j hj => hd j hj)
              have h2 : wv s s.size * 10 ^ K ≤ 10 ^ s.size * 10 ^ K := Nat.mul_le_mul_right _ (by omega)
              rw [← Nat.pow_add] at h2
              have h3 := ten_le (s.size + K) (by omega)
              omega
            obtain ⟨U, hU⟩ : ∃ U, U = wv s s.size * 10 ^ K := ⟨_, rfl⟩
            rw [← hU] at v5 v6 hN2
            obtain ⟨V, hV⟩ : ∃ V, V = wv s s.size := ⟨_, rfl⟩
            rw [← hV] at v1 v2 v3 v4 m3 hN
            rw [← hV]
            have z4 : (((s ++ Z) ++ ⟨#[69, 45]⟩) ++ ⟨#[u]⟩).size ≤ 140737488351232 := by simp only [ByteArray.size_append, sz2, sz1]; omega
            have z5 : ((s ++ ⟨#[101, 43]⟩) ++ ⟨#[u]⟩).size ≤ 140737488351232 := by simp only [ByteArray.size_append, sz2, sz1]; omega
            have z6 : (s ++ Z).size ≤ 140737488351232 := by rw [ByteArray.size_append]; omega
            clear hV hU hd hZ0 hu hN14
            go_upto_region 12 with fail
            go_wp2_with (first
              | (go_at_call 12; (first | with_reducible refine (bcall _ _ v1 z1 _).mono ?_ | with_reducible refine (bcall _ _ v2 z2 _).mono ?_ | with_reducible refine (bcall _ _ v3 z3 _).mono ?_ | with_reducible refine (bcall _ _ v4 z4 _).mono ?_ | with_reducible refine (bcall _ _ v5 z5 _).mono ?_ | with_reducible refine (bcall _ _ v6 z6 _).mono ?_); rintro e w' ⟨rfl, hbl⟩)
              | (go_at_call 15; (first | with_reducible refine (wsame _ hN _).mono ?_ | with_reducible refine (wsame _ hN2 _).mono ?_); rintro e w' ⟨rfl, rfl⟩))
            go_ret
            exact ⟨rfl, bl hB (bl (a1 wr (Obj.cells #[.int .u8 (48 + (K : Int))] 5)) (by repeat (first | assumption | refine bl (by assumption) ?_)))⟩
  · go_enter Tryd.func5, Tryd.ntmps5
    go_wp2_with (go_at_call 10; refine (awake_c _).mono ?_; rintro e w' ⟨rfl, hbl⟩)
    all_goals
      first
        | (exfalso; omega)
        | (go_ret; exact ⟨rfl, by assumption⟩)
end Go.Proofs.YtlgphmpdenkilaaDoor
