/- The walk of num.Number: what kind of number begins at a place, and where it ends. Condition: the text is no longer than a string that comes in can be. -/
import Derived.Test.YtklkgcogaekokaaDoorNn
import Derived.BigQuiet
import Derived.OwnWalk
import Derived.Deep.RegionHeld3
import Derived.WalkSmall
namespace Go.Proofs.YtklkgcogaekokaaDoor
open Go.RowKit
theorem and_yes {a b : Bool} (h : true = (a && b)) : a = true ∧ b = true := by revert h; cases a <;> cases b <;> decide
theorem and_no {b : Bool} (h : false = (true && b)) : b = false := by revert h; cases b <;> decide
set_option maxHeartbeats 1600000 in
set_option maxRecDepth 100000 in
theorem number_in (t : ByteArray) (a : Nat) (w : World) (hs : t.size ≤ 140737488351232) (ha : a < t.size) : Calls Tryd.prog 21 #[.string t, .int .i64 (a : Int)] w fun e w' =>
    e = .returned (.tuple #[.int .i64 (numR t a).1, .int .i64 ((numR t a).2.1 : Nat), .bool (numR t a).2.2]) ∧ Below w.heap.size w w' := by
  obtain ⟨Post, hPost⟩ : ∃ Post : Ending → World → Prop, Post = (fun e w' => e = .returned (.tuple #[.int .i64 (numR t a).1, .int .i64 ((numR t a).2.1 : Nat), .bool (numR t a).2.2]) ∧ Below w.heap.size w w') := ⟨_, rfl⟩
  rw [← hPost]
  have HPO := Lib.hid hPost
  clear hPost
  obtain ⟨a1, ha1⟩ : ∃ a1, a1 = nA1 t a := ⟨_, rfl⟩
  have la1 : a1 ≤ t.size := by rw [ha1]; exact nA1_le t a (by omega)
  have HA1 := Lib.hid ha1
  clear ha1
  have t1 : decide ((a : Int) < 0) = false := decide_eq_false (by omega)
  have t2 : decide ((t.size : Int) ≤ (a : Int)) = false := decide_eq_false (by omega)
  go_enter Tryd.func21, Tryd.ntmps21
  go_wp2
  apply wp_scope_out 0
  case hf => rfl
  go_upto_region 6 with fail
  have hw0 : St w.heap.size t a ((w.alloc (Obj.cells #[.string t] 9)).alloc (Obj.cells #[.int .i64 (a : Int)] 3)) := ⟨by simp, by simp, by simp, by simp⟩
  have hb0 : Below w.heap.size w ((w.alloc (Obj.cells #[.string t] 9)).alloc (Obj.cells #[.int .i64 (a : Int)] 3)) := ((Below.refl _ w).alloc (Nat.le_refl _) _).alloc (by simp) _
  generalize ((w.alloc (Obj.cells #[.string t] 9)).alloc (Obj.cells #[.int .i64 (a : Int)] 3)) = w0 at hw0 hb0 ⊢
  generalize hB : w.heap.size = B at *
  go_upto_region 7 with (go_at_call 42; with_reducible refine (is1_c _ _ _ _ _ hw0 hs).mono ?_; rintro e w1 ⟨rfl, hs1, hb1⟩)
  rw [show (if hasB [45] t a then a + 1 else a) = a1 from HA1.out.symm] at hs1
  have hb1' := hb0.trans hb1
  clear hb0 hb1 hw0
  obtain ⟨a2, ha2⟩ : ∃ a2, a2 = nA2 t a := ⟨_, rfl⟩
  obtain ⟨f2, hf2⟩ : ∃ f2, f2 = nF2 t a := ⟨_, rfl⟩
  obtain ⟨z, hz⟩ : ∃ z, z = hasB [48] t a1 := ⟨_, rfl⟩
  obtain ⟨d0, hd0⟩ : ∃ d0, d0 = (dn t a1 == 0) := ⟨_, rfl⟩
  have la2 : a2 ≤ t.size := by rw [ha2]; exact nA2_le t a (by omega)
  have e2 : a2 = if z then a1 + 1 else a1 + dn t a1 := by rw [ha2, hz, HA1.out]; rfl
  have e3 : f2 = (!z && d0) := by rw [hf2, hz, hd0, HA1.out]; rfl
  have HA2 := Lib.hid ha2
  have HF2 := Lib.hid hf2
  have E2 := Lib.hid e2
  have E3 := Lib.hid e3
  have k1 := is1_c 48 B t a1 w1 hs1 hs
  have k2 := fun w h => some_c B t a1 w h hs la1
  rw [← hz] at k1
  rw [← hd0] at k2
  clear ha2 hf2 e2 e3 hz hd0
  go_cut [26, 27, 28, 29, 30, 31, 32, 33, 34] (fun v26 v27 v28 v29 v30 v31 v32 v33 v34 w' => v34 = .bool f2 ∧ St B t a2 w' ∧ Below B w w')
  case first =>
    cases z
    · have k1' := k1.mono (fun e w' h => (⟨h.1, h.2.1, h.2.2⟩ : e = .returned (.bool false) ∧ St B t a1 w' ∧ Below B w1 w'))
      clear k1
      go_wp2_with (first
        | (go_at_call 42; with_reducible refine k1'.mono ?_; rintro e w2 ⟨rfl, hs2, hb2⟩)
        | (go_at_call 43; with_reducible refine (k2 _ (by assumption)).mono ?_; rintro e w3 ⟨rfl, hs3, hb3⟩))
      go_meet
      case rel => exact ⟨by rw [E3.out]; cases d0 <;> rfl, by rw [E2.out]; exact hs3, (hb1'.trans hb2).trans hb3⟩
    · go_wp2_with (first
        | (go_at_call 42; with_reducible refine k1.mono ?_; rintro e w2 ⟨rfl, hs2, hb2⟩))
      go_meet
      case rel => exact ⟨by rw [E3.out]; rfl, by rw [E2.out]; exact hs2, hb1'.trans hb2⟩
  case rest =>
    obtain ⟨rfl, hs2, hb2⟩ := hcut
    clear k1 k2 hs1 hb1' E2 E3
    obtain ⟨a3, ha3⟩ : ∃ a3, a3 = nA3 t a := ⟨_, rfl⟩
    obtain ⟨dt, hdt⟩ : ∃ dt, dt = nD t a := ⟨_, rfl⟩
    obtain ⟨d1, hd1⟩ : ∃ d1, d1 = (dn t (a2 + 1) == 0) := ⟨_, rfl⟩
    obtain ⟨f3, hf3⟩ : ∃ f3, f3 = nF3 t a := ⟨_, rfl⟩
    have la3 : a3 ≤ t.size := by rw [ha3]; exact nA3_le t a (by omega)
    have e4 : a3 = if dt then a2 + 1 + dn t (a2 + 1) else a2 := by rw [ha3, hdt, HA2.out]; rfl
    have e5 : f3 = (dt && d1) := by rw [hf3, hdt, hd1, HA2.out]; rfl
    have hdb : dt = hasB [46] t a2 := by rw [hdt, HA2.out]; rfl
    have l2 : dt = true → a2 + 1 ≤ t.size := fun h => by rw [hdb] at h; have := hasB_le h; omega
    have HA3 := Lib.hid ha3
    have HDT := Lib.hid hdt
    have HF3 := Lib.hid hf3
    have E4 := Lib.hid e4
    have E5 := Lib.hid e5
    have L2 := Lib.hid l2
    have k1 := is1_c 46 B t a2 wc hs2 hs
    have k2 := fun w h l => some_c B t (a2 + 1) w h hs l
    rw [← hdb] at k1
    rw [← hd1] at k2
    clear ha3 hdt hf3 e4 e5 l2 hdb hd1
    cases f2
    case true =>
      go_wp2
      go_step3
      simp only [Exit.then]
      refine ⟨rfl, ?_⟩
      have g1 := hs2.ct
      have g2 := hs2.ca
      go_wp2
      go_quiet (fail)
      go_wp2
      rw [Exit.noGoto_ret]
      go_ret3
      rw [HPO.out]
      refine ⟨?_, hb2.trans ⟨rfl, rfl, rfl, Nat.le_refl _, fun _ _ => rfl⟩⟩
      have h : numR t a = (0, a2, false) := by unfold numR; rw [← HF2.out, ← HA2.out]; rfl
      rw [h]; rfl
    case false =>
      cases f3
      case true =>
        have e5 := E5.out
        obtain ⟨rfl, rfl⟩ := and_yes e5
        have l2 := L2.out rfl
        have k1' := k1.mono (fun e w' h => (⟨h.1, h.2.1, h.2.2⟩ : e = .returned (.bool true) ∧ St B t (a2 + 1) w' ∧ Below B wc w'))
        clear e5 k1
        go_wp2_with (first
          | (go_at_call 42; with_reducible refine k1'.mono ?_; rintro e w2 ⟨rfl, hs3, hb3⟩)
          | (go_at_call 43; with_reducible refine (k2 _ (by assumption) l2).mono ?_; rintro e w3 ⟨rfl, hs4, hb4⟩))
        go_step3
        simp only [Exit.then]
        refine ⟨rfl, ?_⟩
        have g1 := hs4.ct
        have g2 := hs4.ca
        go_wp2
        go_quiet (fail)
        go_wp2
        rw [Exit.noGoto_ret]
        go_ret3
        rw [HPO.out]
        have h : numR t a = (0, a2 + 1 + dn t (a2 + 1), false) := by unfold numR; rw [← HF2.out, ← HF3.out, ← HA3.out, E4.out]; rfl
        exact ⟨by rw [h]; rfl, ((hb2.trans hb3).trans hb4).trans ⟨rfl, rfl, rfl, Nat.le_refl _, fun _ _ => rfl⟩⟩
      case false =>
        go_upto_if 37 with (go_at_call 42; with_reducible refine k1.mono ?_; rintro e w2 ⟨rfl, hs3, hb3⟩)
        obtain ⟨kd, hkd⟩ : ∃ kd : Int, kd = if dt then 4 else 3 := ⟨_, rfl⟩
        have HKD := Lib.hid hkd
        clear hkd k1
        go_cut [8, 38, 39, 40] (fun v8 v38 v39 v40 w' => v8 = .int .i64 kd ∧ St B t a3 w' ∧ Below B w w')
        case first =>
          have e5 := E5.out
          cases dt
          · go_wp2
            go_meet
            case rel => exact ⟨by rw [HKD.out]; rfl, by rw [E4.out]; exact hs3, hb2.trans hb3⟩
          · obtain rfl := and_no e5
            have l2 := L2.out rfl
            have hs3' : St B t (a2 + 1) w2 := hs3
            clear e5 hs3
            go_wp2_with (go_at_call 43; with_reducible refine (k2 _ (by assumption) l2).mono ?_; rintro e w3 ⟨rfl, hs4, hb4⟩)
            go_meet
            case rel => exact ⟨by rw [HKD.out]; rfl, by rw [E4.out]; exact hs4, (hb2.trans hb3).trans hb4⟩
        case rest =>
          obtain ⟨rfl, hs3, hb3⟩ := hcut
          clear k2 hs2 hb2 E4 E5 L2
          obtain ⟨a4, ha4⟩ : ∃ a4, a4 = nA4 t a := ⟨_, rfl⟩
          obtain ⟨a5, ha5⟩ : ∃ a5, a5 = nA5 t a := ⟨_, rfl⟩
          obtain ⟨ex, hex⟩ : ∃ ex, ex = nE t a := ⟨_, rfl⟩
          obtain ⟨d2, hd2⟩ : ∃ d2, d2 = (dn t a4 == 0) := ⟨_, rfl⟩
          obtain ⟨f4, hf4⟩ : ∃ f4, f4 = nF4 t a := ⟨_, rfl⟩
          have la5 : a5 ≤ t.size := by rw [ha5]; exact nA5_le t a (by omega)
          have e6 : a5 = if ex then a4 + dn t a4 else a3 := by rw [ha5, hex, HA3.out, ha4]; rfl
          have e7 : f4 = (ex && d2) := by rw [hf4, hex, hd2, ha4]; rfl
          have hxb : ex = hasB [101, 69] t a3 := by rw [hex, HA3.out]; rfl
          have e8 : (if hasB [43, 45] t (a3 + 1) then a3 + 1 + 1 else a3 + 1) = a4 := by rw [ha4, HA3.out]; rfl
          have l4 : ex = true → a4 ≤ t.size := fun h => by rw [ha4]; exact nA4_le t a (by rw [← hex]; exact h)
          have HA4 := Lib.hid ha4
          have HA5 := Lib.hid ha5
          have HEX := Lib.hid hex
          have HF4 := Lib.hid hf4
          have E6 := Lib.hid e6
          have E7 := Lib.hid e7
          have L4 := Lib.hid l4
          have k1 := is2_c 101 69 B t a3 wc hs3 hs
          have k2 := fun w h => is2_c 43 45 B t (a3 + 1) w h hs
          have k3 := fun w h l => some_c B t a4 w h hs l
          rw [← hxb] at k1
          rw [e8] at k2
          rw [← hd2] at k3
          obtain ⟨sg, hsg⟩ : ∃ sg, sg = hasB [43, 45] t (a3 + 1) := ⟨_, rfl⟩
          rw [← hsg] at k2
          clear ha4 ha5 hex hf4 e6 e7 e8 l4 hxb hd2 hsg
          cases f4
          case true =>
            have e7 := E7.out
            obtain ⟨rfl, rfl⟩ := and_yes e7
            have l4 := L4.out rfl
            have k1' := k1.mono (fun e w' h => (⟨h.1, h.2.1, h.2.2⟩ : e = .returned (.bool true) ∧ St B t (a3 + 1) w' ∧ Below B wc w'))
            clear e7 k1
            go_upto_region 12 with (go_at_call 42; with_reducible refine k1'.mono ?_; rintro e w4 ⟨rfl, hs4, hb4⟩)
            clear k1'
            go_wp2_with (first
              | (go_at_call 42; with_reducible refine (k2 _ (by assumption)).mono ?_; rintro e w5 ⟨rfl, hs5, hb5⟩)
              | (go_at_call 43; with_reducible refine (k3 _ (by assumption) l4).mono ?_; rintro e w6 ⟨rfl, hs6, hb6⟩))
            go_step3
            simp only [Exit.then]
            refine ⟨rfl, ?_⟩
            have g1 := hs6.ct
            have g2 := hs6.ca
            go_wp2
            go_quiet (fail)
            go_wp2
            rw [Exit.noGoto_ret]
            go_ret3
            rw [HPO.out]
            have h : numR t a = (0, a4 + dn t a4, false) := by unfold numR; rw [← HF2.out, ← HF3.out, ← HF4.out, ← HA5.out, E6.out]; rfl
            exact ⟨by rw [h]; rfl, (((hb3.trans hb4).trans hb5).trans hb6).trans ⟨rfl, rfl, rfl, Nat.le_refl _, fun _ _ => rfl⟩⟩
          case false =>
            go_upto_if 43 with (go_at_call 42; with_reducible refine k1.mono ?_; rintro e w4 ⟨rfl, hs4, hb4⟩)
            clear k1
            obtain ⟨ke, hke⟩ : ∃ ke : Int, ke = if ex then 4 else kd := ⟨_, rfl⟩
            have HKE := Lib.hid hke
            clear hke
            go_cut [8, 44, 45, 46, 47, 48, 49] (fun v8 v44 v45 v46 v47 v48 v49 w' => v8 = .int .i64 ke ∧ St B t a5 w' ∧ Below B w w')
            case first =>
              have e7 := E7.out
              cases ex
              · go_wp2
                go_meet
                case rel => exact ⟨by rw [HKE.out]; rfl, by rw [E6.out]; exact hs4, hb3.trans hb4⟩
              · obtain rfl := and_no e7
                have l4 := L4.out rfl
                have hs4' : St B t (a3 + 1) w4 := hs4
                clear e7 hs4
                go_wp2_with (first
                  | (go_at_call 42; with_reducible refine (k2 _ (by assumption)).mono ?_; rintro e w5 ⟨rfl, hs5, hb5⟩)
                  | (go_at_call 43; with_reducible refine (k3 _ (by assumption) l4).mono ?_; rintro e w6 ⟨rfl, hs6, hb6⟩))
                go_meet
                case rel => exact ⟨by rw [HKE.out]; rfl, by rw [E6.out]; exact hs6, ((hb3.trans hb4).trans hb5).trans hb6⟩
            case rest =>
              obtain ⟨rfl, hs4, hb4⟩ := hcut
              clear k2 k3 hs3 hb3 E6 E7 L4
              have g1 := hs4.ct
              have g2 := hs4.ca
              have HRN := Lib.hid (show numR t a = if nStop t a then (if nD t a || nE t a then 4 else 3, a5, true) else (0, a5, false) by
                unfold numR; rw [← HF2.out, ← HF3.out, ← HF4.out, ← HA5.out]; rfl)
              have HST := Lib.hid (show nStop t a = (decide (a5 = t.size) || (!(bt t a5 == 46) && !(isLt (bt t a5)) && (dn t a5 == 0))) by unfold nStop; rw [← HA5.out])
              have HK := Lib.hid (show ke = if nD t a || nE t a then 4 else 3 by
                rw [HKE.out, HKD.out, ← HDT.out, ← HEX.out]; cases dt <;> cases ex <;> rfl)
              clear HA2 HA3 HA4 HA5 HF2 HF3 HF4 HDT HEX HKE HKD la2 la3
              by_cases hz : a5 = t.size
              · have z1 : ((a5 : Int) == (t.size : Int)) = true := beq_iff_eq.2 (by omega)
                have z2 : (a5 == t.size) = true := beq_iff_eq.2 hz
                have z3 := Lib.hid hz
                clear hz
                go_wp2
                go_quiet (fail)
                go_wp2
                go_quiet (fail)
                go_wp2
                show bodyPost Tryd.prog Tryd.f21 Post Exit.ret _ _
                go_ret3
                rw [HPO.out]
                have hst : nStop t a = true := by rw [HST.out, decide_eq_true z3.out]; rfl
                have h : numR t a = (ke, a5, true) := by rw [HRN.out, hst, HK.out]; rfl
                exact ⟨by rw [h]; rfl, hb4.trans ⟨rfl, rfl, rfl, Nat.le_refl _, fun _ _ => rfl⟩⟩
              · have la6 : a5 < t.size := by omega
                have z1 : ((a5 : Int) == (t.size : Int)) = false := beq_eq_false_iff_ne.2 (by omega)
                have z2 : (a5 == t.size) = false := beq_eq_false_iff_ne.2 hz
                have z3 := Lib.hid hz
                have hbt := bt_nat t a5 la6
                have hxr := bt_range t a5
                obtain ⟨x, hx⟩ : ∃ x, x = bt t a5 := ⟨_, rfl⟩
                rw [← hx] at hbt hxr
                have HX := Lib.hid hx
                clear hz hx
                by_cases h46 : x = 46
                · have y1 : (x == 46) = true := beq_iff_eq.2 h46
                  have y2 : (x != 46) = false := by rw [bne, y1]; rfl
                  have H46 := Lib.hid h46
                  clear h46
                  go_wp2
                  go_quiet (fail)
                  go_wp2
                  go_step3
                  go_wp2
                  go_quiet (fail)
                  go_wp2
                  show bodyPost Tryd.prog Tryd.f21 Post Exit.ret _ _
                  go_ret3
                  rw [HPO.out]
                  have hst : nStop t a = false := by rw [HST.out, decide_eq_false z3.out, ← HX.out, y1]; rfl
                  have h : numR t a = (0, a5, false) := by rw [HRN.out, hst]; rfl
                  exact ⟨by rw [h]; rfl, hb4.trans ⟨rfl, rfl, rfl, Nat.le_refl _, fun _ _ => rfl⟩⟩
                · have y1 : (x == 46) = false := beq_eq_false_iff_ne.2 h46
                  have y2 : (x != 46) = true := by rw [bne, y1]; rfl
                  clear h46
                  have kb := fun w => begins_c x w hxr
                  obtain ⟨lt, hlt⟩ : ∃ lt, lt = isLt x := ⟨_, rfl⟩
                  rw [← hlt] at kb
                  rw [HX.out] at hlt
                  have HLT := Lib.hid hlt
                  clear hlt
                  cases lt
                  case true =>
                    go_wp2
                    go_quiet ((go_at_call 31; exact Calls.quiet_of_same ((kb _).mono (fun e w' h => ⟨h.1, h.2.symm⟩))))
                    go_wp2
                    go_step3
                    go_wp2
                    go_quiet (fail)
                    go_wp2
                    show bodyPost Tryd.prog Tryd.f21 Post Exit.ret _ _
                    go_ret3
                    rw [HPO.out]
                    have hst : nStop t a = false := by rw [HST.out, decide_eq_false z3.out, ← HLT.out]; simp
                    have h : numR t a = (0, a5, false) := by rw [HRN.out, hst]; rfl
                    exact ⟨by rw [h]; rfl, hb4.trans ⟨rfl, rfl, rfl, Nat.le_refl _, fun _ _ => rfl⟩⟩
                  case false =>
                    have hdd : digI t a5 = ((a5 + dn t a5 : Nat) : Int) := by
                      unfold digI
                      rw [if_neg (by omega), show ((a5 : Int)).toNat = a5 by omega]; omega
                    have kd : ∀ W : World, W.cell? ⟨B, 0, none⟩ = some (.string t) → W.cell? ⟨B + 1, 0, none⟩ = some (.int .i64 (a5 : Int)) → B + 1 < W.heap.size → Below B w W →
                        Calls Tryd.prog 44 #[.string t, .int .i64 (a5 : Int)] W fun e w' => e = .returned (.int .i64 ((a5 + dn t a5 : Nat) : Int)) ∧ w'.cell? ⟨B, 0, none⟩ = some (.string t) ∧ w'.cell? ⟨B + 1, 0, none⟩ = some (.int .i64 (a5 : Int)) ∧ B + 1 < w'.heap.size ∧ Below B w w' :=
                      fun W q1 q2 q3 q4 => by
                        rw [← hdd]
                        exact (digits2_c t a5 W hs (by omega)).mono (fun e w' h => ⟨h.1, (h.2.cell (p := ⟨B, 0, none⟩) (by show B < _; omega)).trans q1, (h.2.cell (p := ⟨B + 1, 0, none⟩) q3).trans q2, Nat.lt_of_lt_of_le q3 h.2.size, q4.trans (h.2.mono (by omega))⟩)
                    have g3 := hs4.size
                    obtain ⟨d5, hd5⟩ : ∃ d5, d5 = dn t a5 := ⟨_, rfl⟩
                    rw [← hd5] at kd
                    have hle5 := dn_le t a5 (by omega)
                    rw [← hd5] at hle5
                    have HD5 := Lib.hid hd5
                    clear hd5 hdd
                    by_cases hq : d5 = 0
                    · obtain rfl := hq
                      have c1 : ((a5 + 0 : Nat) : Int) = (a5 : Int) := by omega
                      rw [c1] at kd
                      clear c1
                      have c2 : ((a5 : Int) == (a5 : Int)) = true := beq_iff_eq.2 rfl
                      go_wp2
                      go_region_held3 (fun w' => w'.cell? ⟨B, 0, none⟩ = some (.string t) ∧ w'.cell? ⟨B + 1, 0, none⟩ = some (.int .i64 (a5 : Int)) ∧ B + 1 < w'.heap.size ∧ Below B w w')
                        (exact ⟨by assumption, by assumption, by assumption, by first | assumption | exact Below.drew (by assumption)⟩)
                        (first
                          | (go_at_call 31; refine (kb _).mono ?_; rintro e w' ⟨rfl, rfl⟩)
                          | (go_at_call 44; refine (kd _ (by assumption) (by assumption) (by assumption) (by first | assumption | exact Below.drew (by assumption))).mono ?_; rintro e w' ⟨rfl, q1, q2, q3, q4⟩))
                      go_wp2
                      go_quiet (fail)
                      go_wp2
                      show bodyPost Tryd.prog Tryd.f21 Post Exit.ret _ _
                      go_ret3
                      rw [HPO.out]
                      have hst : nStop t a = true := by rw [HST.out, ← HLT.out, ← HX.out, y1, ← HD5.out]; simp
                      have h : numR t a = (ke, a5, true) := by rw [HRN.out, hst, HK.out]; rfl
                      exact ⟨by rw [h]; rfl, q4.trans ⟨rfl, rfl, rfl, Nat.le_refl _, fun _ _ => rfl⟩⟩
                    · have c2 : (((a5 + d5 : Nat) : Int) == (a5 : Int)) = false := beq_eq_false_iff_ne.2 (by omega)
                      have c3 : (a5 + d5 == a5) = false := beq_eq_false_iff_ne.2 (by omega)
                      obtain ⟨m5, hm5⟩ : ∃ m5, m5 = a5 + d5 := ⟨_, rfl⟩
                      rw [← hm5] at kd c2 c3
                      clear hm5 hle5
                      have HQ := Lib.hid hq
                      clear hq
                      go_wp2
                      go_region_held3 (fun w' => w'.cell? ⟨B, 0, none⟩ = some (.string t) ∧ w'.cell? ⟨B + 1, 0, none⟩ = some (.int .i64 (a5 : Int)) ∧ B + 1 < w'.heap.size ∧ Below B w w')
                        (exact ⟨by assumption, by assumption, by assumption, by first | assumption | exact Below.drew (by assumption)⟩)
                        (first
                          | (go_at_call 31; refine (kb _).mono ?_; rintro e w' ⟨rfl, rfl⟩)
                          | (go_at_call 44; refine (kd _ (by assumption) (by assumption) (by assumption) (by first | assumption | exact Below.drew (by assumption))).mono ?_; rintro e w' ⟨rfl, q1, q2, q3, q4⟩))
                      go_wp2
                      go_step3
                      go_wp2
                      go_quiet (fail)
                      go_wp2
                      show bodyPost Tryd.prog Tryd.f21 Post Exit.ret _ _
                      go_ret3
                      rw [HPO.out]
                      have hst : nStop t a = false := by rw [HST.out, decide_eq_false z3.out, ← HD5.out, beq_eq_false_iff_ne.2 HQ.out]; simp
                      have h : numR t a = (0, a5, false) := by rw [HRN.out, hst]; rfl
                      exact ⟨by rw [h]; rfl, q4.trans ⟨rfl, rfl, rfl, Nat.le_refl _, fun _ _ => rfl⟩⟩
end Go.Proofs.YtklkgcogaekokaaDoor
