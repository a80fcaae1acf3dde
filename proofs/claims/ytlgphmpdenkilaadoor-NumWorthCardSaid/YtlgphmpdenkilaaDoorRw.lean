/- The walk of real.Real: what it makes of a text is what Rp says. Condition: the text is no longer than a string that comes in can be. -/
import Derived.WalkKit
import Derived.WalkLawsBesides
import Derived.Outline
import Derived.Deep.DeepCutAuto
import Derived.Deep.CutBlock
import Derived.Test.YtlgphmpdenkilaaDoorFw
import Derived.Test.YtlgphmpdenkilaaDoorRp
namespace Go.Proofs.YtlgphmpdenkilaaDoor
open Go.RowKit
open Fl

/-- a cut of a text that is empty, or not -/
theorem ne_extract (t : ByteArray) (a n : Nat) (h : a + n ≤ t.size) : (t.extract a (a + n)).toList.isEmpty = (n == 0) := by
  have e : (t.extract a (a + n)).toList.length = n := by rw [ByteArray.toList_eq, Array.length_toList]; have := ex_size t a (a + n); have h2 : (t.extract a (a + n)).data.size = (t.extract a (a + n)).size := rfl; omega
  generalize (t.extract a (a + n)).toList = l at e
  subst e
  cases l <;> rfl
theorem isAt_lt {cs t : ByteArray} {a : Nat} (h : isAt cs t a = true) : a + 1 ≤ t.size := by
  unfold isAt at h
  simp only [Bool.and_eq_true, decide_eq_true_eq] at h
  exact h.1

theorem bt_append_l (a b : ByteArray) (i : Nat) (h : i < a.size) : bt (a ++ b) i = bt a i := by
  have h1 : i < (a ++ b).size := by rw [ByteArray.size_append]; omega
  rw [← bt_nat _ i h1, ← bt_nat _ i h, ByteArray.getElem_append_left h]
theorem bt_append_r (a b : ByteArray) (i : Nat) (h : i < b.size) : bt (a ++ b) ((a.size + i : Nat) : Int) = bt b i := by
  have h1 : a.size + i < (a ++ b).size := by rw [ByteArray.size_append]; omega
  rw [← bt_nat _ _ h1, ← bt_nat _ i h, ByteArray.getElem_append_right (by omega)]
  simp
/-- what is read ahead of the exponent are digits -/
theorem zdig (t : ByteArray) (j : Nat) (h : j < (trim0 (t.extract 0 (dn t 0) ++ t.extract (cutA2 t) (cutA3 t))).size) :
    isDc (bt (trim0 (t.extract 0 (dn t 0) ++ t.extract (cutA2 t) (cutA3 t))) j) = true := by
  have hle1 := dn_le t 0 (Nat.zero_le _)
  rw [Nat.zero_add] at hle1
  have key : ∀ i : Nat, i < (t.extract 0 (dn t 0) ++ t.extract (cutA2 t) (cutA3 t)).size → isDc (bt (t.extract 0 (dn t 0) ++ t.extract (cutA2 t) (cutA3 t)) i) = true := by
    intro i hi
    by_cases hc : i < (t.extract 0 (dn t 0)).size
    · rw [bt_append_l _ _ _ hc]
      rw [ex_size] at hc
      rw [bt_extract _ _ _ _ (by omega) (by omega)]
      exact dn_digit t 0 i (by omega)
    · obtain ⟨k, rfl⟩ : ∃ k, i = (t.extract 0 (dn t 0)).size + k := ⟨i - (t.extract 0 (dn t 0)).size, by omega⟩
      rw [ByteArray.size_append] at hi
      rw [bt_append_r _ _ _ (by omega)]
      have hk : k < (t.extract (cutA2 t) (cutA3 t)).size := by omega
      by_cases hd : isAt ⟨#[46]⟩ t (dn t 0) = true
      · have e3 : cutA3 t = cutA2 t + dn t (cutA2 t) := by unfold cutA3; rw [if_pos hd]
        have l2 : cutA2 t ≤ t.size := by unfold cutA2; rw [if_pos hd]; exact isAt_lt hd
        have l3 := dn_le t _ l2
        rw [ex_size] at hk
        rw [bt_extract _ _ _ _ (by omega) (by omega)]
        exact dn_digit t _ k (by omega)
      · have e3 : cutA3 t = dn t 0 := by unfold cutA3; rw [if_neg hd]
        have e2 : cutA2 t = dn t 0 := by unfold cutA2; rw [if_neg hd]
        rw [ex_size, e2, e3] at hk; omega
  generalize t.extract 0 (dn t 0) ++ t.extract (cutA2 t) (cutA3 t) = y at *
  unfold trim0 at h ⊢
  have hc := cn_le 48 y 0 (Nat.zero_le _)
  rw [ex_size] at h
  rw [bt_extract _ _ _ _ (by omega) (by omega)]
  exact key _ (by omega)
theorem cutX_range (t : ByteArray) : -1000000 ≤ cutX t ∧ cutX t ≤ 1000000 := by
  unfold cutX
  have := xf_range t (cutA5 t) (dn t (cutA5 t)) (fun j hj => dn_digit t _ _ hj)
  split
  · split <;> omega
  · omega

set_option maxRecDepth 100000 in
set_option maxHeartbeats 3200000 in
theorem real_c (s : ByteArray) (w : World) (hs : s.size ≤ 140737488351232) :
    Calls Tryd.prog 12 #[.string s] w fun e w' => e = .returned (.float .f64 (realV s)) ∧ Below w.heap.size w w' := by
  obtain ⟨m, hm⟩ : ∃ m, m = firstIs 45 s := ⟨_, rfl⟩
  obtain ⟨t, ht⟩ : ∃ t, t = if firstIs 45 s then s.extract 1 s.size else s := ⟨_, rfl⟩
  have htl : t.size ≤ 140737488351232 := by rw [ht]; split; rw [ex_size]; omega; exact hs
  have hr : realV s = bitsR m (realR t) := by unfold realV; rw [← ht, ← hm]
  rw [hr]
  have c1 := cutPrefix_c s
  rw [← ht, ← hm] at c1
  clear hr ht hm hs
  obtain ⟨R, hR⟩ : ∃ R, R = bitsR m (realR t) := ⟨_, rfl⟩
  rw [← hR]
  have HR := Lib.hid hR
  clear hR
  have hle1 := dn_le t 0 (Nat.zero_le _)
  rw [Nat.zero_add] at hle1
  have ne1 := ne_extract t 0 (dn t 0) (by omega)
  rw [Nat.zero_add] at ne1
  obtain ⟨z1, hz1⟩ : ∃ z1, z1 = (dn t 0 == 0) := ⟨_, rfl⟩
  have HZ1 := Lib.hid hz1
  rw [← hz1] at ne1
  clear hz1
  obtain ⟨dot, hdot⟩ : ∃ dot, dot = isAt ⟨#[46]⟩ t (dn t 0) := ⟨_, rfl⟩
  have HD := Lib.hid hdot
  have hA2 : cutA2 t = if isAt ⟨#[46]⟩ t (dn t 0) then dn t 0 + 1 else dn t 0 := rfl
  have hA3 : cutA3 t = if isAt ⟨#[46]⟩ t (dn t 0) then cutA2 t + dn t (cutA2 t) else dn t 0 := rfl
  have hl2 : cutA2 t ≤ t.size := by
    rw [hA2]; split
    · rename_i h; exact isAt_lt h
    · exact hle1
  have hl3 : cutA3 t ≤ t.size := by
    rw [hA3]; split
    · exact dn_le t _ hl2
    · exact hle1
  have h23 : cutA2 t ≤ cutA3 t := by rw [hA2, hA3, hA2]; split <;> omega
  rw [← hdot] at hA2 hA3
  obtain ⟨z2, hz2⟩ : ∃ z2, z2 = (dn t (cutA2 t) == 0) := ⟨_, rfl⟩
  have HZ2 := Lib.hid hz2
  have ne2 : dot = true → (t.extract (cutA2 t) (cutA2 t + dn t (cutA2 t))).toList.isEmpty = z2 := fun _ => by rw [hz2]; exact ne_extract t _ _ (dn_le t _ hl2)
  obtain ⟨f2, hf2⟩ : ∃ f2, f2 = (!z1 && (!dot || !z2)) := ⟨_, rfl⟩
  have HF2 := Lib.hid hf2
  have HA2 := Lib.hid hA2
  have HA3 := Lib.hid hA3
  have HN2 := Lib.hid ne2
  clear hz2 ne2 hA2 hA3 hf2
  go_enter Tryd.func12, Tryd.ntmps12
  go_wp2_with (go_at_call 23; refine (c1 _).mono ?_; rintro e w' ⟨rfl, rfl⟩)
  have st0 : St w.heap.size t 0 ((w.alloc (.cells #[.string t] 9)).alloc (.cells #[.int .i64 0] 3)) := by
    refine ⟨?_, ?_, ?_, ?_⟩ <;> simp
  refine (digits_c w.heap.size t 0 _ st0 htl (Nat.zero_le _)).mono ?_
  rintro e w1 ⟨rfl, st1, b1⟩
  have b1' : Below w.heap.size w w1 := (((Below.refl _ w).alloc (Nat.le_refl _) _).alloc (by simp) _).trans b1
  clear b1 st0 c1
  rw [Nat.zero_add] at st1 ⊢
  go_wp2_with fail
  refine (is_c ⟨#[46]⟩ w.heap.size t (dn t 0) _ st1 htl).mono ?_
  rintro e w2 ⟨rfl, st2, b2⟩
  have b2' := b1'.trans b2
  clear b1' b2 st1
  rw [show (if isAt ⟨#[46]⟩ t (dn t 0) then dn t 0 + 1 else dn t 0) = cutA2 t from rfl] at st2
  rw [← hdot]
  clear hdot
  go_upto_if 34 with (fail)
  go_cut [9, 11] (fun v9 v11 w' => v9 = .string (t.extract (cutA2 t) (cutA3 t)) ∧ v11 = .bool f2 ∧ St w.heap.size t (cutA3 t) w' ∧ Below w.heap.size w w')
  case first =>
    cases dot
    · have h2 := HA2.out
      have h3 := HA3.out
      simp only [Bool.false_eq_true, if_false] at h2 h3
      have e23 : cutA2 t = cutA3 t := by rw [h2, h3]
      have E23 := Lib.hid e23
      clear h2 h3 e23
      go_wp2_with fail
      go_meet
      case rel => exact ⟨by rw [E23.out, ex_none]; rfl, by rw [HF2.out]; simp, by rw [← E23.out]; exact st2, b2'⟩
    · have h3 := HA3.out
      have hn2 := HN2.out rfl
      simp only [if_true] at h3
      rw [← h3] at hn2
      go_wp2_with fail
      refine (digits_c w.heap.size t (cutA2 t) _ st2 htl hl2).mono ?_
      rintro e w3 ⟨rfl, st3, b3⟩
      rw [← h3] at st3 ⊢
      clear h3
      have b3' := b2'.trans b3
      cases z1
      all_goals
        go_wp2_with fail
        go_meet
        case rel => exact ⟨rfl, by rw [HF2.out]; simp, st3, b3'⟩
  case rest =>
    obtain ⟨rfl, rfl, st3, b3⟩ := hcut
    clear ne1 st2 b2' w2 w1
    have hA5 : cutA5 t = if cutDown t then cutA3 t + 2 else if isAt ⟨#[43]⟩ t (cutA3 t + 1) then cutA3 t + 2 else cutA3 t + 1 := rfl
    have hA6 : cutA6 t = if cutE t then cutA5 t + dn t (cutA5 t) else cutA3 t := rfl
    have hX : cutX t = if cutE t then (if cutDown t then -(xf t (cutA5 t) (dn t (cutA5 t))) else xf t (cutA5 t) (dn t (cutA5 t))) else 0 := rfl
    have hl5 : cutE t = true → cutA5 t ≤ t.size := by
      intro h
      have h1 := isAt_lt h
      rw [hA5]; split
      · rename_i h; exact isAt_lt h
      · split
        · rename_i h; exact isAt_lt h
        · exact h1
    obtain ⟨ee, hee⟩ : ∃ ee, ee = cutE t := ⟨_, rfl⟩
    obtain ⟨down, hdown⟩ : ∃ down, down = cutDown t := ⟨_, rfl⟩
    obtain ⟨z5, hz5⟩ : ∃ z5, z5 = (dn t (cutA5 t) == 0) := ⟨_, rfl⟩
    obtain ⟨f3, hf3⟩ : ∃ f3, f3 = (f2 && (!ee || !z5)) := ⟨_, rfl⟩
    have HF3 := Lib.hid hf3
    have HEE := Lib.hid hee
    have HDO := Lib.hid hdown
    have HZ5 := Lib.hid hz5
    have ne5 : ee = true → (t.extract (cutA5 t) (cutA5 t + dn t (cutA5 t))).toList.isEmpty = z5 := fun h => by rw [hz5]; exact ne_extract t _ _ (dn_le t _ (hl5 (by rw [← hee]; exact h)))
    have HN5 := Lib.hid ne5
    rw [← hee] at hA6 hX hl5
    rw [← hdown] at hA5 hX
    have HA5 := Lib.hid hA5
    have HA6 := Lib.hid hA6
    have HX := Lib.hid hX
    have HL5 := Lib.hid hl5
    clear hf3 hz5 ne5 hA5 hA6 hX hl5
    go_wp2_with fail
    refine (is_c ⟨#[101, 69]⟩ w.heap.size t (cutA3 t) _ st3 htl).mono ?_
    rintro e w4 ⟨rfl, st4, b4⟩
    have b4' := b3.trans b4
    clear b3 b4 st3
    rw [show isAt ⟨#[101, 69]⟩ t (cutA3 t) = cutE t from rfl, ← hee] at st4 ⊢
    clear hee
    go_upto_if 43 with (fail)
    go_cut [10, 11] (fun v10 v11 w' => v10 = .int .i64 (cutX t) ∧ v11 = .bool f3 ∧ St w.heap.size t (cutA6 t) w' ∧ Below w.heap.size w w')
    case first =>
      cases ee
      · have h6 := HA6.out
        have hx := HX.out
        simp only [Bool.false_eq_true, if_false] at h6 hx st4
        have H6 := Lib.hid h6
        have HX' := Lib.hid hx
        clear h6 hx
        go_wp2_with fail
        go_meet
        case rel => exact ⟨by rw [HX'.out], by rw [HF3.out]; simp, by rw [H6.out]; exact st4, b4'⟩
      · simp only [if_true] at st4
        have hl5 := HL5.out rfl
        have hn5 := HN5.out rfl
        have h6 := HA6.out
        simp only [if_true] at h6
        rw [← h6] at hn5
        have H6 := Lib.hid h6
        clear h6
        go_wp2_with fail
        refine (is_c ⟨#[45]⟩ w.heap.size t (cutA3 t + 1) _ st4 htl).mono ?_
        rintro e w5 ⟨rfl, st5, b5⟩
        have b5' := b4'.trans b5
        clear b4' b5 st4
        rw [show isAt ⟨#[45]⟩ t (cutA3 t + 1) = cutDown t from rfl, ← hdown] at st5 ⊢
        clear hdown
        go_upto_if 47 with (fail)
        go_cut [] (fun w' => St w.heap.size t (cutA5 t) w' ∧ Below w.heap.size w w')
        case first =>
          cases down
          · have h5 := HA5.out
            simp only [Bool.false_eq_true, if_false] at h5 st5
            have H5 := Lib.hid h5
            clear h5
            go_wp2_with fail
            refine (is_c ⟨#[43]⟩ w.heap.size t (cutA3 t + 1) _ st5 htl).mono ?_
            rintro e w6 ⟨rfl, st6, b6⟩
            go_wp2_with fail
            go_meet
            case rel => exact ⟨by rw [H5.out]; exact st6, b5'.trans b6⟩
          · have h5 := HA5.out
            simp only [if_true] at h5 st5
            have H5 := Lib.hid h5
            clear h5
            go_wp2_with fail
            go_meet
            case rel => exact ⟨by rw [H5.out]; exact st5, b5'⟩
        case rest =>
          obtain ⟨st6, b6⟩ := hcut
          clear st5 b5'
          go_wp2_with fail
          refine (digits_c w.heap.size t (cutA5 t) _ st6 htl hl5).mono ?_
          rintro e w7 ⟨rfl, st7, b7⟩
          have b7' := b6.trans b7
          rw [← H6.out] at st7 ⊢
          clear b6 b7 st6
          go_upto_region 16 with fail
          go_cut [11] (fun v11 w' => v11 = .bool f3 ∧ St w.heap.size t (cutA6 t) w' ∧ Below w.heap.size w w')
          case first =>
            cases f2
            all_goals
              go_wp2_with fail
              go_meet
              case rel => exact ⟨by rw [HF3.out]; simp, st7, b7'⟩
          case rest =>
            obtain ⟨rfl, st8, b8⟩ := hcut
            have dcut := dn_le t (cutA5 t) hl5
            have lsz : (t.extract (cutA5 t) (cutA6 t)).size = dn t (cutA5 t) := by rw [ex_size, H6.out]; omega
            have lbt : ∀ j : Nat, j < dn t (cutA5 t) → bt (t.extract (cutA5 t) (cutA6 t)) j = bt t ((cutA5 t + j : Nat) : Int) := fun j hj => bt_extract t _ _ _ (by rw [H6.out]; omega) (by rw [H6.out]; omega)
            have lxr : ∀ k : Nat, k ≤ dn t (cutA5 t) → 0 ≤ xf t (cutA5 t) k ∧ xf t (cutA5 t) k ≤ 1000000 := fun k hk => xf_range t _ _ (fun j hj => dn_digit t _ _ (by omega))
            have ldg : ∀ j : Nat, j < dn t (cutA5 t) → 48 ≤ bt t ((cutA5 t + j : Nat) : Int) ∧ bt t ((cutA5 t + j : Nat) : Int) ≤ 57 := fun j hj => by
              have := dn_digit t _ _ hj
              unfold isDc at this
              simp only [Bool.and_eq_true, decide_eq_true_eq] at this
              exact this
            have lxs : ∀ k : Nat, xf t (cutA5 t) (k + 1) = min 1000000 (10 * xf t (cutA5 t) k + (bt t ((cutA5 t + k : Nat) : Int) - 48)) := fun k => rfl
            obtain ⟨n, hn⟩ : ∃ n, n = dn t (cutA5 t) := ⟨_, rfl⟩
            rw [← hn] at lsz lbt lxr ldg dcut
            have HNN := Lib.hid hn
            clear hn
            obtain ⟨l, hl⟩ : ∃ l, l = t.extract (cutA5 t) (cutA6 t) := ⟨_, rfl⟩
            rw [← hl] at lsz lbt ⊢
            clear hl
            obtain ⟨cap, w8, hconv, hb8, hs8, hcells⟩ := bytes_conv (P := Tryd.prog) 9 30 5 Tryd.underlying9 Tryd.underlying30 Tryd.underlying5 l wc
            rw [lsz] at hconv
            have LSZ := Lib.hid lsz
            clear lsz
            have LBT := Lib.hid lbt
            have LXR := Lib.hid lxr
            have LDG := Lib.hid ldg
            have LXS := Lib.hid lxs
            have HCE := Lib.hid hcells
            clear lbt lxr ldg lxs hcells
            have st9 : St w.heap.size t (cutA6 t) w8 := by
              have hz := st8.size
              refine ⟨by omega, ?_, ?_, ?_⟩
              · exact (hb8.cell (p := ⟨w.heap.size, 0, none⟩) (by show w.heap.size < wc.heap.size; omega)).trans st8.ct
              · exact (hb8.cell (p := ⟨w.heap.size + 1, 0, none⟩) hz).trans st8.ca
              · exact (hb8.frozen (p := ⟨w.heap.size + 1, 0, none⟩) hz).trans st8.fa
            have b9 : Below w.heap.size w w8 := b8.trans (hb8.mono (by have := st8.size; omega))
            clear hb8 hs8
            go_wp2_with fail
            go_loop [60, 10] (fun i x => ∃ k : Nat, k ≤ n ∧ i = .int .i64 k ∧ x = .int .i64 (xf t (cutA5 t) k)) (fun i _ => n - (intOf i).toNat)
            case atStart => exact ⟨0, Nat.zero_le _, rfl, rfl⟩
            case round =>
              obtain ⟨k, hk, rfl, rfl⟩ := hrel
              have hxr := LXR.out k hk
              by_cases hlt : k < n
              · have hc := HCE.out k (by rw [LSZ.out]; exact hlt)
                rw [LBT.out k hlt] at hc
                have hd := LDG.out k hlt
                have hx := LXS.out k
                obtain ⟨c, hcc⟩ : ∃ c, c = bt t ((cutA5 t + k : Nat) : Int) := ⟨_, rfl⟩
                rw [← hcc] at hc hd hx
                clear hcc
                have HXX := Lib.hid hx
                clear hx
                go_wp2_with fail
                go_round
                case rel => exact ⟨k + 1, by omega, by go_num, congrArg (Value.int .i64) (by rw [HXX.out]; split <;> omega)⟩
                case measure => simp [intOf]; omega
              · obtain rfl : k = n := by omega
                cases down
                all_goals
                  go_wp2_with fail
                  go_meet
                  case rel => exact ⟨by rw [HX.out, HNN.out]; rfl, rfl, st9, b9⟩
    case rest =>
      obtain ⟨rfl, rfl, st5, b5⟩ := hcut
      clear st4 b4' w4
      have g1 := st5.ct
      have g2 := st5.ca
      have hfine : f3 = cutFine t := by
        rw [HF3.out, HF2.out, HZ1.out, HZ2.out, HZ5.out, HEE.out, HD.out]; rfl
      have hR2 : R = bitsR m (if f3 && decide (t.size ≤ cutA6 t) then valR (trim0 (t.extract 0 (dn t 0) ++ t.extract (cutA2 t) (cutA3 t))) (cutX t - (cutA3 t - cutA2 t : Nat)) else none) := by
        rw [HR.out, hfine]; rfl
      have HR2 := Lib.hid hR2
      clear hR2 hfine HF3 HF2 HZ1 HZ2 HZ5 HEE HD HA2 HA3 HN2 HN5 HA5 HA6 HX HL5 HDO HR
      cases f3
      · go_wp2_with (go_at_call 27; refine (nan_c _).mono ?_; rintro e w' ⟨rfl, rfl⟩)
        go_ret
        exact ⟨by rw [HR2.out]; rfl, b5⟩
      · by_cases hend : cutA6 t < t.size
        · go_wp2_with (go_at_call 27; refine (nan_c _).mono ?_; rintro e w' ⟨rfl, rfl⟩)
          go_ret
          refine ⟨?_, b5⟩
          rw [HR2.out, show decide (t.size ≤ cutA6 t) = false from decide_eq_false (by omega)]; rfl
        · obtain ⟨wh, hwh⟩ : ∃ wh, wh = t.extract 0 (dn t 0) := ⟨_, rfl⟩
          obtain ⟨pt, hpt⟩ : ∃ pt, pt = t.extract (cutA2 t) (cutA3 t) := ⟨_, rfl⟩
          have lw : wh.size ≤ 140737488351232 := by rw [hwh, ex_size]; omega
          have lp : pt.size = cutA3 t - cutA2 t := by rw [hpt, ex_size]; omega
          have lp2 : pt.size ≤ 140737488351232 := by omega
          have hdz : ∀ j : Nat, j < (trim0 (wh ++ pt)).size → isDc (bt (trim0 (wh ++ pt)) j) = true := by
            rw [hwh, hpt]; exact zdig t
          have hR3 : R = bitsR m (valR (trim0 (wh ++ pt)) (cutX t - (pt.size : Int))) := by
            rw [HR2.out, show decide (t.size ≤ cutA6 t) = true from decide_eq_true (by omega), lp, hwh, hpt]; rfl
          have HLP := Lib.hid lp
          rw [← hwh, ← hpt]
          clear hwh hpt HR2 lp
          have cz := trimLeft_c (wh ++ pt)
          obtain ⟨z, hz⟩ : ∃ z, z = trim0 (wh ++ pt) := ⟨_, rfl⟩
          have hzb : z.size ≤ 281474976710656 := by
            rw [hz]; unfold trim0; rw [ex_size, ByteArray.size_append]; omega
          rw [← hz] at hdz hR3 cz
          clear hz
          have HDZ := Lib.hid hdz
          have HR3 := Lib.hid hR3
          obtain ⟨x, hx⟩ : ∃ x, x = cutX t := ⟨_, rfl⟩
          rw [← hx] at HR3 ⊢
          have hxr : -1000000 ≤ x ∧ x ≤ 1000000 := by rw [hx]; exact cutX_range t
          clear hx hdz hR3
          go_upto_region 29 with (go_at_call 28; refine (cz _).mono ?_; rintro e w' ⟨rfl, rfl⟩)
          obtain ⟨n, hn⟩ : ∃ n, n = z.size := ⟨_, rfl⟩
          have HN := Lib.hid hn
          rw [← hn] at hzb ⊢
          obtain ⟨y, hy⟩ : ∃ y, y = x - (pt.size : Int) := ⟨_, rfl⟩
          have hyr : -140737489351232 ≤ y ∧ y ≤ 1000000 := by omega
          rw [← hy] at HR3 ⊢
          have HVR := Lib.hid (show valR z y = if n = 0 then some 0 else if 400 < (n : Int) + y then some 9218868437227405312 else if (n : Int) + y < -400 then some 0 else if 15 < n ∨ y < -22 ∨ 22 < y then none else some (valF (wv z n) y) by unfold valR; rw [hn])
          clear hy hxr g1 g2 cz lw lp2 hend hn
          by_cases hn0 : n = 0
          · have hV : valR z y = some 0 := by rw [HVR.out, if_pos hn0]
            have HV := Lib.hid hV
            subst hn0
            clear hV
            go_wp2_with (go_at_call 29; refine (signed_c 0 m _ (by omega)).mono ?_; rintro e w' ⟨rfl, rfl⟩)
            go_ret
            exact ⟨by rw [HR3.out, HV.out]; rfl, b5⟩
          have hzp : 0 < n := by omega
          by_cases h4 : 400 < (n : Int) + y
          · have hV : valR z y = some 9218868437227405312 := by rw [HVR.out, if_neg hn0, if_pos h4]
            have HV := Lib.hid hV
            clear hV hn0
            go_wp2_with (first | (go_at_call 30; refine (inf_c _).mono ?_; rintro e w' ⟨rfl, rfl⟩) | (go_at_call 29; refine (signed_c 9218868437227405312 m _ (by omega)).mono ?_; rintro e w' ⟨rfl, rfl⟩))
            go_ret
            exact ⟨by rw [HR3.out, HV.out]; rfl, b5⟩
          by_cases h5 : (n : Int) + y < -400
          · have hV : valR z y = some 0 := by rw [HVR.out, if_neg hn0, if_neg h4, if_pos h5]
            have HV := Lib.hid hV
            clear hV hn0
            go_wp2_with (go_at_call 29; refine (signed_c 0 m _ (by omega)).mono ?_; rintro e w' ⟨rfl, rfl⟩)
            go_ret
            exact ⟨by rw [HR3.out, HV.out]; rfl, b5⟩
          have hl4 : (n : Int) + y ≤ 400 := by omega
          have hl5 : -400 ≤ (n : Int) + y := by omega
          by_cases h6 : 15 < n ∨ y < -22 ∨ 22 < y
          · have hV : valR z y = none := by rw [HVR.out, if_neg hn0, if_neg h4, if_neg h5, if_pos h6]
            have HV := Lib.hid hV
            clear hV hn0 h4 h5
            by_cases h7 : 15 < n
            · clear h6
              go_wp2_with (go_at_call 27; refine (nan_c _).mono ?_; rintro e w' ⟨rfl, rfl⟩)
              go_ret
              exact ⟨by rw [HR3.out, HV.out]; rfl, b5⟩
            · have h7' : n ≤ 15 := by omega
              by_cases h8 : y < -22
              · clear h6 h7
                go_wp2_with (go_at_call 27; refine (nan_c _).mono ?_; rintro e w' ⟨rfl, rfl⟩)
                go_ret
                exact ⟨by rw [HR3.out, HV.out]; rfl, b5⟩
              · have h8' : -22 ≤ y := by omega
                have h9 : 22 < y := by omega
                clear h6 h7 h8
                go_wp2_with (go_at_call 27; refine (nan_c _).mono ?_; rintro e w' ⟨rfl, rfl⟩)
                go_ret
                exact ⟨by rw [HR3.out, HV.out]; rfl, b5⟩
          have hV : valR z y = some (valF (wv z n) y) := by rw [HVR.out, if_neg hn0, if_neg h4, if_neg h5, if_neg h6]
          have HV := Lib.hid hV
          have k1 : n ≤ 15 := by omega
          have k2 : -22 ≤ y := by omega
          have k3 : y ≤ 22 := by omega
          clear hV hn0 h4 h5 h6 hl4 hl5 hyr
          obtain ⟨cap, w8, hconv, hb8, hs8, hcells⟩ := bytes_conv (P := Tryd.prog) 9 30 5 Tryd.underlying9 Tryd.underlying30 Tryd.underlying5 z wc
          have b9 : Below w.heap.size w w8 := b5.trans (hb8.mono (by have := st5.size; omega))
          rw [← HN.out] at hconv hcells
          have HCE := Lib.hid hcells
          clear hb8 hs8 hcells
          have hop : ∀ (a b r : Nat), Ieee.double.mul a b = some r → ∀ t w, (binOp .mul t (.float .f64 a) (.float .f64 b)).run Tryd.prog w = .ok (.float .f64 r) w := fun a b r h t w => run_float_arith w .mul t .f64 _ _ _ h
          have hoa : ∀ (a b r : Nat), Ieee.double.add a b = some r → ∀ t w, (binOp .add t (.float .f64 a) (.float .f64 b)).run Tryd.prog w = .ok (.float .f64 r) w := fun a b r h t w => run_float_arith w .add t .f64 _ _ _ h
          have HOP := Lib.hid hop
          have HOA := Lib.hid hoa
          clear hop hoa
          go_wp2_with fail

          go_loop [129, 18] (fun i f => ∃ k : Nat, k ≤ n ∧ i = .int .i64 k ∧ f = .float .f64 (W false (wv z k))) (fun i _ => n - (intOf i).toNat)
          case atStart => exact ⟨0, Nat.zero_le _, rfl, rfl⟩
          case round =>
            obtain ⟨k, hk, rfl, rfl⟩ := hrel
            by_cases hlt : k < n
            · have hc := HCE.out k hlt
              have hd := HDZ.out k (by rw [← HN.out]; exact hlt)
              unfold isDc at hd
              simp only [Bool.and_eq_true, decide_eq_true_eq] at hd
              have hw1 : wv z k < 100000000000000 := by
                have := wv_lt z k (fun j hj => HDZ.out j (by rw [← HN.out]; omega))
                have h2 : 10 ^ k ≤ 10 ^ 14 := Nat.pow_le_pow_right (by omega) (by omega)
                have h3 : (10 : Nat) ^ 14 = 100000000000000 := by decide
                omega
              have e1 : W false 10 = 4621819117588971520 := by decide
              have m1 := HOP.out _ _ _ (W_mul false false 10 (wv z k) (by omega) (by omega) (by omega))
              have m2 := HOA.out _ _ _ (W_add (10 * wv z k) (bt z k - 48).toNat (by omega) (by omega) (by omega))
              have m3 : ∀ wx, (convert 5 22 (.int .u8 (bt z k - 48))).run Tryd.prog wx = .ok (.float .f64 (W false (bt z k - 48).toNat)) wx := fun wx => by
                have := run_convert_int_float (P := Tryd.prog) (w := wx) 5 22 .u8 .f64 (bt z k - 48) (by rw [Tryd.underlying5]; rfl) Tryd.underlying22
                rw [this]
                have e2 : bt z k - 48 = (((bt z k - 48).toNat : Nat) : Int) := by omega
                conv => lhs; rw [e2]
                rw [ofInt_W _ (by omega)]
              rw [e1] at m1
              have hv : W false (wv z (k + 1)) = W false (10 * wv z k + (bt z k - 48).toNat) := rfl
              have HV2 := Lib.hid hv
              clear hv e1 hw1
              rw [show (false ^^ false) = false from rfl] at m1
              obtain ⟨v, hv⟩ : ∃ v, v = W false (wv z k) := ⟨_, rfl⟩
              obtain ⟨v1, hv1⟩ : ∃ v1, v1 = W false (10 * wv z k) := ⟨_, rfl⟩
              obtain ⟨v2, hv2⟩ : ∃ v2, v2 = W false (bt z k - 48).toNat := ⟨_, rfl⟩
              obtain ⟨v3, hv3⟩ : ∃ v3, v3 = W false (10 * wv z k + (bt z k - 48).toNat) := ⟨_, rfl⟩
              rw [← hv, ← hv1] at m1
              rw [← hv1, ← hv2, ← hv3] at m2
              rw [← hv2] at m3
              rw [← hv3] at HV2
              rw [← hv]
              clear hv hv1 hv2 hv3
              obtain ⟨c, hcc⟩ : ∃ c, c = bt z k := ⟨_, rfl⟩
              rw [← hcc] at hc hd m3
              clear hcc
              go_wp2_with fail
              go_round
              case rel => exact ⟨k + 1, by omega, by go_num, by rw [HV2.out]⟩
              case measure => simp [intOf]; omega
            · obtain rfl : k = n := by omega
              have hw1 : wv z k < 9007199254740992 := by
                have := wv_lt z k (fun j hj => HDZ.out j (by rw [← HN.out]; omega))
                have h2 : 10 ^ k ≤ 10 ^ 15 := Nat.pow_le_pow_right (by omega) (by omega)
                have h3 : (10 : Nat) ^ 15 = 1000000000000000 := by decide
                omega
              by_cases hy0 : y < 0
              · obtain ⟨e, he⟩ : ∃ e : Nat, y = -(e : Int) := ⟨(-y).toNat, by omega⟩
                subst he
                have hq := valF_neg (wv z k) (-(e : Int)) hw1 hy0 k2
                rw [show (- -(e : Int)).toNat = e by omega] at hq
                obtain ⟨q, hqq⟩ : ∃ q, q = valF (wv z k) (-(e : Int)) := ⟨_, rfl⟩
                rw [← hqq] at hq HV
                clear hqq
                have hdv : ∀ t w, (binOp .quo t (.float .f64 (W false (wv z k))) (.float .f64 (pw e))).run Tryd.prog w = .ok (.float .f64 q) w := fun t w => run_float_arith w .quo t .f64 _ _ _ hq.1
                have hql : q < 9223372036854775808 := by have := hq.2; omega
                obtain ⟨v, hv⟩ : ∃ v, v = W false (wv z k) := ⟨_, rfl⟩
                rw [← hv] at hdv ⊢
                clear hv hq hw1
                go_wp2_with fail
                go_loop [144, 19] (fun i p => ∃ j : Nat, j ≤ e ∧ i = .int .i64 j ∧ p = .float .f64 (pw j)) (fun i _ => e - (intOf i).toNat)
                case atStart => exact ⟨0, Nat.zero_le _, rfl, rfl⟩
                case round =>
                  obtain ⟨j, hj, rfl, rfl⟩ := hrel
                  by_cases hlt2 : j < e
                  · have m1 := HOP.out _ _ _ (pw_mul j (by omega))
                    unfold ten at m1
                    obtain ⟨p1, hp1⟩ : ∃ p1, p1 = pw (j + 1) := ⟨_, rfl⟩
                    rw [← hp1] at m1
                    have HP1 := Lib.hid hp1
                    clear hp1
                    go_wp2_with fail
                    go_round
                    case rel => exact ⟨j + 1, by omega, by go_num, by rw [HP1.out]⟩
                    case measure => simp [intOf]; omega
                  · obtain rfl : j = e := by omega
                    go_wp2_with (go_at_call 29; refine (signed_c q m _ hql).mono ?_; rintro e w' ⟨rfl, rfl⟩)
                    go_ret
                    exact ⟨by rw [HR3.out, HV.out]; rfl, b9⟩
              · obtain ⟨e, he⟩ : ∃ e : Nat, y = (e : Int) := ⟨y.toNat, by omega⟩
                subst he
                have hq := valF_pos (wv z k) (e : Int) hw1 hy0 k3
                rw [Int.toNat_natCast] at hq
                obtain ⟨q, hqq⟩ : ∃ q, q = valF (wv z k) (e : Int) := ⟨_, rfl⟩
                rw [← hqq] at hq HV
                clear hqq
                have hdv : ∀ t w, (binOp .mul t (.float .f64 (W false (wv z k))) (.float .f64 (pw e))).run Tryd.prog w = .ok (.float .f64 q) w := fun t w => run_float_arith w .mul t .f64 _ _ _ hq.1
                have hql : q < 9223372036854775808 := by have := hq.2; omega
                obtain ⟨v, hv⟩ : ∃ v, v = W false (wv z k) := ⟨_, rfl⟩
                rw [← hv] at hdv ⊢
                have HDV := Lib.hid hdv
                clear hv hq hw1 hdv
                go_wp2_with fail
                go_loop [144, 19] (fun i p => ∃ j : Nat, j ≤ e ∧ i = .int .i64 j ∧ p = .float .f64 (pw j)) (fun i _ => e - (intOf i).toNat)
                case atStart => exact ⟨0, Nat.zero_le _, rfl, rfl⟩
                case round =>
                  obtain ⟨j, hj, rfl, rfl⟩ := hrel
                  by_cases hlt2 : j < e
                  · have m1 := HOP.out _ _ _ (pw_mul j (by omega))
                    unfold ten at m1
                    obtain ⟨p1, hp1⟩ : ∃ p1, p1 = pw (j + 1) := ⟨_, rfl⟩
                    rw [← hp1] at m1
                    have HP1 := Lib.hid hp1
                    clear hp1
                    go_wp2_with fail
                    go_round
                    case rel => exact ⟨j + 1, by omega, by go_num, by rw [HP1.out]⟩
                    case measure => simp [intOf]; omega
                  · obtain rfl : j = e := by omega
                    have hdv := HDV.out
                    go_wp2_with (go_at_call 29; refine (signed_c q m _ hql).mono ?_; rintro e w' ⟨rfl, rfl⟩)
                    go_ret
                    exact ⟨by rw [HR3.out, HV.out]; rfl, b9⟩
end Go.Proofs.YtlgphmpdenkilaaDoor
