/- The walk of RealZeros: it returns true. Condition: what comes in is well formed, the text no longer than a string that comes in can be. -/
import Derived.Test.YtlgphmpdenkilaaDoorSh
namespace Go.Proofs.YtlgphmpdenkilaaDoor
open Go.RowKit
open Fl

/-- all bytes are the digit nought -/
def All0 (a : ByteArray) : Prop := ∀ j < a.size, bt a (j : Nat) = 48
theorem all0_d (a : ByteArray) (h : All0 a) : AllD a := fun j hj => by rw [h j hj]; rfl
theorem all0_app (a b : ByteArray) (ha : All0 a) (hb : All0 b) : All0 (a ++ b) := by
  intro j hj
  rw [ByteArray.size_append] at hj
  by_cases h : j < a.size
  · rw [bt_append_l a b j h]; exact ha j h
  · have := bt_append_r a b (j - a.size) (by omega)
    rw [show a.size + (j - a.size) = j by omega] at this
    rw [this]; exact hb _ (by omega)
theorem cn_all (c : Int) (a : ByteArray) (h : ∀ j < a.size, bt a (j : Nat) = c) : ∀ n i, i + n = a.size → cn c a i = n
  | 0, i, e => cn_end c a i (by omega)
  | n + 1, i, e => by rw [cn_yes c a i (by omega) (h i (by omega)), cn_all c a h n (i + 1) (by omega)]
theorem trim0_all (a : ByteArray) (h : All0 a) : (trim0 a).size = 0 := by
  unfold trim0
  rw [cn_all 48 a h a.size 0 (by omega), ex_size]; omega
theorem valR_all0 (a : ByteArray) (h : All0 a) (x : Int) : valR (trim0 a) x = some 0 := by
  unfold valR; rw [trim0_all a h]; rfl

theorem sz1 (c : UInt8) : (⟨#[c]⟩ : ByteArray).size = 1 := rfl
theorem toList_nil (e : ByteArray) (h : e.size = 0) : (e.toList == ([] : List UInt8)) = true := by
  rw [ByteArray.toList_eq, beq_iff_eq]; exact List.length_eq_zero_iff.1 (by simpa using h)
theorem toList_cons (e : ByteArray) (h : ¬ e.size = 0) : (e.toList == ([] : List UInt8)) = false := by
  rw [ByteArray.toList_eq, beq_eq_false_iff_ne]
  intro h2
  exact h (by rw [← List.length_eq_zero_iff] at h2; simpa using h2)
def zeros20 : ByteArray := ⟨#[48, 48, 48, 48, 48, 48, 48, 48, 48, 48, 48, 48, 48, 48, 48, 48, 48, 48, 48, 48]⟩
theorem zeros20_all (n : Nat) (h : n ≤ 20) : All0 (zeros20.extract 0 n) := by
  have : ∀ j : Fin 20, bt zeros20 ((j.1 : Nat) : Int) = 48 := by decide +kernel
  intro j hj
  rw [ex_size] at hj
  have hz : zeros20.size = 20 := rfl
  have e := bt_extract zeros20 0 n j (by omega) (by omega)
  rw [e, Nat.zero_add]
  exact this ⟨j, by omega⟩

theorem dn_e (r : ByteArray) : dn (⟨#[101]⟩ ++ r) 0 = 0 := dn_one _ _ (by decide)
theorem zv1 (A : ByteArray) (ha : All0 A) (h0 : 0 < A.size) : realR A = some 0 := by
  have h := head_plain A ByteArray.empty (all0_d A ha) h0 dn_empty (at_empty _)
  rw [sh_empty] at h
  rw [realR_bare A A.size 0 A h rfl, valR_all0 A ha]
theorem zv2 (A B : ByteArray) (ha : All0 A) (h0 : 0 < A.size) (hb : All0 B) (h1 : 0 < B.size) : realR ((A ++ ⟨#[46]⟩) ++ B) = some 0 := by
  have h := head_dot A B ByteArray.empty (all0_d A ha) h0 (all0_d B hb) h1 dn_empty
  rw [sh_empty] at h
  rw [ByteArray.append_assoc]
  rw [realR_bare _ _ _ _ h (by rw [ByteArray.size_append, ByteArray.size_append]; show _ = A.size + (1 + B.size); omega), valR_all0 _ (all0_app A B ha hb)]
theorem zv3 (A e : ByteArray) (ha : All0 A) (h0 : 0 < A.size) (he : AllD e) (h1 : 0 < e.size) : realR ((A ++ ⟨#[101]⟩) ++ e) = some 0 := by
  have h := head_plain A (⟨#[101]⟩ ++ e) (all0_d A ha) h0 (dn_e e) (by rw [at_one]; decide +kernel)
  rw [ByteArray.append_assoc, exp_plain 101 (by decide +kernel) A e he h1 0 A h, valR_all0 A ha]
theorem zv4 (A B e : ByteArray) (ha : All0 A) (h0 : 0 < A.size) (hb : All0 B) (hb0 : 0 < B.size) (he : AllD e) (h1 : 0 < e.size) : realR (((((A ++ ⟨#[46]⟩) ++ B) ++ ⟨#[101]⟩)) ++ e) = some 0 := by
  have h := head_dot A B (⟨#[101]⟩ ++ e) (all0_d A ha) h0 (all0_d B hb) hb0 (dn_e e)
  have hq : A.size + 1 + B.size = ((A ++ ⟨#[46]⟩) ++ B).size := by
    rw [ByteArray.size_append, ByteArray.size_append]; rfl
  rw [hq, show A ++ (⟨#[46]⟩ ++ (B ++ (⟨#[101]⟩ ++ e))) = ((A ++ ⟨#[46]⟩) ++ B) ++ (⟨#[101]⟩ ++ e) by simp only [ByteArray.append_assoc]] at h
  rw [show ((((A ++ ⟨#[46]⟩) ++ B) ++ ⟨#[101]⟩)) ++ e = ((A ++ ⟨#[46]⟩) ++ B) ++ (⟨#[101]⟩ ++ e) from ByteArray.append_assoc, exp_plain 101 (by decide +kernel) _ e he h1 _ _ h, valR_all0 _ (all0_app A B ha hb)]

theorem first_digit (t : ByteArray) (h : isDc (bt t 0) = true) : firstIs 45 t = false := by
  unfold firstIs
  have : (bt t 0 == 45) = false := by
    rw [beq_eq_false_iff_ne]; intro e; rw [e] at h; cases h
  rw [this, Bool.and_false]
theorem val_plain (t : ByteArray) (h : isDc (bt t 0) = true) (r : Option Nat) (hr : realR t = r) : realV t = bitsR false r := by
  unfold realV; rw [first_digit t h]; subst hr; rfl
theorem val_minus (t : ByteArray) (r : Option Nat) (hr : realR t = r) : realV (⟨#[45]⟩ ++ t) = bitsR true r := by
  rw [real_minus, hr]
theorem firstA (A r : ByteArray) (h : 0 < A.size) (hd : isDc (bt A 0) = true) : isDc (bt (A ++ r) 0) = true := by
  have := bt_append_l A r 0 h
  rw [show ((0 : Nat) : Int) = 0 from rfl] at this
  rw [this]; exact hd

/-- a text that is worth 0, and its walk's checks -/
theorem zcall (t : ByteArray) (b : Bool) (h : realV t = bitsR b (some 0)) (hs : t.size ≤ 140737488351232) (w : World) :
    Calls Tryd.prog 12 #[.string t] w fun e w' => e = .returned (.float .f64 (wd b 0)) ∧ Below w.heap.size w w' := by
  have := real_c t w hs
  rw [h] at this; exact this
theorem zsort (b : Bool) (w : World) : Calls Tryd.prog 16 #[.float .f64 (wd b 0)] w fun e w' => e = .returned (.int .i64 2) ∧ w = w' := by
  have := sort_c (wd b 0) w (by cases b <;> decide)
  rw [show sortN (wd b 0) = 2 by cases b <;> decide] at this
  exact this
theorem zneg (b : Bool) (w : World) : Calls Tryd.prog 18 #[.float .f64 (wd b 0)] w fun e w' => e = .returned (.bool b) ∧ w = w' := by
  have := negative_c (wd b 0) w (by cases b <;> decide)
  rw [show negB (wd b 0) = b by cases b <;> decide] at this
  exact this
theorem zeq (b : Bool) : (FloatKind.f64.format.order (wd b 0) 0 == some .eq) = true := by
  cases b <;> decide +kernel

set_option maxHeartbeats 0 in
theorem realZeros_c (n m : Int) (b : Bool) (e : ByteArray) (w : World) (hn : (Lit.int .i64 n).wf = true) (hm : (Lit.int .i64 m).wf = true) (he : e.size ≤ 140737488351232) :
    Calls Tryd.prog 7 #[.int .i64 n, .int .i64 m, .bool b, .string e] w fun r w' => r = .returned (.bool true) ∧ Below w.heap.size w w' := by
  by_cases hr : 1 ≤ n ∧ n ≤ 20 ∧ 0 ≤ m ∧ m ≤ 20 ∧ e.size ≤ 30
  · obtain ⟨n1, n2, m1, m2, e1⟩ := hr
    obtain ⟨a, rfl⟩ : ∃ a : Nat, n = a := ⟨n.toNat, by omega⟩
    obtain ⟨c, rfl⟩ : ∃ c : Nat, m = c := ⟨m.toNat, by omega⟩
    have t1 : decide ((a : Int) < 1) = false := decide_eq_false (by omega)
    have t2 : decide ((20 : Int) < (a : Int)) = false := decide_eq_false (by omega)
    have t3 : decide ((c : Int) < 0) = false := decide_eq_false (by omega)
    have t4 : decide ((20 : Int) < (c : Int)) = false := decide_eq_false (by omega)
    have t5 : decide ((30 : Int) < (e.size : Int)) = false := decide_eq_false (by omega)
    have HA := Lib.hid (zeros20_all a (by omega))
    have HC := Lib.hid (zeros20_all c (by omega))
    have sa : (zeros20.extract 0 a).size = a := by rw [ex_size]; show min a 20 - 0 = a; omega
    have sc : (zeros20.extract 0 c).size = c := by rw [ex_size]; show min c 20 - 0 = c; omega
    obtain ⟨A, hA⟩ : ∃ A, A = zeros20.extract 0 a := ⟨_, rfl⟩
    obtain ⟨C, hC⟩ : ∃ C, C = zeros20.extract 0 c := ⟨_, rfl⟩
    have l1 : ∀ wx, (Instr.slice 9 (.string zeros20) none (some (.int .i64 (a : Int))) none).run Tryd.prog wx = .ok (.string A) wx := fun wx => by
      rw [hA]; exact slice_to 9 rfl zeros20 a _ rfl (by show a ≤ 20; omega) wx
    have l2 : ∀ wx, (Instr.slice 9 (.string zeros20) none (some (.int .i64 (c : Int))) none).run Tryd.prog wx = .ok (.string C) wx := fun wx => by
      rw [hC]; exact slice_to 9 rfl zeros20 c _ rfl (by show c ≤ 20; omega) wx
    rw [← hA] at HA sa
    rw [← hC] at HC sc
    clear hA hC
    have zz : zeros20 = ⟨#[48, 48, 48, 48, 48, 48, 48, 48, 48, 48, 48, 48, 48, 48, 48, 48, 48, 48, 48, 48]⟩ := rfl
    rw [zz] at l1 l2
    clear zz
    have hA0 := HA.out
    have hC0 := HC.out
    have fA : isDc (bt A 0) = true := all0_d A hA0 0 (by omega)
    have pA : 0 < A.size := by omega
    clear HA HC
    by_cases hc : c = 0
    · have t6 : decide ((0 : Int) < (c : Int)) = false := decide_eq_false (by omega)
      by_cases he0 : e.size = 0
      · have t7 := toList_nil e he0
        clear he0
        cases b
        · have v1 : AllD e → realV A = bitsR false (some 0) := fun he1 => val_plain _ fA _ (zv1 A hA0 pA)
          have hv : A.size ≤ 140737488351232 := by
            first | (simp only [ByteArray.size_append, sz1]; omega) | omega
          go_enter Tryd.func7, Tryd.ntmps7
          go_wp2_with (go_at_call 10; refine (awake_c _).mono ?_; rintro e w' ⟨rfl, hbl⟩)
          go_loop [10] (fun v => ∃ k : Nat, k ≤ e.size ∧ (∀ j < k, isDc (bt e (j : Nat)) = true) ∧ v = .int .i64 k) (fun v => e.size - (intOf v).toNat)
          case atStart => exact ⟨0, Nat.zero_le _, fun j hj => absurd hj (Nat.not_lt_zero _), rfl⟩
          case round =>
            obtain ⟨k, hk, hd, rfl⟩ := hrel
            have HD := Lib.hid hd
            clear hd
            go_upto_region 9 with fail
            case roundEnd =>
              have q0 : k < e.size := by assumption
              have q2 : 48 ≤ ((e[k]'q0).toNat : Int) ∧ ((e[k]'q0).toNat : Int) ≤ 57 := by assumption
              have hd := HD.out
              refine ⟨⟨k + 1, by omega, fun j hj => ?_, rfl⟩, by simp [intOf]; omega⟩
              by_cases h : j < k
              · exact hd j h
              · obtain rfl : j = k := by omega
                exact dig_yes e j q0 q2.1 q2.2
            all_goals
              first
                | (go_ret; exact ⟨rfl, by assumption⟩)
                | skip
            have hall : AllD e := fun j hj => HD.out j (Nat.lt_of_lt_of_le hj (Nat.le_of_not_lt (by assumption)))
            go_wp2_with (first
              | (go_at_call 12; with_reducible refine (zcall _ _ (v1 hall) hv _).mono ?_; rintro e w' ⟨rfl, hbl⟩)
              | (go_at_call 16; with_reducible refine (zsort _ _).mono ?_; rintro e w' ⟨rfl, rfl⟩)
              | (go_at_call 18; with_reducible refine (zneg _ _).mono ?_; rintro e w' ⟨rfl, rfl⟩))
            go_ret
            exact ⟨rfl, by repeat (first | assumption | refine bl (by assumption) ?_)⟩
        · have v1 : AllD e → realV (⟨#[45]⟩ ++ A) = bitsR true (some 0) := fun he1 => val_minus _ _ (zv1 A hA0 pA)
          have hv : (⟨#[45]⟩ ++ A).size ≤ 140737488351232 := by
            first | (simp only [ByteArray.size_append, sz1]; omega) | omega
          go_enter Tryd.func7, Tryd.ntmps7
          go_wp2_with (go_at_call 10; refine (awake_c _).mono ?_; rintro e w' ⟨rfl, hbl⟩)
          go_loop [10] (fun v => ∃ k : Nat, k ≤ e.size ∧ (∀ j < k, isDc (bt e (j : Nat)) = true) ∧ v = .int .i64 k) (fun v => e.size - (intOf v).toNat)
          case atStart => exact ⟨0, Nat.zero_le _, fun j hj => absurd hj (Nat.not_lt_zero _), rfl⟩
          case round =>
            obtain ⟨k, hk, hd, rfl⟩ := hrel
            have HD := Lib.hid hd
            clear hd
            go_upto_region 9 with fail
            case roundEnd =>
              have q0 : k < e.size := by assumption
              have q2 : 48 ≤ ((e[k]'q0).toNat : Int) ∧ ((e[k]'q0).toNat : Int) ≤ 57 := by assumption
              have hd := HD.out
              refine ⟨⟨k + 1, by omega, fun j hj => ?_, rfl⟩, by simp [intOf]; omega⟩
              by_cases h : j < k
              · exact hd j h
              · obtain rfl : j = k := by omega
                exact dig_yes e j q0 q2.1 q2.2
            all_goals
              first
                | (go_ret; exact ⟨rfl, by assumption⟩)
                | skip
            have hall : AllD e := fun j hj => HD.out j (Nat.lt_of_lt_of_le hj (Nat.le_of_not_lt (by assumption)))
            go_wp2_with (first
              | (go_at_call 12; with_reducible refine (zcall _ _ (v1 hall) hv _).mono ?_; rintro e w' ⟨rfl, hbl⟩)
              | (go_at_call 16; with_reducible refine (zsort _ _).mono ?_; rintro e w' ⟨rfl, rfl⟩)
              | (go_at_call 18; with_reducible refine (zneg _ _).mono ?_; rintro e w' ⟨rfl, rfl⟩))
            go_ret
            exact ⟨rfl, by repeat (first | assumption | refine bl (by assumption) ?_)⟩
      · have pE : 0 < e.size := by omega
        have t7 := toList_cons e he0
        cases b
        · have v1 : AllD e → realV (A ++ ⟨#[101]⟩ ++ e) = bitsR false (some 0) := fun he1 => val_plain _ (firstA _ _ (by simp only [ByteArray.size_append, sz1]; omega) (firstA _ _ pA fA)) _ (zv3 A e hA0 pA he1 pE)
          have hv : (A ++ ⟨#[101]⟩ ++ e).size ≤ 140737488351232 := by
            first | (simp only [ByteArray.size_append, sz1]; omega) | omega
          go_enter Tryd.func7, Tryd.ntmps7
          go_wp2_with (go_at_call 10; refine (awake_c _).mono ?_; rintro e w' ⟨rfl, hbl⟩)
          go_loop [10] (fun v => ∃ k : Nat, k ≤ e.size ∧ (∀ j < k, isDc (bt e (j : Nat)) = true) ∧ v = .int .i64 k) (fun v => e.size - (intOf v).toNat)
          case atStart => exact ⟨0, Nat.zero_le _, fun j hj => absurd hj (Nat.not_lt_zero _), rfl⟩
          case round =>
            obtain ⟨k, hk, hd, rfl⟩ := hrel
            have HD := Lib.hid hd
            clear hd
            go_upto_region 9 with fail
            case roundEnd =>
              have q0 : k < e.size := by assumption
              have q2 : 48 ≤ ((e[k]'q0).toNat : Int) ∧ ((e[k]'q0).toNat : Int) ≤ 57 := by assumption
              have hd := HD.out
              refine ⟨⟨k + 1, by omega, fun j hj => ?_, rfl⟩, by simp [intOf]; omega⟩
              by_cases h : j < k
              · exact hd j h
              · obtain rfl : j = k := by omega
                exact dig_yes e j q0 q2.1 q2.2
            all_goals
              first
                | (go_ret; exact ⟨rfl, by assumption⟩)
                | skip
            have hall : AllD e := fun j hj => HD.out j (Nat.lt_of_lt_of_le hj (Nat.le_of_not_lt (by assumption)))
            go_wp2_with (first
              | (go_at_call 12; with_reducible refine (zcall _ _ (v1 hall) hv _).mono ?_; rintro e w' ⟨rfl, hbl⟩)
              | (go_at_call 16; with_reducible refine (zsort _ _).mono ?_; rintro e w' ⟨rfl, rfl⟩)
              | (go_at_call 18; with_reducible refine (zneg _ _).mono ?_; rintro e w' ⟨rfl, rfl⟩))
            go_ret
            exact ⟨rfl, by repeat (first | assumption | refine bl (by assumption) ?_)⟩
        · have v1 : AllD e → realV (⟨#[45]⟩ ++ (A ++ ⟨#[101]⟩ ++ e)) = bitsR true (some 0) := fun he1 => val_minus _ _ (zv3 A e hA0 pA he1 pE)
          have hv : (⟨#[45]⟩ ++ (A ++ ⟨#[101]⟩ ++ e)).size ≤ 140737488351232 := by
            first | (simp only [ByteArray.size_append, sz1]; omega) | omega
          go_enter Tryd.func7, Tryd.ntmps7
          go_wp2_with (go_at_call 10; refine (awake_c _).mono ?_; rintro e w' ⟨rfl, hbl⟩)
          go_loop [10] (fun v => ∃ k : Nat, k ≤ e.size ∧ (∀ j < k, isDc (bt e (j : Nat)) = true) ∧ v = .int .i64 k) (fun v => e.size - (intOf v).toNat)
          case atStart => exact ⟨0, Nat.zero_le _, fun j hj => absurd hj (Nat.not_lt_zero _), rfl⟩
          case round =>
            obtain ⟨k, hk, hd, rfl⟩ := hrel
            have HD := Lib.hid hd
            clear hd
            go_upto_region 9 with fail
            case roundEnd =>
              have q0 : k < e.size := by assumption
              have q2 : 48 ≤ ((e[k]'q0).toNat : Int) ∧ ((e[k]'q0).toNat : Int) ≤ 57 := by assumption
              have hd := HD.out
              refine ⟨⟨k + 1, by omega, fun j hj => ?_, rfl⟩, by simp [intOf]; omega⟩
              by_cases h : j < k
              · exact hd j h
              · obtain rfl : j = k := by omega
                exact dig_yes e j q0 q2.1 q2.2
            all_goals
              first
                | (go_ret; exact ⟨rfl, by assumption⟩)
                | skip
            have hall : AllD e := fun j hj => HD.out j (Nat.lt_of_lt_of_le hj (Nat.le_of_not_lt (by assumption)))
            go_wp2_with (first
              | (go_at_call 12; with_reducible refine (zcall _ _ (v1 hall) hv _).mono ?_; rintro e w' ⟨rfl, hbl⟩)
              | (go_at_call 16; with_reducible refine (zsort _ _).mono ?_; rintro e w' ⟨rfl, rfl⟩)
              | (go_at_call 18; with_reducible refine (zneg _ _).mono ?_; rintro e w' ⟨rfl, rfl⟩))
            go_ret
            exact ⟨rfl, by repeat (first | assumption | refine bl (by assumption) ?_)⟩
    · have t6 : decide ((0 : Int) < (c : Int)) = true := decide_eq_true (by omega)
      have pC : 0 < C.size := by omega
      by_cases he0 : e.size = 0
      · have t7 := toList_nil e he0
        clear he0
        cases b
        · have v1 : AllD e → realV (A ++ ⟨#[46]⟩ ++ C) = bitsR false (some 0) := fun he1 => val_plain _ (firstA _ _ (by simp only [ByteArray.size_append, sz1]; omega) (firstA _ _ pA fA)) _ (zv2 A C hA0 pA hC0 pC)
          have hv : (A ++ ⟨#[46]⟩ ++ C).size ≤ 140737488351232 := by
            first | (simp only [ByteArray.size_append, sz1]; omega) | omega
          go_enter Tryd.func7, Tryd.ntmps7
          go_wp2_with (go_at_call 10; refine (awake_c _).mono ?_; rintro e w' ⟨rfl, hbl⟩)
          go_loop [10] (fun v => ∃ k : Nat, k ≤ e.size ∧ (∀ j < k, isDc (bt e (j : Nat)) = true) ∧ v = .int .i64 k) (fun v => e.size - (intOf v).toNat)
          case atStart => exact ⟨0, Nat.zero_le _, fun j hj => absurd hj (Nat.not_lt_zero _), rfl⟩
          case round =>
            obtain ⟨k, hk, hd, rfl⟩ := hrel
            have HD := Lib.hid hd
            clear hd
            go_upto_region 9 with fail
            case roundEnd =>
              have q0 : k < e.size := by assumption
              have q2 : 48 ≤ ((e[k]'q0).toNat : Int) ∧ ((e[k]'q0).toNat : Int) ≤ 57 := by assumption
              have hd := HD.out
              refine ⟨⟨k + 1, by omega, fun j hj => ?_, rfl⟩, by simp [intOf]; omega⟩
              by_cases h : j < k
              · exact hd j h
              · obtain rfl : j = k := by omega
                exact dig_yes e j q0 q2.1 q2.2
            all_goals
              first
                | (go_ret; exact ⟨rfl, by assumption⟩)
                | skip
            have hall : AllD e := fun j hj => HD.out j (Nat.lt_of_lt_of_le hj (Nat.le_of_not_lt (by assumption)))
            go_wp2_with (first
              | (go_at_call 12; with_reducible refine (zcall _ _ (v1 hall) hv _).mono ?_; rintro e w' ⟨rfl, hbl⟩)
              | (go_at_call 16; with_reducible refine (zsort _ _).mono ?_; rintro e w' ⟨rfl, rfl⟩)
              | (go_at_call 18; with_reducible refine (zneg _ _).mono ?_; rintro e w' ⟨rfl, rfl⟩))
            go_ret
            exact ⟨rfl, by repeat (first | assumption | refine bl (by assumption) ?_)⟩
        · have v1 : AllD e → realV (⟨#[45]⟩ ++ (A ++ ⟨#[46]⟩ ++ C)) = bitsR true (some 0) := fun he1 => val_minus _ _ (zv2 A C hA0 pA hC0 pC)
          have hv : (⟨#[45]⟩ ++ (A ++ ⟨#[46]⟩ ++ C)).size ≤ 140737488351232 := by
            first | (simp only [ByteArray.size_append, sz1]; omega) | omega
          go_enter Tryd.func7, Tryd.ntmps7
          go_wp2_with (go_at_call 10; refine (awake_c _).mono ?_; rintro e w' ⟨rfl, hbl⟩)
          go_loop [10] (fun v => ∃ k : Nat, k ≤ e.size ∧ (∀ j < k, isDc (bt e (j : Nat)) = true) ∧ v = .int .i64 k) (fun v => e.size - (intOf v).toNat)
          case atStart => exact ⟨0, Nat.zero_le _, fun j hj => absurd hj (Nat.not_lt_zero _), rfl⟩
          case round =>
            obtain ⟨k, hk, hd, rfl⟩ := hrel
            have HD := Lib.hid hd
            clear hd
            go_upto_region 9 with fail
            case roundEnd =>
              have q0 : k < e.size := by assumption
              have q2 : 48 ≤ ((e[k]'q0).toNat : Int) ∧ ((e[k]'q0).toNat : Int) ≤ 57 := by assumption
              have hd := HD.out
              refine ⟨⟨k + 1, by omega, fun j hj => ?_, rfl⟩, by simp [intOf]; omega⟩
              by_cases h : j < k
              · exact hd j h
              · obtain rfl : j = k := by omega
                exact dig_yes e j q0 q2.1 q2.2
            all_goals
              first
                | (go_ret; exact ⟨rfl, by assumption⟩)
                | skip
            have hall : AllD e := fun j hj => HD.out j (Nat.lt_of_lt_of_le hj (Nat.le_of_not_lt (by assumption)))
            go_wp2_with (first
              | (go_at_call 12; with_reducible refine (zcall _ _ (v1 hall) hv _).mono ?_; rintro e w' ⟨rfl, hbl⟩)
              | (go_at_call 16; with_reducible refine (zsort _ _).mono ?_; rintro e w' ⟨rfl, rfl⟩)
              | (go_at_call 18; with_reducible refine (zneg _ _).mono ?_; rintro e w' ⟨rfl, rfl⟩))
            go_ret
            exact ⟨rfl, by repeat (first | assumption | refine bl (by assumption) ?_)⟩
      · have pE : 0 < e.size := by omega
        have t7 := toList_cons e he0
        cases b
        · have v1 : AllD e → realV (A ++ ⟨#[46]⟩ ++ C ++ ⟨#[101]⟩ ++ e) = bitsR false (some 0) := fun he1 => val_plain _ (firstA _ _ (by simp only [ByteArray.size_append, sz1]; omega) (firstA _ _ (by simp only [ByteArray.size_append, sz1]; omega) (firstA _ _ (by simp only [ByteArray.size_append, sz1]; omega) (firstA _ _ pA fA)))) _ (zv4 A C e hA0 pA hC0 pC he1 pE)
          have hv : (A ++ ⟨#[46]⟩ ++ C ++ ⟨#[101]⟩ ++ e).size ≤ 140737488351232 := by
            first | (simp only [ByteArray.size_append, sz1]; omega) | omega
          go_enter Tryd.func7, Tryd.ntmps7
          go_wp2_with (go_at_call 10; refine (awake_c _).mono ?_; rintro e w' ⟨rfl, hbl⟩)
          go_loop [10] (fun v => ∃ k : Nat, k ≤ e.size ∧ (∀ j < k, isDc (bt e (j : Nat)) = true) ∧ v = .int .i64 k) (fun v => e.size - (intOf v).toNat)
          case atStart => exact ⟨0, Nat.zero_le _, fun j hj => absurd hj (Nat.not_lt_zero _), rfl⟩
          case round =>
            obtain ⟨k, hk, hd, rfl⟩ := hrel
            have HD := Lib.hid hd
            clear hd
            go_upto_region 9 with fail
            case roundEnd =>
              have q0 : k < e.size := by assumption
              have q2 : 48 ≤ ((e[k]'q0).toNat : Int) ∧ ((e[k]'q0).toNat : Int) ≤ 57 := by assumption
              have hd := HD.out
              refine ⟨⟨k + 1, by omega, fun j hj => ?_, rfl⟩, by simp [intOf]; omega⟩
              by_cases h : j < k
              · exact hd j h
              · obtain rfl : j = k := by omega
                exact dig_yes e j q0 q2.1 q2.2
            all_goals
              first
                | (go_ret; exact ⟨rfl, by assumption⟩)
                | skip
            have hall : AllD e := fun j hj => HD.out j (Nat.lt_of_lt_of_le hj (Nat.le_of_not_lt (by assumption)))
            go_wp2_with (first
              | (go_at_call 12; with_reducible refine (zcall _ _ (v1 hall) hv _).mono ?_; rintro e w' ⟨rfl, hbl⟩)
              | (go_at_call 16; with_reducible refine (zsort _ _).mono ?_; rintro e w' ⟨rfl, rfl⟩)
              | (go_at_call 18; with_reducible refine (zneg _ _).mono ?_; rintro e w' ⟨rfl, rfl⟩))
            go_ret
            exact ⟨rfl, by repeat (first | assumption | refine bl (by assumption) ?_)⟩
        · have v1 : AllD e → realV (⟨#[45]⟩ ++ (A ++ ⟨#[46]⟩ ++ C ++ ⟨#[101]⟩ ++ e)) = bitsR true (some 0) := fun he1 => val_minus _ _ (zv4 A C e hA0 pA hC0 pC he1 pE)
          have hv : (⟨#[45]⟩ ++ (A ++ ⟨#[46]⟩ ++ C ++ ⟨#[101]⟩ ++ e)).size ≤ 140737488351232 := by
            first | (simp only [ByteArray.size_append, sz1]; omega) | omega
          go_enter Tryd.func7, Tryd.ntmps7
          go_wp2_with (go_at_call 10; refine (awake_c _).mono ?_; rintro e w' ⟨rfl, hbl⟩)
          go_loop [10] (fun v => ∃ k : Nat, k ≤ e.size ∧ (∀ j < k, isDc (bt e (j : Nat)) = true) ∧ v = .int .i64 k) (fun v => e.size - (intOf v).toNat)
          case atStart => exact ⟨0, Nat.zero_le _, fun j hj => absurd hj (Nat.not_lt_zero _), rfl⟩
          case round =>
            obtain ⟨k, hk, hd, rfl⟩ := hrel
            have HD := Lib.hid hd
            clear hd
            go_upto_region 9 with fail
            case roundEnd =>
              have q0 : k < e.size := by assumption
              have q2 : 48 ≤ ((e[k]'q0).toNat : Int) ∧ ((e[k]'q0).toNat : Int) ≤ 57 := by assumption
              have hd := HD.out
              refine ⟨⟨k + 1, by omega, fun j hj => ?_, rfl⟩, by simp [intOf]; omega⟩
              by_cases h : j < k
              · exact hd j h
              · obtain rfl : j = k := by omega
                exact dig_yes e j q0 q2.1 q2.2
            all_goals
              first
                | (go_ret; exact ⟨rfl, by assumption⟩)
                | skip
            have hall : AllD e := fun j hj => HD.out j (Nat.lt_of_lt_of_le hj (Nat.le_of_not_lt (by assumption)))
            go_wp2_with (first
              | (go_at_call 12; with_reducible refine (zcall _ _ (v1 hall) hv _).mono ?_; rintro e w' ⟨rfl, hbl⟩)
              | (go_at_call 16; with_reducible refine (zsort _ _).mono ?_; rintro e w' ⟨rfl, rfl⟩)
              | (go_at_call 18; with_reducible refine (zneg _ _).mono ?_; rintro e w' ⟨rfl, rfl⟩))
            go_ret
            exact ⟨rfl, by repeat (first | assumption | refine bl (by assumption) ?_)⟩
  · go_enter Tryd.func7, Tryd.ntmps7
    go_wp2_with (go_at_call 10; refine (awake_c _).mono ?_; rintro e w' ⟨rfl, hbl⟩)
    all_goals
      first
        | (exfalso; omega)
        | (go_ret; exact ⟨rfl, by assumption⟩)
end Go.Proofs.YtlgphmpdenkilaaDoor
