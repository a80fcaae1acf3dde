/- The walk of RealEdges: it returns true. Condition: what comes in is well formed. -/
import Derived.Test.YtlgphmpdenkilaaDoorLzeros
namespace Go.Proofs.YtlgphmpdenkilaaDoor
open Go.RowKit
open Fl

theorem bt_two (c : UInt8) : bt ⟨#[c]⟩ 0 = (c.toNat : Int) := rfl
theorem allD_one (c : UInt8) (h : isDc (c.toNat : Int) = true) : AllD ⟨#[c]⟩ := by
  intro j hj
  have : j < 1 := hj
  obtain rfl : j = 0 := by omega
  exact h
/-- what four digits come to -/
theorem xf_four (a b c d : UInt8) (v1 v2 v3 v4 : Int) (ha : (a.toNat : Int) = 48 + v1) (hb : (b.toNat : Int) = 48 + v2) (hc : (c.toNat : Int) = 48 + v3) (hd : (d.toNat : Int) = 48 + v4)
    (h1 : 0 ≤ v1 ∧ v1 ≤ 9) (h2 : 0 ≤ v2 ∧ v2 ≤ 9) (h3 : 0 ≤ v3 ∧ v3 ≤ 9) (h4 : 0 ≤ v4 ∧ v4 ≤ 9) :
    xf ⟨#[a, b, c, d]⟩ 0 4 = 1000 * v1 + 100 * v2 + 10 * v3 + v4 := by
  have e0 : bt ⟨#[a, b, c, d]⟩ ((0 + 0 : Nat) : Int) = (a.toNat : Int) := rfl
  have e1 : bt ⟨#[a, b, c, d]⟩ ((0 + 1 : Nat) : Int) = (b.toNat : Int) := rfl
  have e2 : bt ⟨#[a, b, c, d]⟩ ((0 + 2 : Nat) : Int) = (c.toNat : Int) := rfl
  have e3 : bt ⟨#[a, b, c, d]⟩ ((0 + 3 : Nat) : Int) = (d.toNat : Int) := rfl
  simp only [xf]
  rw [e0, e1, e2, e3]
  omega
theorem allD_four (a b c d : UInt8) (v1 v2 v3 v4 : Int) (ha : (a.toNat : Int) = 48 + v1) (hb : (b.toNat : Int) = 48 + v2) (hc : (c.toNat : Int) = 48 + v3) (hd : (d.toNat : Int) = 48 + v4)
    (h1 : 0 ≤ v1 ∧ v1 ≤ 9) (h2 : 0 ≤ v2 ∧ v2 ≤ 9) (h3 : 0 ≤ v3 ∧ v3 ≤ 9) (h4 : 0 ≤ v4 ∧ v4 ≤ 9) : AllD ⟨#[a, b, c, d]⟩ := by
  have d1 : ∀ x : Int, 48 ≤ x ∧ x ≤ 57 → isDc x = true := fun x h => by
    unfold isDc; rw [decide_eq_true h.1, decide_eq_true h.2]; rfl
  intro j hj
  have : j < 4 := hj
  match j, this with
  | 0, _ => exact d1 _ (by show 48 ≤ (a.toNat : Int) ∧ (a.toNat : Int) ≤ 57; omega)
  | 1, _ => exact d1 _ (by show 48 ≤ (b.toNat : Int) ∧ (b.toNat : Int) ≤ 57; omega)
  | 2, _ => exact d1 _ (by show 48 ≤ (c.toNat : Int) ∧ (c.toNat : Int) ≤ 57; omega)
  | 3, _ => exact d1 _ (by show 48 ≤ (d.toNat : Int) ∧ (d.toNat : Int) ≤ 57; omega)
theorem trim0_one (c : UInt8) (h : (c.toNat : Int) ≠ 48) : trim0 ⟨#[c]⟩ = ⟨#[c]⟩ := by
  unfold trim0
  rw [cn_no 48 _ 0 (by rw [show ((0 : Nat) : Int) = 0 from rfl, bt_two]; exact h)]
  exact ex_all _

theorem edge_big (c : UInt8) (L : ByteArray) (hc : isDc (c.toNat : Int) = true) (hn : (c.toNat : Int) ≠ 48) (hL : AllD L) (h0 : 0 < L.size) (hx : 402 ≤ xf L 0 L.size) :
    realR ((⟨#[c]⟩ ++ ⟨#[101]⟩) ++ L) = some 9218868437227405312 := by
  have h := head_plain ⟨#[c]⟩ (⟨#[101]⟩ ++ L) (allD_one c hc) (by show 0 < 1; omega) (dn_e L) (by rw [at_one]; decide +kernel)
  rw [ByteArray.append_assoc, exp_plain 101 (by decide +kernel) _ L hL h0 0 _ h, trim0_one c hn]
  unfold valR
  rw [sz1, if_neg (by omega), if_pos (by omega)]
theorem edge_small (c : UInt8) (L : ByteArray) (hc : isDc (c.toNat : Int) = true) (hn : (c.toNat : Int) ≠ 48) (hL : AllD L) (h0 : 0 < L.size) (hx : 402 ≤ xf L 0 L.size) :
    realR ((⟨#[c]⟩ ++ ⟨#[69, 45]⟩) ++ L) = some 0 := by
  have h := head_plain ⟨#[c]⟩ (⟨#[69]⟩ ++ (⟨#[45]⟩ ++ L)) (allD_one c hc) (by show 0 < 1; omega) (dn_one _ _ (by decide)) (by rw [at_one]; decide +kernel)
  rw [show (⟨#[69, 45]⟩ : ByteArray) = ⟨#[69]⟩ ++ ⟨#[45]⟩ from rfl, ByteArray.append_assoc, ByteArray.append_assoc,
    exp_sign 69 (by decide +kernel) 45 true (.inl ⟨rfl, rfl⟩) _ L hL h0 0 _ h, trim0_one c hn]
  unfold valR
  rw [sz1, if_neg (by omega), if_neg (by simp; omega), if_pos (by simp; omega)]

/-- a text that is worth r -/
theorem rcall (t : ByteArray) (b : Bool) (r : Nat) (h : realV t = bitsR b (some r)) (hs : t.size ≤ 140737488351232) (w : World) :
    Calls Tryd.prog 12 #[.string t] w fun e w' => e = .returned (.float .f64 (wd b r)) ∧ Below w.heap.size w w' := by
  have := real_c t w hs
  rw [h] at this; exact this
theorem isort (b : Bool) (w : World) : Calls Tryd.prog 16 #[.float .f64 (wd b 9218868437227405312)] w fun e w' => e = .returned (.int .i64 1) ∧ w = w' := by
  have := sort_c (wd b 9218868437227405312) w (by cases b <;> decide)
  rw [show sortN (wd b 9218868437227405312) = 1 by cases b <;> decide] at this
  exact this
theorem ineg (b : Bool) (w : World) : Calls Tryd.prog 18 #[.float .f64 (wd b 9218868437227405312)] w fun e w' => e = .returned (.bool b) ∧ w = w' := by
  have := negative_c (wd b 9218868437227405312) w (by cases b <;> decide)
  rw [show negB (wd b 9218868437227405312) = b by cases b <;> decide] at this
  exact this

theorem u8_of (v : Int) (h : 0 ≤ v ∧ v < 256) : ((UInt8.ofNat v.toNat).toNat : Int) = v := by
  have : (UInt8.ofNat v.toNat).toNat = v.toNat := by
    rw [UInt8.toNat_ofNat']; exact Nat.mod_eq_of_lt (by omega)
  omega
theorem ab (w : World) (o p : Obj) : Below w.heap.size w ((w.alloc o).alloc p) :=
  ((Below.refl _ w).alloc (Nat.le_refl _) o).alloc (by rw [World.size_alloc]; omega) p
theorem sz2 (a b : UInt8) : (⟨#[a, b]⟩ : ByteArray).size = 2 := rfl
theorem sz4 (a b c d : UInt8) : (⟨#[a, b, c, d]⟩ : ByteArray).size = 4 := rfl
theorem conv1 (w : World) (u : UInt8) :
    (convert 30 9 (.slice (some ⟨w.heap.size, 0, none⟩) 1 1)).run Tryd.prog (w.alloc (Obj.cells #[.int .u8 (u.toNat : Int)] 5)) = .ok (.string ⟨#[u]⟩) (w.alloc (Obj.cells #[.int .u8 (u.toNat : Int)] 5)) := by
  refine run_convert_bytes_back (P := Tryd.prog) _ 30 9 5 ⟨w.heap.size, 0, none⟩ 1 [u] rfl rfl rfl (fun j hj => ?_)
  have : j < 1 := hj
  obtain rfl : j = 0 := by omega
  exact (World.cell?_alloc_mark w _ 5 _ 0).trans rfl
theorem conv4 (w : World) (a b c d : UInt8) :
    (convert 30 9 (.slice (some ⟨w.heap.size, 0, none⟩) 4 4)).run Tryd.prog (w.alloc (Obj.cells #[.int .u8 (a.toNat : Int), .int .u8 (b.toNat : Int), .int .u8 (c.toNat : Int), .int .u8 (d.toNat : Int)] 5))
      = .ok (.string ⟨#[a, b, c, d]⟩) (w.alloc (Obj.cells #[.int .u8 (a.toNat : Int), .int .u8 (b.toNat : Int), .int .u8 (c.toNat : Int), .int .u8 (d.toNat : Int)] 5)) := by
  refine run_convert_bytes_back (P := Tryd.prog) _ 30 9 5 ⟨w.heap.size, 0, none⟩ 4 [a, b, c, d] rfl rfl rfl (fun j hj => ?_)
  have : j < 4 := hj
  have : j = 0 ∨ j = 1 ∨ j = 2 ∨ j = 3 := by omega
  rcases this with rfl | rfl | rfl | rfl
  · exact (World.cell?_alloc_mark w _ 5 _ 0).trans rfl
  · exact (World.cell?_alloc_mark w _ 5 _ 1).trans rfl
  · exact (World.cell?_alloc_mark w _ 5 _ 2).trans rfl
  · exact (World.cell?_alloc_mark w _ 5 _ 3).trans rfl

set_option maxHeartbeats 1600000 in
theorem realEdges_c (c x : Int) (b : Bool) (w : World) (_hc : (Lit.int .u8 c).wf = true) (_hx : (Lit.int .i64 x).wf = true) :
    Calls Tryd.prog 8 #[.int .u8 c, .int .i64 x, .bool b] w fun r w' => r = .returned (.bool true) ∧ Below w.heap.size w w' := by
  by_cases hr : 49 ≤ c ∧ c ≤ 57 ∧ 402 ≤ x ∧ x ≤ 9999
  · obtain ⟨c1, c2, x1, x2⟩ := hr
    have t1 : decide (c < 49) = false := decide_eq_false (by omega)
    have t2 : decide (57 < c) = false := decide_eq_false (by omega)
    have t3 : decide (x < 402) = false := decide_eq_false (by omega)
    have t4 : decide (9999 < x) = false := decide_eq_false (by omega)
    obtain ⟨u, hu⟩ : ∃ u : UInt8, (u.toNat : Int) = c := ⟨_, u8_of c (by omega)⟩
    obtain ⟨d1, h1⟩ : ∃ u : UInt8, (u.toNat : Int) = 48 + x / 1000 := ⟨_, u8_of _ (by omega)⟩
    obtain ⟨d2, h2⟩ : ∃ u : UInt8, (u.toNat : Int) = 48 + x / 100 % 10 := ⟨_, u8_of _ (by omega)⟩
    obtain ⟨d3, h3⟩ : ∃ u : UInt8, (u.toNat : Int) = 48 + x / 10 % 10 := ⟨_, u8_of _ (by omega)⟩
    obtain ⟨d4, h4⟩ : ∃ u : UInt8, (u.toNat : Int) = 48 + x % 10 := ⟨_, u8_of _ (by omega)⟩
    have hcd : isDc (u.toNat : Int) = true := by unfold isDc; rw [decide_eq_true (by omega), decide_eq_true (by omega)]; rfl
    have hL := allD_four d1 d2 d3 d4 _ _ _ _ h1 h2 h3 h4 (by omega) (by omega) (by omega) (by omega)
    have hv := xf_four d1 d2 d3 d4 _ _ _ _ h1 h2 h3 h4 (by omega) (by omega) (by omega) (by omega)
    have hv2 : 402 ≤ xf ⟨#[d1, d2, d3, d4]⟩ 0 (⟨#[d1, d2, d3, d4]⟩ : ByteArray).size := by show 402 ≤ xf _ 0 4; rw [hv]; omega
    have r1 := edge_big u _ hcd (by omega) hL (by show 0 < 4; omega) hv2
    have r2 := edge_small u _ hcd (by omega) hL (by show 0 < 4; omega) hv2
    have f0 : isDc (bt ⟨#[u]⟩ 0) = true := hcd
    have f1 : isDc (bt ((⟨#[u]⟩ ++ ⟨#[101]⟩) ++ ⟨#[d1, d2, d3, d4]⟩) 0) = true := firstA _ _ (by rw [ByteArray.size_append]; show 0 < 1 + 1; omega) (firstA _ _ (by show 0 < 1; omega) f0)
    have f2 : isDc (bt ((⟨#[u]⟩ ++ ⟨#[69, 45]⟩) ++ ⟨#[d1, d2, d3, d4]⟩) 0) = true := firstA _ _ (by rw [ByteArray.size_append]; show 0 < 1 + 2; omega) (firstA _ _ (by show 0 < 1; omega) f0)
    have k4 := fun w => conv4 w d1 d2 d3 d4
    rw [h1, h2, h3, h4] at k4
    have k1 : ∀ (w : World) (o : Obj), (convert 30 9 (.slice (some ⟨w.heap.size + 1, 0, none⟩) 1 1)).run Tryd.prog ((w.alloc o).alloc (Obj.cells #[.int .u8 c] 5))
        = .ok (.string ⟨#[u]⟩) ((w.alloc o).alloc (Obj.cells #[.int .u8 c] 5)) := fun w o => by
      have := conv1 (w.alloc o) u
      rw [hu, World.size_alloc] at this; exact this
    cases b
    · have v1 := val_plain _ f1 _ r1
      have v2 := val_plain _ f2 _ r2
      have z1 : (⟨#[u]⟩ ++ ⟨#[101]⟩ ++ ⟨#[d1, d2, d3, d4]⟩ : ByteArray).size ≤ 140737488351232 := by
        simp only [ByteArray.size_append, sz1, sz4]; omega
      have z2 : (⟨#[u]⟩ ++ ⟨#[69, 45]⟩ ++ ⟨#[d1, d2, d3, d4]⟩ : ByteArray).size ≤ 140737488351232 := by
        simp only [ByteArray.size_append, sz1, sz2, sz4]; omega
      clear r1 r2 f0 f1 f2 hv hv2 hL hcd h1 h2 h3 h4 hu
      go_enter Tryd.func8, Tryd.ntmps8
      go_wp2_with (first
        | (go_at_call 10; refine (awake_c _).mono ?_; rintro e w' ⟨rfl, hbl⟩)
        | (go_at_call 12; (first | with_reducible refine (rcall _ _ _ v1 z1 _).mono ?_ | with_reducible refine (rcall _ _ _ v2 z2 _).mono ?_); rintro e w' ⟨rfl, hbl⟩)
        | (go_at_call 16; (first | with_reducible refine (isort _ _).mono ?_ | with_reducible refine (zsort _ _).mono ?_); rintro e w' ⟨rfl, rfl⟩)
        | (go_at_call 18; (first | with_reducible refine (ineg _ _).mono ?_ | with_reducible refine (zneg _ _).mono ?_); rintro e w' ⟨rfl, rfl⟩))
      go_ret
      rename_i wa ha wb hb
      exact ⟨rfl, bl (bl ha (ab wa _ _)) (bl hb (by assumption))⟩
    · have v1 := val_minus _ _ r1
      have v2 := val_minus _ _ r2
      rw [← ByteArray.append_assoc, ← ByteArray.append_assoc] at v1 v2
      have z1 : (⟨#[45]⟩ ++ ⟨#[u]⟩ ++ ⟨#[101]⟩ ++ ⟨#[d1, d2, d3, d4]⟩ : ByteArray).size ≤ 140737488351232 := by
        simp only [ByteArray.size_append, sz1, sz4]; omega
      have z2 : (⟨#[45]⟩ ++ ⟨#[u]⟩ ++ ⟨#[69, 45]⟩ ++ ⟨#[d1, d2, d3, d4]⟩ : ByteArray).size ≤ 140737488351232 := by
        simp only [ByteArray.size_append, sz1, sz2, sz4]; omega
      clear r1 r2 f0 f1 f2 hv hv2 hL hcd h1 h2 h3 h4 hu
      go_enter Tryd.func8, Tryd.ntmps8
      go_wp2_with (first
        | (go_at_call 10; refine (awake_c _).mono ?_; rintro e w' ⟨rfl, hbl⟩)
        | (go_at_call 12; (first | with_reducible refine (rcall _ _ _ v1 z1 _).mono ?_ | with_reducible refine (rcall _ _ _ v2 z2 _).mono ?_); rintro e w' ⟨rfl, hbl⟩)
        | (go_at_call 16; (first | with_reducible refine (isort _ _).mono ?_ | with_reducible refine (zsort _ _).mono ?_); rintro e w' ⟨rfl, rfl⟩)
        | (go_at_call 18; (first | with_reducible refine (ineg _ _).mono ?_ | with_reducible refine (zneg _ _).mono ?_); rintro e w' ⟨rfl, rfl⟩))
      go_ret
      rename_i wa ha wb hb
      exact ⟨rfl, bl (bl ha (ab wa _ _)) (bl hb (by assumption))⟩
  · go_enter Tryd.func8, Tryd.ntmps8
    go_wp2_with (go_at_call 10; refine (awake_c _).mono ?_; rintro e w' ⟨rfl, hbl⟩)
    all_goals
      first
        | (exfalso; omega)
        | (go_ret; exact ⟨rfl, by assumption⟩)
end Go.Proofs.YtlgphmpdenkilaaDoor
