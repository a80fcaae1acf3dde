/- The walks of num.Number's two closures. Conditions: the two variables hold the text and a place of it. -/
import Derived.Test.YtklkgcogaekokaaDoorNa
import Derived.Test.YtklkgcogaekokaaDoorRc
namespace Go.Proofs.YtklkgcogaekokaaDoor
open Go.RowKit

/-- does one of some bytes stand at a place? -/
def hasB (l : List Int) (t : ByteArray) (a : Nat) : Bool := decide (a < t.size) && l.contains (bt t a)

set_option maxHeartbeats 800000 in
theorem isN_c (l : List Int) (A B : Nat) (t : ByteArray) (a : Nat) (w : World) (hst : St B t a w) (hs : t.size ≤ 140737488351232) (hl : l.length ≤ 2)
    (hc : ∀ j (h : j < l.length), w.cell? ⟨A, j, none⟩ = some (.int .u8 l[j])) :
    Calls Tryd.prog 42 #[.slice (some ⟨A, 0, none⟩) l.length l.length, .pointer (some ⟨B + 1, 0, none⟩), .pointer (some ⟨B, 0, none⟩)] w fun e w' =>
      e = .returned (.bool (hasB l t a)) ∧ St B t (if hasB l t a then a + 1 else a) w' ∧ Below B w w' := by
  have h1 := hst.ct
  have h2 := hst.ca
  have h3 := hst.fa
  obtain ⟨n, hn⟩ : ∃ n, n = l.length := ⟨_, rfl⟩
  rw [← hn] at hl ⊢
  have HP : ∃ Post : Ending → World → Prop, Post = (fun e w' => e = .returned (.bool (hasB l t a)) ∧ St B t (if hasB l t a then a + 1 else a) w' ∧ Below B w w') := ⟨_, rfl⟩
  obtain ⟨Post, hPost⟩ := HP
  rw [← hPost]
  have HPO := Lib.hid hPost
  clear hPost
  have HN := Lib.hid hn
  clear hn
  have HB := Lib.hid (show hasB l t a = (decide (a < t.size) && l.contains (bt t a)) from rfl)
  go_enter Tryd.func42, Tryd.ntmps42
  go_wp2
  go_loop [9] (fun v => ∃ k : Nat, k ≤ n ∧ (∀ j (h : j < l.length), j < k → ¬ (a < t.size ∧ bt t a = l[j])) ∧ v = .int .i64 k) (fun v => n - (intOf v).toNat)
  case atStart => exact ⟨0, Nat.zero_le _, fun j _ hj => absurd hj (Nat.not_lt_zero _), rfl⟩
  case round =>
    obtain ⟨k, hk, hno, rfl⟩ := hrel
    have HNO := Lib.hid hno
    clear hno
    by_cases hlt : k < n
    · have hlk : k < l.length := by rw [← HN.out]; exact hlt
      by_cases ha : a < t.size
      · have hb := bt_nat t a ha
        obtain ⟨x, hx⟩ : ∃ x, x = bt t a := ⟨_, rfl⟩
        rw [← hx] at hb
        have HX := Lib.hid hx
        clear hx
        by_cases heq : x = l[k]
        · have e1 : (x == l[k]) = true := beq_iff_eq.2 heq
          have HQ := Lib.hid heq
          clear heq
          go_wp2
          rw [HPO.out]
          have hh : hasB l t a = true := by
            rw [HB.out, decide_eq_true ha, Bool.true_and, List.contains_iff_mem, ← HX.out, HQ.out]
            exact List.getElem_mem hlk
          rw [hh]
          exact ⟨rfl, by have := hst.put (a + 1); rw [show ((a + 1 : Nat) : Int) = (a : Int) + 1 by omega] at this; exact this, (Below.refl _ _).setCell (by simp) _⟩
        · have e1 : (x == l[k]) = false := beq_eq_false_iff_ne.2 heq
          have HQ := Lib.hid heq
          clear heq
          go_wp2
          case roundEnd =>
            refine ⟨⟨k + 1, by omega, fun j hj hjk => ?_, rfl⟩, by simp [intOf]; omega⟩
            by_cases hjj : j < k
            · exact HNO.out j hj hjj
            · obtain rfl : j = k := by omega
              rintro ⟨_, h2⟩; exact HQ.out (HX.out.trans h2)
      · go_wp2
        case roundEnd =>
          refine ⟨⟨k + 1, by omega, fun j hj hjk => ?_, rfl⟩, by simp [intOf]; omega⟩
          by_cases hjj : j < k
          · exact HNO.out j hj hjj
          · obtain rfl : j = k := by omega
            rintro ⟨h2, _⟩; exact ha h2
    · go_wp2
      rw [HPO.out]
      have hh : hasB l t a = false := by
        rw [HB.out]
        by_cases ha : a < t.size
        · rw [decide_eq_true ha, Bool.true_and, Bool.eq_false_iff]
          intro hm
          obtain ⟨j, hj, hje⟩ := List.mem_iff_getElem.1 (List.contains_iff_mem.1 hm)
          have hlk := HN.out
          exact HNO.out j hj (by omega) ⟨ha, hje.symm⟩
        · rw [decide_eq_false ha, Bool.false_and]
      rw [hh]
      exact ⟨rfl, hst, Below.refl _ _⟩

theorem St.below {B : Nat} {t : ByteArray} {a : Nat} {w w' : World} (h : St B t a w) (hb : Below w.heap.size w w') : St B t a w' where
  size := Nat.lt_of_lt_of_le h.size hb.size
  ct := (hb.cell (p := ⟨B, 0, none⟩) (by have := h.size; show B < _; omega)).trans h.ct
  ca := (hb.cell (p := ⟨B + 1, 0, none⟩) h.size).trans h.ca
  fa := (hb.frozen (p := ⟨B + 1, 0, none⟩) h.size).trans h.fa

set_option maxHeartbeats 800000 in
theorem some_c (B : Nat) (t : ByteArray) (a : Nat) (w : World) (hst : St B t a w) (hs : t.size ≤ 140737488351232) (ha : a ≤ t.size) :
    Calls Tryd.prog 43 #[.pointer (some ⟨B + 1, 0, none⟩), .pointer (some ⟨B, 0, none⟩)] w fun e w' =>
      e = .returned (.bool (!(dn t a == 0))) ∧ St B t (a + dn t a) w' ∧ Below B w w' := by
  have h1 := hst.ct
  have h2 := hst.ca
  have h3 := hst.fa
  have hd : digI t a = ((a + dn t a : Nat) : Int) := by
    unfold digI
    rw [if_neg (by omega)]
    rw [show ((a : Int)).toNat = a by omega]; omega
  have k := fun w => digits2_c t a w hs (by omega)
  rw [hd] at k
  have hle := dn_le t a ha
  have hr : (!(dn t a == 0)) = decide (a < a + dn t a) := by
    by_cases h : dn t a = 0
    · rw [h]; simp
    · rw [beq_eq_false_iff_ne.2 h, decide_eq_true (by omega)]; rfl
  rw [hr]
  obtain ⟨b, hb⟩ : ∃ b, b = a + dn t a := ⟨_, rfl⟩
  rw [← hb] at k hle ⊢
  clear hr hd hb
  go_enter Tryd.func43, Tryd.ntmps43
  go_wp2_with (go_at_call 44; with_reducible refine (k _).mono ?_; rintro e w' ⟨rfl, hbl⟩; have hS := hst.below hbl; have g1 := hS.ct; have g2 := hS.ca; have g3 := hS.fa)
  go_ret
  exact ⟨rfl, hS.put b, (hbl.mono (by have := hst.size; omega)).setCell (by simp) _⟩
end Go.Proofs.YtklkgcogaekokaaDoor
