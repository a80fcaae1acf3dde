/- scan.Blank: what counts for nothing; its walk. Condition: the text is shorter than 4294967281 bytes. -/
import Derived.Test.YtklkgcogaekokaaDoorIb
namespace Go.Proofs.YtklkgcogaekokaaDoor
open Go.RowKit

/-- do some bytes stand at a place? -/
def pfL : List UInt8 → ByteArray → Nat → Bool
  | [], _, _ => true
  | c :: l, s, i => decide (i < s.size) && (bt s i == (c.toNat : Int)) && pfL l s (i + 1)
theorem drop_data (s : ByteArray) (i : Nat) : (s.extract i s.size).data.toList = s.data.toList.drop i := Lib.extract_to_end s i
theorem pfL_eq (s : ByteArray) : ∀ (l : List UInt8) (i : Nat), l.isPrefixOf (s.data.toList.drop i) = pfL l s i
  | [], _ => by simp [pfL]
  | c :: l, i => by
    unfold pfL
    by_cases hi : i < s.size
    · have hl : i < s.data.toList.length := by rw [Array.length_toList]; exact hi
      rw [List.drop_eq_getElem_cons hl, decide_eq_true hi, Bool.true_and]
      show ((c == s.data.toList[i]) && l.isPrefixOf (s.data.toList.drop (i + 1))) = _
      rw [pfL_eq s l (i + 1)]
      congr 1
      have hb := bt_nat s i hi
      have hg : s.data.toList[i] = s[i] := rfl
      rw [hg, ← hb]
      rw [Bool.eq_iff_iff, beq_iff_eq, beq_iff_eq]
      constructor
      · intro h; rw [h]
      · intro h; exact UInt8.toNat_inj.1 (by omega)
    · rw [List.drop_eq_nil_of_le (by rw [Array.length_toList]; show s.size ≤ i; omega), decide_eq_false hi]; rfl
theorem prefix_c (s p : ByteArray) (i : Nat) (w : World) : Calls Tryd.prog 29 #[.string (s.extract i s.size), .string p] w fun e w' => e = .returned (.bool (pfL p.data.toList s i)) ∧ w = w' := by
  have k := Tryd.strings_HasPrefix (s.extract i s.size) p w
  rw [drop_data] at k
  unfold Lib.hasPrefix at k
  rw [pfL_eq] at k
  exact k.mono (fun e w' h => ⟨h.1, h.2.symm⟩)
theorem pfL_le (s : ByteArray) : ∀ (l : List UInt8) (i : Nat), i ≤ s.size → pfL l s i = true → i + l.length ≤ s.size
  | [], i, h, _ => by simpa using h
  | c :: l, i, h, hp => by
    unfold pfL at hp
    rw [Bool.and_eq_true, Bool.and_eq_true, decide_eq_true_eq] at hp
    have := pfL_le s l (i + 1) (by omega) hp.2
    simp; omega

def bom : ByteArray := ⟨#[239, 187, 191]⟩
def isBl (c : Int) : Bool := c == 9 || c == 10 || c == 13 || c == 32 || c == 44
/-- how many bytes of what counts for nothing begin at a place: a blank, three bytes, or a comment; 0 if none does -/
def blN (s : ByteArray) (i : Nat) : Nat := if isBl (bt s i) then 1 else if pfL bom.data.toList s i then 3 else if bt s i == 35 then el s i else 0
def blF (s : ByteArray) : Nat → Nat → Nat
  | 0, i => i
  | n + 1, i => if i < s.size then (if blN s i = 0 then i else blF s n (i + blN s i)) else i
/-- where what counts for nothing ends -/
def blR (s : ByteArray) (i : Nat) : Nat := blF s (s.size - i) i
theorem blN_le (s : ByteArray) (i : Nat) (h : i < s.size) : i + blN s i ≤ s.size := by
  unfold blN
  split
  · omega
  · split
    · rename_i hp; exact pfL_le s bom.data.toList i (by omega) hp
    · split
      · exact el_le s i (by omega)
      · omega
theorem blF_end (s : ByteArray) (n i : Nat) (h : s.size ≤ i) : blF s n i = i := by
  cases n
  · rfl
  · unfold blF; rw [if_neg (by omega)]
theorem blF_fuel (s : ByteArray) : ∀ n m i, s.size ≤ i + n → s.size ≤ i + m → blF s n i = blF s m i
  | 0, m, i, h, _ => by rw [blF_end s m i (by omega)]; rfl
  | n + 1, 0, i, _, h => by rw [blF_end s (n + 1) i (by omega)]; rfl
  | n + 1, m + 1, i, h1, h2 => by
    unfold blF
    by_cases hi : i < s.size
    · rw [if_pos hi, if_pos hi]
      by_cases h0 : blN s i = 0
      · rw [if_pos h0, if_pos h0]
      · rw [if_neg h0, if_neg h0, blF_fuel s n m _ (by omega) (by omega)]
    · rw [if_neg hi, if_neg hi]
theorem blR_step (s : ByteArray) (i : Nat) (hi : i < s.size) : blR s i = if blN s i = 0 then i else blR s (i + blN s i) := by
  have hle := blN_le s i hi
  unfold blR
  obtain ⟨m, hm⟩ : ∃ m, s.size - i = m + 1 := ⟨s.size - i - 1, by omega⟩
  rw [hm]
  conv => lhs; unfold blF
  rw [if_pos hi]
  by_cases h0 : blN s i = 0
  · rw [if_pos h0, if_pos h0]
  · rw [if_neg h0, if_neg h0, blF_fuel s m (s.size - (i + blN s i)) _ (by omega) (by omega)]
theorem blR_end (s : ByteArray) (i : Nat) (h : s.size ≤ i) : blR s i = i := by unfold blR; rw [blF_end s _ i h]
theorem blF_le (s : ByteArray) : ∀ n i, i ≤ s.size → i ≤ blF s n i ∧ blF s n i ≤ s.size
  | 0, i, h => ⟨Nat.le_refl _, h⟩
  | n + 1, i, h => by
    unfold blF
    by_cases hi : i < s.size
    · rw [if_pos hi]
      by_cases h0 : blN s i = 0
      · rw [if_pos h0]; omega
      · rw [if_neg h0]
        have := blF_le s n (i + blN s i) (blN_le s i hi)
        omega
    · rw [if_neg hi]; omega
theorem blR_le (s : ByteArray) (i : Nat) (h : i ≤ s.size) : i ≤ blR s i ∧ blR s i ≤ s.size := blF_le s _ i h

def blanks : ByteArray := ⟨#[9, 10, 13, 32, 44]⟩
theorem idxBl (c : Int) (h : 0 ≤ c ∧ c ≤ 255) : decide (0 ≤ Lib.indexByte blanks.data.toList c.toNat.toUInt8) = isBl c := by
  have : ∀ k : Fin 256, decide (0 ≤ Lib.indexByte blanks.data.toList ((k.1 : Int)).toNat.toUInt8) = isBl (k.1 : Int) := by decide +kernel
  have := this ⟨c.toNat, by omega⟩
  rwa [show ((c.toNat : Nat) : Int) = c by omega] at this

set_option maxHeartbeats 1000000 in
set_option maxRecDepth 100000 in
theorem blank_c (s : ByteArray) (i : Nat) (w : World) (hs : s.size < 4294967281) (hi : i ≤ s.size) : Calls Tryd.prog 19 #[.string s, .int .i64 (i : Int)] w fun e w' => e = .returned (.int .i64 ((blR s i : Nat) : Int)) ∧ Below w.heap.size w w' := by
  have t1 : decide ((i : Int) < 0) = false := decide_eq_false (by omega)
  have t2 : decide ((s.size : Int) < (i : Int)) = false := decide_eq_false (by omega)
  have t2' : decide (s.size < i) = false := decide_eq_false (by omega)
  obtain ⟨Post, hPost⟩ : ∃ Post : Ending → World → Prop, Post = (fun e w' => e = .returned (.int .i64 ((blR s i : Nat) : Int)) ∧ Below w.heap.size w w') := ⟨_, rfl⟩
  rw [← hPost]
  have HPO := Lib.hid hPost
  clear hPost
  go_enter Tryd.func19, Tryd.ntmps19
  go_wp2
  go_step3
  go_wp2
  go_step3
  go_wp2
  go_loopw [1] (fun v wr => ∃ j : Nat, v = .int .i64 (j : Int) ∧ j ≤ s.size ∧ blR s i = blR s j ∧ Below w.heap.size w wr) (fun v _ => s.size - (intOf v).toNat)
  case atStart => exact ⟨i, rfl, hi, rfl, Below.refl _ _⟩
  case round =>
    obtain ⟨j, rfl, hj, hbl, hb⟩ := hrel
    clear t1 t2 t2'
    by_cases hlt : j < s.size
    · have hst := blR_step s j hlt
      have hle := blN_le s j hlt
      have hbt := bt_nat s j hlt
      have hr := bt_range s j
      have l1 := fun wx => slice_from (P := Tryd.prog) 9 rfl s j (j : Int) rfl (by omega) wx
      have kp := fun w => prefix_c s bom j w
      have ki := fun w => indexAny_c (s.extract j s.size) w (by rw [ex_size]; omega)
      have hx := idxBl (bt s j) hr
      have kb := fun w => (Tryd.strings_IndexByte blanks (bt s j) w).mono (fun e w' h => (⟨h.1, h.2.symm⟩ : e = .returned (.int .i64 (Lib.indexByte blanks.data.toList (bt s j).toNat.toUInt8)) ∧ w = w'))
      have hN : blN s j = if isBl (bt s j) then 1 else if pfL bom.data.toList s j then 3 else if bt s j == 35 then el s j else 0 := rfl
      have hE : eolR (s.extract j s.size) 0 = if j + el s j < s.size then ((el s j : Nat) : Int) else -1 := by
        unfold eolR
        rw [el_extract s j 0 (by omega) (by omega), ex_size, Nat.add_zero, Nat.zero_add]
        by_cases h : j + el s j < s.size
        · rw [if_pos h, if_pos (by omega)]
        · rw [if_neg h, if_neg (by omega)]
      have hel := el_le s j (by omega)
      rw [hE] at ki
      obtain ⟨T, hT⟩ : ∃ T, T = s.extract j s.size := ⟨_, rfl⟩
      rw [← hT] at l1 kp ki
      obtain ⟨x, hxx⟩ : ∃ x, x = Lib.indexByte blanks.data.toList (bt s j).toNat.toUInt8 := ⟨_, rfl⟩
      rw [← hxx] at kb hx
      obtain ⟨c, hc⟩ : ∃ c, c = bt s j := ⟨_, rfl⟩
      rw [← hc] at hbt hx kb hN
      obtain ⟨q, hq⟩ : ∃ q, q = pfL bom.data.toList s j := ⟨_, rfl⟩
      rw [← hq] at kp hN
      obtain ⟨n, hn⟩ : ∃ n, n = blN s j := ⟨_, rfl⟩
      rw [← hn] at hst hle hN
      obtain ⟨m, hm⟩ : ∃ m, m = el s j := ⟨_, rfl⟩
      rw [← hm] at ki hN hel
      rw [hst] at hbl
      have HBL := Lib.hid hbl
      have HC := Lib.hid hc
      clear hT hxx hc hq hn hE hr hst hbl
      replace ki : ∀ w : World, Calls Tryd.prog 41 #[.string T, .string ⟨#[13, 10]⟩] w fun e w' => e = .returned (.int .i64 (if j + m < s.size then ((m : Nat) : Int) else -1)) ∧ Below w.heap.size w w' := ki
      replace kp : ∀ w : World, Calls Tryd.prog 29 #[.string T, .string ⟨#[239, 187, 191]⟩] w fun e w' => e = .returned (.bool q) ∧ w = w' := kp
      replace kb : ∀ w : World, Calls Tryd.prog 30 #[.string ⟨#[9, 10, 13, 32, 44]⟩, .int .u8 c] w fun e w' => e = .returned (.int .i64 x) ∧ w = w' := kb
      cases hcb : isBl c
      · rw [hcb] at hx hN
        replace hN : n = if q then 3 else if c == 35 then m else 0 := hN
        clear hcb
        cases q
        · replace hN : n = if c == 35 then m else 0 := hN
          by_cases h35 : c = 35
          · have q1 : (c == 35) = true := beq_iff_eq.2 h35
            rw [q1] at hN
            replace hN : n = m := hN
            have hm1 : 0 < m := by
              rw [hm, el_yes s j hlt (by rw [← HC.out, h35]; decide)]; omega
            subst hN
            have HM := Lib.hid hm
            clear hm h35
            by_cases hfin : j + n < s.size
            · rw [if_pos hfin] at ki
              have q2 : decide ((n : Int) < 0) = false := decide_eq_false (by omega)
              go_wp2_with (first | (go_at_call 30; with_reducible refine (kb _).mono ?_; rintro e w2 ⟨rfl, rfl⟩) | (go_at_call 29; with_reducible refine (kp _).mono ?_; rintro e w2 ⟨rfl, rfl⟩) | (go_at_call 41; with_reducible refine (ki _).mono ?_; rintro e w3 ⟨rfl, hb3⟩))
              go_roundw
              case rel => exact ⟨j + n, by rw [show ((j + n : Nat) : Int) = (j : Int) + n by omega], hle, by rw [HBL.out, if_neg (by omega)], hb.trans (hb3.mono hb.size)⟩
              case measure => simp [intOf]; omega
            · rw [if_neg hfin] at ki
              have he : j + n = s.size := by omega
              have HE := Lib.hid he
              clear he
              go_wp2_with (first | (go_at_call 30; with_reducible refine (kb _).mono ?_; rintro e w2 ⟨rfl, rfl⟩) | (go_at_call 29; with_reducible refine (kp _).mono ?_; rintro e w2 ⟨rfl, rfl⟩) | (go_at_call 41; with_reducible refine (ki _).mono ?_; rintro e w3 ⟨rfl, hb3⟩))
              rw [HPO.out]
              exact ⟨ret_int (by rw [HBL.out, if_neg (by omega), blR_end s _ (by omega), HE.out]), hb.trans (hb3.mono hb.size)⟩
          · have q1 : (c == 35) = false := beq_eq_false_iff_ne.2 h35
            rw [q1] at hN
            replace hN : n = 0 := hN
            subst hN
            clear hm ki hel h35
            go_wp2_with (first | (go_at_call 30; with_reducible refine (kb _).mono ?_; rintro e w2 ⟨rfl, rfl⟩) | (go_at_call 29; with_reducible refine (kp _).mono ?_; rintro e w2 ⟨rfl, rfl⟩))
            rw [HPO.out]
            exact ⟨ret_int (by rw [HBL.out]; rfl), hb⟩
        · replace hN : n = 3 := hN
          subst hN
          clear hm ki hel
          go_wp2_with (first | (go_at_call 30; with_reducible refine (kb _).mono ?_; rintro e w2 ⟨rfl, rfl⟩) | (go_at_call 29; with_reducible refine (kp _).mono ?_; rintro e w2 ⟨rfl, rfl⟩))
          go_roundw
          case rel => exact ⟨j + 3, by rw [show ((j + 3 : Nat) : Int) = (j : Int) + 3 by omega], hle, by rw [HBL.out]; rfl, hb⟩
          case measure => simp [intOf]; omega
      · rw [hcb] at hx hN
        replace hN : n = 1 := hN
        subst hN
        clear hm ki kp hel hcb
        go_wp2_with (go_at_call 30; with_reducible refine (kb _).mono ?_; rintro e w2 ⟨rfl, rfl⟩)
        go_roundw
        case rel => exact ⟨j + 1, by rw [show ((j + 1 : Nat) : Int) = (j : Int) + 1 by omega], hle, by rw [HBL.out]; rfl, hb⟩
        case measure => simp [intOf]; omega
    · rw [blR_end s j (by omega)] at hbl
      have HBL := Lib.hid hbl
      clear hbl
      go_wp2
      rw [HPO.out]
      exact ⟨ret_int (by rw [HBL.out]), hb⟩
end Go.Proofs.YtklkgcogaekokaaDoor
