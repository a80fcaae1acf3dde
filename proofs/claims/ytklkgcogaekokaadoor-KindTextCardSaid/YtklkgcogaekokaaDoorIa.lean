/- strings.IndexAny at "\r\n": where a line ends. Condition: the text is shorter than 4294967281 bytes. -/
import Derived.Test.YtklkgcogaekokaaDoorSc
import Derived.Test.YtklkgcogaekokaaDoorUt
import Derived.Test.YtklkgcogaekokaaDoorLaid
import Derived.BigQuiet
import Derived.Lib.OthersKept
import Derived.Laws.Cover4
namespace Go.Proofs.YtklkgcogaekokaaDoor
open Go.RowKit

def crlf : ByteArray := ⟨#[13, 10]⟩
/-- does no line end with a byte? -/
def noEol (c : Int) : Bool := !(c == 13 || c == 10)
/-- how many bytes stand from a place on up to the end of a line, or of the text -/
def el (s : ByteArray) (i : Nat) : Nat := soF noEol s (s.size - i) i
theorem el_le (s : ByteArray) (i : Nat) (h : i ≤ s.size) : i + el s i ≤ s.size := by
  have := soF_le noEol s (s.size - i) i
  unfold el; omega
theorem el_end (s : ByteArray) (i : Nat) (h : s.size ≤ i) : el s i = 0 := by unfold el; rw [show s.size - i = 0 by omega]; rfl
theorem el_no (s : ByteArray) (i : Nat) (h : noEol (bt s i) = false) : el s i = 0 := by
  unfold el
  cases s.size - i
  · rfl
  · unfold soF; rw [if_neg (by rw [h]; simp)]
theorem el_yes (s : ByteArray) (i : Nat) (hi : i < s.size) (h : noEol (bt s i) = true) : el s i = el s (i + 1) + 1 := by
  unfold el
  rw [show s.size - i = s.size - (i + 1) + 1 by omega]
  conv => lhs; unfold soF
  rw [if_pos h]
theorem el_extract (s : ByteArray) (a i : Nat) (ha : a ≤ s.size) (hi : a + i ≤ s.size) : el (s.extract a s.size) i = el s (a + i) := by
  unfold el
  rw [ex_size, show min s.size s.size - a - i = s.size - (a + i) by omega]
  exact soF_extract noEol s a ha _ i (by omega)
theorem noEol_hi (c : Int) (h : 128 ≤ c) : noEol c = true := by
  unfold noEol
  rw [beq_eq_false_iff_ne.2 (show c ≠ 13 by omega), beq_eq_false_iff_ne.2 (show c ≠ 10 by omega)]; rfl
theorem el_skip (s : ByteArray) : ∀ k i, i + k ≤ s.size → (∀ j < k, 128 ≤ bt s ((i + j : Nat) : Int)) → el s i = k + el s (i + k)
  | 0, i, _, _ => by simp
  | k + 1, i, h, hb => by
    have h0 := hb 0 (by omega)
    rw [Nat.add_zero] at h0
    rw [el_yes s i (by omega) (noEol_hi _ h0), el_skip s k (i + 1) (by omega) (fun j hj => by have := hb (j + 1) (by omega); rw [show i + (j + 1) = i + 1 + j by omega] at this; exact this)]
    rw [show i + 1 + k = i + (k + 1) by omega]; omega
theorem get_bt (s : ByteArray) (i : Nat) (h : i < s.size) : ((s.get! i).toNat : Int) = bt s i := by rw [get_in s i h]; exact bt_nat s i h
/-- the bytes of a character beyond 127, or of none, are beyond 127 -/
theorem dec_hi (s : ByteArray) (i : Nat) (hi : i < s.size) (hb : 128 ≤ bt s i) : i + (Utf8.decode s i).2 ≤ s.size ∧ ∀ j < (Utf8.decode s i).2, 128 ≤ bt s ((i + j : Nat) : Int) := by
  have hd := Lib.decode_at s i
  have g0 := get_bt s i hi
  rcases Lib.decodeN_shape (s.size - i) (s.get! i).toNat (s.get! (i + 1)).toNat (s.get! (i + 2)).toNat (s.get! (i + 3)).toNat with ⟨a, h⟩ | ⟨a, b, c, d, h⟩ | ⟨a, b, c, d, e, g, h⟩ | ⟨a, b, c, d, e, g, m, h⟩ | h
  · omega
  · rw [hd.trans h]
    have g1 := get_bt s (i + 1) (by omega)
    refine ⟨by show i + 2 ≤ _; omega, fun j hj => ?_⟩
    have hj : j < 2 := hj
    have : j = 0 ∨ j = 1 := by omega
    rcases this with rfl | rfl
    · exact hb
    · omega
  · rw [hd.trans h]
    have g1 := get_bt s (i + 1) (by omega)
    have g2 := get_bt s (i + 2) (by omega)
    refine ⟨by show i + 3 ≤ _; omega, fun j hj => ?_⟩
    have hj : j < 3 := hj
    have : j = 0 ∨ j = 1 ∨ j = 2 := by omega
    rcases this with rfl | rfl | rfl
    · exact hb
    · omega
    · omega
  · rw [hd.trans h]
    have g1 := get_bt s (i + 1) (by omega)
    have g2 := get_bt s (i + 2) (by omega)
    have g3 := get_bt s (i + 3) (by omega)
    refine ⟨by show i + 4 ≤ _; omega, fun j hj => ?_⟩
    have hj : j < 4 := hj
    have : j = 0 ∨ j = 1 ∨ j = 2 ∨ j = 3 := by omega
    rcases this with rfl | rfl | rfl | rfl
    · exact hb
    · omega
    · omega
    · omega
  · rw [hd.trans h]
    refine ⟨by show i + 1 ≤ _; omega, fun j hj => ?_⟩
    have hj : j < 1 := hj
    obtain rfl : j = 0 := by omega
    exact hb
theorem el_dec (s : ByteArray) (i : Nat) (hi : i < s.size) (hb : 128 ≤ bt s i) : el s i = (Utf8.decode s i).2 + el s (i + (Utf8.decode s i).2) :=
  el_skip s _ i (dec_hi s i hi hb).1 (dec_hi s i hi hb).2

theorem indexAny_el (s : ByteArray) : ∀ n i, i + n = s.size → Lib.indexAny (s.data.toList.drop i) crlf.data.toList = if el s i < n then ((el s i : Nat) : Int) else -1
  | 0, i, h => by
    rw [List.drop_eq_nil_of_le (by rw [Array.length_toList]; show s.size ≤ i; omega), if_neg (by omega)]; rfl
  | n + 1, i, h => by
    have hi : i < s.size := by omega
    have hl : i < s.data.toList.length := by rw [Array.length_toList]; exact hi
    rw [List.drop_eq_getElem_cons hl]
    have hg : s.data.toList[i] = s[i] := rfl
    have hb := bt_nat s i hi
    have hc : crlf.data.toList.contains s.data.toList[i] = !noEol (bt s i) := by
      rw [hg]
      have hall : ∀ k : Fin 256, crlf.data.toList.contains (UInt8.ofNat k.1) = !noEol (((UInt8.ofNat k.1).toNat : Nat) : Int) := by decide +kernel
      have := hall ⟨(s[i]).toNat, (s[i]).toNat_lt⟩
      rw [byte_of (s[i]) _ rfl, hb] at this
      exact this
    unfold Lib.indexAny
    rw [hc, indexAny_el s n (i + 1) (by omega)]
    cases hn : noEol (bt s i)
    · rw [el_no s i hn, if_pos (show (!false) = true from rfl), if_pos (Nat.succ_pos n)]; rfl
    · rw [el_yes s i hi hn, if_neg (show ¬ (!true) = true by simp)]
      by_cases hq : el s (i + 1) < n
      · rw [if_pos hq, if_neg (show ¬ (((el s (i + 1) : Nat) : Int) == -1) = true by rw [beq_iff_eq]; omega), if_pos (show el s (i + 1) + 1 < n + 1 by omega)]; omega
      · rw [if_neg hq, if_pos (show ((-1 : Int) == -1) = true from rfl), if_neg (show ¬ el s (i + 1) + 1 < n + 1 by omega)]
theorem indexAny_eol (s : ByteArray) : Lib.indexAny s.data.toList crlf.data.toList = if el s 0 < s.size then ((el s 0 : Nat) : Int) else -1 := by
  have := indexAny_el s s.size 0 (by omega)
  rwa [List.drop_zero] at this

/-- strings.IndexRune at "\r\n" -/
def crlfAt (r : Nat) : Int := if r = 13 then 0 else if r = 10 then 1 else -1
theorem idxCrlf (r : Nat) (h : r < 128) : Lib.indexByte crlf.data.toList ((r : Int)).toNat.toUInt8 = crlfAt r := by
  have : ∀ k : Fin 128, Lib.indexByte crlf.data.toList ((k.1 : Int)).toNat.toUInt8 = crlfAt k.1 := by decide +kernel
  exact this ⟨r, h⟩
set_option maxHeartbeats 1000000 in
set_option maxRecDepth 100000 in
theorem crlfRune_err (w : World) : Calls Tryd.prog 71 #[.string crlf, .int .i32 65533] w fun e w' => e = .returned (.int .i64 (-1)) ∧ Below w.heap.size w w' := by
  have n0 := fun (ty : TypeId) => run_next_any (P := Tryd.prog) w crlf 0 ty (by decide)
  have n1 := fun (ty : TypeId) => run_next_any (P := Tryd.prog) w crlf 1 ty (by decide)
  have n2 := fun (ty : TypeId) => run_next_end (P := Tryd.prog) w crlf 2 ty (by decide)
  rw [show Utf8.decode crlf 0 = (13, 1) by decide +kernel] at n0
  rw [show Utf8.decode crlf 1 = (10, 1) by decide +kernel] at n1
  go_enter Tryd.func71, Tryd.ntmps71
  go_wp2
  go_loopw [] (fun wr => ∃ p : Nat, p ≤ 2 ∧ wr = w.iter crlf p) (fun wr => 2 - wr.iterPos w.heap.size)
  case atStart => exact ⟨0, by omega, rfl⟩
  case round =>
    obtain ⟨p, hp, rfl⟩ := hrel
    have : p = 0 ∨ p = 1 ∨ p = 2 := by omega
    rcases this with rfl | rfl | rfl
    · go_wp2
      go_roundw
      case rel => exact ⟨1, by omega, rfl⟩
      case measure => simp
    · go_wp2
      go_roundw
      case rel => exact ⟨2, by omega, rfl⟩
      case measure => simp
    · go_wp2
      go_ret
      exact ⟨rfl, (Below.refl _ w).alloc (Nat.le_refl _) _⟩

theorem crlfRune_lo (r : Nat) (w : World) (h : r < 128) : Calls Tryd.prog 71 #[.string crlf, .int .i32 (r : Int)] w fun e w' => e = .returned (.int .i64 (crlfAt r)) ∧ Below w.heap.size w w' := by
  rw [← idxCrlf r h]
  exact (Tryd.strings_IndexRune_ascii crlf (r : Int) w (by omega) (by omega)).mono (fun e w' hh => ⟨hh.1, by rw [hh.2]; exact Below.refl _ _⟩)

theorem crlfAt_hi (r : Nat) (h : 128 ≤ r) : crlfAt r = -1 := by unfold crlfAt; rw [if_neg (by omega), if_neg (by omega)]
set_option maxHeartbeats 1000000 in
set_option maxRecDepth 100000 in
theorem crlfRune_hi (r : Nat) (w : World) (h : 128 ≤ r) (hv : r < 55296 ∨ (57344 ≤ r ∧ r ≤ 1114111)) (hne : r ≠ 65533) :
    Calls Tryd.prog 71 #[.string crlf, .int .i32 (r : Int)] w fun e w' => e = .returned (.int .i64 (-1)) ∧ Below w.heap.size w w' := by
  obtain ⟨Post, hPost⟩ : ∃ Post : Ending → World → Prop, Post = (fun e w' => e = .returned (.int .i64 (-1)) ∧ Below w.heap.size w w') := ⟨_, rfl⟩
  rw [← hPost]
  have HPO := Lib.hid hPost
  clear hPost
  have kv := fun w => (Tryd.utf8_ValidRune (r : Int) w).mono (fun e w' h => (⟨h.1, h.2.symm⟩ : e = .returned (.bool (Lib.validRune (r : Int))) ∧ w = w'))
  rw [show Lib.validRune (r : Int) = true by unfold Lib.validRune; exact decide_eq_true (by omega)] at kv
  have t1 : decide ((0 : Int) ≤ (r : Int)) = true := decide_eq_true (by omega)
  have t2 : decide ((r : Int) < 128) = false := decide_eq_false (by omega)
  have t3 : ((r : Int) == 65533) = false := beq_eq_false_iff_ne.2 (by omega)
  have cv : ∀ wx : World, (convert 21 9 (.int .i32 (r : Int))).run Tryd.prog wx = .ok (.string (Utf8.encode (r : Int))) wx := fun wx => by
    rw [run_convert_int_string _ _ _ _ _ (by rw [Tryd.underlying21]; rfl) Tryd.underlying9]
  have hE : 2 ≤ (Utf8.encode (r : Int)).size ∧ ((Utf8.encode (r : Int)).size = 2 → 128 ≤ bt (Utf8.encode (r : Int)) 1) := by
    unfold Utf8.encode
    rw [enc_valid r hv, if_neg (by omega)]
    by_cases h2 : r < 2048
    · rw [if_pos h2]
      refine ⟨Nat.le_refl _, fun _ => ?_⟩
      show (128 : Int) ≤ ((UInt8.ofNat (128 + r % 64)).toNat : Int)
      rw [UInt8.toNat_ofNat']
      omega
    · rw [if_neg h2]
      split
      · exact ⟨by show 2 ≤ 3; omega, fun h => absurd h (by show ¬ 3 = 2; omega)⟩
      · exact ⟨by show 2 ≤ 4; omega, fun h => absurd h (by show ¬ 4 = 2; omega)⟩
  have hE4 : (Utf8.encode (r : Int)).size ≤ 4 := encode_size_le _
  obtain ⟨E, hEE⟩ : ∃ E, E = Utf8.encode (r : Int) := ⟨_, rfl⟩
  rw [← hEE] at cv hE hE4
  clear hEE hv hne h
  by_cases h2 : E.size = 2
  · have h1 := hE.2 h2
    have h1' := (bt_range E 1).2
    have hE1 := hE.1
    have hE1' : 1 < E.size := hE1
    have hcr : 1 < crlf.size := by decide
    have hw2 : IntKind.i64.wrap 2 = 2 := by decide
    have hw3 : IntKind.i64.wrap (1 + 1) = 2 := by decide
    have hb := bt_nat E 1 hE1
    rw [show ((1 : Nat) : Int) = 1 from rfl] at hb
    obtain ⟨c, hc⟩ : ∃ c, c = bt E 1 := ⟨_, rfl⟩
    rw [← hc] at h1 hb h1'
    have z2 : (E.size : Int) = 2 := by omega
    have t4 : decide ((1 : Int) < (crlf.size : Int)) = true := by decide
    have t5 : decide (1 < crlf.size) = true := by decide
    have H2 := Lib.hid h2
    have q1 : (c == 10) = false := beq_eq_false_iff_ne.2 (by omega)
    have q2 : ((10 : Int) == c) = false := beq_eq_false_iff_ne.2 (by omega)
    have q3 : ((10 : Int) != c) = true := by rw [bne, q2]; rfl
    have kx : ∀ w : World, Calls Tryd.prog 30 #[.string ByteArray.empty, .int .u8 c] w fun e w' => e = .returned (.int .i64 (-1)) ∧ w' = w := fun w => Tryd.strings_IndexByte ByteArray.empty c w
    have hc1 : ((crlf[1]'(by decide)).toNat : Int) = 10 := by decide
    have l3 : ∀ wx, (Instr.slice 9 (.string crlf) (some (.int .i64 2)) none none).run Tryd.prog wx = .ok (.string ByteArray.empty) wx := fun wx => by
      have := slice_from (P := Tryd.prog) 9 rfl crlf 2 2 rfl (by decide) wx
      rw [show crlf.extract 2 crlf.size = ByteArray.empty by decide +kernel] at this
      exact this
    clear h2 hc hE hE4
    go_enter Tryd.func71, Tryd.ntmps71
    go_wp2_with (go_at_call 91; with_reducible refine (kv _).mono ?_; rintro e w' ⟨rfl, rfl⟩)
    go_step3
    go_wp2
    go_loop [9, 10] (fun i f => i = .int .i64 1 ∧ f = .int .i64 0) (fun _ _ => 0)
    case atStart => exact ⟨rfl, rfl⟩
    case round =>
      obtain ⟨rfl, rfl⟩ := hrel
      go_wp2
      go_step3
      go_wp2
      go_quiet (fail)
      have hbx : Below w.heap.size w (w.drewN nq) := ⟨rfl, rfl, rfl, Nat.le_refl _, fun _ _ => rfl⟩
      generalize w.drewN nq = w2 at hbx ⊢
      go_wp2
      go_quiet ((go_at_call 30; exact Calls.quiet_of_same (kx _)))
      go_wp2
      rw [HPO.out]
      exact ⟨rfl, hbx.trans ⟨rfl, rfl, rfl, Nat.le_refl _, fun _ _ => rfl⟩⟩
  · have t4 : decide ((E.size : Int) - 1 < (crlf.size : Int)) = false := decide_eq_false (by have : crlf.size = 2 := rfl; omega)
    have hE2 : 3 ≤ E.size := by omega
    clear h2 hE
    go_enter Tryd.func71, Tryd.ntmps71
    go_wp2_with (go_at_call 91; with_reducible refine (kv _).mono ?_; rintro e w' ⟨rfl, rfl⟩)
    go_step3
    go_wp2
    go_loop [9, 10] (fun i f => i = .int .i64 ((E.size : Int) - 1) ∧ f = .int .i64 0) (fun _ _ => 0)
    case atStart => exact ⟨rfl, rfl⟩
    case round =>
      obtain ⟨rfl, rfl⟩ := hrel
      go_wp2
      rw [HPO.out]
      exact ⟨rfl, Below.refl _ _⟩

theorem crlfRune_c (r : Nat) (w : World) (hv : r < 55296 ∨ (57344 ≤ r ∧ r ≤ 1114111)) :
    Calls Tryd.prog 71 #[.string crlf, .int .i32 (r : Int)] w fun e w' => e = .returned (.int .i64 (crlfAt r)) ∧ Below w.heap.size w w' := by
  by_cases h : r < 128
  · exact crlfRune_lo r w h
  · rw [crlfAt_hi r (by omega)]
    by_cases he : r = 65533
    · subst he; exact crlfRune_err w
    · exact crlfRune_hi r w (by omega) hv he
end Go.Proofs.YtklkgcogaekokaaDoor
