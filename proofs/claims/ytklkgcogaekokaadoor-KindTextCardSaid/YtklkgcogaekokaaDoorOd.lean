/- lex.One at a text without quotes; out of the text. Condition: the text is no longer than a string that comes in can be. -/
import Derived.Test.YtklkgcogaekokaaDoorLb
import Derived.Test.YtklkgcogaekokaaDoorSm
namespace Go.Proofs.YtklkgcogaekokaaDoor
open Go.RowKit

theorem one_nq (s : ByteArray) (i : Nat) (w : World) (hs : s.size ≤ 140737488351232) (hi : i < s.size) (h34 : bt s i ≠ 34) :
    Calls Tryd.prog 17 #[.string s, .int .i64 (i : Int)] w (OneSays s i w) := by
  by_cases h46 : bt s i = 46
  · exact one_dots s i w hs hi h46
  · cases hp : isPu (bt s i)
    · cases hl : isLt (bt s i)
      · cases hn : (bt s i == 45 || isDc (bt s i))
        · exact one_none s i w hs hi h46 hp hl hn h34
        · exact one_number s i w hs hi hn
      · exact one_name s i w hs hi hl
    · exact one_punct s i w hs hi h46 hp
def noQ (s : ByteArray) : Bool := s.data.toList.all fun c => !(c == 34)
theorem oneAll_nq (s : ByteArray) (hs : s.size ≤ 140737488351232) (h : noQ s = true) : OneAll s := fun a w ha => by
  refine one_nq s a w hs ha (fun h34 => ?_)
  unfold noQ at h
  rw [List.all_eq_true] at h
  have hm : s[a] ∈ s.data.toList := List.getElem_mem (l := s.data.toList) (n := a) (by rw [Array.length_toList]; exact ha)
  have h1 := h _ hm
  have h2 := bt_nat s a ha
  have h3 : (s[a]).toNat = 34 := by omega
  have h4 : s[a] = 34 := UInt8.toNat_inj.1 h3
  rw [h4] at h1; cases h1

set_option maxHeartbeats 800000 in
set_option maxRecDepth 100000 in
theorem one_out (s : ByteArray) (i : Int) (w : World) (h : i < 0 ∨ (s.size : Int) ≤ i) :
    Calls Tryd.prog 17 #[.string s, .int .i64 i] w fun e w' => e = .returned (.tuple #[tokV 0 ByteArray.empty 0 0, .int .i64 2, .int .i64 i]) ∧ Below w.heap.size w w' := by
  have hB : Below w.heap.size w (((w.alloc (.cells #[.string s] 9)).alloc (.cells #[.int .i64 i] 3)).alloc (.cells #[.int .i64 0, .string { data := #[] }, .int .i64 0, .int .i64 0] 31)) := (((Below.refl _ w).alloc (Nat.le_refl _) _).alloc (by simp) _).alloc (by simp; omega) _
  by_cases h1 : i < 0
  · have t1 : decide (i < 0) = true := decide_eq_true h1
    clear h h1
    go_enter Tryd.func17, Tryd.ntmps17
    go_wp2
    go_region
    go_wp2
    exact bodyPost_ret (v := .tuple #[tokV 0 ByteArray.empty 0 0, .int .i64 2, .int .i64 i]) (by simp [results, Tryd.results17, go_sem]; rfl) rfl ⟨rfl, hB.drew⟩
  · have t1 : decide (i < 0) = false := decide_eq_false h1
    have t2 : decide ((s.size : Int) ≤ i) = true := decide_eq_true (by omega)
    clear h h1
    go_enter Tryd.func17, Tryd.ntmps17
    go_wp2
    go_region
    go_wp2
    exact bodyPost_ret (v := .tuple #[tokV 0 ByteArray.empty 0 0, .int .i64 2, .int .i64 i]) (by simp [results, Tryd.results17, go_sem]; rfl) rfl ⟨rfl, hB.drew⟩

/-- a token as it is compared -/
def tzOf (t : Tk) : Tz := ⟨t.k, t.v, t.i, t.p⟩
theorem tksC_get (l : List Tk) (j : Nat) (t : Tk) (h : l[j]? = some t) (q : Nat) (u : Value) (hq : (tkC t)[q]? = some u) : (tksC l)[j * 4 + q]? = some u := by
  induction l generalizing j with
  | nil => cases h
  | cons a l ih =>
    show (tkC a ++ tksC l)[j * 4 + q]? = some u
    cases j with
    | zero =>
      cases h
      have : q < (tkC t).length := (List.getElem?_eq_some_iff.1 hq).1
      rw [List.getElem?_append_left (by omega), Nat.zero_mul, Nat.zero_add]; exact hq
    | succ j =>
      have h4 : (tkC a).length = 4 := rfl
      rw [List.getElem?_append_right (by omega), h4, show (j + 1) * 4 + q - 4 = j * 4 + q by omega]
      exact ih j h
/-- what lex.Lex hands back is a slice of the tokens -/
theorem owns_tkAt {w : World} {n₀ : Nat} {v : Value} {l : List Tk} (h : w.ownsRow n₀ 31 4 v l.length (tksC l)) : TkAt w v (l.map tzOf) where
  sl := by
    rw [List.length_map]
    rcases h.2 with ⟨rfl, h0⟩ | ⟨g, cap, cur, rfl, _⟩
    · exact ⟨none, 0, by rw [h0]⟩
    · exact ⟨_, cap, rfl⟩
  el := fun j t hj => by
    rw [List.length_map]
    rw [List.getElem?_map] at hj
    cases hl : l[j]? with
    | none => rw [hl] at hj; cases hj
    | some x =>
      rw [hl] at hj
      cases hj
      rcases h.2 with ⟨_, h0⟩ | ⟨g, cap, cur, rfl, _, hg, _, _, _, ht⟩
      · have := (List.getElem?_eq_some_iff.1 hl).1; omega
      · refine ⟨g, 0, cap, rfl, (Array.getElem?_eq_some_iff.1 hg).1, fun q u hq => ?_⟩
        have h1 := tksC_get l j x hl q u hq
        rw [← ht] at h1
        rw [Nat.zero_add]
        simp only [World.cell?, hg]
        rw [List.getElem?_take] at h1
        split at h1
        · rw [Array.getElem?_toList] at h1; exact h1
        · cases h1
end Go.Proofs.YtklkgcogaekokaaDoor
