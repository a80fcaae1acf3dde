/- The walk of lex.Lex. Conditions: the text is shorter than 4294967281 bytes; the token at each place is as it should be (the walk of lex.One). -/
import Derived.RangeFuncBox
import Derived.RangeFuncNested
import Derived.Maps.AppendAt
import Derived.Test.YtklkgcogaekokaaDoorLa
namespace Go.Proofs.YtklkgcogaekokaaDoor
open Go.RowKit Go.Shelf
attribute [local go_sem] Oper.semAt_some

/-- tokens as cells -/
def tkC (t : Tk) : List Value := [.int .i64 t.k, .string t.v, .int .i64 (t.i : Int), .int .i64 (t.p : Int)]
def tksC (l : List Tk) : List Value := l.flatMap tkC
theorem tksC_len (l : List Tk) : (tksC l).length = l.length * 4 := by
  induction l with
  | nil => rfl
  | cons t l ih => show (tkC t ++ tksC l).length = _; rw [List.length_append, ih]; simp [tkC]; omega
theorem tksC_snoc (l : List Tk) (t : Tk) : tksC (l ++ [t]) = tksC l ++ tkC t := by simp [tksC]
def stsC (pre : List (OneT × Nat)) : List Value := tksC (pre.map tkOf)
theorem stsC_snoc (pre : List (OneT × Nat)) (x : OneT × Nat) : stsC (pre ++ [x]) = stsC pre ++ tkC (tkOf x) := by unfold stsC; rw [List.map_append]; exact tksC_snoc _ _
theorem stF_len (s : ByteArray) : ∀ n a, (stF s n a).length ≤ n
  | 0, _ => Nat.le_refl _
  | n + 1, a => by
    unfold stF
    split
    · split
      · have := stF_len s n (blR s (oneT s a).p)
        simp; omega
      · simp
    · simp
/-- what lex.Lex hands back -/
def LexSays (s : ByteArray) (w : World) (e : Ending) (w' : World) : Prop :=
  ∃ v, e = .returned (.tuple #[v, .int .i64 (lexT s).2.1, .int .i64 ((lexT s).2.2 : Int)]) ∧ w'.ownsRow w.heap.size 31 4 v (lexT s).1.length (tksC (lexT s).1) ∧ (v = .slice none 0 0 ↔ (lexT s).1 = []) ∧ Below w.heap.size w w'
theorem infoTok : (Tryd.prog.info? 31).map (fun i => (i.zero, i.size, i.bytes)) = some (some (.agg #[.int .i64 0, .string { data := #[] }, .int .i64 0, .int .i64 0]), 4, 40) := by kernel_rfl

theorem steps_c (s : ByteArray) (w : World) : Calls Tryd.prog 24 #[.string s] w fun e w' => e = .returned (.func (.func 46) #[] #[.pointer (some ⟨w.heap.size, 0, none⟩)]) ∧ w' = w.alloc (.cells #[.string s] 9) := by
  go_enter Tryd.func24, Tryd.ntmps24
  go_wp2
  go_ret
  exact ⟨rfl, rfl⟩

/-- the world in which lex.Lex begins: its three results -/
abbrev lexW (w : World) : World := ((w.alloc (.cells #[.slice none 0 0] 25)).alloc (.cells #[.int .i64 0] 26)).alloc (.cells #[.int .i64 0] 3)
theorem lexW_size (w : World) : (lexW w).heap.size = w.heap.size + 3 := by simp
theorem lexW_below (w : World) : Below w.heap.size w (lexW w) := (((Below.refl _ w).alloc (Nat.le_refl _) _).alloc (by simp) _).alloc (by simp; omega) _
structure Res3 (b : Nat) (v0 : Value) (v1 v2 : Int) (w : World) : Prop where
  b0 : Boxed w b 25 v0
  b1 : Boxed w (b + 1) 26 (.int .i64 v1)
  b2 : Boxed w (b + 1 + 1) 3 (.int .i64 v2)
theorem lexW_res (w : World) : Res3 w.heap.size (.slice none 0 0) 0 0 (lexW w) where
  b0 := ((Boxed.new w _ _).alloc _).alloc _
  b1 := by
    have h := (Boxed.new (w.alloc (.cells #[.slice none 0 0] 25)) 26 (.int .i64 0)).alloc (.cells #[.int .i64 0] 3)
    rw [World.size_alloc] at h; exact h
  b2 := by
    have h := Boxed.new ((w.alloc (.cells #[.slice none 0 0] 25)).alloc (.cells #[.int .i64 0] 26)) 3 (.int .i64 0)
    rw [World.size_alloc, World.size_alloc] at h; exact h
theorem boxed_below {W W' : World} {b : Nat} {t : TypeId} {v : Value} (h : Boxed W b t v) (hb : Below W.heap.size W W') : Boxed W' b t v := (hb.block b h.lt).trans h
theorem Res3.below {b : Nat} {v0 : Value} {v1 v2 : Int} {W W' : World} (h : Res3 b v0 v1 v2 W) (hb : Below W.heap.size W W') : Res3 b v0 v1 v2 W' := ⟨boxed_below h.b0 hb, boxed_below h.b1 hb, boxed_below h.b2 hb⟩
theorem Res3.alloc {b : Nat} {v0 : Value} {v1 v2 : Int} {W : World} (h : Res3 b v0 v1 v2 W) (o : Obj) : Res3 b v0 v1 v2 (W.alloc o) := ⟨h.b0.alloc o, h.b1.alloc o, h.b2.alloc o⟩
theorem Res3.kept {b : Nat} {v0 : Value} {v1 v2 : Int} {W W' : World} {row : Option Nat} (h : Res3 b v0 v1 v2 W) (hg : W.grownBy W' row) (h0 : some b ≠ row) (h1 : some (b + 1) ≠ row) (h2 : some (b + 1 + 1) ≠ row) : Res3 b v0 v1 v2 W' :=
  ⟨h.b0.kept hg h0, h.b1.kept hg h1, h.b2.kept hg h2⟩
theorem Res3.facts {b : Nat} {v0 : Value} {v1 v2 : Int} {W : World} (h : Res3 b v0 v1 v2 W) :
    (W.cell? ⟨b, 0, none⟩ = some v0 ∧ W.frozen? ⟨b, 0, none⟩ = false) ∧ (W.cell? ⟨b + 1, 0, none⟩ = some (.int .i64 v1) ∧ W.frozen? ⟨b + 1, 0, none⟩ = false) ∧ (W.cell? ⟨b + 1 + 1, 0, none⟩ = some (.int .i64 v2) ∧ W.frozen? ⟨b + 1 + 1, 0, none⟩ = false) :=
  ⟨⟨h.b0.cell, h.b0.frozen⟩, ⟨h.b1.cell, h.b1.frozen⟩, ⟨h.b2.cell, h.b2.frozen⟩⟩
/-- the stores into the three results -/
theorem Res3.puts {b : Nat} {v0 : Value} {v1 v2 : Int} {W : World} (h : Res3 b v0 v1 v2 W) (u0 : Value) (u1 u2 : Int) :
    Res3 b u0 u1 u2 (((W.setCell ⟨b, 0, none⟩ u0).setCell ⟨b + 1, 0, none⟩ (.int .i64 u1)).setCell ⟨b + 1 + 1, 0, none⟩ (.int .i64 u2)) where
  b0 := ((h.b0.set u0).other (by omega) _).other (by omega) _
  b1 := ((h.b1.other (by omega) _).set _).other (by omega) _
  b2 := ((h.b2.other (by omega) _).other (by omega) _).set _

theorem four_new {t : TypeId} (W : World) (v0 v1 v2 v3 : Value) (j : Nat) (u : Value) (h : [v0, v1, v2, v3][j]? = some u) : (W.alloc (.cells #[v0, v1, v2, v3] t)).cell? (Addr.add ⟨W.heap.size, 0, none⟩ j) = some u := by
  have := World.cell?_alloc_mark W #[v0, v1, v2, v3] t (0, 0) j
  have h2 : (W.alloc (.cells #[v0, v1, v2, v3] t)).cell? ⟨W.heap.size, j, none⟩ = some u := this.trans (by simpa using h)
  unfold Addr.add
  split
  · rename_i hj; subst hj; exact h2
  · simpa using h2
theorem other_box {W w3 : World} {n₀ B B' k : Nat} {t : TypeId} {u v v' : Value} {xs : List Value} {tmp : Obj} (h : Boxed W B' t u) (hte : t ≠ 31) (hne : B' ≠ B) (hrow : W.ownsRow n₀ 31 4 v k xs)
    (hgrow : (W.alloc tmp).grownBy w3 v.ownBlock) : Boxed (w3.setCell ⟨B, 0, none⟩ v') B' t u := ((h.alloc tmp).kept hgrow (h.not_row hte hrow)).other hne v'
/-- what holds between two rounds -/
def LexI (s : ByteArray) (w : World) (Bo : Nat) (pre : List (OneT × Nat)) (W : World) : Prop :=
  (∀ y ∈ pre, y.1.e = 0) ∧ Boxed W w.heap.size 25 (.slice none 0 0) ∧ Boxed W (w.heap.size + 1) 26 (.int .i64 0) ∧ Boxed W (w.heap.size + 1 + 1) 3 (.int .i64 0) ∧ Boxed W (Bo + 1) 9 (.string s) ∧
    (∃ v, Boxed W Bo 25 v ∧ W.ownsRow w.heap.size 31 4 v pre.length (stsC pre) ∧ (v = .slice none 0 0 ↔ pre = [])) ∧ Below w.heap.size w W
theorem lexI_own (s : ByteArray) (w : World) (Bo D : Nat) (hD : w.heap.size ≤ D) : OwnFrom D (LexI s w Bo) := fun pre X Y row hs hg hr =>
  (OwnFrom.and (ownFrom_pure D (fun pre : List (OneT × Nat) => ∀ y ∈ pre, y.1.e = 0)) (OwnFrom.and (Own.from (boxed_own w.heap.size 25 (fun _ => .slice none 0 0)) D) (OwnFrom.and (Own.from (boxed_own (w.heap.size + 1) 26 (fun _ => .int .i64 0)) D) (OwnFrom.and (Own.from (boxed_own (w.heap.size + 1 + 1) 3 (fun _ => .int .i64 0)) D) (OwnFrom.and (Own.from (boxed_own (Bo + 1) 9 (fun _ => .string s)) D)
    (OwnFrom.and (Own.from (holdsRow_own w.heap.size Bo 25 31 4 (fun pre : List (OneT × Nat) => pre.length) stsC (fun pre v => v = .slice none 0 0 ↔ pre = [])) D) (ownFrom_below (Nat.le_refl _) hD))))))) pre X Y row hs hg hr
/-- where a token goes wrong -/
def LexX (w : World) (c : Code) (pre : List (OneT × Nat)) (W : World) : Prop :=
  (c = .ret ∧ ∃ q x, pre = q ++ [x] ∧ (∀ y ∈ q, y.1.e = 0) ∧ x.1.e ≠ 0 ∧ Boxed W w.heap.size 25 (.slice none 0 0) ∧ Boxed W (w.heap.size + 1) 26 (.int .i64 x.1.e) ∧ Boxed W (w.heap.size + 1 + 1) 3 (.int .i64 (x.1.p : Int))) ∧ Below w.heap.size w W
theorem boxed_owns {W W' : World} {row : Option Nat} {B : Nat} {t : TypeId} {v : Value} (h : Boxed W B t v) (hg : W.grownBy W' row) (hr : ∀ r, row = some r → ∃ o : Obj, W.heap[r]? = some o ∧ o.isCells = false) : Boxed W' B t v :=
  boxed_own (β := Unit) B t (fun _ => v) () W W' row h hg hr
theorem lexX_own (w : World) (D : Nat) (hD : w.heap.size ≤ D) (c : Code) : OwnFrom D (LexX w c) := fun pre X Y row hs hg hr => by
  obtain ⟨⟨hc, q, x, h1, h2, h3, h4, h5, h6⟩, hb⟩ := hs
  have hr' : ∀ r, row = some r → ∃ o : Obj, X.heap[r]? = some o ∧ o.isCells = false := fun r e => (hr r e).2
  exact ⟨⟨hc, q, x, h1, h2, h3, boxed_owns h4 hg hr', boxed_owns h5 hg hr', boxed_owns h6 hg hr'⟩, ownFrom_below (β := Unit) (Nat.le_refl _) hD () X Y row hb hg hr⟩
def stA (x : OneT × Nat) : Array Value := #[.int .i64 (okK x.1), .string (okV x.1), .int .i64 (okI x.1 x.2), .int .i64 (okP x.1), .int .i64 x.1.e, .int .i64 (x.1.p : Int)]
/-- the frame of a round -/
def lexA (s : ByteArray) (b Bo Bx : Nat) (x : OneT × Nat) : Act := { tmps := #[.string s, undef, .pointer (some ⟨b, 0, none⟩), .pointer (some ⟨b + 1, 0, none⟩), .pointer (some ⟨b + 1 + 1, 0, none⟩), .pointer (some ⟨Bo, 0, none⟩), .pointer (some ⟨Bx, 0, none⟩), .string s, .bool true, .bool false, undef, undef, .string s, .func (.func 46) #[] #[.pointer (some ⟨Bo + 1, 0, none⟩)], stV x, undef, undef, undef, undef, undef, undef, undef, undef, undef, undef, undef, undef, undef, undef, undef], defers := [] }
def LexAx (s : ByteArray) (b Bo : Nat) (x : OneT × Nat) (a : Act) (W : World) : Prop := ∃ Bx, Bo + 1 < Bx ∧ W.heap[Bx]? = some (.cells (stA x) 52 (0, 0)) ∧ a = lexA s b Bo Bx x
theorem lexAx_own (s : ByteArray) (b Bo D : Nat) (x : OneT × Nat) (a : Act) : OwnFrom D (fun (_ : Unit) W => LexAx s b Bo x a W) := fun _ X Y row hs hg hr => by
  obtain ⟨Bx, h1, h2, h3⟩ := hs
  refine ⟨Bx, h1, (hg.block Bx (Array.getElem?_eq_some_iff.1 h2).1 (fun e => ?_)).trans h2, h3⟩
  obtain ⟨_, o, ho, hc⟩ := hr Bx e.symm
  rw [h2] at ho; cases ho; cases hc

set_option maxRecDepth 100000 in
set_option maxHeartbeats 4000000 in
theorem lex_c (s : ByteArray) (w : World) (hs : s.size < 4294967281) (hO : OneAll s) : Calls Tryd.prog 12 #[.string s] w (LexSays s w) := by
  have hro : Fence.wide.round = none := rfl
  obtain ⟨i0, hti, hz0, hz1, hz2⟩ := info_parts infoTok
  have km := fun w => callsIn_wide (n := 3 - 1).2 (may_c s w (by omega))
  have hbd := fun w => callsIn_wide (n := 3 - 1).2 (bad_c s w (by omega))
  have hnot : ∀ (x : Bool) (w : World), (Op.unary .not (.bool x)).run Tryd.prog w = .ok (.bool (!x)) w := fun _ _ => rfl
  refine (callsIn_wide (n := 3)).1 ?_
  refine callsIn_of_wp_marks Tryd.func12 rfl trivial ?_ hro
  simp only [Tryd.ntmps12, List.size_toArray, List.length_cons, List.length_nil, Nat.reduceAdd, Nat.reduceSub, Array.replicate_succ, Array.replicate_zero, List.push_toArray, List.append_toArray, List.nil_append, List.cons_append]
  cases hm : mayR s
  · rw [hm] at km
    have HM := Lib.hid hm
    clear hm
    gi_wp2_with (first | (refine ⟨trivial, ?_⟩; gi_at_call 16; refine (km _).mono ?_; rintro e w1 ⟨rfl, hb1⟩) | (refine ⟨trivial, ?_⟩; gi_at_call 23; refine (hbd _).mono ?_; rintro e w2 ⟨rfl, hb2⟩; have hr2 := ((lexW_res w).below hb1).below hb2; obtain ⟨⟨c0, f0⟩, ⟨c1, f1⟩, ⟨c2, f2⟩⟩ := hr2.facts))
    have hr3 := hr2.puts (.slice none 0 0) 2 (badR s)
    have hB3 := (((lexW_below w).trans ((hb1.mono (by rw [lexW_size]; omega)).trans (hb2.mono (by have := hb1.size; rw [lexW_size] at this; omega)))).setCell (p := ⟨w.heap.size, 0, none⟩) (Nat.le_refl _) (.slice none 0 0)).setCell (p := ⟨w.heap.size + 1, 0, none⟩) (Nat.le_succ _) (.int .i64 2)
    have hB4 := hB3.setCell (p := ⟨w.heap.size + 1 + 1, 0, none⟩) (by show w.heap.size ≤ w.heap.size + 1 + 1; omega) (.int .i64 (badR s))
    have hl : lexT s = ([], 2, (badR s).toNat) := by unfold lexT; rw [HM.out]; rfl
    have hn : 0 ≤ badR s := by
      have h := HM.out
      unfold mayR at h
      simpa using h
    refine ⟨.tuple #[.slice none 0 0, .int .i64 2, .int .i64 (badR s)], ?_, ?_⟩
    · obtain ⟨⟨d0, _⟩, ⟨d1, _⟩, ⟨d2, _⟩⟩ := hr3.facts
      generalize ((w2.setCell ⟨w.heap.size, 0, none⟩ (Value.slice none 0 0)).setCell ⟨w.heap.size + 1, 0, none⟩ (.int .i64 2)).setCell ⟨w.heap.size + 1 + 1, 0, none⟩ (.int .i64 (badR s)) = w5 at d0 d1 d2 ⊢
      simp [results, Tryd.f12, go_sem, d0, d1, d2]
    · refine ⟨.slice none 0 0, ?_, ?_, ?_, hB4⟩
      · rw [hl]; show _ = Ending.returned (.tuple #[_, .int .i64 2, .int .i64 (((badR s).toNat : Nat) : Int)]); rw [Int.toNat_of_nonneg hn]
      · rw [hl]; exact World.ownsRow_nil _ _ _ _
      · rw [hl]; simp
  · rw [hm] at km
    have HM := Lib.hid hm
    clear hm
    gi_wp2_with (first | (refine ⟨trivial, ?_⟩; gi_at_call 16; refine (km _).mono ?_; rintro e w1 ⟨rfl, hb1⟩) | (refine ⟨trivial, ?_⟩; gi_at_call 24; refine (callsIn_wide.2 (steps_c s _)).mono ?_; rintro e w' ⟨rfl, rfl⟩))
    have hr1 := (lexW_res w).below hb1
    have hB1 : Below w.heap.size w w1 := (lexW_below w).trans (hb1.mono (by rw [lexW_size]; omega))
    have hz1' : w.heap.size + 3 ≤ w1.heap.size := by have := hb1.size; rwa [lexW_size] at this
    clear hb1
    obtain ⟨Bo, hBo⟩ : ∃ Bo, Bo = w1.heap.size := ⟨_, rfl⟩
    have bO := (Boxed.new w1 25 (.slice none 0 0)).alloc (.cells #[.string s] 9)
    have bN := Boxed.new (w1.alloc (.cells #[.slice none 0 0] 25)) 9 (.string s)
    rw [World.size_alloc] at bN
    rw [← hBo] at bO bN hz1' ⊢
    have hr2 := (hr1.alloc (.cells #[.slice none 0 0] 25)).alloc (.cells #[.string s] 9)
    have hB2 := (hB1.alloc hB1.size (.cells #[.slice none 0 0] 25)).alloc (by rw [World.size_alloc]; have := hB1.size; omega) (.cells #[.string s] 9)
    have hsz2 : ((w1.alloc (.cells #[.slice none 0 0] 25)).alloc (.cells #[.string s] 9)).heap.size = Bo + 2 := by rw [World.size_alloc, World.size_alloc, hBo]
    generalize (w1.alloc (.cells #[.slice none 0 0] 25)).alloc (.cells #[.string s] 9) = w2 at bO bN hr2 hB2 hsz2 ⊢
    have hseq : SeqStopsK Fence.wide (3 - 1) Tryd.prog 46 #[.pointer (some ⟨Bo + 1, 0, none⟩)] (fun x : OneT × Nat => #[stV x]) (KpB (Bo + 1)) (fun ys => ys = stR s) (fun pre => pre <+: stR s) (stR s).length w2 :=
      fun l J Jx W hW hJ _ hY h0 => steps1_in 2 (by omega) l (Bo + 1) W.heap.size s hs hO J Jx hJ hY W (by have := hW.size; omega) ((boxed_below bN hW).cell) h0
    have hlen := stF_len s (s.size + 1) (blR s 0)
    clear hr1 hB1 km hbd hBo
    refine wpIn_rangeFunc_ownH hro (by omega) (gf := 46) (lb := #[.pointer (some ⟨Bo + 1, 0, none⟩)]) rfl trivial (enters_of Tryd.func46 (by kernel_rfl) rfl)
      hseq kpB_t (kpB_b (by omega)) (Below.refl _ _) (fun _ => rfl)
      (LexI s w Bo) (LexX w) (lexI_own s w Bo _ (by omega)) (lexX_own w _ (by omega))
      ⟨by simp, hr2.b0, hr2.b1, hr2.b2, bN, ⟨_, bO, World.ownsRow_nil _ _ _ _, by simp⟩, hB2⟩
      (LexAx s w.heap.size Bo) (lexAx_own s w.heap.size Bo _) ?assign ?body ?done ?stop
    case assign =>
      rintro l pre x W K ⟨hp, b0, b1, b2, bn, ⟨v, bo, hrow, hnil⟩, hB⟩ hK
      unfold stV
      gi_wp2
      refine hK _ _ ((KeepsOthers.alloc _ _).from _) ⟨by simp, (bn.alloc _).trans bn.symm⟩ ⟨hp, b0.alloc _, b1.alloc _, b2.alloc _, bn.alloc _, ⟨v, bo.alloc _, hrow.alloc _, hnil⟩, hB.alloc hB.size _⟩ ⟨W.heap.size, bn.lt, World.alloc_heap_new W _, rfl⟩
    case body =>
      rintro l pre x a' W hl ⟨r, hr⟩ ⟨hp, b0, b1, b2, bn, ⟨v, bo, hrow, hnil⟩, hB⟩ ⟨Bx, hBx, bX, rfl⟩ hlt
      unfold stA at bX
      unfold lexA stV
      have cX : ∀ j u, (#[Value.int .i64 (okK x.1), .string (okV x.1), .int .i64 (okI x.1 x.2), .int .i64 (okP x.1), .int .i64 x.1.e, .int .i64 (x.1.p : Int)] : Array Value)[j]? = some u → W.cell? ⟨Bx, j, none⟩ = some u := fun j u h => by simp only [World.cell?, bX]; exact h
      have c0 := cX 0 _ rfl
      have c1 := cX 1 _ rfl
      have c2 := cX 2 _ rfl
      have c3 := cX 3 _ rfl
      have c4 := cX 4 _ rfl
      have c5 := cX 5 _ rfl
      clear cX
      have hco := bo.cell
      have hg0 := b0.cell
      have hf0 := b0.frozen
      have hg1 := b1.cell
      have hf1 := b1.frozen
      have hg2 := b2.cell
      have hf2 := b2.frozen
      by_cases he : x.1.e = 0
      · have q0 : tkC (tkOf x) = [.int .i64 (okK x.1), .string (okV x.1), .int .i64 (okI x.1 x.2), .int .i64 (okP x.1)] := by
          unfold tkC tkOf okK okV okI okP; simp only [if_pos he]
        have Q0 := Lib.hid q0
        rw [he] at c4
        rw [he]
        have HE := Lib.hid he
        clear q0 he
        obtain ⟨x0, hx0⟩ : ∃ x0, x0 = okK x.1 := ⟨_, rfl⟩
        obtain ⟨x1, hx1⟩ : ∃ x1, x1 = okV x.1 := ⟨_, rfl⟩
        obtain ⟨x2, hx2⟩ : ∃ x2, x2 = okI x.1 x.2 := ⟨_, rfl⟩
        obtain ⟨x3, hx3⟩ : ∃ x3, x3 = okP x.1 := ⟨_, rfl⟩
        rw [← hx0, ← hx1, ← hx2, ← hx3] at Q0
        rw [← hx0] at c0 ⊢
        rw [← hx1] at c1 ⊢
        rw [← hx2] at c2 ⊢
        rw [← hx3] at c3 ⊢
        clear bX hx0 hx1 hx2 hx3 hg0 hf0 hg1 hf1 hg2 hf2
        have hcells := fun j u => four_new (t := 31) W (.int .i64 x0) (.string x1) (.int .i64 x2) (.int .i64 x3) j u
        have hBz := hB.size
        have hlt2 : pre.length + 1 ≤ s.size + 1 := by unfold stR at hlt; omega
        have hb1 : pre.length + 1 ≤ maxLen := by unfold maxLen; omega
        have hb2 : (pre.length + 1) * 40 ≤ 140737488355328 := by omega
        gi_wp2_with (gi_at_builtin; refine wpListIn_append_own _ rfl _ _ 25 rfl w.heap.size 31 i0 (.agg #[.int .i64 0, .string { data := #[] }, .int .i64 0, .int .i64 0]) 4 40 Tryd.underlying25 hti hz0 hz1 hz2 rfl (by decide) _ _ _ rfl (hrow.alloc _) ⟨W.heap.size, 0, none⟩ 1 1 [.int .i64 x0, .string x1, .int .i64 x2, .int .i64 x3] rfl rfl hcells (by simp [Value.oneCell']) hb1 hb2 (by rw [World.size_alloc]; omega) ?_; intro v' w3 hown' hgrow _; obtain ⟨g', cap', rfl⟩ := ownsRow_succ hown'; obtain ⟨hv1, hv2, hr2, hk2, hb2⟩ := bo.appended (by decide) hrow hB.size (by omega) hown' hgrow; have hc1 := hv1.cell; have hf1 := hv1.frozen)
        have bn' := other_box (B := Bo) (v' := .slice (some ⟨g', 0, none⟩) (pre.length + 1) cap') bn (by decide) (by omega) hrow hgrow
        refine ⟨hk2.from _, ⟨hk2.size, Eq.trans (show _ = _ from bn') (Eq.symm (show _ = _ from bn))⟩, ?_, ?_, ?_, ?_, bn', ⟨_, hv2, ?_, ?_⟩, hB.trans hb2⟩
        · intro y hy
          rcases List.mem_append.1 hy with h | h
          · exact hp y h
          · simp at h; rw [h]; exact HE.out
        · exact other_box b0 (by decide) (by omega) hrow hgrow
        · exact other_box b1 (by decide) (by omega) hrow hgrow
        · exact other_box b2 (by decide) (by omega) hrow hgrow
        · rw [stsC_snoc, Q0.out]; simpa using hr2
        · simp
      · have q1 : (x.1.e == 0) = false := beq_eq_false_iff_ne.2 he
        have q2 : (x.1.e != 0) = true := by rw [bne, q1]; rfl
        have HE := Lib.hid he
        obtain ⟨x4, hx4⟩ : ∃ x4, x4 = x.1.e := ⟨_, rfl⟩
        rw [← hx4] at q1 q2 c4 ⊢
        have HX4 := Lib.hid hx4
        clear bX he hx4
        have hr3 := (Res3.mk b0 b1 b2).puts (.slice none 0 0) x4 (x.1.p : Int)
        have hB3 := ((hB.setCell (p := ⟨w.heap.size, 0, none⟩) (Nat.le_refl _) (.slice none 0 0)).setCell (p := ⟨w.heap.size + 1, 0, none⟩) (Nat.le_succ _) (.int .i64 x4)).setCell (p := ⟨w.heap.size + 1 + 1, 0, none⟩) (by show w.heap.size ≤ w.heap.size + 1 + 1; omega) (.int .i64 (x.1.p : Int))
        gi_wp2
        gi_region
        all_goals gi_wp2
        all_goals
          refine ⟨((((KeepsOthers.setCell _ _ _).trans (KeepsOthers.setCell _ _ _)).trans (KeepsOthers.setCell _ _ _)).trans (KeepsOthers.drew _)).from _, ⟨rfl, pre, x, rfl, hp, HE.out, hr3.b0, ?_, hr3.b2⟩, hB3.drew⟩
          rw [← HX4.out]; exact hr3.b1
    case done =>
      rintro D ys W hD rfl ⟨hp, b0, b1, b2, bn, ⟨v, bo, hrow, hnil⟩, hB⟩ hK
      have hl := lexT_all s HM.out hp
      obtain ⟨ba, ln, cp, rfl⟩ : ∃ ba ln cp, v = .slice ba ln cp := by
        rcases hrow.2 with ⟨h, _⟩ | ⟨g, cap, cur, h, _⟩
        · exact ⟨_, _, _, h⟩
        · exact ⟨_, _, _, h⟩
      have hco := bo.cell
      have hg0 := b0.cell
      have hf0 := b0.frozen
      have hg1 := b1.cell
      have hf1 := b1.frozen
      have hg2 := b2.cell
      have hf2 := b2.frozen
      have hr3 := (Res3.mk b0 b1 b2).puts (.slice ba ln cp) 0 (s.size : Int)
      have hB3 := ((hB.setCell (p := ⟨w.heap.size, 0, none⟩) (Nat.le_refl _) (.slice ba ln cp)).setCell (p := ⟨w.heap.size + 1, 0, none⟩) (Nat.le_succ _) (.int .i64 0)).setCell (p := ⟨w.heap.size + 1 + 1, 0, none⟩) (by show w.heap.size ≤ w.heap.size + 1 + 1; omega) (.int .i64 (s.size : Int))
      have hK3 := (((KeepsOthers.setCell W ⟨w.heap.size, 0, none⟩ (.slice ba ln cp)).trans (KeepsOthers.setCell _ ⟨w.heap.size + 1, 0, none⟩ (.int .i64 0))).trans (KeepsOthers.setCell _ ⟨w.heap.size + 1 + 1, 0, none⟩ (.int .i64 (s.size : Int)))).same D _ hK rfl
      have r0 := hrow.kept (grownBy_setCell' W w.heap.size (.slice ba ln cp)) (.inr (b0.not_row (by decide) hrow).symm)
      have r1 := r0.kept (grownBy_setCell' _ (w.heap.size + 1) (.int .i64 0)) (.inr ((b1.other (by omega) (.slice ba ln cp)).not_row (by decide) r0).symm)
      have r2 := r1.kept (grownBy_setCell' _ (w.heap.size + 1 + 1) (.int .i64 (s.size : Int))) (.inr (((b2.other (by omega) (.slice ba ln cp)).other (by omega) _).not_row (by decide) r1).symm)
      have HL := Lib.hid hl
      clear hl
      gi_wp2
      refine ⟨by simp, .inl ⟨_, _, rfl, run_takeDeferred hK3, ?_⟩⟩
      have hgp := fun {b : Nat} {t : TypeId} {u : Value} (h : Boxed (((W.setCell ⟨w.heap.size, 0, none⟩ (.slice ba ln cp)).setCell ⟨w.heap.size + 1, 0, none⟩ (.int .i64 0)).setCell ⟨w.heap.size + 1 + 1, 0, none⟩ (.int .i64 (s.size : Int))) b t u) => boxed_owns h (grownBy_putObj' _ D (.deferred none)) (fun r e => by cases e; exact ⟨_, hK3, rfl⟩)
      have e0 := (hgp hr3.b0).cell
      have e1 := (hgp hr3.b1).cell
      have e2 := (hgp hr3.b2).cell
      refine ⟨.tuple #[(.slice ba ln cp), .int .i64 0, .int .i64 (s.size : Int)], ?_, ?_⟩
      · simp [results, Tryd.f12, go_sem, e0, e1, e2]
      · have hl := HL.out
        refine ⟨.slice ba ln cp, by rw [hl], ?_, ?_, hB3.trans (belowK_b (w := w) (Nat.le_refl _) _ D _ _ (by omega) hK3 rfl rfl)⟩
        · rw [hl]
          have := ownsRow_putObj r2 (.deferred none) hK3 rfl
          show World.ownsRow _ _ _ _ _ ((stR s).map tkOf).length (tksC ((stR s).map tkOf))
          rw [List.length_map]
          exact this
        · rw [hl, hnil]; simp
    case stop =>
      rintro D c pre W hD hpre ⟨⟨rfl, q, x, rfl, hq, hx, b0, b1, b2⟩, hB⟩ hK
      have hl := lexT_bad s HM.out q x hpre hq hx
      have HL := Lib.hid hl
      clear hl
      gi_wp2
      refine ⟨by simp, .inl ⟨_, _, rfl, run_takeDeferred hK, ?_⟩⟩
      have hgp := fun {b : Nat} {t : TypeId} {u : Value} (h : Boxed W b t u) => boxed_owns h (grownBy_putObj' _ D (.deferred none)) (fun r e => by cases e; exact ⟨_, hK, rfl⟩)
      have e0 := (hgp b0).cell
      have e1 := (hgp b1).cell
      have e2 := (hgp b2).cell
      refine ⟨.tuple #[.slice none 0 0, .int .i64 x.1.e, .int .i64 (x.1.p : Int)], ?_, ?_⟩
      · simp [results, Tryd.f12, go_sem, e0, e1, e2]
      · have hl := HL.out
        refine ⟨.slice none 0 0, by rw [hl], ?_, by rw [hl]; simp, hB.trans (belowK_b (w := w) (Nat.le_refl _) _ D _ _ (by omega) hK rfl rfl)⟩
        rw [hl]; exact World.ownsRow_nil _ _ _ _
end Go.Proofs.YtklkgcogaekokaaDoor
