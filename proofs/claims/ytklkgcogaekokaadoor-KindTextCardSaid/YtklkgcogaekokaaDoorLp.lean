/- The tokens of a text in plain Lean: strings, block strings, the token at a place, all of them. No condition. -/
import Derived.Test.YtklkgcogaekokaaDoorBl
import Derived.Test.YtklkgcogaekokaaDoorNn
namespace Go.Proofs.YtklkgcogaekokaaDoor
open Go.RowKit

/-- what a digit of a code is worth: -1, if it is none -/
def hexD (c : Int) : Int := if 48 ≤ c ∧ c ≤ 57 then c - 48 else if 97 ≤ c ∧ c ≤ 102 then c - 87 else if 65 ≤ c ∧ c ≤ 70 then c - 55 else -1
def hexOk (s : ByteArray) (i : Nat) : Bool := decide (i + 4 ≤ s.size) && decide (0 ≤ hexD (bt s i)) && decide (0 ≤ hexD (bt s (i + 1 : Nat))) && decide (0 ≤ hexD (bt s (i + 2 : Nat))) && decide (0 ≤ hexD (bt s (i + 3 : Nat)))
def hexN (s : ByteArray) (i : Nat) : Int := if hexOk s i then ((hexD (bt s i) * 16 + hexD (bt s (i + 1 : Nat))) * 16 + hexD (bt s (i + 2 : Nat))) * 16 + hexD (bt s (i + 3 : Nat)) else 0
def escs : ByteArray := ⟨#[34, 92, 47, 98, 102, 110, 114, 116]⟩
def tells : ByteArray := ⟨#[34, 92, 47, 8, 12, 10, 13, 9]⟩
/-- which letter behind a backslash: -1, if none -/
def escK (c : Int) : Int := Lib.indexByte escs.data.toList c.toNat.toUInt8
/-- what begins with a backslash at a place: what it tells, and where it ends; none, if it is wrong -/
def escR (s : ByteArray) (i : Nat) : Option (ByteArray × Nat) :=
  if s.size ≤ i + 1 then none
  else if 0 ≤ escK (bt s (i + 1 : Nat)) then some (tells.extract (escK (bt s (i + 1 : Nat))).toNat ((escK (bt s (i + 1 : Nat))).toNat + 1), i + 2)
  else if !(bt s (i + 1 : Nat) == 117 && hexOk s (i + 2)) then none
  else if hexN s (i + 2) < 55296 ∨ 57343 < hexN s (i + 2) then some (Utf8.encode (hexN s (i + 2)), i + 6)
  else if decide (hexN s (i + 2) < 56320) && (decide (i + 6 < s.size) && bt s (i + 6 : Nat) == 92) && (decide (i + 7 < s.size) && bt s (i + 7 : Nat) == 117) && hexOk s (i + 8) && decide (56320 ≤ hexN s (i + 8)) && decide (hexN s (i + 8) ≤ 57343) then
    some (Utf8.encode (65536 + (hexN s (i + 2) - 55296) * 1024 + hexN s (i + 8) - 56320), i + 12)
  else none
/-- a string from behind its first quote on: what it tells and where it ends, or goes wrong -/
def strF (s : ByteArray) : Nat → Nat → ByteArray → ByteArray × Nat × Bool
  | 0, a, _ => (ByteArray.empty, a, false)
  | n + 1, a, o =>
    if decide (a < s.size) && bt s a == 34 then (o, a + 1, true)
    else if decide (a < s.size) && bt s a == 92 then
      match escR s a with
      | none => (ByteArray.empty, a, false)
      | some (t, e) => strF s n e (o ++ t)
    else if (nextR s a).2 = 0 ∨ (nextR s a).1 = 10 ∨ (nextR s a).1 = 13 then (ByteArray.empty, a, false)
    else strF s n (a + (nextR s a).2) (o ++ s.extract a (a + (nextR s a).2))
def strR (s : ByteArray) (i : Nat) : ByteArray × Nat × Bool := strF s (s.size - i + 1) (i + 1) ByteArray.empty
def quotes3 : ByteArray := ⟨#[34, 34, 34]⟩
def back3 : ByteArray := ⟨#[92, 34, 34, 34]⟩
/-- a block string from behind its first quotes on -/
def rawF (s : ByteArray) : Nat → Nat → ByteArray → ByteArray × Nat × Bool
  | 0, a, _ => (ByteArray.empty, a, false)
  | n + 1, a, o =>
    if pfL quotes3.data.toList s a then (o, a + 3, true)
    else if pfL back3.data.toList s a then rawF s n (a + 4) (o ++ quotes3)
    else if (nextR s a).2 = 0 then (ByteArray.empty, a, false)
    else rawF s n (a + (nextR s a).2) (o ++ s.extract a (a + (nextR s a).2))
def rawR (s : ByteArray) (i : Nat) : ByteArray × Nat × Bool := rawF s (s.size - i + 1) (i + 3) ByteArray.empty
/-- the lines of a text from a place on -/
def lnF (s : ByteArray) : Nat → Nat → List ByteArray
  | 0, i => [s.extract i s.size]
  | n + 1, i => if i + el s i < s.size then s.extract i (i + el s i) :: lnF s n (if pfL crlf.data.toList s (i + el s i) then i + el s i + 2 else i + el s i + 1) else [s.extract i s.size]
def lnR (s : ByteArray) : List ByteArray := lnF s s.size 0
def isSp (c : Int) : Bool := c == 32 || c == 9
/-- how many blanks a line begins with -/
def indR (s : ByteArray) : Nat := soF isSp s s.size 0
def blankR (s : ByteArray) : Bool := decide (indR s = s.size)
/-- the least indent of some lines: none has been met, if it is below 0 -/
def leastR (x : Int) : List ByteArray → Int
  | [] => x
  | s :: l => leastR (if !(blankR s) && (decide (x < 0) || decide ((indR s : Int) < x)) then (indR s : Int) else x) l
def indentR (l : List ByteArray) : Int := leastR (-1) l.tail
def cutR (n : Nat) (s : ByteArray) : ByteArray := s.extract (min n s.size) s.size
def dedentR (l : List ByteArray) : List ByteArray :=
  match l with
  | [] => []
  | s :: l' => s :: l'.map (cutR (indentR l).toNat)
def dropB (l : List ByteArray) : List ByteArray := l.dropWhile blankR
def stripR (l : List ByteArray) : List ByteArray := (dropB (dropB l).reverse).reverse
def joinR : List ByteArray → ByteArray
  | [] => ByteArray.empty
  | [s] => s
  | s :: l => s ++ ⟨#[10]⟩ ++ joinR l
/-- what a raw text tells -/
def foldR (s : ByteArray) : ByteArray := joinR (stripR (dedentR (lnR s)))

def puncts : ByteArray := ⟨#[33, 36, 38, 40, 41, 58, 61, 64, 91, 93, 123, 124, 125]⟩
def isPu (c : Int) : Bool := decide (0 ≤ Lib.indexByte puncts.data.toList c.toNat.toUInt8)
def dots3 : ByteArray := ⟨#[46, 46, 46]⟩
/-- the token at a place: its kind, its text, 0 or what is wrong, and where it ends, or goes wrong -/
structure OneT where
  k : Int
  v : ByteArray
  e : Int
  p : Nat
def tokT (s : ByteArray) (i : Nat) (k : Int) (p : Nat) : OneT := ⟨k, s.extract i p, 0, p⟩
def errT (e : Int) (p : Nat) : OneT := ⟨0, ByteArray.empty, e, p⟩
def numT (s : ByteArray) (i : Nat) : OneT := if (numR s i).2.2 then tokT s i (numR s i).1 (numR s i).2.1 else errT 3 (numR s i).2.1
def rawT (s : ByteArray) (i : Nat) : OneT := if (rawR s i).2.2 then ⟨5, foldR (rawR s i).1, 0, (rawR s i).2.1⟩ else errT 4 (rawR s i).2.1
def strT (s : ByteArray) (i : Nat) : OneT := if (strR s i).2.2 then ⟨5, (strR s i).1, 0, (strR s i).2.1⟩ else errT 4 (strR s i).2.1
def oneT (s : ByteArray) (i : Nat) : OneT :=
  if bt s i == 46 then (if pfL dots3.data.toList s i then tokT s i 1 (i + 3) else errT 2 i)
  else if isPu (bt s i) then tokT s i 1 (i + 1)
  else if isLt (bt s i) then tokT s i 2 (i + nm s i)
  else if bt s i == 45 || isDc (bt s i) then numT s i
  else if bt s i == 34 then (if pfL quotes3.data.toList s i then rawT s i else strT s i)
  else errT 2 i
/-- a token with its place -/
structure Tk where
  k : Int
  v : ByteArray
  i : Nat
  p : Nat
/-- the tokens from a place on: or what is wrong, and where -/
def lexF (s : ByteArray) : Nat → Nat → List Tk → List Tk × Int × Nat
  | 0, a, _ => ([], 2, a)
  | n + 1, a, l =>
    if a < s.size then (if (oneT s a).e = 0 then lexF s n (blR s (oneT s a).p) (l ++ [⟨(oneT s a).k, (oneT s a).v, a, (oneT s a).p⟩]) else ([], (oneT s a).e, (oneT s a).p))
    else (l, 0, s.size)
def lexT (s : ByteArray) : List Tk × Int × Nat := if mayR s then lexF s (s.size + 1) (blR s 0) [] else ([], 2, (badR s).toNat)

theorem lex_1 : lexT ⟨#[123, 97, 40, 98, 58, 45, 49, 41, 125]⟩ = ([⟨1, ⟨#[123]⟩, 0, 1⟩, ⟨2, ⟨#[97]⟩, 1, 2⟩, ⟨1, ⟨#[40]⟩, 2, 3⟩, ⟨2, ⟨#[98]⟩, 3, 4⟩, ⟨1, ⟨#[58]⟩, 4, 5⟩, ⟨3, ⟨#[45, 49]⟩, 5, 7⟩, ⟨1, ⟨#[41]⟩, 7, 8⟩, ⟨1, ⟨#[125]⟩, 8, 9⟩], 0, 9) := by kernel_rfl
theorem one_1 : oneT ⟨#[46, 46, 46, 120]⟩ 0 = ⟨1, ⟨#[46, 46, 46]⟩, 0, 3⟩ := by kernel_rfl
end Go.Proofs.YtklkgcogaekokaaDoor
