/- Proved here: lemmas of an evaluator over the model's code that the claim's text uses (U6 F6 F8 A6 H6 G1 G2 G4). Conditions: those that each lemma states. -/
import Derived.Test.YtemaknoadiaieaaDoorBevD
import Derived.Lib.ValidLaws
import Derived.Lib.Strings
import Derived.Lib.Repeat
import Derived.Lib.Replace
import Derived.Test.YtemaknoadiaieaaDoorRows
import Derived.IntWalk
section
set_option linter.unusedVariables false
namespace Go.Aev

inductive Ty6 where | i32 | u8 | i64 | rs
  deriving DecidableEq
def den6 : Ty6 → Type
  | .i32 | .u8 | .i64 => Int
  | .rs => List Int
abbrev L6 := Leaf Ty6 den6
abbrev E6 := Ent Ty6 den6

def cells6 : (t : Ty6) → den6 t → List L6
  | .i32, (n : Int) => [.int .i32 n]
  | .u8, (n : Int) => [.int .u8 n]
  | .i64, (n : Int) => [.int .i64 n]
  | .rs, (l : List Int) => [.sl .i32 l none]
def dec6 : (t : Ty6) → List L6 → Option (den6 t)
  | .i32, [.int .i32 n] => some n
  | .u8, [.int .u8 n] => some n
  | .i64, [.int .i64 n] => some n
  | .rs, [.sl .i32 l none] => some l
  | _, _ => none
def ofBytes6 : (t : Ty6) → Option (List UInt8 → List (den6 t))
  | .u8 => some fun b => b.map fun c => (c.toNat : Int)
  | _ => none
def toBytes6 : (t : Ty6) → Option (List (den6 t) → List UInt8)
  | .u8 => some fun (l : List Int) => l.map fun n => UInt8.ofNat n.toNat
  | _ => none
def ofRunes6 : (t : Ty6) → Option (List Int → List (den6 t))
  | .i32 => some fun b => b
  | _ => none
def toRunes6 : (t : Ty6) → Option (List (den6 t) → List Int)
  | .i32 => some fun (l : List Int) => l
  | _ => none
def bytes6 : Ty6 → Nat
  | .i32 => 4 | .u8 => 1 | .i64 => 8 | .rs => 24
def U6 : UO Ty6 den6 where
  deq := inferInstance
  cells := cells6
  dec := dec6
  ofBytes := ofBytes6
  toBytes := toBytes6
  ofRunes := ofRunes6
  toRunes := toRunes6
  size := fun _ => 1
  bytes := bytes6

theorem flat_ints (l : List Int) : l.flatMap (fun n => [(.int .i32 n : L6)]) = l.map fun n => .int .i32 n := by
  induction l with
  | nil => rfl
  | cons x l ih => simp [ih]
theorem flat_ints8 (l : List Int) : l.flatMap (fun n => [(.int .u8 n : L6)]) = l.map fun n => .int .u8 n := by
  induction l with
  | nil => rfl
  | cons x l ih => simp [ih]

theorem u6_ok : (U6).Ok where
  pos := fun t => Nat.one_pos
  bpos := fun t => by cases t <;> decide
  len := fun t x => by cases t <;> rfl
  dec := fun t ls x h => by
    simp only [U6] at h ⊢
    unfold dec6 at h
    split at h <;> first | cases h; done | (cases h; rfl)
  ofBytes := fun t f h => by
    cases t <;> simp only [U6, ofBytes6, Option.some.injEq, reduceCtorEq] at h
    subst h
    intro b
    refine ⟨List.length_map .., ?_⟩
    show List.flatMap (cells6 .u8) _ = _
    have h2 := flat_ints8 (b.map fun c => (c.toNat : Int))
    simp only [List.map_map] at h2
    exact h2
  ofRunes := fun t f h => by
    cases t <;> simp only [U6, ofRunes6, reduceCtorEq] at h
    cases h
    intro b
    exact ⟨rfl, flat_ints b⟩
  solid := fun t x lf h => by
    cases t <;> (have h2 := List.mem_singleton.1 h; subst h2; exact ⟨by simp, by simp⟩)
  ofBytes1 := fun _ _ _ => rfl
  ofRunes1 := fun _ _ _ => rfl
  toRunes1 := fun _ _ _ => rfl
  toRunes := fun t f h => by
    cases t <;> simp only [U6, toRunes6, reduceCtorEq] at h
    cases h
    intro l
    exact flat_ints l
  toBytes1 := fun _ _ _ => rfl
  toBytes := fun t f h => by
    cases t <;> simp only [U6, toBytes6, reduceCtorEq] at h
    cases h
    intro l
    exact ⟨l, flat_ints8 l, rfl⟩
end Go.Aev
end

section
set_option linter.unusedVariables false
namespace Go.Aev

abbrev S6 := St Ty6 den6
abbrev T6 := FuncId → List L6 → Option (Bool × E6)

/-- A part of a body. -/
def nav : Code → List Nat → Code
  | c, [] => c
  | .seq a b, i :: p => match i with | 0 => nav a p | _ => nav b p
  | .cond _ a b, i :: p => match i with | 0 => nav a p | _ => nav b p
  | .block _ c, _ :: p => nav c p
  | .loop c, _ :: p => nav c p
  | c, _ => c
def body (f : Func) : Code := match f.body with | some c => c | none => .skip
def cdAt (f : Func) (p : List Nat) : Code := nav (body f) p

def lim4 (l : List Int) : Bool := room l.length 4
def limL (ls : List (List Int)) : Bool := room ls.length 24 && ls.all lim4
def runes6 (s : List UInt8) : List Int := (Conv.runesFrom ⟨s.toArray⟩ s.length 0 #[]).toList.map fun | .int _ n => n | _ => 0

def whiteF (c : Int) : Bool := c == 9 || c == 32
def indentN (l : List Int) : Nat := (l.takeWhile whiteF).length
def indentF (l : List Int) : Int := indentN l
def blankF (l : List Int) : Bool := l.all whiteF
/-- The least indent of lines that are not blank, or -1. -/
def leastF : Int → List (List Int) → Int
  | m, [] => m
  | m, l :: r => leastF (if !blankF l && (decide (m < 0) || decide (indentF l < m)) then indentF l else m) r
def commonF (ls : List (List Int)) : Int := let m := leastF (-1) (ls.drop 1); if m < 0 then 0 else m
def cutF (ls : List (List Int)) : List (List Int) := ls.take 1 ++ (ls.drop 1).map fun l => l.drop (commonF ls).toNat
def trimF (ls : List (List Int)) : List (List Int) := ((ls.dropWhile blankF).reverse.dropWhile blankF).reverse
def sameF (a b : List (List Int)) : Bool := a == b
def dedentF (ls : List (List Int)) : List (List Int) := trimF (cutF ls)
end Go.Aev
namespace Go.Aev
section
variable {Ty : Type} {den : Ty → Type} {R : Type}
/-- A loop's body, with what its head forgets. -/
def lbC (E : Env Ty den) (c : Code) (hid n : Nat) : St Ty den → (Ex → St Ty den → Option R) → Option R := fun s k => evCode E n c s (headK (E.drop hid) k)
end
/-! ### quoted strings -/
def digitF (c : Int) : Bool := decide (48 ≤ c) && decide (c ≤ 57)
def hexF (c : Int) : Int := if digitF c then c - 48 else if decide (97 ≤ c) && decide (c ≤ 102) then c - 87 else if decide (65 ≤ c) && decide (c ≤ 70) then c - 55 else -1
def hexAcc : Int → List Int → Int
  | n, [] => n
  | n, c :: r => if hexF c < 0 then -1 else hexAcc (n * 16 + hexF c) r
def hex4F (l : List Int) : Int := if l.length < 4 then -1 else hexAcc 0 (l.take 4)
def joinF (high low : Int) : Int × Bool := if decide (high < 55296) || decide (56320 ≤ high) || decide (low < 56320) || decide (57344 ≤ low) then (0, false) else (65536 + (high - 55296) * 1024 + (low - 56320), true)
/-- What stands behind a '\\u'. -/
def codedF (l : List Int) : Int × Int :=
  let high := hex4F l
  if high < 0 ∨ (56320 ≤ high ∧ high ≤ 57343) then (0, 0)
  else if high < 55296 ∨ 57343 < high then (high, 6)
  else if 10 ≤ l.length ∧ l[4]? = some 92 ∧ l[5]? = some 117 ∧ (joinF high (hex4F (l.drop 6))).2 = true then ((joinF high (hex4F (l.drop 6))).1, 12) else (0, 0)
def shortF (c : Int) : Int := if c = 34 ∨ c = 92 ∨ c = 47 then c else if c = 98 then 8 else if c = 102 then 12 else if c = 110 then 10 else if c = 114 then 13 else if c = 116 then 9 else -1
def escF : List Int → Int × Int
  | _ :: c :: r => if 0 ≤ shortF c then (shortF c, 2) else if c = 117 then codedF r else (0, 0)
  | _ => (0, 0)
def sourceF (c : Int) : Bool := if c < 32 then c == 9 || (c == 10 || c == 13) else decide (c ≤ 65535) && (decide (c < 55296) || decide (57344 ≤ c))
def validF (c : Int) : Bool := (decide (0 ≤ c) && decide (c < 55296)) || (decide (57343 < c) && decide (c ≤ 1114111))
def inF (c : Int) (t : List UInt8) : Bool := t.any fun b => (b.toNat : Int) == c
def u8F (c : Int) : List Int :=
  if c < 128 then [c]
  else if c < 2048 then [192 + c / 64, 128 + c % 64]
  else if c < 65536 then [224 + c / 4096, 128 + c / 64 % 64, 128 + c % 64]
  else [240 + c / 262144, 128 + c / 4096 % 64, 128 + c / 64 % 64, 128 + c % 64]
def putF (c : Int) : List Int := if validF c then u8F c else []
def toB (l : List Int) : List UInt8 := l.map fun n => UInt8.ofNat n.toNat
def encB (l : List Int) : List UInt8 := toB (l.flatMap u8F)
def encF (l : List Int) : List UInt8 × Bool := if l.all validF then (encB l, true) else ([], false)
def plainF (c : Int) : Bool := sourceF c && !(c == 34) && !(c == 92) && !(c == 10) && !(c == 13)
def unitF (l : List Int) : Int := if l[0]? = some 92 ∧ l[1]? = some 117 then hex4F (l.drop 2) else -1
def pieceF : List Int → Int × Int
  | [] => (0, 0)
  | c :: r => if plainF c then (c, 1) else if c = 92 then escF (c :: r) else (0, 0)
def quotedN : Nat → List Int → Option (List Int)
  | _, [] => some []
  | 0, _ => none
  | n + 1, l => if (pieceF l).2 ≤ 0 then none else (quotedN n (l.drop (pieceF l).2.toNat)).map ((pieceF l).1 :: ·)
def quotedL (l : List Int) : Option (List Int) := quotedN l.length l
def finF : Option (List Int) → List UInt8 × Int
  | some l => ((encF l).1, 0)
  | none => ([], 60)
def quotedF (l : List Int) : List UInt8 × Int := finF (quotedL l)
def catI (a b : List Int) : List Int := a ++ b
/-! ### block strings -/
def smL (l : List Int) : Bool := decide (l.length ≤ 1073741824)
def smLL (ls : List (List Int)) : Bool := decide (ls.length ≤ 1073741824) && ls.all smL
def quotesF : List Int → Bool
  | 34 :: 34 :: 34 :: _ => true
  | _ => false
def openF : List Int → List Int
  | 92 :: 34 :: 34 :: 34 :: r => 34 :: 34 :: 34 :: openF r
  | c :: r => c :: openF r
  | [] => []
/-- No character, and no three quotes by themselves, that may not stand there. -/
def midF : List Int → Bool
  | 92 :: 34 :: 34 :: 34 :: r => midF r
  | c :: r => if !sourceF c || quotesF (c :: r) then false else midF r
  | [] => true
def lastF : Int → List Int → Int
  | _, 92 :: 34 :: 34 :: 34 :: r => lastF 0 r
  | _, c :: r => lastF c r
  | last, [] => last
def okEnd (x : Int) : Bool := !(x == 34) && !(x == 92)
def blockOkF (last : Int) (l : List Int) : Bool := midF l && okEnd (lastF last l)
def endsF : List Int → Bool
  | 10 :: _ => true
  | 13 :: r => !(r.head? == some 10)
  | _ => false
def lineF : List Int → List Int → List (List Int)
  | cur, [] => [cur]
  | cur, c :: r => if endsF (c :: r) then cur :: lineF [] r else if c = 13 then lineF cur r else lineF (cur ++ [c]) r
def linesF (l : List Int) : List (List Int) := lineF [] l
def startsN : Nat → List Int → List Int
  | _, [] => []
  | i, c :: r => if endsF (c :: r) then ((i + 1 : Nat) : Int) :: startsN (i + 1) r else startsN (i + 1) r
def startsF (l : List Int) : List Int := 0 :: startsN 0 l
def joinLF : List (List Int) → List Int
  | [] => []
  | l :: r => l ++ r.flatMap (10 :: ·)
def unmF (l : List Int) : List Int × Bool := if midF l then (openF l, okEnd (lastF 0 l)) else ([], false)
def blockF (l : List Int) : List UInt8 × Int := if blockOkF 0 l then ((encF (joinLF (dedentF (linesF (openF l))))).1, 0) else ([], 60)
def isEsc : List Int → Bool
  | 92 :: 34 :: 34 :: 34 :: _ => true
  | _ => false
end Go.Aev
end

section
set_option linter.unusedVariables false
namespace Go.Aev
open Go.Lib

def smS (s : List UInt8) : Bool := decide (s.length ≤ 67108864)
def smS1 (s : List UInt8) : Bool := decide (s.length ≤ 1048576)
def smL1 (l : List Int) : Bool := decide (l.length ≤ 1048576)
def badL (l : List UInt8) : Bool := decide ((decodeL l).1 = 65533) && decide ((decodeL l).2 = 1)
/-- The characters of the good beginning, and its length. -/
def decN : Nat → List UInt8 → List Int × Nat
  | 0, _ => ([], 0)
  | n + 1, l => if l = [] then ([], 0) else if badL l then ([], 0) else
    (((decodeL l).1 : Int) :: (decN n (l.drop (decodeL l).2)).1, (decodeL l).2 + (decN n (l.drop (decodeL l).2)).2)
def decF (l : List UInt8) : List Int × Nat := decN l.length l
def dgF (l : List UInt8) : Int × Int := (((decodeGoB ⟨l.toArray⟩).1 : Nat), ((decodeGoB ⟨l.toArray⟩).2 : Nat))
def isB (l : List Int) : Bool := l.all fun n => decide (0 ≤ n) && decide (n ≤ 255)
def eqI (a b : List Int) : Bool := a == b
def numF : List Int → Int
  | [a] => a % 128
  | [a, b] => a % 32 * 64 + b % 64
  | [a, b, c] => (a % 16 * 64 + b % 64) * 64 + c % 64
  | [a, b, c, d] => ((a % 8 * 64 + b % 64) * 64 + c % 64) * 64 + d % 64
  | _ => 0
def oneF (l : List Int) : Int × Int := if badL (toB l) then (0, 0) else (((decodeL (toB l)).1 : Nat), ((decodeL (toB l)).2 : Nat))
def splitF (c : Int) : Int × Int × Bool := if decide (c < 65536) || decide (1114111 < c) then (0, 0, false) else (55296 + (c - 65536) / 1024, 56320 + (c - 65536) % 1024, true)
def digC (n : Int) : Int := if n < 10 then 48 + n else 55 + n
def codeF (c : Int) : List Int := [92, 117, digC (c / 4096 % 16), digC (c / 256 % 16), digC (c / 16 % 16), digC (c % 16)]
/-- A character's canonical form in a quoted string. -/
def wrF (c : Int) : List Int :=
  if c = 34 ∨ c = 92 then [92, c] else if c = 8 then [92, 98] else if c = 9 then [92, 116] else if c = 10 then [92, 110] else if c = 12 then [92, 102] else if c = 13 then [92, 114]
  else if (splitF c).2.2 then codeF (splitF c).1 ++ codeF (splitF c).2.1
  else if c < 32 ∨ c = 127 then codeF c else [c]
def qtC (cs : List Int) : List Int := 34 :: cs.flatMap wrF ++ [34]
def qtF (v : List UInt8) : List UInt8 × Int := if (decF v).2 < v.length then ([], 1) else (encB (qtC (decF v).1), 0)
def maskF : List Int → List Int
  | 34 :: 34 :: 34 :: r => 92 :: 34 :: 34 :: 34 :: maskF r
  | c :: r => c :: maskF r
  | [] => []
/-- Is there a block string with these lines? -/
def fitF (ls : List (List Int)) : Bool :=
  !blankF (ls.headD []) && (!blankF (ls.getLastD []) && (decide (ls.length = 1) || ls.any fun l => !blankF l && decide (indentF l = 0)))
def btC (cs : List Int) : List Int := [34, 34, 34] ++ (if decide (1 < (linesF cs).length) || !whiteF (cs.headD 0) then [10] else []) ++ maskF cs ++ [10, 34, 34, 34]
def btF (v : List UInt8) : List UInt8 × Bool :=
  if v = [] then ([34, 34, 34, 34, 34, 34], true)
  else if (decF v).2 < v.length then ([], false)
  else if !(decF v).1.all (fun c => sourceF c && !(c == 13)) then ([], false)
  else if !fitF (linesF (decF v).1) then ([], false)
  else (encB (btC (decF v).1), true)
def insF (t : List UInt8) (n : Nat) : List Int × Bool :=
  if decide (t.length < 2 * n) || (!hasPrefix t (repeatL [34] n) || !hasSuffix t (repeatL [34] n)) then ([], false)
  else (runes6 ((t.drop n).take (t.length - n - n)), true)
def raOk (s old new : List UInt8) : Bool := decide (s.length ≤ 16777216) && (decide (old.length = 1) && decide (new.length ≤ 1000))
end Go.Aev
end

section
set_option linter.unusedVariables false
namespace Go.Aev
open Go.Proofs
theorem tbSlice {Ty : Type} {den : Ty → Type} {P : Program} {U : UO Ty den} {t e : TypeId} {u : Ty} (h1 : P.underlying t = some (.slice e))
    (h2 : (match P.info? e with
      | some i => Nat.beq i.size (U.size u) && (Nat.beq i.bytes (U.bytes u) && (match i.zero with | some z => Nat.beq z.cells.size (U.size u) | none => false))
      | none => false) = true) : TbOk P U t (.slice u e) := by
  refine ⟨h1, ?_⟩
  split at h2
  · rename_i i hi
    simp only [Bool.and_eq_true, Nat.beq_eq] at h2
    obtain ⟨h3, h4, h5⟩ := h2
    split at h5
    · rename_i z hz
      exact ⟨i, z, hi, h3, h4, hz, Nat.eq_of_beq_eq_true h5⟩
    · cases h5
  · cases h2

def tb6 (t : TypeId) : TK Ty6 :=
  match t with
  | 3 | 22 => .int .i64
  | 4 => .bool
  | 5 => .int .u8
  | 9 => .str
  | 21 => .int .i32
  | 28 => .slice .i32 21
  | 47 => .slice .rs 28
  | 44 => .slice .u8 5
  | 82 => .slice .i64 3
  | 88 => .int .u32
  | _ => .other

theorem tb6_ok (t : TypeId) : TbOk Tryd.prog U6 t (tb6 t) := by
  unfold tb6
  split
  · exact Tryd.underlying3
  · exact Tryd.underlying22
  · exact Tryd.underlying4
  · exact Tryd.underlying5
  · exact Tryd.underlying9
  · exact Tryd.underlying21
  · exact tbSlice Tryd.underlying28 (by kernel_rfl)
  · exact tbSlice Tryd.underlying47 (by kernel_rfl)
  · exact tbSlice Tryd.underlying44 (by kernel_rfl)
  · exact tbSlice Tryd.underlying82 (by kernel_rfl)
  · exact Tryd.underlying88
  · trivial

def mk6 (T : T6) (cons : FuncId → Option Nat) (drop : Nat → List Nat) (nt : Nat) : Env Ty6 den6 := ⟨U6, tb6, T, cons, drop, nt⟩

def S41 : List L6 → Option (Bool × E6)
  | [.int .i32 a0] => some (true, .one (.bool (whiteF a0)))
  | _ => none
def S28 : List L6 → Option (Bool × E6)
  | [.sl .i32 a0 none] => some (lim4 a0, .one (.int .i64 (indentF a0)))
  | _ => none
def S27 : List L6 → Option (Bool × E6)
  | [.sl .i32 a0 none] => some (lim4 a0, .one (.bool (blankF a0)))
  | _ => none
def S56 : List L6 → Option (Bool × E6)
  | [.int .i32 a0] => some (true, .one (.bool (whiteF a0)))
  | _ => none
def S42 : List L6 → Option (Bool × E6)
  | [.sl .i32 a0 none] => some (lim4 a0, .one (.int .i64 (indentF a0)))
  | _ => none
def S30 : List L6 → Option (Bool × E6)
  | [.sl .i32 a0 none] => some (lim4 a0, .one (.bool (blankF a0)))
  | _ => none
def S13 : List L6 → Option (Bool × E6)
  | [.str a0] => some (room (List.length a0) 1, .one (.sl .i32 (runes6 a0) (some 1)))
  | _ => none
def S20 : List L6 → Option (Bool × E6)
  | [.sl .i32 a0 none] => some (lim4 a0, .one (.sl .i32 a0 (some 1)))
  | _ => none
def S12 : List L6 → Option (Bool × E6)
  | [.sl .rs a0 none] => some (limL a0, .one (.sl .rs (dedentF a0) (some 1)))
  | _ => none
def S64 : List L6 → Option (Bool × E6)
  | [.int .i32 a0] => some (true, .one (.bool (digitF a0)))
  | _ => none
def S63 : List L6 → Option (Bool × E6)
  | [.int .i32 a0] => some (true, .one (.int .i64 (hexF a0)))
  | _ => none
def S57 : List L6 → Option (Bool × E6)
  | [.sl .i32 a0 none] => some (lim4 a0, .one (.int .i32 (hex4F a0)))
  | _ => none
def S58 : List L6 → Option (Bool × E6)
  | [.int .i32 a0, .int .i32 a1] => some (true, .tup [.int .i32 ((joinF a0 a1).1), .bool ((joinF a0 a1).2)])
  | _ => none
def S43 : List L6 → Option (Bool × E6)
  | [.sl .i32 a0 none] => some (lim4 a0 && decide (2 ≤ List.length a0), .tup [.int .i32 ((codedF (List.drop 2 a0)).1), .int .i64 ((codedF (List.drop 2 a0)).2)])
  | _ => none
def S31 : List L6 → Option (Bool × E6)
  | [.sl .i32 a0 none] => some (lim4 a0, .tup [.int .i32 ((escF a0).1), .int .i64 ((escF a0).2)])
  | _ => none
def S32 : List L6 → Option (Bool × E6)
  | [.int .i32 a0] => some (true, .one (.bool (sourceF a0)))
  | _ => none
def S53 : List L6 → Option (Bool × E6)
  | [.int .i32 a0] => some (true, .one (.bool (sourceF a0)))
  | _ => none
def S44 : List L6 → Option (Bool × E6)
  | [.int .i32 a0] => some (true, .one (.bool (validF a0)))
  | _ => none
def S61 : List L6 → Option (Bool × E6)
  | [.int .i32 a0] => some (true, .one (.bool (validF a0)))
  | _ => none
def S62 : List L6 → Option (Bool × E6)
  | [.int .i32 a0, .str a1] => some (room (List.length a1) 1, .one (.bool (inF a0 a1)))
  | _ => none
def S45 : List L6 → Option (Bool × E6)
  | [.sl .u8 a0 (some 0), .int .i32 a1] => some (room (List.length a0 + 4) 1 && validF a1, .one (.sl .u8 (catI a0 (u8F a1)) (some 0)))
  | _ => none
def S59 : List L6 → Option (Bool × E6)
  | [.sl .u8 a0 (some 0), .int .i32 a1] => some (room (List.length a0 + 4) 1 && validF a1 && decide (128 ≤ a1), .one (.sl .u8 (catI a0 (u8F a1)) (some 0)))
  | _ => none
def S33 : List L6 → Option (Bool × E6)
  | [.sl .i32 a0 none] => some (lim4 a0, .tup [.str ((encF a0).1), .bool ((encF a0).2)])
  | _ => none
def S35 : List L6 → Option (Bool × E6)
  | [.sl .i32 a0 none] => some (lim4 a0, .tup [.str ((encF a0).1), .bool ((encF a0).2)])
  | _ => none
def S50 : List L6 → Option (Bool × E6)
  | [.int .i32 a0] => some (true, .one (.sl .u8 (putF a0) (some 1)))
  | _ => none
def S19 : List L6 → Option (Bool × E6)
  | [.sl .i32 a0 none] => some (lim4 a0, .tup [.str ((quotedF a0).1), .int .i64 ((quotedF a0).2)])
  | _ => none
def S22 : List L6 → Option (Bool × E6)
  | [.sl .i32 a0 none] => some (smL a0, .tup [.str ((blockF a0).1), .int .i64 ((blockF a0).2)])
  | _ => none
def S18 : List L6 → Option (Bool × E6)
  | [] => some (true, .one (.bool true))
  | _ => none
def S36 : List L6 → Option (Bool × E6)
  | [.sl .i32 a0 none] => some (smL a0, .tup [.sl .i32 ((unmF a0).1) (some 1), .bool ((unmF a0).2)])
  | _ => none
def S37 : List L6 → Option (Bool × E6)
  | [.sl .i32 a0 none] => some (smL a0, .one (.sl .rs (linesF a0) (some 1)))
  | _ => none
def S39 : List L6 → Option (Bool × E6)
  | [.sl .i32 a0 none] => some (smL a0, .one (.sl .rs (linesF a0) (some 1)))
  | _ => none
def S51 : List L6 → Option (Bool × E6)
  | [.sl .i32 a0 none] => some (lim4 a0, .one (.bool (quotesF a0)))
  | _ => none
def S52 : List L6 → Option (Bool × E6)
  | [.sl .i32 a0 none, .int .i64 a1] => some (lim4 a0 && decide (0 ≤ a1) && decide (a1 < (List.length a0 : Int)), .one (.bool (endsF (List.drop (Int.toNat a1) a0))))
  | _ => none
def S55 : List L6 → Option (Bool × E6)
  | [.sl .i32 a0 none] => some (smL a0, .one (.sl .i64 (startsF a0) (some 1)))
  | _ => none
def S215 : List L6 → Option (Bool × E6)
  | [.str a0] => some (smS a0, .one (.bool (Go.Lib.validD a0)))
  | _ => none
def S217 : List L6 → Option (Bool × E6)
  | [.str a0, .str a1] => some (smS a0 && smS a1, .one (.bool (Go.Lib.hasPrefix a0 a1)))
  | _ => none
def S237 : List L6 → Option (Bool × E6)
  | [.str a0, .str a1] => some (smS a0 && smS a1, .one (.bool (Go.Lib.hasSuffix a0 a1)))
  | _ => none
def S218 : List L6 → Option (Bool × E6)
  | [.str a0, .str a1, .str a2] => some (raOk a0 a1 a2, .one (.str (Go.Lib.replaceAll a0 a1 a2)))
  | _ => none
def S219 : List L6 → Option (Bool × E6)
  | [.str a0, .int .i64 a1] => some (decide (List.length a0 ≤ 1) && decide (0 ≤ a1) && decide (a1 ≤ 1000), .one (.str (Go.Lib.repeatL a0 (Int.toNat a1))))
  | _ => none
def S249 : List L6 → Option (Bool × E6)
  | [.str a0] => some (true, .tup [.int .i32 ((dgF a0).1), .int .i64 ((dgF a0).2)])
  | _ => none
def S220 : List L6 → Option (Bool × E6)
  | [.str a0] => some (smS a0, .tup [.sl .i32 ((decF a0).1) (some 1), .int .i64 (((decF a0).2 : Nat) : Int)])
  | _ => none
def S277 : List L6 → Option (Bool × E6)
  | [.sl .u8 a0 none, .sl .u8 a1 none] => some (room (List.length a0) 1 && room (List.length a1) 1, .one (.bool (eqI a0 a1)))
  | _ => none
def S276 : List L6 → Option (Bool × E6)
  | [.sl .u8 a0 none] => some (isB a0 && decide (1 ≤ List.length a0) && decide (List.length a0 ≤ 4), .one (.int .i32 (numF a0)))
  | _ => none
def S254 : List L6 → Option (Bool × E6)
  | [.sl .u8 a0 none] => some (isB a0 && decide (1 ≤ List.length a0) && room (List.length a0) 1, .tup [.int .i32 ((oneF a0).1), .int .i64 ((oneF a0).2)])
  | _ => none
def S223 : List L6 → Option (Bool × E6)
  | [.sl .u8 a0 none] => some (isB a0 && smL a0, .tup [.sl .i32 ((decF (toB a0)).1) (some 1), .int .i64 (((decF (toB a0)).2 : Nat) : Int)])
  | _ => none
def S250 : List L6 → Option (Bool × E6)
  | [.int .i32 a0] => some (true, .tup [.int .i32 ((splitF a0).1), .int .i32 ((splitF a0).2.1), .bool ((splitF a0).2.2)])
  | _ => none
def S256 : List L6 → Option (Bool × E6)
  | [.int .i32 a0] => some (true, .tup [.int .i32 ((splitF a0).1), .int .i32 ((splitF a0).2.1), .bool ((splitF a0).2.2)])
  | _ => none
def S251 : List L6 → Option (Bool × E6)
  | [.sl .i32 a0 (some 0), .int .i32 a1] => some (room (List.length a0 + 6) 4 && decide (0 ≤ a1) && decide (a1 ≤ 65535), .one (.sl .i32 (catI a0 (codeF a1)) (some 0)))
  | _ => none
def S221 : List L6 → Option (Bool × E6)
  | [.sl .i32 a0 (some 0), .int .i32 a1] => some (room (List.length a0 + 12) 4 && validF a1, .one (.sl .i32 (catI a0 (wrF a1)) (some 0)))
  | _ => none
def S255 : List L6 → Option (Bool × E6)
  | [.int .i32 a0] => some (decide (0 ≤ a0) && decide (a0 ≤ 65535), .one (.str (encB (codeF a0))))
  | _ => none
def S224 : List L6 → Option (Bool × E6)
  | [.int .i32 a0] => some (validF a0, .one (.str (encB (wrF a0))))
  | _ => none
def S207 : List L6 → Option (Bool × E6)
  | [.str a0] => some (smS a0, .tup [.str ((qtF a0).1), .int .i64 ((qtF a0).2)])
  | _ => none
def S208 : List L6 → Option (Bool × E6)
  | [.str a0] => some (smS a0, .tup [.str ((qtF a0).1), .int .i64 ((qtF a0).2)])
  | _ => none
def S227 : List L6 → Option (Bool × E6)
  | [.sl .rs a0 none] => some (limL a0 && decide (1 ≤ List.length a0), .one (.bool (fitF a0)))
  | _ => none
def S232 : List L6 → Option (Bool × E6)
  | [.sl .rs a0 none] => some (limL a0 && decide (1 ≤ List.length a0), .one (.bool (fitF a0)))
  | _ => none
def S234 : List L6 → Option (Bool × E6)
  | [.sl .i32 a0 none] => some (smL a0, .one (.sl .i32 (maskF a0) (some 1)))
  | _ => none
def S209 : List L6 → Option (Bool × E6)
  | [.str a0] => some (smS a0, .tup [.str ((btF a0).1), .bool ((btF a0).2)])
  | _ => none
def S210 : List L6 → Option (Bool × E6)
  | [.str a0] => some (smS a0, .tup [.str ((btF a0).1), .bool ((btF a0).2)])
  | _ => none
def S212 : List L6 → Option (Bool × E6)
  | [.str a0, .int .i64 a1] => some (smS a0 && decide (0 ≤ a1) && decide (a1 ≤ 1000), .tup [.sl .i32 ((insF a0 (Int.toNat a1)).1) (some 1), .bool ((insF a0 (Int.toNat a1)).2)])
  | _ => none
def S203 : List L6 → Option (Bool × E6)
  | [.str a0] => some (smS1 a0, .one (.bool true))
  | _ => none
def S204 : List L6 → Option (Bool × E6)
  | [.str a0, .sl .i32 a1 none] => some (smS1 a0 && smL1 a1, .one (.bool true))
  | _ => none
def S205 : List L6 → Option (Bool × E6)
  | [.str a0] => some (smS1 a0, .one (.bool true))
  | _ => none
def S206 : List L6 → Option (Bool × E6)
  | [.str a0, .int .u8 a1] => some (smS1 a0 && decide (0 ≤ a1) && decide (a1 ≤ 255), .one (.bool true))
  | _ => none
end Go.Aev
end

section
set_option linter.unusedVariables false
namespace Go.Aev
section
variable {Ty : Type} {den : Ty → Type} {R : Type}
def loopK (body : St Ty den → (Ex → St Ty den → Option R) → Option R) (m : Nat) (k : Ex → St Ty den → Option R) : Ex → St Ty den → Option R
  | .normal, s => evLoop body m s k
  | e, s => k e s
theorem evLoop_succ (body : St Ty den → (Ex → St Ty den → Option R) → Option R) (m : Nat) (s : St Ty den) (k : Ex → St Ty den → Option R) :
    evLoop body (m + 1) s k = body s (loopK body m k) := by
  simp only [evLoop]
  congr 1
  funext e s'
  cases e <;> rfl
theorem loopK_normal (body : St Ty den → (Ex → St Ty den → Option R) → Option R) (m : Nat) (s : St Ty den) (k : Ex → St Ty den → Option R) : loopK body m k .normal s = evLoop body m s k := rfl
theorem loopK_exit (body : St Ty den → (Ex → St Ty den → Option R) → Option R) (m : Nat) (s : St Ty den) (k : Ex → St Ty den → Option R) (i : Nat) : loopK body m k (.exit i) s = k (.exit i) s := rfl
theorem loopK_ret (body : St Ty den → (Ex → St Ty den → Option R) → Option R) (m : Nat) (s : St Ty den) (k : Ex → St Ty den → Option R) : loopK body m k .ret s = k .ret s := rfl
end

theorem room_iff {n b : Nat} : room n b = true ↔ n * b ≤ 140737488355328 := by simp [room]
theorem lim4_iff {l : List Int} : lim4 l = true ↔ l.length * 4 ≤ 140737488355328 := room_iff
theorem lim4_len {l : List Int} (h : lim4 l = true) : l.length ≤ 35184372088832 := by have := lim4_iff.1 h; omega
theorem limL_len {l : List (List Int)} (h : limL l = true) : l.length * 24 ≤ 140737488355328 := by
  simp only [limL, Bool.and_eq_true] at h; exact room_iff.1 h.1
theorem limL_mem {l : List (List Int)} (h : limL l = true) {x : List Int} (hx : x ∈ l) : lim4 x = true := by
  simp only [limL, Bool.and_eq_true, List.all_eq_true] at h; exact h.2 x hx
theorem wrap64 {n : Int} (h : -9223372036854775808 ≤ n) (h2 : n ≤ 9223372036854775807) : IntKind.wrap .i64 n = n := Go.IntWalk.i64_in n ⟨h, h2⟩
theorem wrapSucc {i : Nat} (h : i < 9223372036854775807) : IntKind.wrap .i64 ((i : Int) + 1) = ((i + 1 : Nat) : Int) := by
  rw [wrap64 (by omega) (by omega)]; omega
theorem wrapPred {i : Nat} (h : i < 9223372036854775807) : IntKind.wrap .i64 (((i + 1 : Nat) : Int) - 1) = (i : Int) := by
  rw [wrap64 (by omega) (by omega)]; omega
theorem idx_nat {α : Type} (l : List α) (i : Nat) : idx l (i : Int) = l[i]? := by simp [idx]
theorem idx_lt {α : Type} {l : List α} {i : Nat} (h : i < l.length) : idx l (i : Int) = some l[i] := by rw [idx_nat, List.getElem?_eq_getElem h]

section
variable {Ty : Type} {den : Ty → Type} {R : Type}
/-- A loop by a measure: its result from each state that meets the invariant. -/
theorem loop_rule {σ : Type} {body : St Ty den → (Ex → St Ty den → Option R) → Option R} {k : Ex → St Ty den → Option R} (st : σ → St Ty den) (I : σ → Prop) (μ : σ → Nat) (F : σ → Option R)
    (h : ∀ x, I x → ∀ K : Ex → St Ty den → Option R, (∀ i s, K (.exit i) s = k (.exit i) s) → (∀ s, K .ret s = k .ret s) → (∀ y, I y → μ y < μ x → K .normal (st y) = F y) → body (st x) K = F x) :
    ∀ m x, I x → μ x < m → evLoop body m (st x) k = F x := by
  intro m
  induction m with
  | zero => intro x _ hm; omega
  | succ m ih =>
    intro x hx hm
    rw [evLoop_succ]
    exact h x hx _ (fun _ _ => rfl) (fun _ => rfl) (fun y hy hlt => ih y hy (by omega))
end

theorem sub_nat {α : Type} {l : List α} {lo hi : Nat} (h : lo ≤ hi) (h2 : hi ≤ l.length) : sub l (lo : Int) (hi : Int) = some ((l.drop lo).take (hi - lo)) := by
  unfold sub
  have h3 : (decide (0 ≤ (lo : Int)) && (decide ((lo : Int) ≤ (hi : Int)) && decide ((hi : Int) ≤ (l.length : Int)))) = true := by simp; omega
  rw [h3]; rfl
theorem sub_from {α : Type} {l : List α} {lo : Nat} (h : lo ≤ l.length) : sub l (lo : Int) (l.length : Int) = some (l.drop lo) := by
  rw [sub_nat h (Nat.le_refl _), List.take_of_length_le (by simp)]
theorem sub_all {α : Type} {l : List α} : sub l 0 (l.length : Int) = some l := by
  have := sub_from (l := l) (lo := 0) (Nat.zero_le _)
  simpa using this
theorem bT (b : Bool) : (b == true) = b := by cases b <;> rfl
theorem bF (b : Bool) : (b == false) = !b := by cases b <;> rfl
end Go.Aev
end

section
set_option linter.unusedVariables false
namespace Go.Aev
open Go.Proofs
/- pergola/strval.white -/
def dr41 : Nat → List Nat := fun r => match r with
  | 0 => [2]
  | 1 => [0, 3, 4, 5, 6, 7, 8]
  | _ => []
def T41 : T6 := fun f ls => match f with

  | _ => none
def cn41 : FuncId → Option Nat := fun f => match f with

  | _ => none
def E41 : Env Ty6 den6 := mk6 T41 cn41 dr41 9
theorem ev41 (n : Nat) (a0 : Int) : evFn E41 n Go.Proofs.Tryd.f28 [.int .i32 a0] =
    bif (a0 == 9) == false then (some (.one (.bool (a0 == 32)))) else (some (.one (.bool true))) := by
  kernel_rfl

/- pergola/strval.indent -/
def dr28 : Nat → List Nat := fun r => match r with
  | 0 => [2]
  | 2 => [4, 5, 6, 7, 8, 9, 10, 11, 12, 13]
  | 3 => [14, 15, 16]
  | 4 => [0, 3, 14, 17]
  | _ => []
def T28 : T6 := fun f ls => match f with
  | 28 => S41 ls
  | _ => none
def cn28 : FuncId → Option Nat := fun f => match f with

  | _ => none
def E28 : Env Ty6 den6 := mk6 T28 cn28 dr28 18
def st28_2 (x0 : List Int) (x3 : Int) : S6 := ⟨[(0, .one (.sl .i32 x0 none)), (3, .one (.int .i64 x3))], []⟩
theorem ev28 (n : Nat) (a0 : List Int) : evFn E28 n Go.Proofs.Tryd.f66 [.sl .i32 a0 none] =
    evLoop (lbC E28 (cdAt Go.Proofs.Tryd.f66 [1, 1, 0, 0, 0]) 10002 n) n (st28_2 a0 0) (blockK 0 (seqK (evCode E28 n (cdAt Go.Proofs.Tryd.f66 [1, 1, 1])) (retK Go.Proofs.Tryd.f66.results.toList))) := by
  kernel_rfl
theorem lb28_2_eq (n : Nat) (x0 : List Int) (x3 : Int) (K : Ex → S6 → Option E6) : lbC E28 (cdAt Go.Proofs.Tryd.f66 [1, 1, 0, 0, 0]) 10002 n (st28_2 x0 x3) K =
    bif (decide (x3 < (List.length x0 : Int))) == true then (match idx x0 x3 with | none => none | some y1 => (bif whiteF y1 then (K .normal (st28_2 x0 (IntKind.wrap .i64 (x3 + 1)))) else (K (.exit 0) ⟨[(0, .one (.sl .i32 x0 none)), (3, .one (.int .i64 x3)), (14, .one (.bool (whiteF y1)))], []⟩))) else (K (.exit 0) ⟨[(0, .one (.sl .i32 x0 none)), (3, .one (.int .i64 x3)), (14, .one (.bool false))], []⟩) := by
  kernel_rfl
theorem ex28_2_0 (n : Nat) (x0 : List Int) (x3 : Int) (x14 : Bool) : (blockK 0 (seqK (evCode E28 n (cdAt Go.Proofs.Tryd.f66 [1, 1, 1])) (retK Go.Proofs.Tryd.f66.results.toList))) (.exit 0) ⟨[(0, .one (.sl .i32 x0 none)), (3, .one (.int .i64 x3)), (14, .one (.bool x14))], []⟩ =
    some (.one (.int .i64 x3)) := by
  kernel_rfl
theorem ex28_2_0_2 (n : Nat) (x0 : List Int) (x3 : Int) : (blockK 0 (seqK (evCode E28 n (cdAt Go.Proofs.Tryd.f66 [1, 1, 1])) (retK Go.Proofs.Tryd.f66.results.toList))) (.exit 0) ⟨[(0, .one (.sl .i32 x0 none)), (3, .one (.int .i64 x3)), (14, .one (.bool false))], []⟩ =
    some (.one (.int .i64 x3)) := by
  kernel_rfl

/- pergola/strval.blank -/
def dr27 : Nat → List Nat := fun r => match r with
  | 0 => [2]
  | 1 => [0, 3, 4, 5, 6, 7]
  | _ => []
def T27 : T6 := fun f ls => match f with
  | 66 => S28 ls
  | _ => none
def cn27 : FuncId → Option Nat := fun f => match f with

  | _ => none
def E27 : Env Ty6 den6 := mk6 T27 cn27 dr27 8
theorem ev27 (n : Nat) (a0 : List Int) : evFn E27 n Go.Proofs.Tryd.f58 [.sl .i32 a0 none] =
    bif lim4 a0 then (some (.one (.bool ((indentF a0) == (List.length a0 : Int))))) else none := by
  kernel_rfl

/- pergola/pergolaref06.white -/
def dr56 : Nat → List Nat := fun r => match r with
  | 0 => [2]
  | 1 => [0, 3, 4, 5, 6, 7, 8]
  | _ => []
def T56 : T6 := fun f ls => match f with

  | _ => none
def cn56 : FuncId → Option Nat := fun f => match f with

  | _ => none
def E56 : Env Ty6 den6 := mk6 T56 cn56 dr56 9
theorem ev56 (n : Nat) (a0 : Int) : evFn E56 n Go.Proofs.Tryd.f33 [.int .i32 a0] =
    bif (a0 == 9) == false then (some (.one (.bool (a0 == 32)))) else (some (.one (.bool true))) := by
  kernel_rfl

/- pergola/pergolaref06.indent -/
def dr42 : Nat → List Nat := fun r => match r with
  | 0 => [2]
  | 2 => [4, 5, 6, 7, 8, 9, 10, 11, 12, 13]
  | 3 => [14, 15, 16]
  | 4 => [0, 3, 14, 17]
  | _ => []
def T42 : T6 := fun f ls => match f with
  | 33 => S56 ls
  | _ => none
def cn42 : FuncId → Option Nat := fun f => match f with

  | _ => none
def E42 : Env Ty6 den6 := mk6 T42 cn42 dr42 18
def st42_2 (x0 : List Int) (x3 : Int) : S6 := ⟨[(0, .one (.sl .i32 x0 none)), (3, .one (.int .i64 x3))], []⟩
theorem ev42 (n : Nat) (a0 : List Int) : evFn E42 n Go.Proofs.Tryd.f63 [.sl .i32 a0 none] =
    evLoop (lbC E42 (cdAt Go.Proofs.Tryd.f63 [1, 1, 0, 0, 0]) 10002 n) n (st42_2 a0 0) (blockK 0 (seqK (evCode E42 n (cdAt Go.Proofs.Tryd.f63 [1, 1, 1])) (retK Go.Proofs.Tryd.f63.results.toList))) := by
  kernel_rfl
theorem lb42_2_eq (n : Nat) (x0 : List Int) (x3 : Int) (K : Ex → S6 → Option E6) : lbC E42 (cdAt Go.Proofs.Tryd.f63 [1, 1, 0, 0, 0]) 10002 n (st42_2 x0 x3) K =
    bif (decide (x3 < (List.length x0 : Int))) == true then (match idx x0 x3 with | none => none | some y1 => (bif whiteF y1 then (K .normal (st42_2 x0 (IntKind.wrap .i64 (x3 + 1)))) else (K (.exit 0) ⟨[(0, .one (.sl .i32 x0 none)), (3, .one (.int .i64 x3)), (14, .one (.bool (whiteF y1)))], []⟩))) else (K (.exit 0) ⟨[(0, .one (.sl .i32 x0 none)), (3, .one (.int .i64 x3)), (14, .one (.bool false))], []⟩) := by
  kernel_rfl
theorem ex42_2_0 (n : Nat) (x0 : List Int) (x3 : Int) (x14 : Bool) : (blockK 0 (seqK (evCode E42 n (cdAt Go.Proofs.Tryd.f63 [1, 1, 1])) (retK Go.Proofs.Tryd.f63.results.toList))) (.exit 0) ⟨[(0, .one (.sl .i32 x0 none)), (3, .one (.int .i64 x3)), (14, .one (.bool x14))], []⟩ =
    some (.one (.int .i64 x3)) := by
  kernel_rfl
theorem ex42_2_0_2 (n : Nat) (x0 : List Int) (x3 : Int) : (blockK 0 (seqK (evCode E42 n (cdAt Go.Proofs.Tryd.f63 [1, 1, 1])) (retK Go.Proofs.Tryd.f63.results.toList))) (.exit 0) ⟨[(0, .one (.sl .i32 x0 none)), (3, .one (.int .i64 x3)), (14, .one (.bool false))], []⟩ =
    some (.one (.int .i64 x3)) := by
  kernel_rfl

/- pergola/pergolaref06.blank -/
def dr30 : Nat → List Nat := fun r => match r with
  | 0 => [2]
  | 1 => [0, 3, 4, 5, 6, 7]
  | _ => []
def T30 : T6 := fun f ls => match f with
  | 63 => S42 ls
  | _ => none
def cn30 : FuncId → Option Nat := fun f => match f with

  | _ => none
def E30 : Env Ty6 den6 := mk6 T30 cn30 dr30 8
theorem ev30 (n : Nat) (a0 : List Int) : evFn E30 n Go.Proofs.Tryd.f62 [.sl .i32 a0 none] =
    bif lim4 a0 then (some (.one (.bool ((indentF a0) == (List.length a0 : Int))))) else none := by
  kernel_rfl

/- pergola/pergolalaw06.runes -/
def dr13 : Nat → List Nat := fun r => match r with
  | 0 => [2]
  | 1 => [0, 3, 4]
  | _ => []
def T13 : T6 := fun f ls => match f with

  | _ => none
def cn13 : FuncId → Option Nat := fun f => match f with

  | _ => none
def E13 : Env Ty6 den6 := mk6 T13 cn13 dr13 5
theorem ev13 (n : Nat) (a0 : List UInt8) : evFn E13 n Go.Proofs.Tryd.f36 [.str a0] =
    bif room (List.length a0) 1 then (some (.one (.sl .i32 (runes6 a0) (some 1)))) else none := by
  kernel_rfl

/- pergola/pergolalaw06.copied -/
def dr20 : Nat → List Nat := fun r => match r with
  | 0 => [2]
  | 1 => [0, 3, 4, 5]
  | _ => []
def T20 : T6 := fun f ls => match f with

  | _ => none
def cn20 : FuncId → Option Nat := fun f => match f with

  | _ => none
def E20 : Env Ty6 den6 := mk6 T20 cn20 dr20 6
theorem ev20 (n : Nat) (a0 : List Int) : evFn E20 n Go.Proofs.Tryd.f14 [.sl .i32 a0 none] =
    bif room (0 + List.length a0) 4 then (some (.one (.sl .i32 a0 (some 1)))) else none := by
  kernel_rfl

end Go.Aev
end

section
set_option linter.unusedVariables false
namespace Go.Aev
open Go.Proofs
/- pergola/strval.Dedent -/
def dr12 : Nat → List Nat := fun r => match r with
  | 0 => [2]
  | 4 => [14, 15, 16, 17]
  | 5 => [4, 18, 19, 20, 21, 22, 23, 24, 25, 26, 27, 28, 29, 30, 31, 32, 33]
  | 6 => [5, 34, 35, 36]
  | 7 => [5, 34, 37]
  | 8 => [11, 12, 13, 14, 38, 39]
  | 9 => [40, 41, 42, 43, 44, 45, 46, 47, 48]
  | 10 => [49, 50, 51]
  | 11 => [52, 53, 54, 55, 56, 57, 58, 59, 60, 61]
  | 12 => [62, 63, 64]
  | 13 => [62]
  | 14 => [6, 65]
  | 15 => [66, 67]
  | 16 => [69, 70]
  | 17 => [68, 71, 72, 73, 74]
  | 18 => [75]
  | 19 => [76, 77, 78, 79, 80, 81, 82, 83]
  | 20 => [10, 76, 84, 85, 86, 87, 88, 89, 90, 91, 92, 93]
  | 21 => [0, 3, 7, 8, 9, 68, 94]
  | 10011 => [49]
  | _ => []
def T12 : T6 := fun f ls => match f with
  | 58 => S27 ls
  | 66 => S28 ls
  | _ => none
def cn12 : FuncId → Option Nat := fun f => match f with

  | _ => none
def E12 : Env Ty6 den6 := mk6 T12 cn12 dr12 95
def st12_3 (x0 : List (List Int)) (x3 : Int) (x11 : List (List Int)) (x12 : Int) (x13 : Int) : S6 := ⟨[(0, .one (.sl .rs x0 none)), (3, .one (.int .i64 x3)), (11, .one (.sl .rs x11 none)), (12, .one (.int .i64 x12)), (13, .one (.int .i64 x13))], []⟩
def st12_9 (x0 : List (List Int)) (x3 : Int) (x6 : Int) (x7 : Int) : S6 := ⟨[(0, .one (.sl .rs x0 none)), (3, .one (.int .i64 x3)), (6, .one (.int .i64 x6)), (7, .one (.int .i64 x7))], []⟩
def st12_11 (x0 : List (List Int)) (x3 : Int) (x6 : Int) (x7 : Int) : S6 := ⟨[(0, .one (.sl .rs x0 none)), (3, .one (.int .i64 x3)), (6, .one (.int .i64 x6)), (7, .one (.int .i64 x7))], []⟩
def st12_15 (x0 : List (List Int)) (x3 : Int) (x7 : Int) (x8 : List (List Int)) (x9 : Int) : S6 := ⟨[(0, .one (.sl .rs x0 none)), (3, .one (.int .i64 x3)), (7, .one (.int .i64 x7)), (8, .one (.sl .rs x8 (some 108))), (9, .one (.int .i64 x9))], [108]⟩
theorem ev12 (n : Nat) (a0 : List (List Int)) : evFn E12 n Go.Proofs.Tryd.f39 [.sl .rs a0 none] =
    evLoop (lbC E12 (cdAt Go.Proofs.Tryd.f39 [1, 1, 0, 1, 0, 0]) 10003 n) n (st12_3 a0 (-1) a0 (List.length a0 : Int) 0) (blockK 0 (seqK (evCode E12 n (cdAt Go.Proofs.Tryd.f39 [1, 1, 1])) (retK Go.Proofs.Tryd.f39.results.toList))) := by
  kernel_rfl
theorem lb12_3_eq (n : Nat) (x0 : List (List Int)) (x3 : Int) (x11 : List (List Int)) (x12 : Int) (x13 : Int) (K : Ex → S6 → Option E6) : lbC E12 (cdAt Go.Proofs.Tryd.f39 [1, 1, 0, 1, 0, 0]) 10003 n (st12_3 x0 x3 x11 x12 x13) K =
    bif decide (x13 < x12) then (match idx x11 x13 with | none => none | some y1 => (bif (decide (x13 > 0)) == true then (bif lim4 y1 then (bif (!(blankF y1)) == true then (bif (decide (x3 < 0)) == false then (bif lim4 y1 then (bif decide ((indentF y1) < x3) then (bif lim4 y1 then (K .normal (st12_3 x0 (indentF y1) x11 x12 (IntKind.wrap .i64 (x13 + 1)))) else none) else (K .normal (st12_3 x0 x3 x11 x12 (IntKind.wrap .i64 (x13 + 1))))) else none) else (bif lim4 y1 then (K .normal (st12_3 x0 (indentF y1) x11 x12 (IntKind.wrap .i64 (x13 + 1)))) else none)) else (K .normal (st12_3 x0 x3 x11 x12 (IntKind.wrap .i64 (x13 + 1))))) else none) else (K .normal (st12_3 x0 x3 x11 x12 (IntKind.wrap .i64 (x13 + 1)))))) else (K (.exit 0) ⟨[(0, .one (.sl .rs x0 none)), (3, .one (.int .i64 x3)), (11, .one (.sl .rs x11 none)), (12, .one (.int .i64 x12)), (13, .one (.int .i64 x13)), (14, .one (.bool (decide (x13 < x12))))], []⟩) := by
  kernel_rfl
theorem ex12_3_0 (n : Nat) (x0 : List (List Int)) (x3 : Int) (x11 : List (List Int)) (x12 : Int) (x13 : Int) (x14 : Bool) : (blockK 0 (seqK (evCode E12 n (cdAt Go.Proofs.Tryd.f39 [1, 1, 1])) (retK Go.Proofs.Tryd.f39.results.toList))) (.exit 0) ⟨[(0, .one (.sl .rs x0 none)), (3, .one (.int .i64 x3)), (11, .one (.sl .rs x11 none)), (12, .one (.int .i64 x12)), (13, .one (.int .i64 x13)), (14, .one (.bool x14))], []⟩ =
    evLoop (lbC E12 (cdAt Go.Proofs.Tryd.f39 [1, 1, 1, 1, 0, 0, 0]) 10009 n) n (st12_9 x0 x3 0 (List.length x0 : Int)) (blockK 2 (seqK (evCode E12 n (cdAt Go.Proofs.Tryd.f39 [1, 1, 1, 1, 1])) (retK Go.Proofs.Tryd.f39.results.toList))) := by
  kernel_rfl
theorem lb12_9_eq (n : Nat) (x0 : List (List Int)) (x3 : Int) (x6 : Int) (x7 : Int) (K : Ex → S6 → Option E6) : lbC E12 (cdAt Go.Proofs.Tryd.f39 [1, 1, 1, 1, 0, 0, 0]) 10009 n (st12_9 x0 x3 x6 x7) K =
    bif (decide (x6 < x7)) == true then (match idx x0 x6 with | none => none | some y2 => (bif lim4 y2 then (bif blankF y2 then (K .normal (st12_9 x0 x3 (IntKind.wrap .i64 (x6 + 1)) x7)) else (K (.exit 2) ⟨[(0, .one (.sl .rs x0 none)), (3, .one (.int .i64 x3)), (6, .one (.int .i64 x6)), (7, .one (.int .i64 x7)), (49, .one (.bool (blankF y2)))], []⟩)) else none)) else (K (.exit 2) ⟨[(0, .one (.sl .rs x0 none)), (3, .one (.int .i64 x3)), (6, .one (.int .i64 x6)), (7, .one (.int .i64 x7)), (49, .one (.bool false))], []⟩) := by
  kernel_rfl
theorem ex12_9_2 (n : Nat) (x0 : List (List Int)) (x3 : Int) (x6 : Int) (x7 : Int) (x49 : Bool) : (blockK 2 (seqK (evCode E12 n (cdAt Go.Proofs.Tryd.f39 [1, 1, 1, 1, 1])) (retK Go.Proofs.Tryd.f39.results.toList))) (.exit 2) ⟨[(0, .one (.sl .rs x0 none)), (3, .one (.int .i64 x3)), (6, .one (.int .i64 x6)), (7, .one (.int .i64 x7)), (49, .one (.bool x49))], []⟩ =
    evLoop (lbC E12 (cdAt Go.Proofs.Tryd.f39 [1, 1, 1, 1, 1, 0, 0, 0]) 10011 n) n (st12_11 x0 x3 x6 x7) (blockK 4 (seqK (evCode E12 n (cdAt Go.Proofs.Tryd.f39 [1, 1, 1, 1, 1, 1])) (retK Go.Proofs.Tryd.f39.results.toList))) := by
  kernel_rfl
theorem ex12_9_2_2 (n : Nat) (x0 : List (List Int)) (x3 : Int) (x6 : Int) (x7 : Int) : (blockK 2 (seqK (evCode E12 n (cdAt Go.Proofs.Tryd.f39 [1, 1, 1, 1, 1])) (retK Go.Proofs.Tryd.f39.results.toList))) (.exit 2) ⟨[(0, .one (.sl .rs x0 none)), (3, .one (.int .i64 x3)), (6, .one (.int .i64 x6)), (7, .one (.int .i64 x7)), (49, .one (.bool false))], []⟩ =
    evLoop (lbC E12 (cdAt Go.Proofs.Tryd.f39 [1, 1, 1, 1, 1, 0, 0, 0]) 10011 n) n (st12_11 x0 x3 x6 x7) (blockK 4 (seqK (evCode E12 n (cdAt Go.Proofs.Tryd.f39 [1, 1, 1, 1, 1, 1])) (retK Go.Proofs.Tryd.f39.results.toList))) := by
  kernel_rfl
theorem lb12_11_eq (n : Nat) (x0 : List (List Int)) (x3 : Int) (x6 : Int) (x7 : Int) (K : Ex → S6 → Option E6) : lbC E12 (cdAt Go.Proofs.Tryd.f39 [1, 1, 1, 1, 1, 0, 0, 0]) 10011 n (st12_11 x0 x3 x6 x7) K =
    bif (decide (x7 > x6)) == true then (match idx x0 (IntKind.wrap .i64 (x7 - 1)) with | none => none | some y3 => (bif lim4 y3 then (bif blankF y3 then (K .normal (st12_11 x0 x3 x6 (IntKind.wrap .i64 (x7 - 1)))) else (K (.exit 4) ⟨[(0, .one (.sl .rs x0 none)), (3, .one (.int .i64 x3)), (6, .one (.int .i64 x6)), (7, .one (.int .i64 x7)), (62, .one (.bool (blankF y3)))], []⟩)) else none)) else (K (.exit 4) ⟨[(0, .one (.sl .rs x0 none)), (3, .one (.int .i64 x3)), (6, .one (.int .i64 x6)), (7, .one (.int .i64 x7)), (62, .one (.bool false))], []⟩) := by
  kernel_rfl
theorem ex12_11_4 (n : Nat) (x0 : List (List Int)) (x3 : Int) (x6 : Int) (x7 : Int) (x62 : Bool) : (blockK 4 (seqK (evCode E12 n (cdAt Go.Proofs.Tryd.f39 [1, 1, 1, 1, 1, 1])) (retK Go.Proofs.Tryd.f39.results.toList))) (.exit 4) ⟨[(0, .one (.sl .rs x0 none)), (3, .one (.int .i64 x3)), (6, .one (.int .i64 x6)), (7, .one (.int .i64 x7)), (62, .one (.bool x62))], []⟩ =
    evLoop (lbC E12 (cdAt Go.Proofs.Tryd.f39 [1, 1, 1, 1, 1, 1, 1, 0, 1, 0, 0]) 10015 n) n (st12_15 x0 x3 x7 [] x6) (blockK 6 (seqK (evCode E12 n (cdAt Go.Proofs.Tryd.f39 [1, 1, 1, 1, 1, 1, 1, 1])) (retK Go.Proofs.Tryd.f39.results.toList))) := by
  kernel_rfl
theorem ex12_11_4_2 (n : Nat) (x0 : List (List Int)) (x3 : Int) (x6 : Int) (x7 : Int) : (blockK 4 (seqK (evCode E12 n (cdAt Go.Proofs.Tryd.f39 [1, 1, 1, 1, 1, 1])) (retK Go.Proofs.Tryd.f39.results.toList))) (.exit 4) ⟨[(0, .one (.sl .rs x0 none)), (3, .one (.int .i64 x3)), (6, .one (.int .i64 x6)), (7, .one (.int .i64 x7)), (62, .one (.bool false))], []⟩ =
    evLoop (lbC E12 (cdAt Go.Proofs.Tryd.f39 [1, 1, 1, 1, 1, 1, 1, 0, 1, 0, 0]) 10015 n) n (st12_15 x0 x3 x7 [] x6) (blockK 6 (seqK (evCode E12 n (cdAt Go.Proofs.Tryd.f39 [1, 1, 1, 1, 1, 1, 1, 1])) (retK Go.Proofs.Tryd.f39.results.toList))) := by
  kernel_rfl
theorem lb12_15_eq (n : Nat) (x0 : List (List Int)) (x3 : Int) (x7 : Int) (x8 : List (List Int)) (x9 : Int) (K : Ex → S6 → Option E6) : lbC E12 (cdAt Go.Proofs.Tryd.f39 [1, 1, 1, 1, 1, 1, 1, 0, 1, 0, 0]) 10015 n (st12_15 x0 x3 x7 x8 x9) K =
    bif decide (x9 < x7) then (match idx x0 x9 with | none => none | some y4 => (bif decide (x9 > 0) then (match sub y4 (if (List.length y4 : Int) < (if 0 > x3 then 0 else x3) then (List.length y4 : Int) else (if 0 > x3 then 0 else x3)) (List.length y4 : Int) with | none => none | some y5 => (bif true && decide ((List.length y5 : Int) = (List.length y5 : Int)) then (match sub y5 0 (List.length y5 : Int) with | none => none | some y6 => (bif room (0 + List.length y6) 4 then (bif room (List.length x8 + 1) 24 then (K .normal (st12_15 x0 x3 x7 (x8 ++ [y6]) (IntKind.wrap .i64 (x9 + 1)))) else none) else none)) else none)) else (bif true && decide ((List.length y4 : Int) = (List.length y4 : Int)) then (match sub y4 0 (List.length y4 : Int) with | none => none | some y7 => (bif room (0 + List.length y7) 4 then (bif room (List.length x8 + 1) 24 then (K .normal (st12_15 x0 x3 x7 (x8 ++ [y7]) (IntKind.wrap .i64 (x9 + 1)))) else none) else none)) else none))) else (K (.exit 6) ⟨[(0, .one (.sl .rs x0 none)), (3, .one (.int .i64 x3)), (7, .one (.int .i64 x7)), (8, .one (.sl .rs x8 (some 108))), (9, .one (.int .i64 x9)), (68, .one (.bool (decide (x9 < x7))))], [108]⟩) := by
  kernel_rfl
theorem ex12_15_6 (n : Nat) (x0 : List (List Int)) (x3 : Int) (x7 : Int) (x8 : List (List Int)) (x9 : Int) (x68 : Bool) : (blockK 6 (seqK (evCode E12 n (cdAt Go.Proofs.Tryd.f39 [1, 1, 1, 1, 1, 1, 1, 1])) (retK Go.Proofs.Tryd.f39.results.toList))) (.exit 6) ⟨[(0, .one (.sl .rs x0 none)), (3, .one (.int .i64 x3)), (7, .one (.int .i64 x7)), (8, .one (.sl .rs x8 (some 108))), (9, .one (.int .i64 x9)), (68, .one (.bool x68))], [108]⟩ =
    some (.one (.sl .rs x8 (some 1))) := by
  kernel_rfl

end Go.Aev
end

section
set_option linter.unusedVariables false
namespace Go.Aev
open Go.Proofs
/- pergola/utf.Digit -/
def dr64 : Nat → List Nat := fun r => match r with
  | 0 => [2]
  | 1 => [0, 3, 4, 5, 6, 7, 8]
  | _ => []
def T64 : T6 := fun f ls => match f with

  | _ => none
def cn64 : FuncId → Option Nat := fun f => match f with

  | _ => none
def E64 : Env Ty6 den6 := mk6 T64 cn64 dr64 9
theorem ev64 (n : Nat) (a0 : Int) : evFn E64 n Go.Proofs.Tryd.f90 [.int .i32 a0] =
    bif (decide (a0 ≥ 48)) == true then (some (.one (.bool (decide (a0 ≤ 57))))) else (some (.one (.bool false))) := by
  kernel_rfl

/- pergola/utf.Hex -/
def dr63 : Nat → List Nat := fun r => match r with
  | 0 => [2]
  | 1 => [4, 5]
  | 2 => [0, 3, 6, 7, 8]
  | 3 => [3, 10, 11, 12, 13, 14, 15]
  | 4 => [0, 9, 16, 17, 18, 19]
  | 5 => [9, 21, 22, 23, 24, 25, 26]
  | 6 => [0, 20, 27, 28, 29, 30]
  | 7 => [0, 20]
  | _ => []
def T63 : T6 := fun f ls => match f with
  | 90 => S64 ls
  | _ => none
def cn63 : FuncId → Option Nat := fun f => match f with

  | _ => none
def E63 : Env Ty6 den6 := mk6 T63 cn63 dr63 31
theorem ev63 (n : Nat) (a0 : Int) : evFn E63 n Go.Proofs.Tryd.f85 [.int .i32 a0] =
    bif digitF a0 then (some (.one (.int .i64 (IntKind.wrap .i64 (IntKind.wrap .i32 (a0 - 48)))))) else (bif (decide (a0 ≥ 97)) == true then (bif decide (a0 ≤ 102) then (some (.one (.int .i64 (IntKind.wrap .i64 ((IntKind.wrap .i64 (IntKind.wrap .i32 (a0 - 97))) + 10))))) else (bif (decide (a0 ≥ 65)) == true then (bif decide (a0 ≤ 70) then (some (.one (.int .i64 (IntKind.wrap .i64 ((IntKind.wrap .i64 (IntKind.wrap .i32 (a0 - 65))) + 10))))) else (some (.one (.int .i64 (-1))))) else (some (.one (.int .i64 (-1)))))) else (bif (decide (a0 ≥ 65)) == true then (bif decide (a0 ≤ 70) then (some (.one (.int .i64 (IntKind.wrap .i64 ((IntKind.wrap .i64 (IntKind.wrap .i32 (a0 - 65))) + 10))))) else (some (.one (.int .i64 (-1))))) else (some (.one (.int .i64 (-1)))))) := by
  kernel_rfl

/- pergola/strval.hex4 -/
def dr57 : Nat → List Nat := fun r => match r with
  | 0 => [2]
  | 1 => [7, 8]
  | 2 => [0, 9]
  | 3 => [9]
  | 4 => [0, 10]
  | 6 => [14, 15, 16]
  | 7 => [5, 17, 18]
  | 8 => [19]
  | 9 => [3, 6, 11, 12, 13, 20]
  | 10 => [6, 20, 21, 22, 23, 24, 25]
  | 11 => [26]
  | 12 => [3, 11, 12, 13, 14, 27]
  | _ => []
def T57 : T6 := fun f ls => match f with
  | 85 => S63 ls
  | _ => none
def cn57 : FuncId → Option Nat := fun f => match f with

  | _ => none
def E57 : Env Ty6 den6 := mk6 T57 cn57 dr57 28
def st57_5 (x3 : Int) (x11 : List Int) (x12 : Int) (x13 : Int) : S6 := ⟨[(3, .one (.int .i32 x3)), (11, .one (.sl .i32 x11 none)), (12, .one (.int .i64 x12)), (13, .one (.int .i64 x13))], []⟩
theorem ev57 (n : Nat) (a0 : List Int) : evFn E57 n Go.Proofs.Tryd.f78 [.sl .i32 a0 none] =
    bif decide ((List.length a0 : Int) < 4) then (some (.one (.int .i32 (-1)))) else (match sub a0 0 4 with | none => none | some y1 => (evLoop (lbC E57 (cdAt Go.Proofs.Tryd.f78 [1, 1, 1, 0, 1, 0, 0]) 10005 n) n (st57_5 0 y1 (List.length y1 : Int) 0) (blockK 0 (seqK (evCode E57 n (cdAt Go.Proofs.Tryd.f78 [1, 1, 1, 1])) (retK Go.Proofs.Tryd.f78.results.toList))))) := by
  kernel_rfl
theorem lb57_5_eq (n : Nat) (x3 : Int) (x11 : List Int) (x12 : Int) (x13 : Int) (K : Ex → S6 → Option E6) : lbC E57 (cdAt Go.Proofs.Tryd.f78 [1, 1, 1, 0, 1, 0, 0]) 10005 n (st57_5 x3 x11 x12 x13) K =
    bif decide (x13 < x12) then (match idx x11 x13 with | none => none | some y2 => (bif decide ((hexF y2) < 0) then (K .ret ⟨[(2, .one (.int .i32 (-1)))], []⟩) else (K .normal (st57_5 (IntKind.wrap .i32 ((IntKind.wrap .i32 (x3 * 16)) + (IntKind.wrap .i32 (hexF y2)))) x11 x12 (IntKind.wrap .i64 (x13 + 1)))))) else (K (.exit 0) ⟨[(3, .one (.int .i32 x3)), (11, .one (.sl .i32 x11 none)), (12, .one (.int .i64 x12)), (13, .one (.int .i64 x13)), (14, .one (.bool (decide (x13 < x12))))], []⟩) := by
  kernel_rfl
theorem ex57_5_0 (n : Nat) (x3 : Int) (x11 : List Int) (x12 : Int) (x13 : Int) (x14 : Bool) : (blockK 0 (seqK (evCode E57 n (cdAt Go.Proofs.Tryd.f78 [1, 1, 1, 1])) (retK Go.Proofs.Tryd.f78.results.toList))) (.exit 0) ⟨[(3, .one (.int .i32 x3)), (11, .one (.sl .i32 x11 none)), (12, .one (.int .i64 x12)), (13, .one (.int .i64 x13)), (14, .one (.bool x14))], []⟩ =
    some (.one (.int .i32 x3)) := by
  kernel_rfl

/- pergola/utf.Join -/
def dr58 : Nat → List Nat := fun r => match r with
  | 0 => [4, 5]
  | 1 => [6, 7, 8, 9, 10, 11, 12, 13, 14, 15, 16, 17, 18]
  | 2 => [0, 1, 19]
  | 3 => [0, 1, 19, 20, 21, 22, 23, 24, 25, 26]
  | _ => []
def T58 : T6 := fun f ls => match f with

  | _ => none
def cn58 : FuncId → Option Nat := fun f => match f with

  | _ => none
def E58 : Env Ty6 den6 := mk6 T58 cn58 dr58 27
theorem ev58 (n : Nat) (a0 : Int) (a1 : Int) : evFn E58 n Go.Proofs.Tryd.f79 [.int .i32 a0, .int .i32 a1] =
    bif (decide (a0 < 55296)) == false then (bif (decide (a0 ≥ 56320)) == false then (bif (decide (a1 < 56320)) == false then (bif decide (a1 ≥ 57344) then (some (.tup [.int .i32 0, .bool false])) else (some (.tup [.int .i32 (IntKind.wrap .i32 ((IntKind.wrap .i32 (65536 + (IntKind.wrap .i32 ((IntKind.wrap .i32 (a0 - 55296)) * 2 ^ (Int.toNat 10))))) + (IntKind.wrap .i32 (a1 - 56320)))), .bool true]))) else (some (.tup [.int .i32 0, .bool false]))) else (some (.tup [.int .i32 0, .bool false]))) else (some (.tup [.int .i32 0, .bool false])) := by
  kernel_rfl

/- pergola/strval.coded -/
def dr43 : Nat → List Nat := fun r => match r with
  | 0 => [2, 3]
  | 1 => [7, 8, 9]
  | 2 => [11, 12, 13, 14, 15, 16, 17, 18, 19, 20]
  | 3 => [0, 4, 10]
  | 4 => [10, 22, 23, 24, 25, 26, 27]
  | 5 => [0, 4, 21, 28]
  | 6 => [21, 29, 30, 31, 32, 33, 34, 35, 36, 37, 38, 39, 40, 41, 42]
  | 7 => [0, 4, 43]
  | 8 => [0, 4, 43, 44, 45, 46, 47, 48, 49, 50, 51]
  | 9 => [6, 52]
  | 10 => [5, 53]
  | 11 => [5, 53, 54]
  | _ => []
def T43 : T6 := fun f ls => match f with
  | 78 => S57 ls
  | 79 => S58 ls
  | _ => none
def cn43 : FuncId → Option Nat := fun f => match f with

  | _ => none
def E43 : Env Ty6 den6 := mk6 T43 cn43 dr43 55
theorem ev43 (n : Nat) (a0 : List Int) : evFn E43 n Go.Proofs.Tryd.f67 [.sl .i32 a0 none] =
    match sub a0 2 (List.length a0 : Int) with | none => none | some y1 => (bif lim4 y1 then (bif (decide ((hex4F y1) < 0)) == false then (bif (decide ((hex4F y1) ≥ 56320)) == true then (bif decide ((hex4F y1) ≤ 57343) then (some (.tup [.int .i32 0, .int .i64 0])) else (bif (decide ((hex4F y1) < 55296)) == false then (bif decide ((hex4F y1) > 57343) then (some (.tup [.int .i32 (hex4F y1), .int .i64 6])) else (bif (decide ((List.length a0 : Int) < 12)) == false then (match idx a0 6 with | none => none | some y2 => (bif (y2 != 92) == false then (match idx a0 7 with | none => none | some y3 => (bif y3 != 117 then (some (.tup [.int .i32 0, .int .i64 0])) else (match sub a0 8 (List.length a0 : Int) with | none => none | some y4 => (bif lim4 y4 then (bif !((joinF (hex4F y1) (hex4F y4)).2) then (some (.tup [.int .i32 0, .int .i64 0])) else (some (.tup [.int .i32 ((joinF (hex4F y1) (hex4F y4)).1), .int .i64 12]))) else none)))) else (some (.tup [.int .i32 0, .int .i64 0])))) else (some (.tup [.int .i32 0, .int .i64 0])))) else (some (.tup [.int .i32 (hex4F y1), .int .i64 6])))) else (bif (decide ((hex4F y1) < 55296)) == false then (bif decide ((hex4F y1) > 57343) then (some (.tup [.int .i32 (hex4F y1), .int .i64 6])) else (bif (decide ((List.length a0 : Int) < 12)) == false then (match idx a0 6 with | none => none | some y5 => (bif (y5 != 92) == false then (match idx a0 7 with | none => none | some y6 => (bif y6 != 117 then (some (.tup [.int .i32 0, .int .i64 0])) else (match sub a0 8 (List.length a0 : Int) with | none => none | some y7 => (bif lim4 y7 then (bif !((joinF (hex4F y1) (hex4F y7)).2) then (some (.tup [.int .i32 0, .int .i64 0])) else (some (.tup [.int .i32 ((joinF (hex4F y1) (hex4F y7)).1), .int .i64 12]))) else none)))) else (some (.tup [.int .i32 0, .int .i64 0])))) else (some (.tup [.int .i32 0, .int .i64 0])))) else (some (.tup [.int .i32 (hex4F y1), .int .i64 6])))) else (some (.tup [.int .i32 0, .int .i64 0]))) else none) := by
  kernel_rfl

/- pergola/strval.escaped -/
def dr31 : Nat → List Nat := fun r => match r with
  | 0 => [2, 3]
  | 1 => [4, 5]
  | 2 => [0, 6]
  | 3 => [6, 7, 8]
  | 4 => [11]
  | 5 => [12]
  | 6 => [13]
  | 7 => [0, 9, 10, 14, 15, 16]
  | 8 => [10, 18]
  | 9 => [0, 9, 17]
  | 10 => [17, 20]
  | 11 => [0, 9, 19]
  | 12 => [19, 22]
  | 13 => [0, 9, 21]
  | 14 => [21, 24]
  | 15 => [0, 9, 23]
  | 16 => [23, 26]
  | 17 => [0, 9, 25]
  | 18 => [9, 25, 28]
  | 19 => [0, 27, 29, 30, 31, 32]
  | 20 => [0, 27]
  | _ => []
def T31 : T6 := fun f ls => match f with
  | 67 => S43 ls
  | _ => none
def cn31 : FuncId → Option Nat := fun f => match f with

  | _ => none
def E31 : Env Ty6 den6 := mk6 T31 cn31 dr31 33
theorem ev31 (n : Nat) (a0 : List Int) : evFn E31 n Go.Proofs.Tryd.f41 [.sl .i32 a0 none] =
    bif decide ((List.length a0 : Int) < 2) then (some (.tup [.int .i32 0, .int .i64 0])) else (match idx a0 1 with | none => none | some y1 => (bif y1 == 34 then (bif y1 == 34 then (match idx a0 1 with | none => none | some y2 => (some (.tup [.int .i32 y2, .int .i64 2]))) else (bif y1 == 98 then (some (.tup [.int .i32 8, .int .i64 2])) else (bif y1 == 102 then (some (.tup [.int .i32 12, .int .i64 2])) else (bif y1 == 110 then (some (.tup [.int .i32 10, .int .i64 2])) else (bif y1 == 114 then (some (.tup [.int .i32 13, .int .i64 2])) else (bif y1 == 116 then (some (.tup [.int .i32 9, .int .i64 2])) else (bif y1 == 117 then (bif lim4 a0 && decide (2 ≤ List.length a0) then (some (.tup [.int .i32 ((codedF (List.drop 2 a0)).1), .int .i64 ((codedF (List.drop 2 a0)).2)])) else none) else (some (.tup [.int .i32 0, .int .i64 0]))))))))) else (bif y1 == 92 then (bif y1 == 92 then (match idx a0 1 with | none => none | some y3 => (some (.tup [.int .i32 y3, .int .i64 2]))) else (bif y1 == 98 then (some (.tup [.int .i32 8, .int .i64 2])) else (bif y1 == 102 then (some (.tup [.int .i32 12, .int .i64 2])) else (bif y1 == 110 then (some (.tup [.int .i32 10, .int .i64 2])) else (bif y1 == 114 then (some (.tup [.int .i32 13, .int .i64 2])) else (bif y1 == 116 then (some (.tup [.int .i32 9, .int .i64 2])) else (bif y1 == 117 then (bif lim4 a0 && decide (2 ≤ List.length a0) then (some (.tup [.int .i32 ((codedF (List.drop 2 a0)).1), .int .i64 ((codedF (List.drop 2 a0)).2)])) else none) else (some (.tup [.int .i32 0, .int .i64 0]))))))))) else (bif y1 == 47 then (match idx a0 1 with | none => none | some y4 => (some (.tup [.int .i32 y4, .int .i64 2]))) else (bif y1 == 98 then (some (.tup [.int .i32 8, .int .i64 2])) else (bif y1 == 102 then (some (.tup [.int .i32 12, .int .i64 2])) else (bif y1 == 110 then (some (.tup [.int .i32 10, .int .i64 2])) else (bif y1 == 114 then (some (.tup [.int .i32 13, .int .i64 2])) else (bif y1 == 116 then (some (.tup [.int .i32 9, .int .i64 2])) else (bif y1 == 117 then (bif lim4 a0 && decide (2 ≤ List.length a0) then (some (.tup [.int .i32 ((codedF (List.drop 2 a0)).1), .int .i64 ((codedF (List.drop 2 a0)).2)])) else none) else (some (.tup [.int .i32 0, .int .i64 0])))))))))))) := by
  kernel_rfl

/- pergola/utf.Source -/
def dr32 : Nat → List Nat := fun r => match r with
  | 0 => [2]
  | 1 => [3]
  | 2 => [0, 4, 5, 6, 7, 8, 9, 10, 11, 12, 13, 14]
  | 3 => [0, 4, 15, 16, 17, 18, 19, 20, 21, 22, 23, 24]
  | _ => []
def T32 : T6 := fun f ls => match f with

  | _ => none
def cn32 : FuncId → Option Nat := fun f => match f with

  | _ => none
def E32 : Env Ty6 den6 := mk6 T32 cn32 dr32 25
theorem ev32 (n : Nat) (a0 : Int) : evFn E32 n Go.Proofs.Tryd.f25 [.int .i32 a0] =
    bif decide (a0 < 32) then (bif (a0 == 9) == false then (bif (a0 == 10) == false then (some (.one (.bool (a0 == 13)))) else (some (.one (.bool true)))) else (some (.one (.bool true)))) else (bif (decide (a0 ≤ 65535)) == true then (bif (decide (a0 < 55296)) == false then (some (.one (.bool (decide (a0 ≥ 57344))))) else (some (.one (.bool true)))) else (some (.one (.bool false)))) := by
  kernel_rfl

/- pergola/pergolaref01.Source -/
def dr53 : Nat → List Nat := fun r => match r with
  | 0 => [2]
  | 1 => [3]
  | 2 => [0, 4, 5, 6]
  | 3 => [0, 4, 7, 8, 9, 10, 11, 12]
  | _ => []
def T53 : T6 := fun f ls => match f with
  | 59 => S62 ls
  | 60 => S61 ls
  | _ => none
def cn53 : FuncId → Option Nat := fun f => match f with

  | _ => none
def E53 : Env Ty6 den6 := mk6 T53 cn53 dr53 13
theorem ev53 (n : Nat) (a0 : Int) : evFn E53 n Go.Proofs.Tryd.f30 [.int .i32 a0] =
    bif decide (a0 < 32) then (bif room (List.length [9, 10, 13]) 1 then (some (.one (.bool (inF a0 [9, 10, 13])))) else none) else (bif (decide (a0 < 65536)) == true then (some (.one (.bool (validF a0)))) else (some (.one (.bool false)))) := by
  kernel_rfl

/- pergola/pergolaref01.Scalar -/
def dr61 : Nat → List Nat := fun r => match r with
  | 0 => [2]
  | 1 => [3, 4, 5, 6, 7]
  | 2 => [0, 8]
  | 3 => [0, 8, 9, 10, 11, 12, 13, 14]
  | _ => []
def T61 : T6 := fun f ls => match f with

  | _ => none
def cn61 : FuncId → Option Nat := fun f => match f with

  | _ => none
def E61 : Env Ty6 den6 := mk6 T61 cn61 dr61 15
theorem ev61 (n : Nat) (a0 : Int) : evFn E61 n Go.Proofs.Tryd.f60 [.int .i32 a0] =
    bif (decide (a0 ≥ 55296)) == true then (bif decide (a0 ≤ 57343) then (some (.one (.bool false))) else (bif (decide (a0 ≥ 0)) == true then (some (.one (.bool (decide (a0 ≤ 1114111))))) else (some (.one (.bool false))))) else (bif (decide (a0 ≥ 0)) == true then (some (.one (.bool (decide (a0 ≤ 1114111))))) else (some (.one (.bool false)))) := by
  kernel_rfl

/- pergola/pergolaref01.in -/
def dr62 : Nat → List Nat := fun r => match r with
  | 0 => [4]
  | 2 => [6, 7, 8]
  | 3 => [10, 11, 17]
  | 4 => [9, 12, 13, 14, 15, 16]
  | 5 => [0, 1, 5, 17]
  | 6 => [0, 1, 5, 9]
  | _ => []
def T62 : T6 := fun f ls => match f with

  | _ => none
def cn62 : FuncId → Option Nat := fun f => match f with

  | _ => none
def E62 : Env Ty6 den6 := mk6 T62 cn62 dr62 18
def st62_2 (x0 : Int) (x1 : List UInt8) (x5 : Int) : S6 := ⟨[(0, .one (.int .i32 x0)), (1, .one (.str x1)), (5, .one (.int .i64 x5))], []⟩
theorem ev62 (n : Nat) (a0 : Int) (a1 : List UInt8) : evFn E62 n Go.Proofs.Tryd.f59 [.int .i32 a0, .str a1] =
    evLoop (lbC E62 (cdAt Go.Proofs.Tryd.f59 [1, 0, 1, 0, 0]) 10002 n) n (st62_2 a0 a1 0) (blockK 0 (seqK (evCode E62 n (cdAt Go.Proofs.Tryd.f59 [1, 1])) (retK Go.Proofs.Tryd.f59.results.toList))) := by
  kernel_rfl
theorem lb62_2_eq (n : Nat) (x0 : Int) (x1 : List UInt8) (x5 : Int) (K : Ex → S6 → Option E6) : lbC E62 (cdAt Go.Proofs.Tryd.f59 [1, 0, 1, 0, 0]) 10002 n (st62_2 x0 x1 x5) K =
    bif decide (x5 < (List.length x1 : Int)) then (match idx x1 x5 with | none => none | some y1 => (bif (IntKind.wrap .i32 (UInt8.toNat y1 : Int)) == x0 then (K .ret ⟨[(4, .one (.bool true))], []⟩) else (K .normal (st62_2 x0 x1 (IntKind.wrap .i64 (x5 + 1)))))) else (K (.exit 0) ⟨[(0, .one (.int .i32 x0)), (1, .one (.str x1)), (5, .one (.int .i64 x5)), (9, .one (.bool (decide (x5 < (List.length x1 : Int)))))], []⟩) := by
  kernel_rfl
theorem ex62_2_0 (n : Nat) (x0 : Int) (x1 : List UInt8) (x5 : Int) (x9 : Bool) : (blockK 0 (seqK (evCode E62 n (cdAt Go.Proofs.Tryd.f59 [1, 1])) (retK Go.Proofs.Tryd.f59.results.toList))) (.exit 0) ⟨[(0, .one (.int .i32 x0)), (1, .one (.str x1)), (5, .one (.int .i64 x5)), (9, .one (.bool x9))], []⟩ =
    some (.one (.bool false)) := by
  kernel_rfl

/- unicode/utf8.ValidRune -/
def dr44 : Nat → List Nat := fun r => match r with
  | 0 => [2]
  | 1 => [4, 5, 6, 7, 8, 9]
  | 2 => [0, 3]
  | 3 => [0, 3, 11, 12, 13, 14, 15, 16]
  | 4 => [10]
  | 5 => [10]
  | _ => []
def T44 : T6 := fun f ls => match f with

  | _ => none
def cn44 : FuncId → Option Nat := fun f => match f with

  | _ => none
def E44 : Env Ty6 den6 := mk6 T44 cn44 dr44 17
theorem ev44 (n : Nat) (a0 : Int) : evFn E44 n Go.Proofs.Tryd.f52 [.int .i32 a0] =
    bif (decide (0 ≤ a0)) == true then (bif decide (a0 < 55296) then (some (.one (.bool true))) else (bif (decide (57343 < a0)) == true then (bif decide (a0 ≤ 1114111) then (some (.one (.bool true))) else (some (.one (.bool false)))) else (some (.one (.bool false))))) else (bif (decide (57343 < a0)) == true then (bif decide (a0 ≤ 1114111) then (some (.one (.bool true))) else (some (.one (.bool false)))) else (some (.one (.bool false)))) := by
  kernel_rfl

/- unicode/utf8.AppendRune -/
def dr45 : Nat → List Nat := fun r => match r with
  | 0 => [4]
  | 1 => [5, 6]
  | 2 => [0, 1, 7, 8, 9, 10, 11, 12]
  | 3 => [0, 1, 7, 13, 14, 15]
  | _ => []
def T45 : T6 := fun f ls => match f with
  | 75 => S59 ls
  | _ => none
def cn45 : FuncId → Option Nat := fun f => match f with
  | 75 => some 0
  | _ => none
def E45 : Env Ty6 den6 := mk6 T45 cn45 dr45 16
theorem ev45 (n : Nat) (a0 : List Int) (a1 : Int) : evFn E45 n Go.Proofs.Tryd.f53 [.sl .u8 a0 (some 0), .int .i32 a1] =
    bif decide ((IntKind.wrap .u32 a1) ≤ 127) then (bif room (List.length a0 + 1) 1 then (some (.one (.sl .u8 (a0 ++ [IntKind.wrap .u8 a1]) (some 0)))) else none) else (bif room (List.length a0 + 4) 1 && validF a1 && decide (128 ≤ a1) then (some (.one (.sl .u8 (catI a0 (u8F a1)) (some 0)))) else none) := by
  kernel_rfl

/- unicode/utf8.appendRuneNonASCII -/
def dr59 : Nat → List Nat := fun r => match r with
  | 0 => [4]
  | 1 => [6, 7]
  | 2 => [0, 1, 8, 9, 10, 50]
  | 3 => [12, 13]
  | 4 => [0, 1, 5, 11, 14, 15, 16, 17, 18, 19, 20, 21, 22, 23, 24]
  | 5 => [11, 26, 27]
  | 6 => [28, 29, 30, 31, 32, 33]
  | 7 => [0, 1, 5, 25, 34, 35, 36, 37, 38, 39, 40, 41, 42, 43, 44, 45, 46, 47, 48, 49]
  | 8 => [5, 25, 51, 52, 53, 54, 55, 56]
  | 9 => [0, 1, 50, 57, 58, 59, 60, 61, 62, 63, 64, 65, 66, 67, 68, 69, 70, 71, 72, 73, 74, 75, 76, 77]
  | _ => []
def T59 : T6 := fun f ls => match f with

  | _ => none
def cn59 : FuncId → Option Nat := fun f => match f with

  | _ => none
def E59 : Env Ty6 den6 := mk6 T59 cn59 dr59 78
theorem ev59 (n : Nat) (a0 : List Int) (a1 : Int) : evFn E59 n Go.Proofs.Tryd.f75 [.sl .u8 a0 (some 0), .int .i32 a1] =
    bif decide ((IntKind.wrap .u32 a1) ≤ 2047) then (bif room (List.length a0 + 2) 1 then (some (.one (.sl .u8 (a0 ++ [bits .or .u8 192 (IntKind.wrap .u8 (a1 / 2 ^ (Int.toNat 6))), bits .or .u8 128 (bits .and .u8 (IntKind.wrap .u8 a1) 63)]) (some 0)))) else none) else (bif decide ((IntKind.wrap .u32 a1) < 55296) then (bif decide ((IntKind.wrap .u32 a1) < 55296) then (bif room (List.length a0 + 3) 1 then (some (.one (.sl .u8 (a0 ++ [bits .or .u8 224 (IntKind.wrap .u8 (a1 / 2 ^ (Int.toNat 12))), bits .or .u8 128 (bits .and .u8 (IntKind.wrap .u8 (a1 / 2 ^ (Int.toNat 6))) 63), bits .or .u8 128 (bits .and .u8 (IntKind.wrap .u8 a1) 63)]) (some 0)))) else none) else (bif (decide ((IntKind.wrap .u32 a1) > 65535)) == true then (bif decide ((IntKind.wrap .u32 a1) ≤ 1114111) then (bif room (List.length a0 + 4) 1 then (some (.one (.sl .u8 (a0 ++ [bits .or .u8 240 (IntKind.wrap .u8 (a1 / 2 ^ (Int.toNat 18))), bits .or .u8 128 (bits .and .u8 (IntKind.wrap .u8 (a1 / 2 ^ (Int.toNat 12))) 63), bits .or .u8 128 (bits .and .u8 (IntKind.wrap .u8 (a1 / 2 ^ (Int.toNat 6))) 63), bits .or .u8 128 (bits .and .u8 (IntKind.wrap .u8 a1) 63)]) (some 0)))) else none) else (bif room (List.length a0 + 3) 1 then (some (.one (.sl .u8 (a0 ++ [239, 191, 189]) (some 0)))) else none)) else (bif room (List.length a0 + 3) 1 then (some (.one (.sl .u8 (a0 ++ [239, 191, 189]) (some 0)))) else none))) else (bif (decide (57343 < (IntKind.wrap .u32 a1))) == true then (bif decide ((IntKind.wrap .u32 a1) ≤ 65535) then (bif room (List.length a0 + 3) 1 then (some (.one (.sl .u8 (a0 ++ [bits .or .u8 224 (IntKind.wrap .u8 (a1 / 2 ^ (Int.toNat 12))), bits .or .u8 128 (bits .and .u8 (IntKind.wrap .u8 (a1 / 2 ^ (Int.toNat 6))) 63), bits .or .u8 128 (bits .and .u8 (IntKind.wrap .u8 a1) 63)]) (some 0)))) else none) else (bif (decide ((IntKind.wrap .u32 a1) > 65535)) == true then (bif decide ((IntKind.wrap .u32 a1) ≤ 1114111) then (bif room (List.length a0 + 4) 1 then (some (.one (.sl .u8 (a0 ++ [bits .or .u8 240 (IntKind.wrap .u8 (a1 / 2 ^ (Int.toNat 18))), bits .or .u8 128 (bits .and .u8 (IntKind.wrap .u8 (a1 / 2 ^ (Int.toNat 12))) 63), bits .or .u8 128 (bits .and .u8 (IntKind.wrap .u8 (a1 / 2 ^ (Int.toNat 6))) 63), bits .or .u8 128 (bits .and .u8 (IntKind.wrap .u8 a1) 63)]) (some 0)))) else none) else (bif room (List.length a0 + 3) 1 then (some (.one (.sl .u8 (a0 ++ [239, 191, 189]) (some 0)))) else none)) else (bif room (List.length a0 + 3) 1 then (some (.one (.sl .u8 (a0 ++ [239, 191, 189]) (some 0)))) else none))) else (bif (decide ((IntKind.wrap .u32 a1) > 65535)) == true then (bif decide ((IntKind.wrap .u32 a1) ≤ 1114111) then (bif room (List.length a0 + 4) 1 then (some (.one (.sl .u8 (a0 ++ [bits .or .u8 240 (IntKind.wrap .u8 (a1 / 2 ^ (Int.toNat 18))), bits .or .u8 128 (bits .and .u8 (IntKind.wrap .u8 (a1 / 2 ^ (Int.toNat 12))) 63), bits .or .u8 128 (bits .and .u8 (IntKind.wrap .u8 (a1 / 2 ^ (Int.toNat 6))) 63), bits .or .u8 128 (bits .and .u8 (IntKind.wrap .u8 a1) 63)]) (some 0)))) else none) else (bif room (List.length a0 + 3) 1 then (some (.one (.sl .u8 (a0 ++ [239, 191, 189]) (some 0)))) else none)) else (bif room (List.length a0 + 3) 1 then (some (.one (.sl .u8 (a0 ++ [239, 191, 189]) (some 0)))) else none)))) := by
  kernel_rfl

end Go.Aev
end
