/- Proved here: lemmas of an evaluator over the model's code that the claim's text uses (F6 A6 H6). Conditions: those that each lemma states. -/
import Derived.Test.YtljnggaaohddnaaFevE
import Derived.Test.YtljnggaaohddnaaRows
import Derived.IntWalk
section
set_option linter.unusedVariables false
namespace Go.Aev

abbrev S6 := St Ty6 den6
abbrev T6 := FuncId → List L6 → Option (Bool × E6)

/-- A part of a body. -/
def nav : Code → List Nat → Code
  | c, [] => c
  | .seq a b, i :: p => match i with | 0 => nav a p | _ => nav b p
  | .cond _ a b, i :: p => match i with | 0 => nav a p | _ => nav b p
  | .block _ c, _ :: p => nav c p
  | .loop c, _ :: p => nav c p
  | c, _ => c
def body (f : Func) : Code := match f.body with | some c => c | none => .skip
def cdAt (f : Func) (p : List Nat) : Code := nav (body f) p

def lim4 (l : List Int) : Bool := room l.length 4
def limL (ls : List (List Int)) : Bool := room ls.length 24 && ls.all lim4
def runes6 (s : List UInt8) : List Int := (Conv.runesFrom ⟨s.toArray⟩ s.length 0 #[]).toList.map fun | .int _ n => n | _ => 0

def whiteF (c : Int) : Bool := c == 9 || c == 32
def indentN (l : List Int) : Nat := (l.takeWhile whiteF).length
def indentF (l : List Int) : Int := indentN l
def blankF (l : List Int) : Bool := l.all whiteF
/-- The least indent of lines that are not blank, or -1. -/
def leastF : Int → List (List Int) → Int
  | m, [] => m
  | m, l :: r => leastF (if !blankF l && (decide (m < 0) || decide (indentF l < m)) then indentF l else m) r
def commonF (ls : List (List Int)) : Int := let m := leastF (-1) (ls.drop 1); if m < 0 then 0 else m
def cutF (ls : List (List Int)) : List (List Int) := ls.take 1 ++ (ls.drop 1).map fun l => l.drop (commonF ls).toNat
def trimF (ls : List (List Int)) : List (List Int) := ((ls.dropWhile blankF).reverse.dropWhile blankF).reverse
def sameF (a b : List (List Int)) : Bool := a == b
def dedentF (ls : List (List Int)) : List (List Int) := trimF (cutF ls)
end Go.Aev
namespace Go.Aev
section
variable {Ty : Type} {den : Ty → Type} {R : Type}
/-- A loop's body, with what its head forgets. -/
def lbC (E : Env Ty den) (c : Code) (hid n : Nat) : St Ty den → (Ex → St Ty den → Option R) → Option R := fun s k => evCode E n c s (headK (E.drop hid) k)
end
/-! ### quoted strings -/
def digitF (c : Int) : Bool := decide (48 ≤ c) && decide (c ≤ 57)
def hexF (c : Int) : Int := if digitF c then c - 48 else if decide (97 ≤ c) && decide (c ≤ 102) then c - 87 else if decide (65 ≤ c) && decide (c ≤ 70) then c - 55 else -1
def hexAcc : Int → List Int → Int
  | n, [] => n
  | n, c :: r => if hexF c < 0 then -1 else hexAcc (n * 16 + hexF c) r
def hex4F (l : List Int) : Int := if l.length < 4 then -1 else hexAcc 0 (l.take 4)
def joinF (high low : Int) : Int × Bool := if decide (high < 55296) || decide (56320 ≤ high) || decide (low < 56320) || decide (57344 ≤ low) then (0, false) else (65536 + (high - 55296) * 1024 + (low - 56320), true)
/-- What stands behind a '\\u'. -/
def codedF (l : List Int) : Int × Int :=
  let high := hex4F l
  if high < 0 ∨ (56320 ≤ high ∧ high ≤ 57343) then (0, 0)
  else if high < 55296 ∨ 57343 < high then (high, 6)
  else if 10 ≤ l.length ∧ l[4]? = some 92 ∧ l[5]? = some 117 ∧ (joinF high (hex4F (l.drop 6))).2 = true then ((joinF high (hex4F (l.drop 6))).1, 12) else (0, 0)
def shortF (c : Int) : Int := if c = 34 ∨ c = 92 ∨ c = 47 then c else if c = 98 then 8 else if c = 102 then 12 else if c = 110 then 10 else if c = 114 then 13 else if c = 116 then 9 else -1
def escF : List Int → Int × Int
  | _ :: c :: r => if 0 ≤ shortF c then (shortF c, 2) else if c = 117 then codedF r else (0, 0)
  | _ => (0, 0)
def sourceF (c : Int) : Bool := if c < 32 then c == 9 || (c == 10 || c == 13) else decide (c ≤ 65535) && (decide (c < 55296) || decide (57344 ≤ c))
def validF (c : Int) : Bool := (decide (0 ≤ c) && decide (c < 55296)) || (decide (57343 < c) && decide (c ≤ 1114111))
def inF (c : Int) (t : List UInt8) : Bool := t.any fun b => (b.toNat : Int) == c
def u8F (c : Int) : List Int :=
  if c < 128 then [c]
  else if c < 2048 then [192 + c / 64, 128 + c % 64]
  else if c < 65536 then [224 + c / 4096, 128 + c / 64 % 64, 128 + c % 64]
  else [240 + c / 262144, 128 + c / 4096 % 64, 128 + c / 64 % 64, 128 + c % 64]
def putF (c : Int) : List Int := if validF c then u8F c else []
def toB (l : List Int) : List UInt8 := l.map fun n => UInt8.ofNat n.toNat
def encB (l : List Int) : List UInt8 := toB (l.flatMap u8F)
def encF (l : List Int) : List UInt8 × Bool := if l.all validF then (encB l, true) else ([], false)
def plainF (c : Int) : Bool := sourceF c && !(c == 34) && !(c == 92) && !(c == 10) && !(c == 13)
def unitF (l : List Int) : Int := if l[0]? = some 92 ∧ l[1]? = some 117 then hex4F (l.drop 2) else -1
def pieceF : List Int → Int × Int
  | [] => (0, 0)
  | c :: r => if plainF c then (c, 1) else if c = 92 then escF (c :: r) else (0, 0)
def quotedN : Nat → List Int → Option (List Int)
  | _, [] => some []
  | 0, _ => none
  | n + 1, l => if (pieceF l).2 ≤ 0 then none else (quotedN n (l.drop (pieceF l).2.toNat)).map ((pieceF l).1 :: ·)
def quotedL (l : List Int) : Option (List Int) := quotedN l.length l
def finF : Option (List Int) → List UInt8 × Int
  | some l => ((encF l).1, 0)
  | none => ([], 60)
def quotedF (l : List Int) : List UInt8 × Int := finF (quotedL l)
def catI (a b : List Int) : List Int := a ++ b
/-! ### block strings -/
def smL (l : List Int) : Bool := decide (l.length ≤ 1073741824)
def smLL (ls : List (List Int)) : Bool := decide (ls.length ≤ 1073741824) && ls.all smL
def quotesF : List Int → Bool
  | 34 :: 34 :: 34 :: _ => true
  | _ => false
def openF : List Int → List Int
  | 92 :: 34 :: 34 :: 34 :: r => 34 :: 34 :: 34 :: openF r
  | c :: r => c :: openF r
  | [] => []
/-- No character, and no three quotes by themselves, that may not stand there. -/
def midF : List Int → Bool
  | 92 :: 34 :: 34 :: 34 :: r => midF r
  | c :: r => if !sourceF c || quotesF (c :: r) then false else midF r
  | [] => true
def lastF : Int → List Int → Int
  | _, 92 :: 34 :: 34 :: 34 :: r => lastF 0 r
  | _, c :: r => lastF c r
  | last, [] => last
def okEnd (x : Int) : Bool := !(x == 34) && !(x == 92)
def blockOkF (last : Int) (l : List Int) : Bool := midF l && okEnd (lastF last l)
def endsF : List Int → Bool
  | 10 :: _ => true
  | 13 :: r => !(r.head? == some 10)
  | _ => false
def lineF : List Int → List Int → List (List Int)
  | cur, [] => [cur]
  | cur, c :: r => if endsF (c :: r) then cur :: lineF [] r else if c = 13 then lineF cur r else lineF (cur ++ [c]) r
def linesF (l : List Int) : List (List Int) := lineF [] l
def startsN : Nat → List Int → List Int
  | _, [] => []
  | i, c :: r => if endsF (c :: r) then ((i + 1 : Nat) : Int) :: startsN (i + 1) r else startsN (i + 1) r
def startsF (l : List Int) : List Int := 0 :: startsN 0 l
def joinLF : List (List Int) → List Int
  | [] => []
  | l :: r => l ++ r.flatMap (10 :: ·)
def unmF (l : List Int) : List Int × Bool := if midF l then (openF l, okEnd (lastF 0 l)) else ([], false)
def blockF (l : List Int) : List UInt8 × Int := if blockOkF 0 l then ((encF (joinLF (dedentF (linesF (openF l))))).1, 0) else ([], 60)
def isEsc : List Int → Bool
  | 92 :: 34 :: 34 :: 34 :: _ => true
  | _ => false
end Go.Aev
end

section
set_option linter.unusedVariables false
namespace Go.Aev
open Go.Proofs
theorem tbSlice {Ty : Type} {den : Ty → Type} {P : Program} {U : UO Ty den} {t e : TypeId} {u : Ty} (h1 : P.underlying t = some (.slice e))
    (h2 : (match P.info? e with
      | some i => Nat.beq i.size (U.size u) && (Nat.beq i.bytes (U.bytes u) && (match i.zero with | some z => Nat.beq z.cells.size (U.size u) | none => false))
      | none => false) = true) : TbOk P U t (.slice u e) := by
  refine ⟨h1, ?_⟩
  split at h2
  · rename_i i hi
    simp only [Bool.and_eq_true, Nat.beq_eq] at h2
    obtain ⟨h3, h4, h5⟩ := h2
    split at h5
    · rename_i z hz
      exact ⟨i, z, hi, h3, h4, hz, Nat.eq_of_beq_eq_true h5⟩
    · cases h5
  · cases h2

def tb6 (t : TypeId) : TK Ty6 :=
  match t with
  | 3 | 30 => .int .i64
  | 4 => .bool
  | 5 => .int .u8
  | 9 => .str
  | 21 => .int .i32
  | 25 => .slice .i32 21
  | 23 => .slice .rs 25
  | 53 => .slice .u8 5
  | 61 => .slice .i64 3
  | 64 => .int .u32
  | _ => .other

theorem tb6_ok (t : TypeId) : TbOk Try.prog U6 t (tb6 t) := by
  unfold tb6
  split
  · exact Try.underlying3
  · exact Try.underlying30
  · exact Try.underlying4
  · exact Try.underlying5
  · exact Try.underlying9
  · exact Try.underlying21
  · exact tbSlice Try.underlying25 (by kernel_rfl)
  · exact tbSlice Try.underlying23 (by kernel_rfl)
  · exact tbSlice Try.underlying53 (by kernel_rfl)
  · exact tbSlice Try.underlying61 (by kernel_rfl)
  · exact Try.underlying64
  · trivial

def mk6 (T : T6) (cons : FuncId → Option Nat) (drop : Nat → List Nat) (nt : Nat) (dd : Nat → Bool := fun _ => false) : Env Ty6 den6 := ⟨U6, tb6, T, cons, drop, nt, dd⟩

def S41 : List L6 → Option (Bool × E6)
  | [.int .i32 a0] => some (true, .one (.bool (whiteF a0)))
  | _ => none
def S28 : List L6 → Option (Bool × E6)
  | [.sl .i32 a0 none] => some (lim4 a0, .one (.int .i64 (indentF a0)))
  | _ => none
def S27 : List L6 → Option (Bool × E6)
  | [.sl .i32 a0 none] => some (lim4 a0, .one (.bool (blankF a0)))
  | _ => none
def S56 : List L6 → Option (Bool × E6)
  | [.int .i32 a0] => some (true, .one (.bool (whiteF a0)))
  | _ => none
def S42 : List L6 → Option (Bool × E6)
  | [.sl .i32 a0 none] => some (lim4 a0, .one (.int .i64 (indentF a0)))
  | _ => none
def S30 : List L6 → Option (Bool × E6)
  | [.sl .i32 a0 none] => some (lim4 a0, .one (.bool (blankF a0)))
  | _ => none
def S17 : List L6 → Option (Bool × E6)
  | [.sl .i32 a0 none] => some (lim4 a0, .one (.int .i64 (indentF a0)))
  | _ => none
def S29 : List L6 → Option (Bool × E6)
  | [.sl .rs a0 none] => some (limL a0, .one (.int .i64 (commonF a0)))
  | _ => none
def S13 : List L6 → Option (Bool × E6)
  | [.str a0] => some (room (List.length a0) 1, .one (.sl .i32 (runes6 a0) (some 1)))
  | _ => none
def S20 : List L6 → Option (Bool × E6)
  | [.sl .i32 a0 none] => some (lim4 a0, .one (.sl .i32 a0 (some 1)))
  | _ => none
def S15 : List L6 → Option (Bool × E6)
  | [.sl .rs a0 none] => some (limL a0, .one (.sl .rs a0 (some 1000001)))
  | _ => none
def S14 : List L6 → Option (Bool × E6)
  | [.sl .rs a0 none, .sl .rs a1 none] => some (limL a0 && limL a1, .one (.bool (sameF a0 a1)))
  | _ => none
def S12 : List L6 → Option (Bool × E6)
  | [.sl .rs a0 none] => some (limL a0, .one (.sl .rs (dedentF a0) (some 1000001)))
  | _ => none
def S16 : List L6 → Option (Bool × E6)
  | [.sl .rs a0 none] => some (limL a0, .one (.sl .rs (dedentF a0) none))
  | _ => none
def S06 : List L6 → Option (Bool × E6)
  | [.sl .rs a0 none] => some (limL a0, .one (.bool true))
  | _ => none
def S5 : List L6 → Option (Bool × E6)
  | [.sl .rs a0 none] => some (limL a0, .one (.bool true))
  | _ => none
def S64 : List L6 → Option (Bool × E6)
  | [.int .i32 a0] => some (true, .one (.bool (digitF a0)))
  | _ => none
def S63 : List L6 → Option (Bool × E6)
  | [.int .i32 a0] => some (true, .one (.int .i64 (hexF a0)))
  | _ => none
def S60 : List L6 → Option (Bool × E6)
  | [.int .i32 a0] => some (true, .one (.int .i64 (hexF a0)))
  | _ => none
def S57 : List L6 → Option (Bool × E6)
  | [.sl .i32 a0 none] => some (lim4 a0, .one (.int .i32 (hex4F a0)))
  | _ => none
def S58 : List L6 → Option (Bool × E6)
  | [.int .i32 a0, .int .i32 a1] => some (true, .tup [.int .i32 ((joinF a0 a1).1), .bool ((joinF a0 a1).2)])
  | _ => none
def S49 : List L6 → Option (Bool × E6)
  | [.int .i32 a0, .int .i32 a1] => some (true, .tup [.int .i32 ((joinF a0 a1).1), .bool ((joinF a0 a1).2)])
  | _ => none
def S43 : List L6 → Option (Bool × E6)
  | [.sl .i32 a0 none] => some (lim4 a0 && decide (2 ≤ List.length a0), .tup [.int .i32 ((codedF (List.drop 2 a0)).1), .int .i64 ((codedF (List.drop 2 a0)).2)])
  | _ => none
def S31 : List L6 → Option (Bool × E6)
  | [.sl .i32 a0 none] => some (lim4 a0, .tup [.int .i32 ((escF a0).1), .int .i64 ((escF a0).2)])
  | _ => none
def S32 : List L6 → Option (Bool × E6)
  | [.int .i32 a0] => some (true, .one (.bool (sourceF a0)))
  | _ => none
def S53 : List L6 → Option (Bool × E6)
  | [.int .i32 a0] => some (true, .one (.bool (sourceF a0)))
  | _ => none
def S44 : List L6 → Option (Bool × E6)
  | [.int .i32 a0] => some (true, .one (.bool (validF a0)))
  | _ => none
def S61 : List L6 → Option (Bool × E6)
  | [.int .i32 a0] => some (true, .one (.bool (validF a0)))
  | _ => none
def S62 : List L6 → Option (Bool × E6)
  | [.int .i32 a0, .str a1] => some (room (List.length a1) 1, .one (.bool (inF a0 a1)))
  | _ => none
def S45 : List L6 → Option (Bool × E6)
  | [.sl .u8 a0 (some 0), .int .i32 a1] => some (room (List.length a0 + 4) 1 && validF a1, .one (.sl .u8 (catI a0 (u8F a1)) (some 0)))
  | _ => none
def S59 : List L6 → Option (Bool × E6)
  | [.sl .u8 a0 (some 0), .int .i32 a1] => some (room (List.length a0 + 4) 1 && validF a1 && decide (128 ≤ a1), .one (.sl .u8 (catI a0 (u8F a1)) (some 0)))
  | _ => none
def S33 : List L6 → Option (Bool × E6)
  | [.sl .i32 a0 none] => some (lim4 a0, .tup [.str ((encF a0).1), .bool ((encF a0).2)])
  | _ => none
def S35 : List L6 → Option (Bool × E6)
  | [.sl .i32 a0 none] => some (lim4 a0, .tup [.str ((encF a0).1), .bool ((encF a0).2)])
  | _ => none
def S50 : List L6 → Option (Bool × E6)
  | [.int .i32 a0] => some (true, .one (.sl .u8 (putF a0) (some 1)))
  | _ => none
def S46 : List L6 → Option (Bool × E6)
  | [.int .i32 a0] => some (true, .one (.bool (plainF a0)))
  | _ => none
def S47 : List L6 → Option (Bool × E6)
  | [.int .i32 a0] => some (true, .one (.int .i32 (shortF a0)))
  | _ => none
def S48 : List L6 → Option (Bool × E6)
  | [.sl .i32 a0 none, .int .i64 a1] => some (lim4 a0 && decide (0 ≤ a1) && decide (a1 ≤ (List.length a0 : Int) + 12), .one (.int .i32 (unitF (List.drop (Int.toNat a1) a0))))
  | _ => none
def S34 : List L6 → Option (Bool × E6)
  | [.sl .i32 a0 none, .int .i64 a1] => some (lim4 a0 && decide (0 ≤ a1) && decide (a1 < (List.length a0 : Int)), .tup [.int .i32 ((pieceF (List.drop (Int.toNat a1) a0)).1), .int .i64 ((pieceF (List.drop (Int.toNat a1) a0)).2)])
  | _ => none
def S19 : List L6 → Option (Bool × E6)
  | [.sl .i32 a0 none] => some (lim4 a0, .tup [.str ((quotedF a0).1), .int .i64 ((quotedF a0).2)])
  | _ => none
def S21 : List L6 → Option (Bool × E6)
  | [.sl .i32 a0 none] => some (lim4 a0, .tup [.str ((quotedF a0).1), .int .i64 ((quotedF a0).2)])
  | _ => none
def S22 : List L6 → Option (Bool × E6)
  | [.sl .i32 a0 none] => some (smL a0, .tup [.str ((blockF a0).1), .int .i64 ((blockF a0).2)])
  | _ => none
def S23 : List L6 → Option (Bool × E6)
  | [.sl .i32 a0 none] => some (smL a0, .tup [.str ((blockF a0).1), .int .i64 ((blockF a0).2)])
  | _ => none
def S18 : List L6 → Option (Bool × E6)
  | [] => some (true, .one (.bool true))
  | _ => none
def S7 : List L6 → Option (Bool × E6)
  | [.sl .rs a0 none] => some (limL a0, .one (.bool true))
  | _ => none
def S8 : List L6 → Option (Bool × E6)
  | [.sl .rs a0 none] => some (smLL a0, .one (.bool true))
  | _ => none
def S9 : List L6 → Option (Bool × E6)
  | [.sl .i32 a0 none, .sl .i32 a1 none] => some (smL a0 && smL a1, .one (.bool true))
  | _ => none
def S36 : List L6 → Option (Bool × E6)
  | [.sl .i32 a0 none] => some (smL a0, .tup [.sl .i32 ((unmF a0).1) (some 1), .bool ((unmF a0).2)])
  | _ => none
def S37 : List L6 → Option (Bool × E6)
  | [.sl .i32 a0 none] => some (smL a0, .one (.sl .rs (linesF a0) (some 1)))
  | _ => none
def S38 : List L6 → Option (Bool × E6)
  | [.sl .i32 a0 none] => some (smL a0, .one (.bool (blockOkF 0 a0)))
  | _ => none
def S39 : List L6 → Option (Bool × E6)
  | [.sl .i32 a0 none] => some (smL a0, .one (.sl .rs (linesF a0) (some 1)))
  | _ => none
def S40 : List L6 → Option (Bool × E6)
  | [.sl .i32 a0 none] => some (smL a0, .one (.sl .i32 (openF a0) (some 1)))
  | _ => none
def S51 : List L6 → Option (Bool × E6)
  | [.sl .i32 a0 none] => some (lim4 a0, .one (.bool (quotesF a0)))
  | _ => none
def S52 : List L6 → Option (Bool × E6)
  | [.sl .i32 a0 none, .int .i64 a1] => some (lim4 a0 && decide (0 ≤ a1) && decide (a1 < (List.length a0 : Int)), .one (.bool (endsF (List.drop (Int.toNat a1) a0))))
  | _ => none
def S54 : List L6 → Option (Bool × E6)
  | [.sl .i32 a0 none, .int .i64 a1] => some (lim4 a0 && decide (0 ≤ a1) && decide (a1 < (List.length a0 : Int)), .one (.bool (isEsc (List.drop (Int.toNat a1) a0))))
  | _ => none
def S55 : List L6 → Option (Bool × E6)
  | [.sl .i32 a0 none] => some (smL a0, .one (.sl .i64 (startsF a0) (some 1)))
  | _ => none
end Go.Aev
end

section
set_option linter.unusedVariables false
namespace Go.Aev
section
variable {Ty : Type} {den : Ty → Type} {R : Type}
def loopK (body : St Ty den → (Ex → St Ty den → Option R) → Option R) (m : Nat) (k : Ex → St Ty den → Option R) : Ex → St Ty den → Option R
  | .normal, s => evLoop body m s k
  | e, s => k e s
theorem evLoop_succ (body : St Ty den → (Ex → St Ty den → Option R) → Option R) (m : Nat) (s : St Ty den) (k : Ex → St Ty den → Option R) :
    evLoop body (m + 1) s k = body s (loopK body m k) := by
  simp only [evLoop]
  congr 1
  funext e s'
  cases e <;> rfl
theorem loopK_normal (body : St Ty den → (Ex → St Ty den → Option R) → Option R) (m : Nat) (s : St Ty den) (k : Ex → St Ty den → Option R) : loopK body m k .normal s = evLoop body m s k := rfl
theorem loopK_exit (body : St Ty den → (Ex → St Ty den → Option R) → Option R) (m : Nat) (s : St Ty den) (k : Ex → St Ty den → Option R) (i : Nat) : loopK body m k (.exit i) s = k (.exit i) s := rfl
theorem loopK_ret (body : St Ty den → (Ex → St Ty den → Option R) → Option R) (m : Nat) (s : St Ty den) (k : Ex → St Ty den → Option R) : loopK body m k .ret s = k .ret s := rfl
end

theorem room_iff {n b : Nat} : room n b = true ↔ n * b ≤ 140737488355328 := by simp [room]
theorem lim4_iff {l : List Int} : lim4 l = true ↔ l.length * 4 ≤ 140737488355328 := room_iff
theorem lim4_len {l : List Int} (h : lim4 l = true) : l.length ≤ 35184372088832 := by have := lim4_iff.1 h; omega
theorem limL_len {l : List (List Int)} (h : limL l = true) : l.length * 24 ≤ 140737488355328 := by
  simp only [limL, Bool.and_eq_true] at h; exact room_iff.1 h.1
theorem limL_mem {l : List (List Int)} (h : limL l = true) {x : List Int} (hx : x ∈ l) : lim4 x = true := by
  simp only [limL, Bool.and_eq_true, List.all_eq_true] at h; exact h.2 x hx
theorem wrap64 {n : Int} (h : -9223372036854775808 ≤ n) (h2 : n ≤ 9223372036854775807) : IntKind.wrap .i64 n = n := Go.IntWalk.i64_in n ⟨h, h2⟩
theorem wrapSucc {i : Nat} (h : i < 9223372036854775807) : IntKind.wrap .i64 ((i : Int) + 1) = ((i + 1 : Nat) : Int) := by
  rw [wrap64 (by omega) (by omega)]; omega
theorem wrapPred {i : Nat} (h : i < 9223372036854775807) : IntKind.wrap .i64 (((i + 1 : Nat) : Int) - 1) = (i : Int) := by
  rw [wrap64 (by omega) (by omega)]; omega
theorem idx_nat {α : Type} (l : List α) (i : Nat) : idx l (i : Int) = l[i]? := by simp [idx]
theorem idx_lt {α : Type} {l : List α} {i : Nat} (h : i < l.length) : idx l (i : Int) = some l[i] := by rw [idx_nat, List.getElem?_eq_getElem h]

section
variable {Ty : Type} {den : Ty → Type} {R : Type}
/-- A loop by a measure: its result from each state that meets the invariant. -/
theorem loop_rule {σ : Type} {body : St Ty den → (Ex → St Ty den → Option R) → Option R} {k : Ex → St Ty den → Option R} (st : σ → St Ty den) (I : σ → Prop) (μ : σ → Nat) (F : σ → Option R)
    (h : ∀ x, I x → ∀ K : Ex → St Ty den → Option R, (∀ i s, K (.exit i) s = k (.exit i) s) → (∀ s, K .ret s = k .ret s) → (∀ y, I y → μ y < μ x → K .normal (st y) = F y) → body (st x) K = F x) :
    ∀ m x, I x → μ x < m → evLoop body m (st x) k = F x := by
  intro m
  induction m with
  | zero => intro x _ hm; omega
  | succ m ih =>
    intro x hx hm
    rw [evLoop_succ]
    exact h x hx _ (fun _ _ => rfl) (fun _ => rfl) (fun y hy hlt => ih y hy (by omega))
end

theorem sub_nat {α : Type} {l : List α} {lo hi : Nat} (h : lo ≤ hi) (h2 : hi ≤ l.length) : sub l (lo : Int) (hi : Int) = some ((l.drop lo).take (hi - lo)) := by
  unfold sub
  have h3 : (decide (0 ≤ (lo : Int)) && (decide ((lo : Int) ≤ (hi : Int)) && decide ((hi : Int) ≤ (l.length : Int)))) = true := by simp; omega
  rw [h3]; rfl
theorem sub_from {α : Type} {l : List α} {lo : Nat} (h : lo ≤ l.length) : sub l (lo : Int) (l.length : Int) = some (l.drop lo) := by
  rw [sub_nat h (Nat.le_refl _), List.take_of_length_le (by simp)]
theorem sub_all {α : Type} {l : List α} : sub l 0 (l.length : Int) = some l := by
  have := sub_from (l := l) (lo := 0) (Nat.zero_le _)
  simpa using this
theorem bT (b : Bool) : (b == true) = b := by cases b <;> rfl
theorem bF (b : Bool) : (b == false) = !b := by cases b <;> rfl
end Go.Aev
end
