/- Proved here: lemmas of an evaluator over the model's code that the claim's text uses (Core S1 S2 S3 S4). Conditions: those that each lemma states. -/
import Derived.WalkKit
import Derived.Orders
import Derived.KernelRfl
section
set_option linter.unusedVariables false
namespace Go.Aev
open Go

section defs
variable (Ty : Type) (den : Ty → Type)

/-- One cell's worth of an abstract value. -/
inductive Leaf : Type where
  | any
  | int (k : IntKind) (n : Int)
  | bool (b : Bool)
  | str (s : List UInt8)
  | sl (t : Ty) (l : List (den t)) (own : Option Nat)
  | elem (t : Ty) (x : den t) (off : Nat)
  | agg (t : Ty) (x : den t)
  | val (v : Value)

inductive Ent : Type where
  | one (l : Leaf Ty den)
  | tup (ls : List (Leaf Ty den))
  | iter (s : List UInt8) (pos : Nat)

structure UO where
  deq : (t u : Ty) → Decidable (t = u)
  cells : (t : Ty) → den t → List (Leaf Ty den)
  dec : (t : Ty) → List (Leaf Ty den) → Option (den t)
  ofBytes : (t : Ty) → Option (List UInt8 → List (den t))
  toBytes : (t : Ty) → Option (List (den t) → List UInt8)
  ofRunes : (t : Ty) → Option (List Int → List (den t))
  toRunes : (t : Ty) → Option (List (den t) → List Int)
  size : Ty → Nat
  bytes : Ty → Nat

inductive TK where
  | int (k : IntKind)
  | str
  | bool
  | slice (t : Ty) (e : TypeId)
  | struct (t : Ty)
  | other

structure St where
  fr : List (Nat × Ent Ty den)
  live : List Nat

structure Env where
  U : UO Ty den
  tb : TypeId → TK Ty
  T : FuncId → List (Leaf Ty den) → Option (Bool × Ent Ty den)
  cons : FuncId → Option Nat
  drop : Nat → List Nat
  nt : Nat
  dd : Nat → Bool := fun _ => false
end defs

variable {Ty : Type} {den : Ty → Type}

def mem (d : Nat) : List Nat → Bool
  | [] => false
  | e :: r => bif Nat.beq e d then true else mem d r
def rem (d : Nat) : List Nat → List Nat
  | [] => []
  | e :: r => bif Nat.beq e d then rem d r else e :: rem d r

def Leaf.close : Leaf Ty den → Leaf Ty den
  | .sl t l _ => .sl t l none
  | x => x
def Leaf.strip (d : Nat) : Leaf Ty den → Leaf Ty den
  | .sl t l (some e) => .sl t l (bif Nat.beq e d then none else some e)
  | x => x
def Ent.strip (d : Nat) : Ent Ty den → Ent Ty den
  | .one l => .one (l.strip d)
  | .tup ls => .tup (ls.map (·.strip d))
  | e => e
def stripF (d : Nat) : List (Nat × Ent Ty den) → List (Nat × Ent Ty den)
  | [] => []
  | (i, e) :: r => (i, e.strip d) :: stripF d r

def look : List (Nat × Ent Ty den) → Nat → Ent Ty den
  | [], _ => .one .any
  | (j, e) :: r, i => bif Nat.beq j i then e else look r i
def ins : List (Nat × Ent Ty den) → Nat → Ent Ty den → List (Nat × Ent Ty den)
  | [], i, e => [(i, e)]
  | (j, x) :: r, i, e => bif Nat.beq j i then (i, e) :: r else bif Nat.blt i j then (i, e) :: (j, x) :: r else (j, x) :: ins r i e
def del : List (Nat × Ent Ty den) → List Nat → List (Nat × Ent Ty den)
  | [], _ => []
  | (j, x) :: r, ds => bif mem j ds then del r ds else (j, x) :: del r ds

namespace St
def get (s : St Ty den) (i : Nat) : Ent Ty den := look s.fr i
def set (s : St Ty den) (i : Nat) (e : Ent Ty den) : St Ty den := { s with fr := ins s.fr i e }
def setO (s : St Ty den) (d : Option Nat) (e : Ent Ty den) : St Ty den := match d with | some i => s.set i e | none => s
def fresh (s : St Ty den) (d : Nat) : St Ty den := { fr := stripF d s.fr, live := d :: rem d s.live }
def kill (s : St Ty den) (d : Nat) : St Ty den := { fr := stripF d s.fr, live := rem d s.live }
def dels (s : St Ty den) (ds : List Nat) : St Ty den := { s with fr := del s.fr ds }
def killAll (s : St Ty den) : List Nat → St Ty den
  | [] => s
  | d :: r => (s.kill d).killAll r
end St

def ofVal : Value → Leaf Ty den
  | .int k n => .int k n
  | .bool b => .bool b
  | .string s => .str s.data.toList
  | _ => .any

/-- An operand's entry; 'ty' types a nil slice. -/
def opd (E : Env Ty den) (s : St Ty den) (ty : TypeId) : Operand → Ent Ty den
  | .tmp t => match s.get t with
    | .iter _ _ => .one .any
    | e => e
  | .const v => match v with
    | .slice none 0 0 => match E.tb ty with
      | .slice u _ => .one (.sl u [] none)
      | _ => .one .any
    | v => .one (ofVal v)
  | _ => .one .any
def opl (E : Env Ty den) (s : St Ty den) (ty : TypeId) (x : Operand) : Leaf Ty den :=
  match opd E s ty x with
  | .one l => l
  | _ => .any
def isNil : Operand → Bool
  | .const (.slice none 0 0) => true
  | _ => false

/-- Names of slices whose rows are private too. -/
def deepN (d : Nat) : Bool := Nat.ble 1000000 d
def nmOf (dst : Option Nat) : Nat := match dst with | some d => 100 + d % 900000 | none => 99
/-- The name that nil takes: a deep one where the function's sheet says so. -/
def nmA (dd : Nat → Bool) (dst : Option Nat) : Nat := match dst with | some d => bif dd d then 1000000 + d else nmOf (some d) | none => nmOf none
def nmR (dst : Option Nat) (j : Nat) : Nat := match dst with | some d => (1000 * (j + 1) + d) % 900000 | none => 98

/-- An int by an int operator. -/
def intBin (op : BinOp) (k : IntKind) (a b : Int) : Option (Leaf Ty den) :=
  match op with
  | .add => some (.int k (k.wrap (a + b)))
  | .sub => some (.int k (k.wrap (a - b)))
  | .mul => some (.int k (k.wrap (a * b)))
  | .eql => some (.bool (a == b))
  | .neq => some (.bool (a != b))
  | .lss => some (.bool (a < b))
  | .leq => some (.bool (a ≤ b))
  | .gtr => some (.bool (a > b))
  | .geq => some (.bool (a ≥ b))
  | .and => some (.int k (bits .and k a b))
  | .or => some (.int k (bits .or k a b))
  | _ => none
def idx {α : Type} (l : List α) (i : Int) : Option α := bif decide (0 ≤ i) then l[i.toNat]? else none
def sub {α : Type} (l : List α) (lo hi : Int) : Option (List α) :=
  bif decide (0 ≤ lo) && (decide (lo ≤ hi) && decide (hi ≤ (l.length : Int))) then some ((l.drop lo.toNat).take (hi.toNat - lo.toNat)) else none
def castL (U : UO Ty den) (t u : Ty) (l : List (den u)) : Option (List (den t)) :=
  match U.deq u t with
  | .isTrue h => some (h ▸ l)
  | .isFalse _ => none
def room (n b : Nat) : Bool := decide (n * b ≤ 140737488355328)

/-- The text of runes, one that is no character as U+FFFD. -/
def runesB (ns : List Int) : List UInt8 := ns.flatMap fun n => (Utf8.encode n).data.toList

inductive Ex where
  | normal | exit (id : Nat) | ret

section ev
variable (E : Env Ty den) {R : Type}

def evBound (s : St Ty den) (d : Int) : Option Operand → Option Int
  | none => some d
  | some x => match opl E s 0 x with
    | .int _ n => some n
    | _ => none

def closeAll : List (Leaf Ty den) → List (Leaf Ty den)
  | [] => []
  | l :: r => l.close :: closeAll r
def argLeaves (s : St Ty den) : List TypeId → List Operand → List (Leaf Ty den)
  | _, [] => []
  | [], x :: r => opl E s 0 x :: argLeaves s [] r
  | t :: ts, x :: r => opl E s t x :: argLeaves s ts r

def land1 (nm : Nat) (t : Ty) (l : List (den t)) (s : St Ty den) : Leaf Ty den × St Ty den :=
  bif mem nm s.live then (.sl t l none, s) else (.sl t l (some nm), s.fresh nm)
/-- Results of a call take names of the caller's. 'p': the name behind the callee's 0. -/
def landLeaf (dst : Option Nat) (p : Option Nat) (j : Nat) (s : St Ty den) : Leaf Ty den → Leaf Ty den × St Ty den
  | .sl t l (some 0) => match p with
    | some d => land1 d t l s
    | none => (.sl t l none, s)
  | .sl t l (some (i + 1)) => bif Nat.beq i j then land1 (nmR dst j) t l s else (.sl t l none, s)
  | x => (x, s)
def landAll (dst : Option Nat) (p : Option Nat) : Nat → St Ty den → List (Leaf Ty den) → List (Leaf Ty den) × St Ty den
  | _, s, [] => ([], s)
  | j, s, l :: r =>
    let (l', s') := landLeaf dst p j s l
    let (r', s'') := landAll dst p (j + 1) s' r
    (l' :: r', s'')

def evCall (f : FuncId) (tys : List TypeId) (args : List Operand) (dst : Option Nat) (s : St Ty den) (k : Ent Ty den → St Ty den → Option R) : Option R :=
  let ls := argLeaves E s tys args
  match E.cons f with
  | none => match E.T f (closeAll ls) with
    | some (gd, .one l) => bif gd then (let (l', s') := landLeaf dst none 0 s l; k (.one l') s') else none
    | some (gd, .tup r) => bif gd then (let (r', s') := landAll dst none 0 s r; k (.tup r') s') else none
    | _ => none
  | some p => match ls.getD p .any with
    | .sl t l (some d) => bif mem d s.live && !deepN d then
        match E.T f ((closeAll ls).set p (.sl t l (some 0))) with
        | some (gd, .one l) => bif gd then (let (l', s') := landLeaf dst (some d) 0 (s.kill d) l; k (.one l') s') else none
        | some (gd, .tup r) => bif gd then (let (r', s') := landAll dst (some d) 0 (s.kill d) r; k (.tup r') s') else none
        | _ => none
      else none
    | _ => none

def evAppend (t u : TypeId) (x y : Operand) (dst : Option Nat) (s : St Ty den) (k : Ent Ty den → St Ty den → Option R) : Option R :=
  match E.tb t, (bif isNil x then (match E.tb t with
      | .slice t' _ => (Leaf.sl t' [] (some (nmOf dst)), s.fresh (nmOf dst))
      | _ => (Leaf.any, s)) else (opl E s t x, s)) with
  | .slice t' _, (.sl t0 l0 (some d), s1) => match castL E.U t' t0 l0 with
    | some l => bif mem d s1.live && !deepN d then
        match E.tb u, opl E s u y with
        | .slice _ _, .sl v m _ => match castL E.U t' v m with
          | some m' => bif room (l.length + m'.length) (E.U.bytes t') then k (.one (.sl t' (l ++ m') (some d))) (s1.fresh d) else none
          | none => none
        | .str, .str b => match E.U.ofBytes t' with
          | some f => bif room (l.length + b.length) (E.U.bytes t') then k (.one (.sl t' (l ++ f b) (some d))) (s1.fresh d) else none
          | none => none
        | _, _ => none
      else none
    | none => none
  | _, _ => none

def evBuiltin (b : Builtin) (tys : List TypeId) (args : List Operand) (dst : Option Nat) (s : St Ty den) (k : Ent Ty den → St Ty den → Option R) : Option R :=
  match b, tys, args with
  | .len, [t], [x] => match E.tb t, opl E s t x with
    | .slice _ _, .sl _ l _ => k (.one (.int .i64 l.length)) s
    | .str, .str b => k (.one (.int .i64 b.length)) s
    | _, _ => none
  | .min, _, [x, y] => match opl E s 0 x, opl E s 0 y with
    | .int k0 a, .int _ b => k (.one (.int k0 (if b < a then b else a))) s
    | _, _ => none
  | .max, _, [x, y] => match opl E s 0 x, opl E s 0 y with
    | .int k0 a, .int _ b => k (.one (.int k0 (if b > a then b else a))) s
    | _, _ => none
  | .append, [t, u], [x, y] => evAppend E t u x y dst s k
  | _, _, _ => none

def parts1 (s : St Ty den) (ty : TypeId) : Nat → List (Nat × Operand) → Option (List (Leaf Ty den))
  | _, [] => some []
  | i, (j, x) :: r => bif Nat.beq i j then (parts1 s ty (i + 1) r).map ((opl E s ty x).close :: ·) else none
def parts2 (u : Ty) (s : St Ty den) : Nat → List (Nat × Operand) → Option (List (den u))
  | _, [] => some []
  | i, (j, x) :: r => bif Nat.beq i j then (match opl E s 0 x with
      | .agg u' y => (match castL E.U u u' [y], parts2 u s (i + 1) r with
        | some [y'], some l => some (y' :: l)
        | _, _ => none)
      | _ => none) else none
def decAll (U : UO Ty den) (t : Ty) : List (Leaf Ty den) → Option (List (den t))
  | [] => some []
  | l :: r => match U.dec t [l], decAll U t r with
    | some x, some xs => some (x :: xs)
    | _, _ => none

def evOp (o : Oper) (s : St Ty den) (k : Ent Ty den → St Ty den → Option R) : Option R :=
  match o.op with
  | .move x => k (opd E s o.type x) s
  | .assign x => bif isNil x then
      (match opl E s o.type x with
      | .sl u l _ => bif !(deepN (nmA E.dd o.dst)) || Nat.beq (E.U.size u) 1 then k (.one (.sl u l (some (nmA E.dd o.dst)))) (s.fresh (nmA E.dd o.dst)) else none
      | l => k (.one l) s)
    else k (opd E s o.type x) s
  | .pick c a b => match opl E s 0 c with
    | .bool true => k (.one (opl E s o.type a)) s
    | .bool false => k (.one (opl E s o.type b)) s
    | _ => none
  | .extract x i => match opd E s 0 x with
    | .tup ls => match ls[i]? with
      | some l => k (.one l) s
      | none => none
    | _ => none
  | .binOp op t x y _ => match opl E s t x, opl E s t y with
    | .int k0 a, .int k1 b => match op with
      | .shr => bif decide (0 ≤ b) && decide (b ≤ 31) && decide (k0 = .i32) then k (.one (.int k0 (a / 2 ^ b.toNat))) s else none
      | .shl => bif decide (0 ≤ b) && decide (b ≤ 31) && decide (k0 = .i32) then k (.one (.int k0 (k0.wrap (a * 2 ^ b.toNat)))) s else none
      | .quo => bif decide (k0 = k1) && !decide (b = 0) then k (.one (.int k0 (k0.wrap (a.tdiv b)))) s else none
      | .rem => bif decide (k0 = k1) && !decide (b = 0) then k (.one (.int k0 (a.tmod b))) s else none
      | _ => bif decide (k0 = k1) then (match intBin op k0 a b with | some l => k (.one l) s | none => none) else none
    | .str a, .str b => match op with
      | .add => bif decide (a.length + b.length ≤ 9223372036854775807) then k (.one (.str (a ++ b))) s else none
      | .eql => k (.one (.bool (a == b))) s
      | .neq => k (.one (.bool (!(a == b)))) s
      | _ => none
    | .bool a, .bool b => match E.tb t with
      | .bool => match op with
        | .eql => k (.one (.bool (a == b))) s
        | .neq => k (.one (.bool (!(a == b)))) s
        | _ => none
      | _ => none
    | _, _ => none
  | .unOp op _ x => match op, opl E s 0 x with
    | .not, .bool b => k (.one (.bool (!b))) s
    | .neg, .int k0 n => k (.one (.int k0 (k0.wrap (0 - n)))) s
    | _, _ => none
  | .convert src dst x => match E.tb src, E.tb dst, opl E s src x with
    | .int _, .int k0, .int _ n => k (.one (.int k0 (k0.wrap n))) s
    | .slice t e, .str, .sl u l _ => match E.tb e, castL E.U t u l, E.U.toBytes t, E.U.toRunes t with
      | .int .u8, some l', some f, _ => k (.one (.str (f l'))) s
      | .int .i32, some l', _, some f => k (.one (.str (runesB (f l')))) s
      | _, _, _, _ => none
    | .str, .slice t e, .str b => match E.tb e, E.U.ofBytes t, E.U.ofRunes t with
      | .int .u8, some f, _ => bif room b.length 1 then k (.one (.sl t (f b) (some (nmOf o.dst)))) (s.fresh (nmOf o.dst)) else none
      | .int .i32, _, some f => bif room b.length 1 then k (.one (.sl t (f ((Conv.runesFrom ⟨b.toArray⟩ b.length 0 #[]).toList.map fun | .int _ n => n | _ => 0)) (some (nmOf o.dst)))) (s.fresh (nmOf o.dst)) else none
      | _, _, _ => none
    | _, _, _ => none
  | .indexAddr t x i => match E.tb t, opl E s t x, opl E s 0 i with
    | .slice t' _, .sl u l _, .int _ n => match castL E.U t' u l with
      | some l' => match idx l' n with
        | some y => k (.one (.elem t' y 0)) s
        | none => none
      | none => none
    | _, _, _ => none
  | .index t x i => match E.tb t, opl E s t x, opl E s 0 i with
    | .str, .str b, .int _ n => match idx b n with
      | some y => k (.one (.int .u8 (y.toNat : Int))) s
      | none => none
    | _, _, _ => none
  | .build t ps => match E.tb t with
    | .struct u => match parts1 E s 0 0 ps.toList with
      | some ls => match E.U.dec u ls with
        | some x => bif Nat.beq ls.length (E.U.size u) then k (.one (.agg u x)) s else none
        | none => none
      | none => none
    | _ => none
  | .fieldAddr t x i => match E.tb t, opl E s 0 x with
    | .struct v, .elem u y off => bif Nat.blt i (E.U.size v) then k (.one (.elem u y (off + i))) s else none
    | _, _ => none
  | .load t x => match E.tb t with
    | .other => none
    | .struct u => match opl E s 0 x with
      | .elem u' y 0 => match castL E.U u u' [y] with
        | some [y'] => k (.one (.agg u y')) s
        | _ => none
      | _ => none
    | _ => match opl E s 0 x with
      | .elem u y off => match (E.U.cells u y)[off]? with
        | some l => k (.one l.close) s
        | none => none
      | _ => none
  | .slice t x lo hi mx => match E.tb t, opl E s t x with
    | .str, .str b => match mx, evBound E s 0 lo, evBound E s b.length hi with
      | none, some a, some c => match sub b a c with
        | some r => k (.one (.str r)) s
        | none => none
      | _, _, _ => none
    | .slice t' _, .sl u l _ => match castL E.U t' u l with
      | some l' => match evBound E s 0 lo, evBound E s l'.length hi, mx with
        | some a, some c, none => match sub l' a c with
          | some r => k (.one (.sl t' r none)) s
          | none => none
        | some a, some c, some m => match opl E s 0 m with
          | .int _ m => bif hi.isSome && decide (m = c) then (match sub l' a c with
            | some r => k (.one (.sl t' r none)) s
            | none => none) else none
          | _ => none
        | _, _, _ => none
      | none => none
    | _, _ => none
  | .buildSlice t n ps => match E.tb t with
    | .slice u e => match E.tb e with
      | .struct _ => match parts2 E u s 0 ps.toList with
        | some xs => bif Nat.beq xs.length n && Nat.blt (n * E.U.size u) 65536 then k (.one (.sl u xs (some (nmOf o.dst)))) (s.fresh (nmOf o.dst)) else none
        | none => none
      | _ => match parts1 E s e 0 ps.toList with
      | some ls => match decAll E.U u ls with
        | some xs => bif Nat.beq xs.length n && (Nat.beq (E.U.size u) 1 && Nat.blt n 65536) then k (.one (.sl u xs (some (nmOf o.dst)))) (s.fresh (nmOf o.dst)) else none
        | none => none
      | none => none
    | _ => none
  | .makeSlice t l c => match E.tb t, opl E s 0 l, opl E s 0 c with
    | .slice u _, .int _ 0, .int _ m => bif decide (0 ≤ m) && room m.toNat (E.U.bytes u) then k (.one (.sl u [] (some (nmOf o.dst)))) (s.fresh (nmOf o.dst)) else none
    | _, _, _ => none
  | .range t x => match E.tb t, opl E s t x with
    | .str, .str b => k (.iter b 0) s
    | _, _ => none
  | .next (.tmp i) true => match s.get i with
    | .iter b pos => bif decide (pos < b.length) then
        k (.tup [.bool true, .int .i64 (pos : Int), .int .i32 ((Utf8.decode ⟨b.toArray⟩ pos).1 : Int)]) (s.set i (.iter b (pos + (Utf8.decode ⟨b.toArray⟩ pos).2)))
      else k (.tup [.bool false]) s
    | _ => none
  | .call c => match c.callee with
    | .value (.func f) => evCall E f c.argTypes.toList c.args.toList o.dst s k
    | .builtin b => evBuiltin E b c.argTypes.toList c.args.toList o.dst s k
    | _ => none
  | _ => none

def notBool : Value → Bool
  | .bool _ => false
  | _ => true
def okd (n : Nat) (d : Option Nat) : Bool := match d with | some i => Nat.blt i n | none => true
def notTmp (d : Nat) : Operand → Bool
  | .tmp t => !Nat.beq t d
  | _ => true
def okd2 (n : Nat) (d : Option Nat) : Bool := match d with | some i => Nat.blt i n | none => true
/-- A local struct variable that is made and filled at once. -/
def boxed (o o2 : Oper) (s : St Ty den) : Option (Nat × Leaf Ty den) :=
  match o.op, o.dst, o2.op with
  | .alloc t, some d, .store t2 (.tmp d2) y => bif Nat.beq d d2 && (Nat.beq t t2 && (notTmp d y && (o2.guard.isNone && o2.dst.isNone))) then (match E.tb t, opl E s 0 y with
      | .struct u, .agg u' x => (match castL E.U u u' [x] with
        | some [x'] => some (d, .elem u x' 0)
        | _ => none)
      | _, _ => none) else none
  | _, _, _ => none
/-- A row that goes behind a deep name's rows: built into a slice of one, then appended. -/
def pushed (o o2 : Oper) (s : St Ty den) : Option (Bool × Nat × Leaf Ty den × Nat × Nat) :=
  match o.op, o.dst, o2.op with
  | .buildSlice t 1 ps, some d1, .call c => (match c.callee, c.argTypes.toList, c.args.toList, ps.toList with
    | .builtin .append, [t2, t3], [x, .tmp d2], [(0, y)] => bif Nat.beq d1 d2 && (Nat.beq t t3 && (notTmp d1 x && (o2.guard.isNone && okd2 E.nt o2.dst))) then
        (match E.tb t, E.tb t2 with
        | .slice u e, .slice u2 _ => (match opl E s t2 x, opl E s e y with
          | .sl u' l (some d), .sl v m (some f) => bif (mem d s.live && deepN d) && ((mem f s.live && !deepN f) && (Nat.beq (E.U.size u) 1 && (Nat.beq (E.U.size u2) 1 && Nat.beq (E.U.size v) 1))) then
              (match castL E.U u2 u' l, E.U.dec u2 [.sl v m none] with
              | some l', some x' => some (room (l.length + 1) (E.U.bytes u2), d1, .sl u2 (l' ++ [x']) (some d), d, f)
              | _, _ => none) else none
          | _, _ => none)
        | _, _ => none) else none
    | _, _, _, _ => none)
  | _, _, _ => none
def isAlloc : Op → Bool
  | .alloc _ => true
  | _ => false
def evOpsS (ops : Array Oper) : List Oper → Bool → St Ty den → (St Ty den → Option R) → Option R
  | [], _, s, k => k s
  | _ :: r, true, s, k => evOpsS ops r false s k
  | o :: r, false, s, k => bif okd E.nt o.dst then match o.guard with
    | none => bif isAlloc o.op then (match r with
        | o2 :: _ => (match boxed E o o2 s with
          | some (d, l) => evOpsS ops r true (s.set d (.one l)) k
          | none => none)
        | [] => none)
      else (match r with
        | o2 :: _ => (match pushed E o o2 s with
          | some (gd, d1, l, d, f) => bif gd then evOpsS ops r true ((((s.kill f).set d1 (.one .any)).fresh d).setO o2.dst (.one l)) k else none
          | none => evOp E o s fun e s' => evOpsS ops r false (s'.setO o.dst e) k)
        | [] => evOp E o s fun e s' => evOpsS ops r false (s'.setO o.dst e) k)
    | some (j, want) => match (ops[j]?).bind (·.dst) with
      | some g => match s.get g with
        | .one (.bool b) => bif b == want
          then evOp E o (s.set g (.one (.bool want))) fun e s' => evOpsS ops r false (s'.setO o.dst e) k
          else evOpsS ops r false ((s.set g (.one (.bool (!want)))).setO o.dst (.one (.val undef))) k
        | .one (.val v) => bif notBool v then evOpsS ops r false (s.setO o.dst (.one (.val undef))) k else none
        | _ => none
      | none => none
    else none
def evOps (ops : Array Oper) (os : List Oper) (s : St Ty den) (k : St Ty den → Option R) : Option R := evOpsS E ops os false s k

def Leaf.has (d : Nat) : Leaf Ty den → Bool
  | .sl _ _ (some e) => Nat.beq e d
  | _ => false
def Ent.has (d : Nat) : Ent Ty den → Bool
  | .one l => l.has d
  | .tup ls => ls.any (·.has d)
  | _ => false
def hasF (d : Nat) : List (Nat × Ent Ty den) → Bool
  | [] => false
  | (_, e) :: r => bif e.has d then true else hasF d r
/-! ### regions whose order is drawn: pure operations, each behind what it reads -/
def pureOp (o : Oper) : Bool :=
  match o.op with
  | .move _ | .pick .. | .extract .. | .binOp .. | .unOp .. | .indexAddr .. | .index .. | .load .. | .slice .. | .fieldAddr .. => true
  | .assign x => !isNil x
  | .buildSlice _ _ _ => true
  | .convert _ d _ => match E.tb d with | .slice _ _ => false | _ => true
  | .call c => match c.callee with
    | .value (.func f) => (E.cons f).isNone
    | .builtin .len | .builtin .min | .builtin .max => true
    | _ => false
  | _ => false
def boundBy (o : Oper) (j : Nat) : Bool := o.after.toList.any fun e => Nat.beq e.on j && (match e.ground with | .textOnly _ | .gcOnly _ => false | _ => true)
def dPairs : Nat → List Oper → List (Nat × Nat)
  | _, [] => []
  | i, o :: r => match o.dst with
    | some d => (d, i) :: dPairs (i + 1) r
    | none => dPairs (i + 1) r
def opOk (ops : Array Oper) (pairs : List (Nat × Nat)) (i : Nat) (o : Oper) : Bool :=
  pureOp E o && (o.after.toList.all (fun e => Nat.blt e.on i) && (o.looksAt ops).all fun t => pairs.all fun p => !Nat.beq p.1 t || boundBy o p.2)
def opsOk (ops : Array Oper) (pairs : List (Nat × Nat)) : Nat → List Oper → Bool
  | _, [] => true
  | i, o :: r => opOk E ops pairs i o && opsOk ops pairs (i + 1) r
def nodupB : List Nat → Bool
  | [] => true
  | x :: r => !mem x r && nodupB r
def drawOk (ops : Array Oper) : Bool :=
  opsOk E ops (dPairs 0 ops.toList) 0 ops.toList && nodupB ((dPairs 0 ops.toList).map (·.1))
def lenB : List Nat → Nat
  | [] => 0
  | _ :: r => lenB r + 1
def Ent.close1 : Ent Ty den → Ent Ty den
  | .one l => .one l.close
  | e => e
/-- A slice that is built there gets no name of its own. -/
def evOpD (o : Oper) (s : St Ty den) (k : Ent Ty den → Option R) : Option R :=
  match o.op with
  | .buildSlice _ _ _ => evOp E o s fun e _ => k e.close1
  | _ => evOp E o s fun e s' => bif Nat.beq (lenB s'.live) (lenB s.live) then k e else none
def noNm (s : St Ty den) : List Oper → Bool
  | [] => true
  | o :: r => match o.op with
    | .buildSlice _ _ _ => !hasF (nmOf o.dst) s.fr && noNm s r
    | _ => noNm s r
def evOpsD (ops : Array Oper) : List Oper → St Ty den → (St Ty den → Option R) → Option R
  | [], s, k => bif noNm s ops.toList then k s else none
  | o :: r, s, k => bif okd E.nt o.dst then match o.guard with
    | none => evOpD E o s fun e => evOpsD ops r (s.setO o.dst e) k
    | some (j, want) => match (ops[j]?).bind (·.dst) with
      | some g => match s.get g with
        | .one (.bool b) => bif b == want
          then evOpD E o s fun e => evOpsD ops r ((s.set g (.one (.bool want))).setO o.dst e) k
          else evOpsD ops r ((s.set g (.one (.bool (!want)))).setO o.dst (.one (.val undef))) k
        | .one (.val v) => bif notBool v then evOpsD ops r (s.setO o.dst (.one (.val undef))) k else none
        | _ => none
      | none => none
    else none

def evLoop (body : St Ty den → (Ex → St Ty den → Option R) → Option R) : Nat → St Ty den → (Ex → St Ty den → Option R) → Option R
  | 0, _, _ => none
  | n + 1, s, k => body s fun e s' => match e with
    | .normal => evLoop body n s' k
    | e => k e s'

def seqK (b : St Ty den → (Ex → St Ty den → Option R) → Option R) (k : Ex → St Ty den → Option R) : Ex → St Ty den → Option R
  | .normal, s => b s k
  | e, s => k e s
def blockK (id : Nat) (k : Ex → St Ty den → Option R) : Ex → St Ty den → Option R
  | .exit j, s => bif Nat.beq j id then k .normal s else k (.exit j) s
  | e, s => k e s

/-- Names that stand nowhere any more are let go. -/
def insN (d : Nat) : List Nat → List Nat
  | [] => [d]
  | e :: r => bif Nat.blt d e then d :: e :: r else e :: insN d r
def gcN (fr : List (Nat × Ent Ty den)) : List Nat → List Nat
  | [] => []
  | d :: r => bif hasF d fr then insN d (gcN fr r) else gcN fr r
def St.gc (s : St Ty den) : St Ty den := { s with live := gcN s.fr s.live }

/-- What may be forgotten at a loop's head is kept under the number of its first region, raised. -/
def headId : Code → Nat
  | .region id _ _ => id
  | .seq a _ => headId a
  | .block _ c => headId c
  | _ => 9999
def headK (ds : List Nat) (k : Ex → St Ty den → Option R) : Ex → St Ty den → Option R
  | .normal, s => k .normal (s.dels ds).gc
  | e, s => k e s
def evCode (n : Nat) : Code → St Ty den → (Ex → St Ty den → Option R) → Option R
  | .skip, s, k => k .normal s
  | .region id ops false, s, k => evOps E ops ops.toList s fun s' => k .normal (s'.dels (E.drop id)).gc
  | .region id ops true, s, k => bif drawOk E ops then evOpsD E ops ops.toList (s.dels ((dPairs 0 ops.toList).map (·.1))) fun s' => k .normal (s'.dels (E.drop id)).gc else none
  | .seq a b, s, k => evCode n a s (seqK (evCode n b) k)
  | .cond c a b, s, k => match opl E s 0 c with
    | .bool t => bif t then evCode n a s k else evCode n b s k
    | _ => none
  | .block id c, s, k => evCode n c s (blockK id k)
  | .loop c, s, k => evLoop (fun s' k' => evCode n c s' (headK (E.drop (10000 + headId c)) k')) n (s.dels (E.drop (10000 + headId c))).gc k
  | .exit id, s, k => k (.exit id) s
  | .ret, s, k => k .ret s
  | _, _, _ => none

/-- A result's name: 0 for what was handed in, a deep one for what is deep. -/
def pkN (d j : Nat) : Nat := bif Nat.beq d 0 then 0 else bif deepN d then 1000001 + j else j + 1
def packLeaf (s : St Ty den) (j : Nat) : Leaf Ty den → Leaf Ty den
  | .sl t l (some d) => bif mem d s.live && Nat.blt j 1000 then .sl t l (some (pkN d j)) else .sl t l none
  | l => l
def packAll : Nat → St Ty den → List ResultVar → Option (List (Leaf Ty den))
  | _, _, [] => some []
  | j, s, .tmp t :: r => match s.get t with
    | .one l => (packAll (j + 1) (match l with | .sl _ _ (some d) => s.kill d | _ => s) r).map (packLeaf s j l :: ·)
    | _ => none
  | _, _, _ => none
def pack (rs : List ResultVar) (s : St Ty den) : Option (Ent Ty den) :=
  match packAll 0 s rs with
  | some [l] => some (.one l)
  | some ls => some (.tup ls)
  | none => none
def retK (rs : List ResultVar) : Ex → St Ty den → Option (Ent Ty den)
  | .normal, s | .ret, s => pack rs s
  | _, _ => none

def initF : Nat → List (Leaf Ty den) → List (Nat × Ent Ty den)
  | _, [] => []
  | i, l :: r => (i, .one l) :: initF (i + 1) r
def owns0 : List (Leaf Ty den) → Bool
  | [] => false
  | .sl _ _ (some 0) :: _ => true
  | _ :: r => owns0 r
def initS (args : List (Leaf Ty den)) : St Ty den := { fr := initF 0 args, live := bif owns0 args then [0] else [] }
def evFn (n : Nat) (fn : Func) (args : List (Leaf Ty den)) : Option (Ent Ty den) :=
  match fn.body with
  | some c => bif Nat.ble args.length E.nt then evCode E n c (initS args) (retK fn.results.toList) else none
  | none => none
end ev
end Go.Aev
end

section
set_option linter.unusedVariables false
namespace Go.Aev
open Go

/-! ### stores into a row -/
def setCells (w : World) (b : Nat) : Nat → List Value → World
  | _, [] => w
  | o, v :: r => setCells (w.setCell ⟨b, o, none⟩ v) b (o + 1) r

theorem setCell_heap (w : World) (b o : Nat) (v : Value) (c : Array Value) (e : TypeId) (fz : Nat × Nat) (h : w.heap[b]? = some (.cells c e fz)) :
    (w.setCell ⟨b, o, none⟩ v).heap[b]? = some (.cells (c.setIfInBounds o v) e fz) := by
  simp [World.setCell, Array.getElem?_modify, h]

theorem setCell_other (w : World) (b o k : Nat) (v : Value) (h : k ≠ b) : (w.setCell ⟨b, o, none⟩ v).heap[k]? = w.heap[k]? := by
  simp only [World.setCell, Array.getElem?_modify]
  rw [if_neg (by simpa using fun e => h e.symm)]

theorem setCells_spec (P : Program) (b : Nat) (e : TypeId) (fz : Nat × Nat) : ∀ (vs : List Value) (o : Nat) (w : World) (c : Array Value),
    w.heap[b]? = some (.cells c e fz) → o + vs.length ≤ c.size → (∀ j, o ≤ j → j < o + vs.length → ¬ (fz.1 ≤ j ∧ j < fz.2)) → (∀ v ∈ vs, v.oneCell' = true) →
    (∀ (a : Addr) (i : Nat), a = ⟨b, o - i, none⟩ → i ≤ o → (storeCells a vs i).run P w = .ok () (setCells w b o vs)) ∧
    (∃ c', (setCells w b o vs).heap[b]? = some (.cells c' e fz) ∧ c'.size = c.size ∧ (∀ j, j < o ∨ o + vs.length ≤ j → c'[j]? = c[j]?) ∧ (∀ j v, vs[j]? = some v → c'[o + j]? = some v)) ∧
    (setCells w b o vs).heap.size = w.heap.size ∧ (∀ k, k ≠ b → (setCells w b o vs).heap[k]? = w.heap[k]?) ∧
    (setCells w b o vs).os = w.os ∧ (setCells w b o vs).tape = w.tape ∧ (setCells w b o vs).output = w.output := by
  intro vs
  induction vs with
  | nil =>
    intro o w c h _ _ _
    exact ⟨fun a i _ _ => rfl, ⟨c, h, rfl, fun _ _ => rfl, fun j v hj => by simp at hj⟩, rfl, fun _ _ => rfl, rfl, rfl, rfl⟩
  | cons v vs ih =>
    intro o w c h hl hf h1
    have hlc : o < c.size := by simp at hl; omega
    have hcell : w.cell? ⟨b, o, none⟩ = some c[o] := by
      simp [World.cell?, h, hlc]
    have hfr : w.frozen? ⟨b, o, none⟩ = false := by
      have := hf o (Nat.le_refl _) (by simp)
      simp only [World.frozen?, h]
      simp
      omega
    have h' := setCell_heap w b o v c e fz h
    obtain ⟨i1, ⟨c', i2, i3, i4, i5⟩, i6, i7, i8, i9, i10⟩ := ih (o + 1) (w.setCell ⟨b, o, none⟩ v) _ h' (by simp at hl ⊢; omega)
      (fun j a1 a2 => hf j (by omega) (by simp; omega)) (fun u hu => h1 u (by simp [hu]))
    refine ⟨?_, ⟨c', i2, by simpa using i3, ?_, ?_⟩, by simpa [setCells] using i6, ?_, i8.trans rfl, by simpa [setCells] using i9, i10.trans rfl⟩
    · intro a i ha hi
      subst ha
      have hadd : (Addr.mk b (o - i) none).add i = ⟨b, o, none⟩ := by
        unfold Addr.add
        by_cases h0 : i = 0
        · subst h0; simp
        · simp [h0]; omega
      have hst := run_store P w ⟨b, o, none⟩ v .plain (h1 v (by simp))
      simp only [hcell, hfr] at hst
      simp only [storeCells, Sem.run_bind, hadd, hst, Result.andThen_ok, Bool.false_eq_true, if_false]
      exact i1 _ (i + 1) (by simp) (by omega)
    · intro j hj
      rw [i4 j (by simp at hj ⊢; omega)]
      simp at hj
      rw [Array.getElem?_setIfInBounds]
      rw [if_neg (by omega)]
    · intro j u hu
      cases j with
      | zero =>
        simp at hu
        subst hu
        rw [i4 (o + 0) (by omega)]
        simp [hlc]
      | succ j =>
        simp at hu
        have := i5 j u hu
        rw [show o + (j + 1) = o + 1 + j by omega]
        exact this
    · intro k hk
      simp only [setCells]
      rw [i7 k hk, setCell_other w b o k v hk]

def notInt (P : Program) (u : TypeId) : Prop := (∃ e', P.underlying u = some (.slice e')) ∨ P.underlying u = some .string

theorem append_grow_run {P : Program} (w : World) (t u ty e : TypeId) (i : TypeInfo) (z : Value) (ht : P.underlying t = some (.slice e)) (hu : notInt P u) (hi : P.info? e = some i) (hz : i.zero = some z)
    (base : Option Addr) (sLen sCap : Nat) (olds : List Value)
    (holds : ∀ w' : World, w'.heap = w.heap → (Builtin.firstCells i.size sLen (.slice base sLen sCap)).run P w' = .ok olds.toArray w')
    (x : Value) (m : Nat) (news : List Value) (hlen : (Builtin.lenOf x).run P w = .ok m w)
    (hnews : ∀ w' : World, w'.heap = w.heap → (Builtin.firstCells i.size m x).run P w' = .ok news.toArray w')
    (hg : sCap < sLen + m) (h63 : sLen + m ≤ 9223372036854775807) (hb : (sLen + m) * i.bytes ≤ 140737488355328) :
    (Builtin.append_ #[t, u] ty #[.slice base sLen sCap, x]).run P w =
      .ok (.slice (some ⟨w.heap.size, 0, none⟩) (sLen + m) (grownCap w (sLen + m) sCap e))
        (w.drew.alloc (.cells (olds.toArray ++ news.toArray ++ Builtin.zeroCells z.cells (grownCap w (sLen + m) sCap e - (sLen + m))) e)) := by
  have hn : ¬ (sLen + m ≤ sCap) := by omega
  have h63' : ¬ (9223372036854775807 < ((sLen : Int) + (m : Int))) := by omega
  have hfit := growslice_fits hg hb
  have h48' : ¬ (281474976710656 < Builtin.nextslicecap (sLen + m) sCap * i.bytes) := by omega
  have hf := hnews w.drew rfl
  have hfo := holds w.drew rfl
  rcases hu with ⟨_, hd⟩ | hd <;>
    (simp [Builtin.append_, run_underlying ht, run_underlying hd, sizeOf, typeInfo, zeroValue, hi, hz, hlen, hn, h63', h48', Question.forced, hf, hfo, newRow, grownCap]
     congr 2
     apply Array.ext'
     simp [List.append_assoc])

theorem append_room_run {P : Program} (w : World) (t u ty e : TypeId) (i : TypeInfo) (ht : P.underlying t = some (.slice e)) (hu : notInt P u) (hi : P.info? e = some i)
    (base : Option Addr) (sLen sCap : Nat) (x : Value) (m : Nat) (news : List Value) (hlen : (Builtin.lenOf x).run P w = .ok m w)
    (hnews : (Builtin.firstCells i.size m x).run P w = .ok news.toArray w) (w' : World)
    (hst : ∀ a, base = some a → (storeCells (a.add (sLen * i.size)) news).run P w = .ok () w') (hnone : base = none → w' = w)
    (hg : sLen + m ≤ sCap) :
    (Builtin.append_ #[t, u] ty #[.slice base sLen sCap, x]).run P w = .ok (.slice base (sLen + m) sCap) w' := by
  cases base with
  | none =>
    have := hnone rfl
    subst this
    rcases hu with ⟨_, hd⟩ | hd <;>
      (simp [Builtin.append_, run_underlying ht, run_underlying hd, sizeOf, typeInfo, hi, hlen, hg, hnews])
  | some a =>
    have hs := hst a rfl
    rcases hu with ⟨_, hd⟩ | hd <;>
      (simp [Builtin.append_, run_underlying ht, run_underlying hd, sizeOf, typeInfo, hi, hlen, hg, hnews, hs])
end Go.Aev
end

section
set_option linter.unusedVariables false
namespace Go.Aev
variable {Ty : Type} {den : Ty → Type}

def flat (U : UO Ty den) (t : Ty) (l : List (den t)) : List (Leaf Ty den) := l.flatMap (U.cells t)

structure UO.Ok (U : UO Ty den) : Prop where
  pos : ∀ t, 0 < U.size t
  bpos : ∀ t, 0 < U.bytes t
  len : ∀ t x, (U.cells t x).length = U.size t
  dec : ∀ t ls x, U.dec t ls = some x → U.cells t x = ls
  ofBytes : ∀ t f, U.ofBytes t = some f → ∀ b : List UInt8, (f b).length = b.length ∧ flat U t (f b) = b.map fun c => .int .u8 (c.toNat : Int)
  ofRunes : ∀ t f, U.ofRunes t = some f → ∀ b : List Int, (f b).length = b.length ∧ flat U t (f b) = b.map fun c => .int .i32 c
  solid : ∀ t x lf, lf ∈ U.cells t x → lf ≠ .any ∧ (∀ v, lf ≠ .val v) ∧ ∀ u y, lf ≠ .agg u y
  ofBytes1 : ∀ t f, U.ofBytes t = some f → U.size t = 1
  ofRunes1 : ∀ t f, U.ofRunes t = some f → U.size t = 1
  toRunes1 : ∀ t f, U.toRunes t = some f → U.size t = 1
  toRunes : ∀ t f, U.toRunes t = some f → ∀ l, flat U t l = (f l).map fun n => .int .i32 n
  toBytes1 : ∀ t f, U.toBytes t = some f → U.size t = 1
  toBytes : ∀ t f, U.toBytes t = some f → ∀ l, ∃ ns : List Int, flat U t l = ns.map (fun n => .int .u8 n) ∧ f l = ns.map fun n => UInt8.ofNat n.toNat

section
variable (U : UO Ty den)

inductive CRep (w : World) (wm : Nat → Nat) : Leaf Ty den → Value → Prop
  | any (v : Value) : CRep w wm .any v
  | int (k : IntKind) (n : Int) : CRep w wm (.int k n) (.int k n)
  | bool (b : Bool) : CRep w wm (.bool b) (.bool b)
  | str (s : List UInt8) : CRep w wm (.str s) (.string ⟨s.toArray⟩)
  | val (v : Value) : CRep w wm (.val v) v
  | nil (t : Ty) (own : Option Nat) (a : Option Addr) (cap : Nat) : CRep w wm (.sl t [] own) (.slice a 0 cap)
  | sl (t : Ty) (l : List (den t)) (own : Option Nat) (b off cap : Nat) (cs : Nat → Value) (hcap : l.length ≤ cap) (hwm : off + l.length * U.size t ≤ wm b)
      (hc : ∀ j lf, (flat U t l)[j]? = some lf → w.cell? ⟨b, off + j, none⟩ = some (cs j)) (hr : ∀ j lf, (flat U t l)[j]? = some lf → CRep w wm lf (cs j)) :
      CRep w wm (.sl t l own) (.slice (some ⟨b, off, none⟩) l.length cap)
  | elem (t : Ty) (x : den t) (off b o : Nat) (cs : Nat → Value) (hwm : o + U.size t ≤ wm b)
      (hc : ∀ j lf, (U.cells t x)[j]? = some lf → w.cell? ⟨b, o + j, none⟩ = some (cs j)) (hr : ∀ j lf, (U.cells t x)[j]? = some lf → CRep w wm lf (cs j)) :
      CRep w wm (.elem t x off) (.pointer (some ⟨b, o + off, none⟩))
  | agg (t : Ty) (x : den t) (vs : List Value) (hl : vs.length = U.size t) (cs : Nat → Value) (hc : ∀ j lf, (U.cells t x)[j]? = some lf → vs[j]? = some (cs j)) (hr : ∀ j lf, (U.cells t x)[j]? = some lf → CRep w wm lf (cs j)) :
      CRep w wm (.agg t x) (.agg vs.toArray)
end

theorem flat_length {U : UO Ty den} (hU : U.Ok) (t : Ty) (l : List (den t)) : (flat U t l).length = l.length * U.size t := by
  induction l with
  | nil => simp [flat]
  | cons x l ih => 
    simp only [flat, List.flatMap_cons, List.length_append, hU.len, List.length_cons] at ih ⊢
    rw [ih, Nat.add_mul]; omega

/-- What is immutable stays. -/
structure Ext (w : World) (wm : Nat → Nat) (w' : World) (wm' : Nat → Nat) : Prop where
  cell : ∀ b off, off < wm b → w'.cell? ⟨b, off, none⟩ = w.cell? ⟨b, off, none⟩
  le : ∀ b, wm b ≤ wm' b

theorem Ext.refl (w : World) (wm : Nat → Nat) : Ext w wm w wm := ⟨fun _ _ _ => rfl, fun _ => Nat.le_refl _⟩
theorem Ext.trans {w1 w2 w3 : World} {m1 m2 m3 : Nat → Nat} (h : Ext w1 m1 w2 m2) (k : Ext w2 m2 w3 m3) : Ext w1 m1 w3 m3 :=
  ⟨fun b o ho => (k.cell b o (Nat.lt_of_lt_of_le ho (h.le b))).trans (h.cell b o ho), fun b => Nat.le_trans (h.le b) (k.le b)⟩

theorem CRep.mono {U : UO Ty den} (hU : U.Ok) {w w' : World} {wm wm' : Nat → Nat} (hx : Ext w wm w' wm') {lf : Leaf Ty den} {v : Value} (h : CRep U w wm lf v) : CRep U w' wm' lf v := by
  induction h with
  | any v => exact .any v
  | int k n => exact .int k n
  | bool b => exact .bool b
  | str s => exact .str s
  | val v => exact .val v
  | nil t own a cap => exact .nil t own a cap
  | sl t l own b off cap cs hcap hwm hc _ ih =>
    refine .sl t l own b off cap cs hcap (Nat.le_trans hwm (hx.le b)) (fun j lf hj => ?_) ih
    have hjl : j < (flat U t l).length := by
      rcases Nat.lt_or_ge j (flat U t l).length with h | h
      · exact h
      · rw [List.getElem?_eq_none h] at hj; cases hj
    rw [flat_length hU] at hjl
    rw [hx.cell b _ (by omega)]
    exact hc j lf hj
  | agg t x vs hl cs hc _ ih => exact .agg t x vs hl cs hc ih
  | elem t x off b o cs hwm hc _ ih =>
    refine .elem t x off b o cs (Nat.le_trans hwm (hx.le b)) (fun j lf hj => ?_) ih
    have hjl : j < (U.cells t x).length := by
      rcases Nat.lt_or_ge j (U.cells t x).length with h | h
      · exact h
      · rw [List.getElem?_eq_none h] at hj; cases hj
    rw [hU.len] at hjl
    rw [hx.cell b _ (by omega)]
    exact hc j lf hj

theorem CRep.close {U : UO Ty den} {w : World} {wm : Nat → Nat} {lf : Leaf Ty den} {v : Value} (h : CRep U w wm lf v) : CRep U w wm lf.close v := by
  cases h with
  | nil t own a cap => exact .nil t none a cap
  | sl t l own b off cap cs hcap hwm hc hr => exact .sl t l none b off cap cs hcap hwm hc hr
  | any v => exact .any v
  | int k n => exact .int k n
  | bool b => exact .bool b
  | str s => exact .str s
  | val v => exact .val v
  | elem t x off b o cs hwm hc hr => exact .elem t x off b o cs hwm hc hr
  | agg t x vs hl cs hc hr => exact .agg t x vs hl cs hc hr

theorem CRep.own {U : UO Ty den} {w : World} {wm : Nat → Nat} {t : Ty} {l : List (den t)} {o : Option Nat} {v : Value} (h : CRep U w wm (.sl t l o) v) (o' : Option Nat) : CRep U w wm (.sl t l o') v := by
  cases h with
  | nil t own a cap => exact .nil t o' a cap
  | sl t l own b off cap cs hcap hwm hc hr => exact .sl t l o' b off cap cs hcap hwm hc hr

theorem CRep.of_close {U : UO Ty den} {w : World} {wm : Nat → Nat} {lf : Leaf Ty den} {v : Value} (h : CRep U w wm lf.close v) : CRep U w wm lf v := by
  cases lf with
  | sl t l o => exact CRep.own h o
  | _ => exact h

/-- The ghost: what names stand for (the slice, its element's size), and the iterators' blocks. -/
structure Gh where
  wm : Nat → Nat
  G : Nat → Value
  Gs : Nat → Nat
  ib : Nat → Nat

def Own (g : Gh) (U : UO Ty den) (lf : Leaf Ty den) (v : Value) : Prop := ∀ t l d, lf = .sl t l (some d) → v = g.G d ∧ U.size t = g.Gs d
def LRep (U : UO Ty den) (w : World) (g : Gh) (lf : Leaf Ty den) (v : Value) : Prop := CRep U w g.wm lf v ∧ Own g U lf v

def LsRep (U : UO Ty den) (w : World) (g : Gh) : List (Leaf Ty den) → List Value → Prop
  | [], [] => True
  | l :: ls, v :: vs => LRep U w g l v ∧ LsRep U w g ls vs
  | _, _ => False

def ERep (U : UO Ty den) (w : World) (g : Gh) (e : Ent Ty den) (v : Value) : Prop :=
  match e with
  | .one l => LRep U w g l v
  | .tup ls => ∃ vs : List Value, v = .tuple vs.toArray ∧ LsRep U w g ls vs
  | .iter s pos => ∃ b, v = .pointer (some ⟨b, 0, none⟩) ∧ w.heap[b]? = some (.stringIter ⟨s.toArray⟩ pos)

/-- The array that a live name may be appended into. -/
def Tip (w : World) (wm : Nat → Nat) (v : Value) (sz : Nat) : Prop :=
  ∃ a len cap, v = .slice a len cap ∧ len ≤ cap ∧ (cap = 0 ∨ ∃ b off c e fz, a = some ⟨b, off, none⟩ ∧ w.heap[b]? = some (.cells c e fz) ∧ off + cap * sz ≤ c.size ∧
    wm b = off + len * sz ∧ ∀ j, j < off + cap * sz → ¬ (fz.1 ≤ j ∧ j < fz.2))
/-- The block that it would write. -/
def spare (v : Value) : Option Nat :=
  match v with
  | .slice (some a) len cap => if cap = 0 then none else some a.block
  | _ => none

/-- Where the call began: its world, its marks, the block that it may write. -/
structure Bs where
  w : World
  wm : Nat → Nat
  M : Option Nat

def rowAt (w : World) (v : Value) (j : Nat) : Option Value :=
  match v with
  | .slice (some a) len _ => if j < len then w.cell? ⟨a.block, a.off + j, none⟩ else none
  | _ => none
def RowB (w : World) (v : Value) (b : Nat) : Prop := ∃ j r, rowAt w v j = some r ∧ spare r = some b
/-- Rows that nobody else has. -/
structure Deep (B : Bs) (w : World) (wm : Nat → Nat) (v : Value) (sz : Nat) : Prop where
  one : sz = 1
  tip : ∀ j r, rowAt w v j = some r → Tip w wm r 1
  mine : ∀ b, RowB w v b → B.w.heap.size ≤ b ∨ B.M = some b
  dis : ∀ j k r r' b, j ≠ k → rowAt w v j = some r → rowAt w v k = some r' → spare r = some b → spare r' ≠ some b

structure Rel (U : UO Ty den) (B : Bs) (g : Gh) (s : St Ty den) (a : Act) (w : World) : Prop where
  os : w.os = B.w.os
  tape : w.tape = B.w.tape
  output : w.output = B.w.output
  size : B.w.heap.size ≤ w.heap.size
  frame : ∀ b, b < B.w.heap.size → B.M ≠ some b → w.heap[b]? = B.w.heap[b]? ∧ g.wm b = B.wm b
  ext : Ext B.w B.wm w g.wm
  zero : ∀ b, w.heap.size ≤ b → g.wm b = 0
  ent : ∀ i, ERep U w g (s.get i) (a.tmps.getD i undef)
  tip : ∀ d, mem d s.live = true → Tip w g.wm (g.G d) (g.Gs d)
  disj : ∀ d e b, mem d s.live = true → mem e s.live = true → d ≠ e → spare (g.G d) = some b → spare (g.G e) ≠ some b
  mine : ∀ d b, mem d s.live = true → spare (g.G d) = some b → B.w.heap.size ≤ b ∨ B.M = some b
  deep : ∀ d, mem d s.live = true → deepN d = true → Deep B w g.wm (g.G d) (g.Gs d)
  dsep : ∀ d e b, mem d s.live = true → deepN d = true → mem e s.live = true → RowB w (g.G d) b → spare (g.G e) ≠ some b
  ddis : ∀ d e b, mem d s.live = true → deepN d = true → mem e s.live = true → deepN e = true → d ≠ e → RowB w (g.G d) b → ¬ RowB w (g.G e) b
  iter : ∀ i c pos, s.get i = .iter c pos → a.tmps.getD i undef = .pointer (some ⟨g.ib i, 0, none⟩) ∧ B.w.heap.size ≤ g.ib i
  idis : ∀ i j c p c' p', i ≠ j → s.get i = .iter c p → s.get j = .iter c' p' → g.ib i ≠ g.ib j
  defers : a.defers = []

def REL (U : UO Ty den) (B : Bs) (s : St Ty den) (a : Act) (w : World) : Prop := ∃ g, Rel U B g s a w
end Go.Aev
end

section
set_option linter.unusedVariables false
namespace Go.Aev
variable {Ty : Type} {den : Ty → Type}

/-! ### lists of entries and names -/
theorem beq_iff (a b : Nat) : Nat.beq a b = true ↔ a = b := Nat.beq_eq ▸ Iff.rfl
theorem beq_false {a b : Nat} (h : a ≠ b) : Nat.beq a b = false := by
  cases hb : Nat.beq a b with
  | false => rfl
  | true => exact absurd ((beq_iff a b).1 hb) h
theorem beq_self (a : Nat) : Nat.beq a a = true := (beq_iff a a).2 rfl

theorem mem_rem (d e : Nat) (l : List Nat) : mem e (rem d l) = true ↔ mem e l = true ∧ e ≠ d := by
  induction l with
  | nil => simp [mem, rem]
  | cons x l ih =>
    by_cases hx : x = d
    · subst hx
      simp only [rem, beq_self, cond_true, mem, ih]
      by_cases he : x = e
      · subst he; simp
      · rw [beq_false he]; simp
    · simp only [rem, beq_false hx, cond_false, mem]
      by_cases he : x = e
      · subst he; simp [beq_self, hx]
      · simp only [beq_false he, cond_false, ih]
theorem mem_cons (d e : Nat) (l : List Nat) : mem e (d :: l) = true ↔ d = e ∨ mem e l = true := by
  by_cases h : d = e
  · subst h; simp [mem, beq_self]
  · simp [mem, beq_false h, h]

theorem look_ins (fr : List (Nat × Ent Ty den)) (i j : Nat) (e : Ent Ty den) : look (ins fr i e) j = if i = j then e else look fr j := by
  induction fr with
  | nil =>
    by_cases h : i = j
    · simp [ins, look, h, beq_self]
    · simp [ins, look, beq_false h, h]
  | cons p r ih =>
    obtain ⟨k, x⟩ := p
    by_cases hk : k = i
    · subst hk
      simp only [ins, beq_self, cond_true, look]
      by_cases h : k = j
      · simp [h, beq_self]
      · simp [beq_false h, h]
    · simp only [ins, beq_false hk, cond_false]
      cases hb : Nat.blt i k with
      | true =>
        simp only [cond_true, look]
        by_cases h : i = j
        · simp [h, beq_self]
        · simp [beq_false h, h]
      | false =>
        simp only [cond_false, look, ih]
        by_cases h : k = j
        · subst h; simp [beq_self, Ne.symm hk]
        · simp [beq_false h]
theorem look_del (fr : List (Nat × Ent Ty den)) (ds : List Nat) (i : Nat) : look (del fr ds) i = .one .any ∨ look (del fr ds) i = look fr i := by
  induction fr with
  | nil => exact .inl rfl
  | cons p r ih =>
    obtain ⟨k, x⟩ := p
    simp only [del]
    cases hm : mem k ds with
    | true =>
      simp only [cond_true, look]
      by_cases h : k = i
      · subst h
        left
        clear ih
        induction r with
        | nil => rfl
        | cons q r ih2 =>
          obtain ⟨k2, x2⟩ := q
          simp only [del]
          cases hm2 : mem k2 ds with
          | true => simpa using ih2
          | false =>
            simp only [cond_false, look]
            by_cases h2 : k2 = k
            · subst h2; rw [hm] at hm2; cases hm2
            · simp only [beq_false h2, cond_false]; exact ih2
      · simp only [beq_false h, cond_false]; exact ih
    | false =>
      simp only [cond_false, look]
      by_cases h : k = i
      · simp [h, beq_self]
      · simp only [beq_false h, cond_false]; exact ih
theorem look_strip (d : Nat) (fr : List (Nat × Ent Ty den)) (i : Nat) : look (stripF d fr) i = (look fr i).strip d := by
  induction fr with
  | nil => rfl
  | cons p r ih =>
    obtain ⟨k, x⟩ := p
    simp only [stripF, look]
    by_cases h : k = i
    · simp [h, beq_self]
    · simp only [beq_false h, cond_false]; exact ih
theorem mem_insN {d e : Nat} : ∀ {l : List Nat}, mem e (insN d l) = true → d = e ∨ mem e l = true
  | [], h => by
    simp only [insN] at h
    rw [mem_cons] at h
    exact h
  | x :: r, h => by
    simp only [insN] at h
    cases hb : Nat.blt d x with
    | true =>
      rw [hb] at h
      simp only [cond_true] at h
      rw [mem_cons] at h
      exact h
    | false =>
      rw [hb] at h
      simp only [cond_false] at h
      rw [mem_cons] at h ⊢
      rcases h with h | h
      · exact .inr (.inl h)
      · exact (mem_insN h).imp id .inr
theorem mem_gcN {fr : List (Nat × Ent Ty den)} {d : Nat} : ∀ {l : List Nat}, mem d (gcN fr l) = true → mem d l = true
  | [], h => h
  | e :: r, h => by
    simp only [gcN] at h
    cases hh : hasF e fr with
    | true =>
      rw [hh] at h
      simp only [cond_true] at h
      rw [mem_cons]
      exact (mem_insN h).imp id mem_gcN
    | false =>
      rw [hh] at h
      simp only [cond_false] at h
      rw [mem_cons]
      exact .inr (mem_gcN h)

theorem get_set (s : St Ty den) (i j : Nat) (e : Ent Ty den) : (s.set i e).get j = if i = j then e else s.get j := look_ins _ _ _ _
theorem get_kill (s : St Ty den) (d i : Nat) : (s.kill d).get i = (s.get i).strip d := look_strip _ _ _
theorem get_fresh (s : St Ty den) (d i : Nat) : (s.fresh d).get i = (s.get i).strip d := look_strip _ _ _

theorem getD_put (a : Act) (d i : Nat) (v : Value) (h : d < a.tmps.size) : (a.put (some d) v).tmps.getD i undef = if d = i then v else a.tmps.getD i undef := by
  simp only [Act.put, Array.getD_eq_getD_getElem?, Array.getElem?_setIfInBounds]
  by_cases hd : d = i
  · subst hd; simp [h]
  · simp [hd]
theorem size_put (a : Act) (d : Option Nat) (v : Value) : (a.put d v).tmps.size = a.tmps.size := by
  cases d <;> simp [Act.put]
theorem defers_put (a : Act) (d : Option Nat) (v : Value) : (a.put d v).defers = a.defers := by
  cases d <;> simp [Act.put]

/-! ### what is stripped says less -/
theorem Leaf.strip_cases (d : Nat) (lf : Leaf Ty den) : lf.strip d = lf ∨ ∃ t l, lf = .sl t l (some d) ∧ lf.strip d = .sl t l none := by
  cases lf with
  | sl t l o =>
    cases o with
    | none => exact .inl rfl
    | some e =>
      by_cases h : e = d
      · subst h; exact .inr ⟨t, l, rfl, by simp [Leaf.strip, beq_self]⟩
      · exact .inl (by simp [Leaf.strip, beq_false h])
  | _ => exact .inl rfl
theorem Leaf.strip_own (d e : Nat) (lf : Leaf Ty den) (t : Ty) (l : List (den t)) (h : lf.strip d = .sl t l (some e)) : e ≠ d ∧ lf = .sl t l (some e) := by
  cases lf with
  | sl t' l' o =>
    cases o with
    | none => simp [Leaf.strip] at h
    | some x =>
      by_cases hx : x = d
      · subst hx; simp [Leaf.strip, beq_self] at h
      · simp only [Leaf.strip, beq_false hx, cond_false] at h
        have h2 := h
        simp only [Leaf.sl.injEq, Option.some.injEq] at h2
        obtain ⟨_, _, rfl⟩ := h2
        exact ⟨hx, h⟩
  | _ => simp [Leaf.strip] at h

variable {U : UO Ty den}
theorem CRep.strip {w : World} {wm : Nat → Nat} {lf : Leaf Ty den} {v : Value} (h : CRep U w wm lf v) (d : Nat) : CRep U w wm (lf.strip d) v := by
  rcases lf.strip_cases d with e | ⟨t, l, rfl, e⟩
  · rw [e]; exact h
  · rw [e]; exact h.own none

/-- Another ghost that agrees off the name d, for stripped leaves. -/
structure Gh.off (g g' : Gh) (d : Nat) : Prop where
  G : ∀ e, e ≠ d → g'.G e = g.G e
  Gs : ∀ e, e ≠ d → g'.Gs e = g.Gs e

theorem LRep.step (hU : U.Ok) {w w' : World} {g g' : Gh} {d : Nat} (hx : Ext w g.wm w' g'.wm) (ho : g.off g' d) {lf : Leaf Ty den} {v : Value} (h : LRep U w g lf v) : LRep U w' g' (lf.strip d) v := by
  refine ⟨(h.1.strip d).mono hU hx, fun t l e he => ?_⟩
  obtain ⟨h1, h2⟩ := Leaf.strip_own d e lf t l he
  rw [ho.G e h1, ho.Gs e h1]
  exact h.2 t l e h2
theorem LsRep.step (hU : U.Ok) {w w' : World} {g g' : Gh} {d : Nat} (hx : Ext w g.wm w' g'.wm) (ho : g.off g' d) : ∀ {ls : List (Leaf Ty den)} {vs : List Value}, LsRep U w g ls vs → LsRep U w' g' (ls.map (·.strip d)) vs
  | [], [], _ => trivial
  | _ :: _, _ :: _, h => ⟨h.1.step hU hx ho, LsRep.step hU hx ho h.2⟩
/-- The heap's iterators that stay. -/
theorem ERep.step (hU : U.Ok) {w w' : World} {g g' : Gh} {d : Nat} (hx : Ext w g.wm w' g'.wm) (ho : g.off g' d) {e : Ent Ty den} {v : Value} (h : ERep U w g e v)
    (hi : ∀ c pos, e = .iter c pos → ∀ b, v = .pointer (some ⟨b, 0, none⟩) → w'.heap[b]? = w.heap[b]?) : ERep U w' g' (e.strip d) v := by
  cases e with
  | one l => exact LRep.step hU hx ho h
  | tup ls => obtain ⟨vs, hv, hr⟩ := h; exact ⟨vs, hv, LsRep.step hU hx ho hr⟩
  | iter c pos =>
    obtain ⟨b, hv, hb⟩ := h
    exact ⟨b, hv, (hi c pos rfl b hv).trans hb⟩
theorem LRep.same (hU : U.Ok) {w w' : World} {g g' : Gh} (hx : Ext w g.wm w' g'.wm) (hG : g'.G = g.G) (hGs : g'.Gs = g.Gs) {lf : Leaf Ty den} {v : Value} (h : LRep U w g lf v) : LRep U w' g' lf v :=
  ⟨h.1.mono hU hx, fun t l e he => by rw [hG, hGs]; exact h.2 t l e he⟩
theorem LsRep.same (hU : U.Ok) {w w' : World} {g g' : Gh} (hx : Ext w g.wm w' g'.wm) (hG : g'.G = g.G) (hGs : g'.Gs = g.Gs) : ∀ {ls : List (Leaf Ty den)} {vs : List Value}, LsRep U w g ls vs → LsRep U w' g' ls vs
  | [], [], _ => trivial
  | _ :: _, _ :: _, h => ⟨h.1.same hU hx hG hGs, LsRep.same hU hx hG hGs h.2⟩
theorem ERep.same (hU : U.Ok) {w w' : World} {g g' : Gh} (hx : Ext w g.wm w' g'.wm) (hG : g'.G = g.G) (hGs : g'.Gs = g.Gs) {e : Ent Ty den} {v : Value} (h : ERep U w g e v)
    (hi : ∀ c pos, e = .iter c pos → ∀ b, v = .pointer (some ⟨b, 0, none⟩) → w'.heap[b]? = w.heap[b]?) : ERep U w' g' e v := by
  cases e with
  | one l => exact LRep.same hU hx hG hGs h
  | tup ls => obtain ⟨vs, hv, hr⟩ := h; exact ⟨vs, hv, LsRep.same hU hx hG hGs hr⟩
  | iter c pos =>
    obtain ⟨b, hv, hb⟩ := h
    exact ⟨b, hv, (hi c pos rfl b hv).trans hb⟩
theorem ERep.any (w : World) (g : Gh) (v : Value) : ERep U w g (.one .any : Ent Ty den) v := ⟨.any v, fun t l d h => by cases h⟩

def Ent.isIter : Ent Ty den → Bool
  | .iter _ _ => true
  | _ => false

/-! ### steps of the relation -/
variable {B : Bs} {g : Gh} {s : St Ty den} {a : Act} {w : World}

theorem Rel.set (h : Rel U B g s a w) {e : Ent Ty den} {v : Value} (he : ERep U w g e v) (hi : e.isIter = false) (d : Nat) (hd : d < a.tmps.size) : Rel U B g (s.set d e) (a.put (some d) v) w := by
  have hget := getD_put a d
  refine { h with ent := fun i => ?_, iter := fun i c pos hc => ?_, idis := fun i j c p c' p' hij h1 h2 => ?_, defers := by rw [defers_put]; exact h.defers }
  · rw [get_set, hget i v hd]
    by_cases hdi : d = i
    · simp only [if_pos hdi]; exact he
    · simp only [if_neg hdi]; exact h.ent i
  · rw [get_set] at hc
    rw [hget i v hd]
    by_cases hdi : d = i
    · rw [if_pos hdi] at hc; subst hc; cases hi
    · rw [if_neg hdi] at hc ⊢; exact h.iter i c pos hc
  · rw [get_set] at h1 h2
    by_cases hdi : d = i
    · rw [if_pos hdi] at h1; subst h1; cases hi
    · by_cases hdj : d = j
      · rw [if_pos hdj] at h2; subst h2; cases hi
      · rw [if_neg hdi] at h1; rw [if_neg hdj] at h2
        exact h.idis i j c p c' p' hij h1 h2

theorem Rel.weaken {s' : St Ty den} (h : Rel U B g s a w) (he : ∀ i, s'.get i = .one .any ∨ s'.get i = s.get i) (hl : ∀ d, mem d s'.live = true → mem d s.live = true) : Rel U B g s' a w := by
  refine { h with ent := fun i => ?_, tip := fun d hd => h.tip d (hl d hd), disj := fun d e b hd he' => h.disj d e b (hl d hd) (hl e he'), mine := fun d b hd => h.mine d b (hl d hd), deep := fun d hd => h.deep d (hl d hd), dsep := fun d e b hd hdp he' => h.dsep d e b (hl d hd) hdp (hl e he'), ddis := fun d e b hd hdp he' => h.ddis d e b (hl d hd) hdp (hl e he'), iter := fun i c pos hc => ?_, idis := fun i j c p c' p' hij h1 h2 => ?_ }
  · rcases he i with h1 | h1
    · rw [h1]; exact .any _ _ _
    · rw [h1]; exact h.ent i
  · rcases he i with h1 | h1
    · rw [h1] at hc; cases hc
    · rw [h1] at hc; exact h.iter i c pos hc
  · rcases he i with e1 | e1
    · rw [e1] at h1; cases h1
    · rcases he j with e2 | e2
      · rw [e2] at h2; cases h2
      · rw [e1] at h1; rw [e2] at h2; exact h.idis i j c p c' p' hij h1 h2
theorem Rel.clean (h : Rel U B g s a w) (ds : List Nat) : Rel U B g (s.dels ds).gc a w :=
  h.weaken (fun i => look_del _ _ _) (fun _ hd => mem_gcN hd)

theorem tip_keep {w w' : World} {wm wm' : Nat → Nat} {M : Option Nat} {v : Value} {sz : Nat} (h : Tip w wm v sz) (hM : ∀ b, spare v = some b → M ≠ some b)
    (hfr : ∀ b, b < w.heap.size → M ≠ some b → w'.heap[b]? = w.heap[b]? ∧ wm' b = wm b) : Tip w' wm' v sz := by
  obtain ⟨a0, len, cap, hv, hle, hc⟩ := h
  refine ⟨a0, len, cap, hv, hle, ?_⟩
  by_cases hlc : cap = 0
  · exact .inl hlc
  obtain ⟨b, off, c, e, fz, ha, hb, hcs, hwm, hfz⟩ := hc.resolve_left hlc
  have := hfr b (Array.getElem?_eq_some_iff.1 hb).1 (hM b (by rw [hv, ha]; simp [spare, hlc]))
  exact .inr ⟨b, off, c, e, fz, ha, this.1.trans hb, hcs, this.2.trans hwm, hfz⟩
theorem rowAt_ext {w w' : World} {wm wm' : Nat → Nat} (hx : Ext w wm w' wm') {v : Value} (h : Tip w wm v 1) (j : Nat) : rowAt w' v j = rowAt w v j := by
  obtain ⟨a0, len, cap, rfl, hle, hc⟩ := h
  cases a0 with
  | none => rfl
  | some a =>
    simp only [rowAt]
    by_cases hj : j < len
    · rw [if_pos hj, if_pos hj]
      obtain ⟨b, off, c, e, fz, ha, hb, hcs, hwm, hfz⟩ := hc.resolve_left (by omega)
      cases ha
      exact hx.cell b (off + j) (by omega)
    · rw [if_neg hj, if_neg hj]
theorem rowB_ext {w w' : World} {wm wm' : Nat → Nat} (hx : Ext w wm w' wm') {v : Value} (h : Tip w wm v 1) (b : Nat) : RowB w' v b ↔ RowB w v b := by
  unfold RowB
  constructor
  · rintro ⟨j, r, hj, hs⟩; exact ⟨j, r, by rw [← rowAt_ext hx h]; exact hj, hs⟩
  · rintro ⟨j, r, hj, hs⟩; exact ⟨j, r, by rw [rowAt_ext hx h]; exact hj, hs⟩
/-- The world goes on, no name turns. -/
theorem Rel.world (hU : U.Ok) (h : Rel U B g s a w) {w' : World} {wm' : Nat → Nat} (hos : w'.os = w.os) (htape : w'.tape = w.tape) (hout : w'.output = w.output) (hsz : w.heap.size ≤ w'.heap.size)
    (hx : Ext w g.wm w' wm') (M : Option Nat) (hMc : ∀ b, M = some b → ∃ c e fz, w.heap[b]? = some (.cells c e fz)) (hMl : ∀ d b, mem d s.live = true → spare (g.G d) = some b → M ≠ some b)
    (hMb : ∀ b, M = some b → B.w.heap.size ≤ b ∨ B.M = some b) (hMr : ∀ d b, mem d s.live = true → deepN d = true → RowB w (g.G d) b → M ≠ some b)
    (hfr : ∀ b, b < w.heap.size → M ≠ some b → w'.heap[b]? = w.heap[b]? ∧ wm' b = g.wm b) (hz : ∀ b, w'.heap.size ≤ b → wm' b = 0) : Rel U B { g with wm := wm' } s a w' := by
  have hlt : ∀ {b : Nat} {o : Obj}, w.heap[b]? = some o → b < w.heap.size := fun hb => (Array.getElem?_eq_some_iff.1 hb).1
  refine { os := hos.trans h.os, tape := htape.trans h.tape, output := hout.trans h.output, size := Nat.le_trans h.size hsz, frame := fun b hb hM => ?_, ext := h.ext.trans hx, zero := hz,
           ent := fun i => ERep.same (g' := { g with wm := wm' }) hU hx rfl rfl (h.ent i) (fun c pos hc b hv => ?_), tip := fun d hd => ?_, disj := h.disj, mine := h.mine, deep := fun d hd hdp => ?_, dsep := fun d e b hd hdp he hb => ?_, ddis := fun d e b hd hdp he hep hne hb hb' => ?_, iter := h.iter, idis := h.idis, defers := h.defers }
  · have h1 := h.frame b hb hM
    have h2 := hfr b (Nat.lt_of_lt_of_le hb h.size) (fun e => by rcases hMb b e with h3 | h3; · omega
                                                                 · exact hM h3)
    exact ⟨h2.1.trans h1.1, h2.2.trans h1.2⟩
  · have he := h.ent i
    rw [hc] at he
    obtain ⟨b', hv', hb'⟩ := he
    rw [hv] at hv'
    cases hv'
    exact (hfr b (hlt hb') (fun e => by obtain ⟨_, _, _, h3⟩ := hMc b e; rw [hb'] at h3; cases h3)).1
  · exact tip_keep (h.tip d hd) (fun b hs => hMl d b hd hs) hfr
  · have h1 := h.deep d hd hdp
    have ht := h.tip d hd
    rw [h1.one] at ht
    have hrow := fun j => rowAt_ext hx ht j
    refine ⟨h1.one, fun j r hj => ?_, fun b hb => ?_, fun j k r r' b hne hj hk => ?_⟩
    · rw [hrow] at hj
      exact tip_keep (h1.tip j r hj) (fun b hs => hMr d b hd hdp ⟨j, r, hj, hs⟩) hfr
    · exact h1.mine b ((rowB_ext hx ht b).1 hb)
    · rw [hrow] at hj hk
      exact h1.dis j k r r' b hne hj hk
  · have ht := h.tip d hd
    rw [(h.deep d hd hdp).one] at ht
    exact h.dsep d e b hd hdp he ((rowB_ext hx ht b).1 hb)
  · have ht := h.tip d hd
    rw [(h.deep d hd hdp).one] at ht
    have ht' := h.tip e he
    rw [(h.deep e he hep).one] at ht'
    exact h.ddis d e b hd hdp he hep hne ((rowB_ext hx ht b).1 hb) ((rowB_ext hx ht' b).1 hb')

theorem tip_lt {w : World} {wm : Nat → Nat} {v : Value} {sz b : Nat} (h : Tip w wm v sz) (hs : spare v = some b) : b < w.heap.size := by
  obtain ⟨a0, len, cap, rfl, hle, hc⟩ := h
  simp only [spare] at hs
  split at hs
  · rename_i a1 l1 c1 heq
    cases heq
    split at hs
    · cases hs
    · rename_i hlc
      obtain ⟨b', off, c, e, fz, ha, hb, _⟩ := hc.resolve_left hlc
      cases ha
      simp at hs
      subst hs
      exact (Array.getElem?_eq_some_iff.1 hb).1
  · cases hs
theorem Rel.row_lt (h : Rel U B g s a w) {e b : Nat} (he : mem e s.live = true) (hep : deepN e = true) (hb : RowB w (g.G e) b) : b < w.heap.size := by
  obtain ⟨j, r, hj, hs⟩ := hb
  exact tip_lt ((h.deep e he hep).tip j r hj) hs
theorem Rel.row_ext (h : Rel U B g s a w) {w' : World} {wm' : Nat → Nat} (hx : Ext w g.wm w' wm') {e b : Nat} (he : mem e s.live = true) (hep : deepN e = true) : RowB w' (g.G e) b ↔ RowB w (g.G e) b := by
  have ht := h.tip e he
  rw [(h.deep e he hep).one] at ht
  exact rowB_ext hx ht b
theorem ext_alloc (h : Rel U B g s a w) {w' : World} (o : Obj) (n : Nat) (hw : w'.heap = w.heap.push o) : Ext w g.wm w' (fun k => if k = w.heap.size then n else g.wm k) := by
  refine ⟨fun b off ho => ?_, fun b => ?_⟩
  · rcases Nat.lt_or_ge b w.heap.size with h2 | h2
    · exact World.cell?_of_block (a := ⟨b, off, none⟩) (by rw [hw, Array.getElem?_push, if_neg (by show ¬ b = w.heap.size; omega)])
    · rw [h.zero b h2] at ho; omega
  · by_cases hb : b = w.heap.size
    · subst hb; rw [h.zero _ (Nat.le_refl _)]; exact Nat.zero_le _
    · rw [if_neg hb]; exact Nat.le_refl _
theorem deep_nmOf (d : Option Nat) : deepN (nmOf d) = false := by
  unfold deepN nmOf
  cases d with
  | none => rfl
  | some d =>
    have := Nat.mod_lt d (show 0 < 900000 by omega)
    cases h : Nat.ble 1000000 (100 + d % 900000) with
    | false => rfl
    | true => have := Nat.le_of_ble_eq_true h; omega
theorem deep_nmR (d : Option Nat) (j : Nat) : deepN (nmR d j) = false := by
  unfold deepN nmR
  cases d with
  | none => rfl
  | some d =>
    have := Nat.mod_lt (1000 * (j + 1) + d) (show 0 < 900000 by omega)
    cases h : Nat.ble 1000000 ((1000 * (j + 1) + d) % 900000) with
    | false => rfl
    | true => have := Nat.le_of_ble_eq_true h; omega
theorem not_deep {d : Nat} {p : Prop} (h : deepN d = false) : deepN d = true → p := fun e => by rw [h] at e; cases e
/-- A name gets a new value that stands in the world already. -/
def Gh.put (g : Gh) (d : Nat) (v : Value) (sz : Nat) : Gh := { g with G := fun e => if e = d then v else g.G e, Gs := fun e => if e = d then sz else g.Gs e }
theorem Gh.put_off (g : Gh) (d : Nat) (v : Value) (sz : Nat) : g.off (g.put d v sz) d :=
  ⟨fun e he => by simp [Gh.put, he], fun e he => by simp [Gh.put, he]⟩
theorem Ent.strip_iter {d : Nat} {e : Ent Ty den} {c : List UInt8} {pos : Nat} (h : e.strip d = .iter c pos) : e = .iter c pos := by
  cases e with
  | iter c' p' => simpa [Ent.strip] using h
  | one l => simp [Ent.strip] at h
  | tup ls => simp [Ent.strip] at h

theorem Rel.fresh (hU : U.Ok) (h : Rel U B g s a w) (d : Nat) (v : Value) (sz : Nat) (ht : Tip w g.wm v sz)
    (hd : ∀ e b, mem e s.live = true → e ≠ d → spare v = some b → spare (g.G e) ≠ some b) (hm : ∀ b, spare v = some b → B.w.heap.size ≤ b ∨ B.M = some b)
    (hsp : ∀ e b, mem e s.live = true → e ≠ d → deepN e = true → RowB w (g.G e) b → spare v ≠ some b)
    (hdp : deepN d = true → Deep B w g.wm v sz ∧ (∀ b, RowB w v b → spare v ≠ some b) ∧ (∀ e b, mem e s.live = true → e ≠ d → RowB w v b → spare (g.G e) ≠ some b) ∧ (∀ e b, mem e s.live = true → e ≠ d → deepN e = true → RowB w v b → ¬ RowB w (g.G e) b)) :
    Rel U B (g.put d v sz) (s.fresh d) a w := by
  have hG : ∀ e, e ≠ d → (g.put d v sz).G e = g.G e := fun e he => by simp [Gh.put, he]
  have hGs : ∀ e, e ≠ d → (g.put d v sz).Gs e = g.Gs e := fun e he => by simp [Gh.put, he]
  have hGd : (g.put d v sz).G d = v := by simp [Gh.put]
  have hGsd : (g.put d v sz).Gs d = sz := by simp [Gh.put]
  have hlive : ∀ e, mem e (s.fresh d).live = true → e = d ∨ (e ≠ d ∧ mem e s.live = true) := fun e he => by
    simp only [St.fresh] at he
    rw [mem_cons, mem_rem] at he
    rcases he with rfl | ⟨h1, h2⟩
    · exact .inl rfl
    · exact .inr ⟨h2, h1⟩
  refine { os := h.os, tape := h.tape, output := h.output, size := h.size, frame := h.frame, ext := h.ext, zero := h.zero, ent := fun i => ?_, tip := fun e he => ?_, disj := fun e f b he hf hne h1 => ?_, mine := fun e b he h1 => ?_,
           deep := fun e he hep => ?_, dsep := fun e f b he hep hf h1 => ?_, ddis := fun e f b he hep hf hfp hne h1 h2 => ?_,
           iter := fun i c pos hc => ?_, idis := fun i j c p c' p' hij h1 h2 => ?_, defers := h.defers }
  · rw [get_fresh]
    exact ERep.step (g' := g.put d v sz) (w' := w) hU (Ext.refl w g.wm) (g.put_off d v sz) (h.ent i) (fun _ _ _ _ _ => rfl)
  · rcases hlive e he with rfl | ⟨h1, h2⟩
    · rw [hGd, hGsd]; exact ht
    · rw [hG e h1, hGs e h1]; exact h.tip e h2
  · rcases hlive e he with rfl | ⟨e1, e2⟩
    · rcases hlive f hf with rfl | ⟨f1, f2⟩
      · exact absurd rfl hne
      · rw [hGd] at h1; rw [hG f f1]; exact hd f b f2 f1 h1
    · rw [hG e e1] at h1
      rcases hlive f hf with rfl | ⟨f1, f2⟩
      · rw [hGd]; exact fun h2 => hd e b e2 e1 h2 h1
      · rw [hG f f1]; exact h.disj e f b e2 f2 hne h1
  · rcases hlive e he with rfl | ⟨e1, e2⟩
    · rw [hGd] at h1; exact hm b h1
    · rw [hG e e1] at h1; exact h.mine e b e2 h1
  · rcases hlive e he with rfl | ⟨e1, e2⟩
    · rw [hGd, hGsd]; exact (hdp hep).1
    · rw [hG e e1, hGs e e1]; exact h.deep e e2 hep
  · rcases hlive e he with rfl | ⟨e1, e2⟩
    · rw [hGd] at h1
      rcases hlive f hf with rfl | ⟨f1, f2⟩
      · rw [hGd]; exact (hdp hep).2.1 b h1
      · rw [hG f f1]; exact (hdp hep).2.2.1 f b f2 f1 h1
    · rw [hG e e1] at h1
      rcases hlive f hf with rfl | ⟨f1, f2⟩
      · rw [hGd]; exact hsp e b e2 e1 hep h1
      · rw [hG f f1]; exact h.dsep e f b e2 hep f2 h1
  · rcases hlive e he with rfl | ⟨e1, e2⟩
    · rw [hGd] at h1
      rcases hlive f hf with rfl | ⟨f1, f2⟩
      · exact absurd rfl hne
      · rw [hG f f1] at h2; exact (hdp hep).2.2.2 f b f2 f1 hfp h1 h2
    · rw [hG e e1] at h1
      rcases hlive f hf with rfl | ⟨f1, f2⟩
      · rw [hGd] at h2; exact (hdp hfp).2.2.2 e b e2 e1 hep h2 h1
      · rw [hG f f1] at h2; exact h.ddis e f b e2 hep f2 hfp hne h1 h2
  · rw [get_fresh] at hc
    exact h.iter i c pos (Ent.strip_iter hc)
  · rw [get_fresh] at h1 h2
    exact h.idis i j c p c' p' hij (Ent.strip_iter h1) (Ent.strip_iter h2)

theorem Rel.kill (hU : U.Ok) (h : Rel U B g s a w) (d : Nat) : Rel U B g (s.kill d) a w := by
  have hlive : ∀ e, mem e (s.kill d).live = true → mem e s.live = true := fun e he => ((mem_rem d e s.live).1 he).1
  refine { h with ent := fun i => ?_, tip := fun e he => h.tip e (hlive e he), disj := fun e f b he hf => h.disj e f b (hlive e he) (hlive f hf), mine := fun e b he => h.mine e b (hlive e he), deep := fun d hd => h.deep d (hlive d hd), dsep := fun d e b hd hdp he' => h.dsep d e b (hlive d hd) hdp (hlive e he'), ddis := fun d e b hd hdp he' => h.ddis d e b (hlive d hd) hdp (hlive e he'), iter := fun i c pos hc => ?_, idis := fun i j c p c' p' hij h1 h2 => ?_ }
  · rw [get_kill]
    exact (h.ent i).step hU (Ext.refl _ _) ⟨fun _ _ => rfl, fun _ _ => rfl⟩ (fun _ _ _ _ _ => rfl)
  · rw [get_kill] at hc
    exact h.iter i c pos (Ent.strip_iter hc)
  · rw [get_kill] at h1 h2
    exact h.idis i j c p c' p' hij (Ent.strip_iter h1) (Ent.strip_iter h2)
end Go.Aev
end

section
set_option linter.unusedVariables false
namespace Go.Aev
variable {Ty : Type} {den : Ty → Type}

def TbOk (P : Program) (U : UO Ty den) (t : TypeId) : TK Ty → Prop
  | .int k => P.underlying t = some (.int k)
  | .str => P.underlying t = some .string
  | .bool => P.underlying t = some .bool
  | .slice u e => P.underlying t = some (.slice e) ∧ ∃ i z, P.info? e = some i ∧ i.size = U.size u ∧ i.bytes = U.bytes u ∧ i.zero = some z ∧ z.cells.size = U.size u
  | .struct u => ∃ fs i z, P.underlying t = some (.struct fs) ∧ fs.toList.mapM (fun f => (P.info? f.type).map fun i => (f.offset, i.size)) = some ((List.range (U.size u)).map fun i => (i, 1)) ∧
      P.info? t = some i ∧ i.size = U.size u ∧ i.zero = some z ∧ z.cells.size = U.size u
  | .other => True

section
variable {U : UO Ty den} {w : World} {g : Gh} {wm : Nat → Nat}

theorem CRep.int_inv {k : IntKind} {n : Int} {v : Value} (h : CRep U w wm (.int k n) v) : v = .int k n := by cases h; rfl
theorem CRep.bool_inv {b : Bool} {v : Value} (h : CRep U w wm (.bool b) v) : v = .bool b := by cases h; rfl
theorem CRep.str_inv {s : List UInt8} {v : Value} (h : CRep U w wm (.str s) v) : v = .string ⟨s.toArray⟩ := by cases h; rfl
theorem CRep.sl_inv {t : Ty} {l : List (den t)} {o : Option Nat} {v : Value} (h : CRep U w wm (.sl t l o) v) : ∃ a cap, v = .slice a l.length cap := by
  cases h with
  | nil t o a cap => exact ⟨a, cap, rfl⟩
  | sl t l o b off cap => exact ⟨_, cap, rfl⟩

theorem own_none (lf : Leaf Ty den) (v : Value) (h : ∀ t l d, lf ≠ .sl t l (some d)) : Own g U lf v := fun t l d e => absurd e (h t l d)
theorem LRep.int (k : IntKind) (n : Int) : LRep U w g (.int k n) (.int k n) := ⟨.int k n, fun _ _ _ h => by cases h⟩
theorem LRep.bool (b : Bool) : LRep U w g (.bool b) (.bool b) := ⟨.bool b, fun _ _ _ h => by cases h⟩
theorem LRep.str (s : List UInt8) : LRep U w g (.str s) (.string ⟨s.toArray⟩) := ⟨.str s, fun _ _ _ h => by cases h⟩
theorem LRep.any (v : Value) : LRep U w g .any v := ⟨.any v, fun _ _ _ h => by cases h⟩
theorem LRep.closed {lf : Leaf Ty den} {v : Value} (h : CRep U w g.wm lf v) : LRep U w g lf.close v :=
  ⟨h.close, fun t l d e => by cases lf <;> simp [Leaf.close] at e⟩

theorem str_eta (s : ByteArray) : (⟨s.data.toList.toArray⟩ : ByteArray) = s := by cases s; simp

theorem ofVal_rep (v : Value) : LRep U w g (ofVal v) v := by
  cases v <;> first
    | exact LRep.int _ _
    | exact LRep.bool _
    | exact LRep.any _
    | (rename_i s; have := LRep.str (U := U) (w := w) (g := g) s.data.toList; rw [str_eta] at this; exact this)
end

section
variable {E : Env Ty den} {B : Bs} {g : Gh} {s : St Ty den} {a : Act} {w : World}

theorem opd_rep (h : Rel E.U B g s a w) (ty : TypeId) (x : Operand) : ERep E.U w g (opd E s ty x) (a.eval x) := by
  cases x with
  | tmp t =>
    have he := h.ent t
    simp only [opd, Act.eval]
    cases hg : s.get t with
    | iter c p => exact ERep.any _ _ _
    | one l => rw [hg] at he; exact he
    | tup ls => rw [hg] at he; exact he
  | const v =>
    simp only [opd, Act.eval]
    split
    · split
      · exact ⟨.nil _ _ _ _, fun t l d e => by simp at e⟩
      · exact ERep.any _ _ _
    · exact ofVal_rep v
  | global g' => exact ERep.any _ _ _
  | func f => exact ERep.any _ _ _
theorem opl_rep (h : Rel E.U B g s a w) (ty : TypeId) (x : Operand) : LRep E.U w g (opl E s ty x) (a.eval x) := by
  have he := opd_rep h ty x
  unfold opl
  cases hd : opd E s ty x with
  | one l => rw [hd] at he; exact he
  | tup ls => exact LRep.any _
  | iter c p => exact LRep.any _
theorem opd_iter (s : St Ty den) (ty : TypeId) (x : Operand) : (opd E s ty x).isIter = false := by
  cases x with
  | tmp t =>
    simp only [opd]
    cases hg : s.get t <;> rfl
  | const v =>
    simp only [opd]
    split
    · split <;> rfl
    · rfl
  | _ => rfl
theorem opl_int {ty : TypeId} {x : Operand} {k : IntKind} {n : Int} (h : Rel E.U B g s a w) (he : opl E s ty x = .int k n) : a.eval x = .int k n := by
  have := opl_rep h ty x; rw [he] at this; exact this.1.int_inv
theorem opl_bool {ty : TypeId} {x : Operand} {b : Bool} (h : Rel E.U B g s a w) (he : opl E s ty x = .bool b) : a.eval x = .bool b := by
  have := opl_rep h ty x; rw [he] at this; exact this.1.bool_inv
theorem opl_str {ty : TypeId} {x : Operand} {c : List UInt8} (h : Rel E.U B g s a w) (he : opl E s ty x = .str c) : a.eval x = .string ⟨c.toArray⟩ := by
  have := opl_rep h ty x; rw [he] at this; exact this.1.str_inv

theorem REL.setO (h : Rel E.U B g s a w) {e : Ent Ty den} {v : Value} (he : ERep E.U w g e v) (hi : e.isIter = false) (d : Option Nat) (hd : ∀ i, d = some i → i < a.tmps.size) : REL E.U B (s.setO d e) (a.put d v) w := by
  cases d with
  | none => exact ⟨g, h⟩
  | some i => exact ⟨g, h.set he hi i (hd i rfl)⟩

/-- What an operation owes. -/
def Next (E : Env Ty den) (B : Bs) {R : Type} (o : Oper) (a : Act) (k : Ent Ty den → St Ty den → Option R) (r : R) (next : Act → World → Prop) : Prop :=
  ∀ e s' v w', k e s' = some r → REL E.U B (s'.setO o.dst e) (a.put o.dst v) w' → next (a.put o.dst v) w'

variable {P : Program} {R : Type} {o : Oper} {k : Ent Ty den → St Ty den → Option R} {r : R} {next : Act → World → Prop} {Q : Exit → Act → World → Prop}

theorem wp_value {v : Value} {w' : World} (hrun : (execOp a.eval o).run P w = .ok (.value v) w') (hn : next (a.put o.dst v) w') : o.wp P a w next Q := by
  unfold Oper.wp; rw [hrun]; exact hn

/-- An operation that leaves the world alone. -/
theorem wp_quiet (h : Rel E.U B g s a w) (hd : ∀ i, o.dst = some i → i < a.tmps.size) (hn : Next E B o a k r next) {e : Ent Ty den} {v : Value} (hk : k e s = some r)
    (he : ERep E.U w g e v) (hi : e.isIter = false) (hrun : (execOp a.eval o).run P w = .ok (.value v) w) : o.wp P a w next Q :=
  wp_value hrun (hn e s v w hk (REL.setO h he hi _ hd))
end

section
variable {E : Env Ty den} {B : Bs} {g : Gh} {s : St Ty den} {a : Act} {w : World}
variable {P : Program} {R : Type} {o : Oper} {k : Ent Ty den → St Ty den → Option R} {r : R} {next : Act → World → Prop} {Q : Exit → Act → World → Prop}
variable (hT : ∀ t, TbOk P E.U t (E.tb t)) (hU : E.U.Ok)

theorem op_move {x : Operand} (hop : o.op = .move x) (h : evOp E o s k = some r) (hr : Rel E.U B g s a w) (hd : ∀ i, o.dst = some i → i < a.tmps.size) (hn : Next E B o a k r next) : o.wp P a w next Q := by
  simp only [evOp, hop] at h
  exact wp_quiet hr hd hn h (opd_rep hr _ _) (opd_iter _ _ _) (by simp [execOp, hop])

theorem op_pick {c x y : Operand} (hop : o.op = .pick c x y) (h : evOp E o s k = some r) (hr : Rel E.U B g s a w) (hd : ∀ i, o.dst = some i → i < a.tmps.size) (hn : Next E B o a k r next) : o.wp P a w next Q := by
  simp only [evOp, hop] at h
  split at h
  · rename_i hc
    exact wp_quiet (v := a.eval x) hr hd hn h (show ERep _ _ _ (.one _) _ from opl_rep hr _ _) rfl (by simp [execOp, hop, opl_bool hr hc, asBool])
  · rename_i hc
    exact wp_quiet (v := a.eval y) hr hd hn h (show ERep _ _ _ (.one _) _ from opl_rep hr _ _) rfl (by simp [execOp, hop, opl_bool hr hc, asBool])
  · cases h

theorem LsRep.get {U : UO Ty den} {w : World} {g : Gh} : ∀ {ls : List (Leaf Ty den)} {vs : List Value}, LsRep U w g ls vs → ∀ {i : Nat} {l : Leaf Ty den}, ls[i]? = some l → ∃ v, vs[i]? = some v ∧ LRep U w g l v
  | _ :: _, _ :: _, h, 0, l, hl => by simp at hl; subst hl; exact ⟨_, rfl, h.1⟩
  | _ :: _, _ :: _, h, i + 1, l, hl => by simpa using LsRep.get h.2 (i := i) (by simpa using hl)
  | [], _, _, i, l, hl => by simp at hl

theorem op_extract {x : Operand} {i : Nat} (hop : o.op = .extract x i) (h : evOp E o s k = some r) (hr : Rel E.U B g s a w) (hd : ∀ i, o.dst = some i → i < a.tmps.size) (hn : Next E B o a k r next) : o.wp P a w next Q := by
  simp only [evOp, hop] at h
  split at h
  · rename_i ls hx
    split at h
    · rename_i l hl
      have he := opd_rep hr 0 x
      rw [hx] at he
      obtain ⟨vs, hv, hvs⟩ := he
      obtain ⟨v, hv2, hrep⟩ := hvs.get hl
      exact wp_quiet hr hd hn h hrep rfl (by simp [execOp, hop, hv, Instr.extract, hv2])
    · cases h
  · cases h

theorem run_shr (P : Program) (w : World) (t : TypeId) (a b : Int) (k' : IntKind) (h0 : 0 ≤ b) (h1 : b ≤ 31) : (binOp .shr t (.int .i32 a) (.int k' b)).run P w = .ok (.int .i32 (a / 2 ^ b.toNat)) w := by
  rw [binOp_shr, shift_shr_i32 _ _ _ h0 (by omega)]; rfl
theorem run_shl (P : Program) (w : World) (t : TypeId) (a b : Int) (k' : IntKind) (h0 : 0 ≤ b) (h1 : b ≤ 31) : (binOp .shl t (.int .i32 a) (.int k' b)).run P w = .ok (.int .i32 (IntKind.i32.wrap (a * 2 ^ b.toNat))) w := by
  rw [binOp_shl, shift_shl_i32 _ _ _ h0 (by omega)]; rfl

theorem bif_some {α : Type} {c : Bool} {x : Option α} {y : α} (h : (bif c then x else none) = some y) : c = true ∧ x = some y := by
  cases c with
  | true => exact ⟨rfl, h⟩
  | false => cases h

theorem intBin_run (op : BinOp) (k0 : IntKind) (x y : Int) (l : Leaf Ty den) (t : TypeId) (h : intBin op k0 x y = some l) :
    ∃ v, (binOp op t (.int k0 x) (.int k0 y)).run P w = .ok v w ∧ LRep E.U w g l v := by
  cases op <;> simp only [intBin, Option.some.injEq, reduceCtorEq] at h <;> subst h <;>
    first
    | (refine ⟨_, ?_, LRep.int _ _⟩; simp [binOp, Op.intArith]; done)
    | (refine ⟨_, ?_, LRep.bool _⟩; simp [binOp, Op.intCmp]; done)
    | (refine ⟨_, ?_, LRep.int _ _⟩; first | (rw [binOp_and, intBits_and]; rfl) | (rw [binOp_or, intBits_or]; rfl))

include hT in
theorem op_binOp {op : BinOp} {t yt : TypeId} {x y : Operand} (hop : o.op = .binOp op t x y yt) (h : evOp E o s k = some r) (hr : Rel E.U B g s a w) (hd : ∀ i, o.dst = some i → i < a.tmps.size) (hn : Next E B o a k r next) : o.wp P a w next Q := by
  simp only [evOp, hop] at h
  split at h
  · rename_i k0 x' k1 y' hx hy
    have ex := opl_int hr hx
    have ey := opl_int hr hy
    have fin : ∀ (l : Leaf Ty den) (v : Value), k (.one l) s = some r → (binOp op t (.int k0 x') (.int k1 y')).run P w = .ok v w → LRep E.U w g l v → o.wp P a w next Q := fun l v hk hrun hl =>
      wp_quiet hr hd hn hk (show ERep _ _ _ (.one l) _ from hl) rfl (by simp [execOp, hop, ex, ey, eqGuard_at_int, hrun])
    split at h
    · obtain ⟨hc, h'⟩ := bif_some h
      clear h
      simp only [Bool.and_eq_true, decide_eq_true_eq] at hc
      obtain ⟨⟨h0, h1⟩, rfl⟩ := hc
      exact fin _ _ h' (run_shr P w t x' y' k1 h0 h1) (LRep.int _ _)
    · obtain ⟨hc, h'⟩ := bif_some h
      clear h
      simp only [Bool.and_eq_true, decide_eq_true_eq] at hc
      obtain ⟨⟨h0, h1⟩, rfl⟩ := hc
      exact fin _ _ h' (run_shl P w t x' y' k1 h0 h1) (LRep.int _ _)
    · obtain ⟨hc, h'⟩ := bif_some h
      clear h
      simp only [Bool.and_eq_true, decide_eq_true_eq, Bool.not_eq_true', decide_eq_false_iff_not] at hc
      obtain ⟨rfl, h0⟩ := hc
      exact fin _ _ h' (by simp [binOp, Op.intDiv, h0]) (LRep.int _ _)
    · obtain ⟨hc, h'⟩ := bif_some h
      clear h
      simp only [Bool.and_eq_true, decide_eq_true_eq, Bool.not_eq_true', decide_eq_false_iff_not] at hc
      obtain ⟨rfl, h0⟩ := hc
      exact fin _ _ h' (by simp [binOp, Op.intDiv, h0]) (LRep.int _ _)
    · obtain ⟨hc, h'⟩ := bif_some h
      clear h
      simp only [decide_eq_true_eq] at hc
      subst hc
      split at h'
      · rename_i l hl
        obtain ⟨v, hv, hrep⟩ := intBin_run (P := P) (w := w) (g := g) (E := E) op k0 x' y' l t hl
        exact fin l v h' hv hrep
      · cases h'
  · rename_i x' y' hx hy
    have ex := opl_str hr hx
    have ey := opl_str hr hy
    have fin : ∀ (l : Leaf Ty den) (v : Value), k (.one l) s = some r → (binOp op t (.string ⟨x'.toArray⟩) (.string ⟨y'.toArray⟩)).run P w = .ok v w → LRep E.U w g l v → o.wp P a w next Q := fun l v hk hrun hl =>
      wp_quiet hr hd hn hk (show ERep _ _ _ (.one l) _ from hl) rfl (by simp [execOp, hop, ex, ey, eqGuard_at_string, hrun])
    split at h
    · obtain ⟨hc, h'⟩ := bif_some h
      clear h
      simp only [decide_eq_true_eq] at hc
      refine fin _ (.string ⟨(x' ++ y').toArray⟩) h' ?_ (LRep.str _)
      have e1 : (⟨x'.toArray⟩ : ByteArray) ++ ⟨y'.toArray⟩ = ⟨(x' ++ y').toArray⟩ := by
        apply ByteArray.ext; simp
      have e2 : (ByteArray.mk x'.toArray).size = x'.length := by simp [ByteArray.size]
      have e3 : (ByteArray.mk y'.toArray).size = y'.length := by simp [ByteArray.size]
      have hle : ¬ (9223372036854775807 < (x'.length : Int) + (y'.length : Int)) := by omega
      simp [binOp, Op.stringOp, e1, e2, e3, hle]
    · exact fin _ _ h (by simp [binOp, Op.stringOp]) (LRep.bool _)
    · exact fin _ _ h (by simp [binOp, Op.stringOp]) (LRep.bool _)
    · cases h
  · rename_i x' y' hx hy
    have ex := opl_bool hr hx
    have ey := opl_bool hr hy
    split at h
    · rename_i ht
      have htb := hT t
      rw [ht] at htb
      split at h
      · exact wp_quiet hr hd hn h (show ERep _ _ _ (.one _) _ from LRep.bool _) rfl (by simp [execOp, hop, ex, ey, eqGuard_at_bool, run_eql_bool w t x' y' htb])
      · exact wp_quiet hr hd hn h (show ERep _ _ _ (.one _) _ from LRep.bool _) rfl (by simp [execOp, hop, ex, ey, eqGuard_at_bool, run_neq_bool w t x' y' htb])
      · cases h
    · cases h
  · cases h

theorem op_unOp {op : UnOp} {t : TypeId} {x : Operand} (hop : o.op = .unOp op t x) (h : evOp E o s k = some r) (hr : Rel E.U B g s a w) (hd : ∀ i, o.dst = some i → i < a.tmps.size) (hn : Next E B o a k r next) : o.wp P a w next Q := by
  simp only [evOp, hop] at h
  split at h
  · rename_i b hx
    exact wp_quiet hr hd hn h (show ERep _ _ _ (.one _) _ from LRep.bool _) rfl (by simp [execOp, hop, opl_bool hr hx, Op.unary])
  · rename_i k0 n hx
    exact wp_quiet hr hd hn h (show ERep _ _ _ (.one _) _ from LRep.int _ _) rfl (by simp [execOp, hop, opl_int hr hx, Op.unary, Op.intArith])
  · cases h
end
end Go.Aev
end
