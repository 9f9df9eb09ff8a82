/- Proved here: lemmas of an evaluator over the model's code that the claim's text uses (UW). Conditions: those that each lemma states. -/
import Derived.Test.YtljnggaaohddnaaWevD
import Derived.Test.YtljnggaaohddnaaRows
section
set_option linter.unusedVariables false
namespace Go.Aev
open Go.Proofs

/-- The struct of an error's number and word, and a list of those. -/
inductive TyW where | we | wes
  deriving DecidableEq
abbrev WE := Int × Int × List UInt8
def denW : TyW → Type
  | .we => WE
  | .wes => List WE
abbrev LW := Leaf TyW denW
abbrev EW := Ent TyW denW
def cellsW : (t : TyW) → denW t → List LW
  | .we, (x : WE) => [.int .i64 x.1, .int .i64 x.2.1, .str x.2.2]
  | .wes, (l : List WE) => [.sl .we l none]
def decW : (t : TyW) → List LW → Option (denW t)
  | .we, [.int .i64 a, .int .i64 b, .str s] => some ((a, b, s) : WE)
  | .wes, [.sl .we l none] => some l
  | _, _ => none
def UW : UO TyW denW where
  deq := inferInstance
  cells := cellsW
  dec := decW
  ofBytes := fun _ => none
  toBytes := fun _ => none
  ofRunes := fun _ => none
  toRunes := fun _ => none
  size := fun | .we => 3 | .wes => 1
  bytes := fun | .we => 32 | .wes => 24
theorem uw_ok : (UW).Ok where
  pos := fun t => by cases t <;> decide
  bpos := fun t => by cases t <;> decide
  len := fun t x => by cases t <;> rfl
  dec := fun t ls x h => by
    simp only [UW] at h ⊢
    unfold decW at h
    split at h <;> first | cases h; done | (cases h; rfl)
  ofBytes := fun t f h => by cases h
  ofRunes := fun t f h => by cases h
  toRunes := fun t f h => by cases h
  toBytes := fun t f h => by cases h
  ofBytes1 := fun t f h => by cases h
  ofRunes1 := fun t f h => by cases h
  toRunes1 := fun t f h => by cases h
  toBytes1 := fun t f h => by cases h
  solid := fun t x lf h => by
    cases t
    · simp only [UW, cellsW, List.mem_cons, List.not_mem_nil, or_false] at h
      rcases h with rfl | rfl | rfl <;> exact ⟨by simp, by simp, by simp⟩
    · have h2 := List.mem_singleton.1 h
      subst h2; exact ⟨by simp, by simp, by simp⟩

theorem tbSlice {Ty : Type} {den : Ty → Type} {P : Program} {U : UO Ty den} {t e : TypeId} {u : Ty} (h1 : P.underlying t = some (.slice e))
    (h2 : (match P.info? e with
      | some i => Nat.beq i.size (U.size u) && (Nat.beq i.bytes (U.bytes u) && (match i.zero with | some z => Nat.beq z.cells.size (U.size u) | none => false))
      | none => false) = true) : TbOk P U t (.slice u e) := by
  refine ⟨h1, ?_⟩
  split at h2
  · rename_i i hi
    simp only [Bool.and_eq_true, Nat.beq_eq] at h2
    obtain ⟨h3, h4, h5⟩ := h2
    split at h5
    · rename_i z hz
      exact ⟨i, z, hi, h3, h4, hz, Nat.eq_of_beq_eq_true h5⟩
    · cases h5
  · cases h2
theorem tbStruct {Ty : Type} {den : Ty → Type} {P : Program} {U : UO Ty den} {t : TypeId} {u : Ty} {fs : Array Field} (h1 : P.underlying t = some (.struct fs))
    (h0 : fs.toList.mapM (fun f => (P.info? f.type).map fun i => (f.offset, i.size)) = some ((List.range (U.size u)).map fun i => (i, 1)))
    (h2 : (match P.info? t with
      | some i => Nat.beq i.size (U.size u) && (match i.zero with | some z => Nat.beq z.cells.size (U.size u) | none => false)
      | none => false) = true) : TbOk P U t (.struct u) := by
  split at h2
  · rename_i i hi
    simp only [Bool.and_eq_true, Nat.beq_eq] at h2
    obtain ⟨h3, h5⟩ := h2
    split at h5
    · rename_i z hz
      exact ⟨fs, i, z, h1, h0, hi, h3, hz, Nat.eq_of_beq_eq_true h5⟩
    · cases h5
  · cases h2
def tbW (t : TypeId) : TK TyW :=
  match t with
  | 3 | 30 => .int .i64
  | 4 => .bool
  | 9 => .str
  | 40 => .struct .we
  | 36 => .slice .we 40
  | 38 => .slice .wes 36
  | _ => .other
theorem tbW_ok (t : TypeId) : TbOk Try.prog UW t (tbW t) := by
  unfold tbW
  split
  · exact Try.underlying3
  · exact Try.underlying30
  · exact Try.underlying4
  · exact Try.underlying9
  · exact tbStruct Try.underlying40 (by kernel_rfl) (by kernel_rfl)
  · exact tbSlice Try.underlying36 (by kernel_rfl)
  · exact tbSlice Try.underlying38 (by kernel_rfl)
  · trivial
def mkW (T : FuncId → List LW → Option (Bool × EW)) (nt : Nat) : Env TyW denW := ⟨UW, tbW, T, fun _ => none, fun _ => [], nt⟩
def EW0 (nt : Nat) : Env TyW denW := mkW (fun _ _ => none) nt
def run (E : Env TyW denW) (n : Nat) (f : Func) (ls : List LW) : Option (Bool × EW) := match evFn E n f ls with
  | some r => some (true, r)
  | none => none
/-- The callees are run where they stand. -/
def TW11 (f24 f25 f26 : Func) (f : FuncId) (ls : List LW) : Option (Bool × EW) := match f with
  | 24 => run (EW0 45) 9 f24 ls
  | 25 => run (EW0 43) 9 f25 ls
  | 26 => run (EW0 58) 9 f26 ls
  | _ => none
def EW11 (f24 f25 f26 : Func) : Env TyW denW := mkW (TW11 f24 f25 f26) 60
end Go.Aev
end
