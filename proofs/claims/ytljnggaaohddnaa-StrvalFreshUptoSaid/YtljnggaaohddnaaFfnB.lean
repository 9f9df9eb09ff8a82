/- Proved here: lemmas of an evaluator over the model's code that the claim's text uses (G1 G2). Conditions: those that each lemma states. -/
import Derived.Test.YtljnggaaohddnaaFfnA
section
set_option linter.unusedVariables false
namespace Go.Aev
open Go.Proofs
/- pergola/strval.white -/
def dr41 : Nat → List Nat := fun r => match r with
  | 0 => [2]
  | 1 => [0, 3, 4, 5, 6, 7, 8]
  | _ => []
def T41 : T6 := fun f ls => match f with

  | _ => none
def cn41 : FuncId → Option Nat := fun f => match f with

  | _ => none
def E41 : Env Ty6 den6 := mk6 T41 cn41 dr41 9
theorem ev41 (n : Nat) (a0 : Int) : evFn E41 n Go.Proofs.Try.f41 [.int .i32 a0] =
    bif (a0 == 9) == false then (some (.one (.bool (a0 == 32)))) else (some (.one (.bool true))) := by
  kernel_rfl

/- pergola/strval.indent -/
def dr28 : Nat → List Nat := fun r => match r with
  | 0 => [2]
  | 2 => [4, 5, 6, 7, 8, 9, 10, 11, 12, 13]
  | 3 => [14, 15, 16]
  | 4 => [0, 3, 14, 17]
  | _ => []
def T28 : T6 := fun f ls => match f with
  | 41 => S41 ls
  | _ => none
def cn28 : FuncId → Option Nat := fun f => match f with

  | _ => none
def E28 : Env Ty6 den6 := mk6 T28 cn28 dr28 18
def st28_2 (x0 : List Int) (x3 : Int) : S6 := ⟨[(0, .one (.sl .i32 x0 none)), (3, .one (.int .i64 x3))], []⟩
theorem ev28 (n : Nat) (a0 : List Int) : evFn E28 n Go.Proofs.Try.f28 [.sl .i32 a0 none] =
    evLoop (lbC E28 (cdAt Go.Proofs.Try.f28 [1, 1, 0, 0, 0]) 10002 n) n (st28_2 a0 0) (blockK 0 (seqK (evCode E28 n (cdAt Go.Proofs.Try.f28 [1, 1, 1])) (retK Go.Proofs.Try.f28.results.toList))) := by
  kernel_rfl
theorem lb28_2_eq (n : Nat) (x0 : List Int) (x3 : Int) (K : Ex → S6 → Option E6) : lbC E28 (cdAt Go.Proofs.Try.f28 [1, 1, 0, 0, 0]) 10002 n (st28_2 x0 x3) K =
    bif (decide (x3 < (List.length x0 : Int))) == true then (match idx x0 x3 with | none => none | some y1 => (bif whiteF y1 then (K .normal (st28_2 x0 (IntKind.wrap .i64 (x3 + 1)))) else (K (.exit 0) ⟨[(0, .one (.sl .i32 x0 none)), (3, .one (.int .i64 x3)), (14, .one (.bool (whiteF y1)))], []⟩))) else (K (.exit 0) ⟨[(0, .one (.sl .i32 x0 none)), (3, .one (.int .i64 x3)), (14, .one (.bool false))], []⟩) := by
  kernel_rfl
theorem ex28_2_0 (n : Nat) (x0 : List Int) (x3 : Int) (x14 : Bool) : (blockK 0 (seqK (evCode E28 n (cdAt Go.Proofs.Try.f28 [1, 1, 1])) (retK Go.Proofs.Try.f28.results.toList))) (.exit 0) ⟨[(0, .one (.sl .i32 x0 none)), (3, .one (.int .i64 x3)), (14, .one (.bool x14))], []⟩ =
    some (.one (.int .i64 x3)) := by
  kernel_rfl
theorem ex28_2_0_2 (n : Nat) (x0 : List Int) (x3 : Int) : (blockK 0 (seqK (evCode E28 n (cdAt Go.Proofs.Try.f28 [1, 1, 1])) (retK Go.Proofs.Try.f28.results.toList))) (.exit 0) ⟨[(0, .one (.sl .i32 x0 none)), (3, .one (.int .i64 x3)), (14, .one (.bool false))], []⟩ =
    some (.one (.int .i64 x3)) := by
  kernel_rfl

/- pergola/strval.blank -/
def dr27 : Nat → List Nat := fun r => match r with
  | 0 => [2]
  | 1 => [0, 3, 4, 5, 6, 7]
  | _ => []
def T27 : T6 := fun f ls => match f with
  | 28 => S28 ls
  | _ => none
def cn27 : FuncId → Option Nat := fun f => match f with

  | _ => none
def E27 : Env Ty6 den6 := mk6 T27 cn27 dr27 8
theorem ev27 (n : Nat) (a0 : List Int) : evFn E27 n Go.Proofs.Try.f27 [.sl .i32 a0 none] =
    bif lim4 a0 then (some (.one (.bool ((indentF a0) == (List.length a0 : Int))))) else none := by
  kernel_rfl

/- pergola/pergolaref06.white -/
def dr56 : Nat → List Nat := fun r => match r with
  | 0 => [2]
  | 1 => [0, 3, 4, 5, 6, 7, 8]
  | _ => []
def T56 : T6 := fun f ls => match f with

  | _ => none
def cn56 : FuncId → Option Nat := fun f => match f with

  | _ => none
def E56 : Env Ty6 den6 := mk6 T56 cn56 dr56 9
theorem ev56 (n : Nat) (a0 : Int) : evFn E56 n Go.Proofs.Try.f56 [.int .i32 a0] =
    bif (a0 == 9) == false then (some (.one (.bool (a0 == 32)))) else (some (.one (.bool true))) := by
  kernel_rfl

/- pergola/pergolaref06.indent -/
def dr42 : Nat → List Nat := fun r => match r with
  | 0 => [2]
  | 2 => [4, 5, 6, 7, 8, 9, 10, 11, 12, 13]
  | 3 => [14, 15, 16]
  | 4 => [0, 3, 14, 17]
  | _ => []
def T42 : T6 := fun f ls => match f with
  | 56 => S56 ls
  | _ => none
def cn42 : FuncId → Option Nat := fun f => match f with

  | _ => none
def E42 : Env Ty6 den6 := mk6 T42 cn42 dr42 18
def st42_2 (x0 : List Int) (x3 : Int) : S6 := ⟨[(0, .one (.sl .i32 x0 none)), (3, .one (.int .i64 x3))], []⟩
theorem ev42 (n : Nat) (a0 : List Int) : evFn E42 n Go.Proofs.Try.f42 [.sl .i32 a0 none] =
    evLoop (lbC E42 (cdAt Go.Proofs.Try.f42 [1, 1, 0, 0, 0]) 10002 n) n (st42_2 a0 0) (blockK 0 (seqK (evCode E42 n (cdAt Go.Proofs.Try.f42 [1, 1, 1])) (retK Go.Proofs.Try.f42.results.toList))) := by
  kernel_rfl
theorem lb42_2_eq (n : Nat) (x0 : List Int) (x3 : Int) (K : Ex → S6 → Option E6) : lbC E42 (cdAt Go.Proofs.Try.f42 [1, 1, 0, 0, 0]) 10002 n (st42_2 x0 x3) K =
    bif (decide (x3 < (List.length x0 : Int))) == true then (match idx x0 x3 with | none => none | some y1 => (bif whiteF y1 then (K .normal (st42_2 x0 (IntKind.wrap .i64 (x3 + 1)))) else (K (.exit 0) ⟨[(0, .one (.sl .i32 x0 none)), (3, .one (.int .i64 x3)), (14, .one (.bool (whiteF y1)))], []⟩))) else (K (.exit 0) ⟨[(0, .one (.sl .i32 x0 none)), (3, .one (.int .i64 x3)), (14, .one (.bool false))], []⟩) := by
  kernel_rfl
theorem ex42_2_0 (n : Nat) (x0 : List Int) (x3 : Int) (x14 : Bool) : (blockK 0 (seqK (evCode E42 n (cdAt Go.Proofs.Try.f42 [1, 1, 1])) (retK Go.Proofs.Try.f42.results.toList))) (.exit 0) ⟨[(0, .one (.sl .i32 x0 none)), (3, .one (.int .i64 x3)), (14, .one (.bool x14))], []⟩ =
    some (.one (.int .i64 x3)) := by
  kernel_rfl
theorem ex42_2_0_2 (n : Nat) (x0 : List Int) (x3 : Int) : (blockK 0 (seqK (evCode E42 n (cdAt Go.Proofs.Try.f42 [1, 1, 1])) (retK Go.Proofs.Try.f42.results.toList))) (.exit 0) ⟨[(0, .one (.sl .i32 x0 none)), (3, .one (.int .i64 x3)), (14, .one (.bool false))], []⟩ =
    some (.one (.int .i64 x3)) := by
  kernel_rfl

/- pergola/pergolaref06.blank -/
def dr30 : Nat → List Nat := fun r => match r with
  | 0 => [2]
  | 1 => [0, 3, 4, 5, 6, 7]
  | _ => []
def T30 : T6 := fun f ls => match f with
  | 42 => S42 ls
  | _ => none
def cn30 : FuncId → Option Nat := fun f => match f with

  | _ => none
def E30 : Env Ty6 den6 := mk6 T30 cn30 dr30 8
theorem ev30 (n : Nat) (a0 : List Int) : evFn E30 n Go.Proofs.Try.f30 [.sl .i32 a0 none] =
    bif lim4 a0 then (some (.one (.bool ((indentF a0) == (List.length a0 : Int))))) else none := by
  kernel_rfl

/- pergola/pergolalaw06.whites -/
def dr17 : Nat → List Nat := fun r => match r with
  | 0 => [2]
  | 2 => [4, 5, 6, 7, 8, 9, 10, 11, 12, 13, 14, 15, 16, 17, 18, 19, 20]
  | 3 => [21, 22, 23]
  | 4 => [0, 3, 21, 24]
  | _ => []
def T17 : T6 := fun f ls => match f with

  | _ => none
def cn17 : FuncId → Option Nat := fun f => match f with

  | _ => none
def E17 : Env Ty6 den6 := mk6 T17 cn17 dr17 25
def st17_2 (x0 : List Int) (x3 : Int) : S6 := ⟨[(0, .one (.sl .i32 x0 none)), (3, .one (.int .i64 x3))], []⟩
theorem ev17 (n : Nat) (a0 : List Int) : evFn E17 n Go.Proofs.Try.f17 [.sl .i32 a0 none] =
    evLoop (lbC E17 (cdAt Go.Proofs.Try.f17 [1, 1, 0, 0, 0]) 10002 n) n (st17_2 a0 0) (blockK 0 (seqK (evCode E17 n (cdAt Go.Proofs.Try.f17 [1, 1, 1])) (retK Go.Proofs.Try.f17.results.toList))) := by
  kernel_rfl
theorem lb17_2_eq (n : Nat) (x0 : List Int) (x3 : Int) (K : Ex → S6 → Option E6) : lbC E17 (cdAt Go.Proofs.Try.f17 [1, 1, 0, 0, 0]) 10002 n (st17_2 x0 x3) K =
    bif (decide (x3 < (List.length x0 : Int))) == true then (match idx x0 x3 with | none => none | some y1 => (bif (y1 == 32) == false then (match idx x0 x3 with | none => none | some y2 => (bif y2 == 9 then (K .normal (st17_2 x0 (IntKind.wrap .i64 (x3 + 1)))) else (K (.exit 0) ⟨[(0, .one (.sl .i32 x0 none)), (3, .one (.int .i64 x3)), (21, .one (.bool (y2 == 9)))], []⟩))) else (K .normal (st17_2 x0 (IntKind.wrap .i64 (x3 + 1)))))) else (K (.exit 0) ⟨[(0, .one (.sl .i32 x0 none)), (3, .one (.int .i64 x3)), (21, .one (.bool false))], []⟩) := by
  kernel_rfl
theorem ex17_2_0 (n : Nat) (x0 : List Int) (x3 : Int) (x21 : Bool) : (blockK 0 (seqK (evCode E17 n (cdAt Go.Proofs.Try.f17 [1, 1, 1])) (retK Go.Proofs.Try.f17.results.toList))) (.exit 0) ⟨[(0, .one (.sl .i32 x0 none)), (3, .one (.int .i64 x3)), (21, .one (.bool x21))], []⟩ =
    some (.one (.int .i64 x3)) := by
  kernel_rfl
theorem ex17_2_0_2 (n : Nat) (x0 : List Int) (x3 : Int) : (blockK 0 (seqK (evCode E17 n (cdAt Go.Proofs.Try.f17 [1, 1, 1])) (retK Go.Proofs.Try.f17.results.toList))) (.exit 0) ⟨[(0, .one (.sl .i32 x0 none)), (3, .one (.int .i64 x3)), (21, .one (.bool false))], []⟩ =
    some (.one (.int .i64 x3)) := by
  kernel_rfl

/- pergola/pergolaref06.common -/
def dr29 : Nat → List Nat := fun r => match r with
  | 0 => [2]
  | 3 => [6, 7, 8]
  | 4 => [5, 10, 11, 32]
  | 5 => [9, 12, 13, 14, 15, 16]
  | 6 => [17, 18, 19, 20, 21, 22, 23, 24, 25, 26, 27, 28, 29, 30, 31]
  | 7 => [5, 32, 33]
  | 8 => [0, 4, 9, 34]
  | 9 => [3, 35]
  | 10 => [3, 35, 36]
  | _ => []
def T29 : T6 := fun f ls => match f with
  | 42 => S42 ls
  | _ => none
def cn29 : FuncId → Option Nat := fun f => match f with

  | _ => none
def E29 : Env Ty6 den6 := mk6 T29 cn29 dr29 37
def st29_3 (x0 : List (List Int)) (x3 : Int) (x4 : Int) : S6 := ⟨[(0, .one (.sl .rs x0 none)), (3, .one (.int .i64 x3)), (4, .one (.int .i64 x4))], []⟩
theorem ev29 (n : Nat) (a0 : List (List Int)) : evFn E29 n Go.Proofs.Try.f29 [.sl .rs a0 none] =
    evLoop (lbC E29 (cdAt Go.Proofs.Try.f29 [1, 1, 0, 1, 0, 0]) 10003 n) n (st29_3 a0 (-1) 1) (blockK 0 (seqK (evCode E29 n (cdAt Go.Proofs.Try.f29 [1, 1, 1])) (retK Go.Proofs.Try.f29.results.toList))) := by
  kernel_rfl
theorem lb29_3_eq (n : Nat) (x0 : List (List Int)) (x3 : Int) (x4 : Int) (K : Ex → S6 → Option E6) : lbC E29 (cdAt Go.Proofs.Try.f29 [1, 1, 0, 1, 0, 0]) 10003 n (st29_3 x0 x3 x4) K =
    bif decide (x4 < (List.length x0 : Int)) then (match idx x0 x4 with | none => none | some y1 => (bif lim4 y1 then (match idx x0 x4 with | none => none | some y2 => (bif (decide ((indentF y1) < (List.length y2 : Int))) == true then (bif (decide (x3 < 0)) == false then (bif decide ((indentF y1) < x3) then (K .normal (st29_3 x0 (indentF y1) (IntKind.wrap .i64 (x4 + 1)))) else (K .normal (st29_3 x0 x3 (IntKind.wrap .i64 (x4 + 1))))) else (K .normal (st29_3 x0 (indentF y1) (IntKind.wrap .i64 (x4 + 1))))) else (K .normal (st29_3 x0 x3 (IntKind.wrap .i64 (x4 + 1)))))) else none)) else (K (.exit 0) ⟨[(0, .one (.sl .rs x0 none)), (3, .one (.int .i64 x3)), (4, .one (.int .i64 x4)), (9, .one (.bool (decide (x4 < (List.length x0 : Int)))))], []⟩) := by
  kernel_rfl
theorem ex29_3_0 (n : Nat) (x0 : List (List Int)) (x3 : Int) (x4 : Int) (x9 : Bool) : (blockK 0 (seqK (evCode E29 n (cdAt Go.Proofs.Try.f29 [1, 1, 1])) (retK Go.Proofs.Try.f29.results.toList))) (.exit 0) ⟨[(0, .one (.sl .rs x0 none)), (3, .one (.int .i64 x3)), (4, .one (.int .i64 x4)), (9, .one (.bool x9))], []⟩ =
    bif decide (x3 < 0) then (some (.one (.int .i64 0))) else (some (.one (.int .i64 x3))) := by
  kernel_rfl

/- pergola/pergolalaw06.runes -/
def dr13 : Nat → List Nat := fun r => match r with
  | 0 => [2]
  | 1 => [0, 3, 4]
  | _ => []
def T13 : T6 := fun f ls => match f with

  | _ => none
def cn13 : FuncId → Option Nat := fun f => match f with

  | _ => none
def E13 : Env Ty6 den6 := mk6 T13 cn13 dr13 5
theorem ev13 (n : Nat) (a0 : List UInt8) : evFn E13 n Go.Proofs.Try.f13 [.str a0] =
    bif room (List.length a0) 1 then (some (.one (.sl .i32 (runes6 a0) (some 1)))) else none := by
  kernel_rfl

/- pergola/pergolalaw06.copied -/
def dr20 : Nat → List Nat := fun r => match r with
  | 0 => [2]
  | 1 => [0, 3, 4, 5]
  | _ => []
def T20 : T6 := fun f ls => match f with

  | _ => none
def cn20 : FuncId → Option Nat := fun f => match f with

  | _ => none
def E20 : Env Ty6 den6 := mk6 T20 cn20 dr20 6
theorem ev20 (n : Nat) (a0 : List Int) : evFn E20 n Go.Proofs.Try.f20 [.sl .i32 a0 none] =
    bif room (0 + List.length a0) 4 then (some (.one (.sl .i32 a0 (some 1)))) else none := by
  kernel_rfl

/- pergola/pergolalaw06.copiedLines -/
def dr15 : Nat → List Nat := fun r => match r with
  | 0 => [2]
  | 2 => [0]
  | 4 => [9, 10, 11]
  | 5 => [5, 12, 13, 14, 15, 16]
  | 6 => [17]
  | 7 => [3, 6, 7, 8, 9, 18]
  | _ => []
def T15 : T6 := fun f ls => match f with
  | 20 => S20 ls
  | _ => none
def cn15 : FuncId → Option Nat := fun f => match f with

  | _ => none
def E15 : Env Ty6 den6 := mk6 T15 cn15 dr15 19 (fun d => Nat.beq d 3)
def st15_3 (x3 : List (List Int)) (x6 : List (List Int)) (x7 : Int) (x8 : Int) : S6 := ⟨[(3, .one (.sl .rs x3 (some 1000003))), (6, .one (.sl .rs x6 none)), (7, .one (.int .i64 x7)), (8, .one (.int .i64 x8))], [1000003]⟩
theorem ev15 (n : Nat) (a0 : List (List Int)) : evFn E15 n Go.Proofs.Try.f15 [.sl .rs a0 none] =
    evLoop (lbC E15 (cdAt Go.Proofs.Try.f15 [1, 1, 0, 1, 0, 0]) 10003 n) n (st15_3 [] a0 (List.length a0 : Int) 0) (blockK 0 (seqK (evCode E15 n (cdAt Go.Proofs.Try.f15 [1, 1, 1])) (retK Go.Proofs.Try.f15.results.toList))) := by
  kernel_rfl
theorem lb15_3_eq (n : Nat) (x3 : List (List Int)) (x6 : List (List Int)) (x7 : Int) (x8 : Int) (K : Ex → S6 → Option E6) : lbC E15 (cdAt Go.Proofs.Try.f15 [1, 1, 0, 1, 0, 0]) 10003 n (st15_3 x3 x6 x7 x8) K =
    bif decide (x8 < x7) then (match idx x6 x8 with | none => none | some y1 => (bif lim4 y1 then (bif room (List.length x3 + 1) 24 then (K .normal (st15_3 (x3 ++ [y1]) x6 x7 (IntKind.wrap .i64 (x8 + 1)))) else none) else none)) else (K (.exit 0) ⟨[(3, .one (.sl .rs x3 (some 1000003))), (6, .one (.sl .rs x6 none)), (7, .one (.int .i64 x7)), (8, .one (.int .i64 x8)), (9, .one (.bool (decide (x8 < x7))))], [1000003]⟩) := by
  kernel_rfl
theorem ex15_3_0 (n : Nat) (x3 : List (List Int)) (x6 : List (List Int)) (x7 : Int) (x8 : Int) (x9 : Bool) : (blockK 0 (seqK (evCode E15 n (cdAt Go.Proofs.Try.f15 [1, 1, 1])) (retK Go.Proofs.Try.f15.results.toList))) (.exit 0) ⟨[(3, .one (.sl .rs x3 (some 1000003))), (6, .one (.sl .rs x6 none)), (7, .one (.int .i64 x7)), (8, .one (.int .i64 x8)), (9, .one (.bool x9))], [1000003]⟩ =
    some (.one (.sl .rs x3 (some 1000001))) := by
  kernel_rfl

/- pergola/pergolalaw06.sameLines -/
def dr14 : Nat → List Nat := fun r => match r with
  | 0 => [4]
  | 1 => [7, 8, 9, 10]
  | 2 => [0, 1, 11]
  | 3 => [11, 12]
  | 5 => [15, 16]
  | 6 => [17, 18, 19, 20, 21, 22, 23, 24, 25, 26]
  | 7 => [0, 1, 5, 13, 14, 27]
  | 8 => [27, 28, 29, 30, 31]
  | 10 => [34, 35]
  | 11 => [6, 36, 37, 38, 39, 40, 41, 42, 43, 44, 45, 46, 47, 48, 49]
  | 12 => [0, 1, 5, 13, 14, 32, 33, 50]
  | 13 => [50, 51]
  | 14 => [5, 32, 33, 34, 52]
  | 15 => [0, 1, 13, 14, 15]
  | _ => []
def T14 : T6 := fun f ls => match f with

  | _ => none
def cn14 : FuncId → Option Nat := fun f => match f with

  | _ => none
def E14 : Env Ty6 den6 := mk6 T14 cn14 dr14 53
def st14_4 (x0 : List (List Int)) (x1 : List (List Int)) (x13 : Int) (x14 : Int) : S6 := ⟨[(0, .one (.sl .rs x0 none)), (1, .one (.sl .rs x1 none)), (13, .one (.int .i64 x13)), (14, .one (.int .i64 x14))], []⟩
def st14_9 (x0 : List (List Int)) (x1 : List (List Int)) (x5 : Int) (x13 : Int) (x14 : Int) (x32 : Int) (x33 : Int) : S6 := ⟨[(0, .one (.sl .rs x0 none)), (1, .one (.sl .rs x1 none)), (5, .one (.int .i64 x5)), (13, .one (.int .i64 x13)), (14, .one (.int .i64 x14)), (32, .one (.int .i64 x32)), (33, .one (.int .i64 x33))], []⟩
theorem ev14 (n : Nat) (a0 : List (List Int)) (a1 : List (List Int)) : evFn E14 n Go.Proofs.Try.f14 [.sl .rs a0 none, .sl .rs a1 none] =
    bif (List.length a0 : Int) != (List.length a1 : Int) then (some (.one (.bool false))) else (evLoop (lbC E14 (cdAt Go.Proofs.Try.f14 [1, 1, 0, 1, 0, 0]) 10004 n) n (st14_4 a0 a1 (List.length a0 : Int) 0) (blockK 0 (seqK (evCode E14 n (cdAt Go.Proofs.Try.f14 [1, 1, 1])) (retK Go.Proofs.Try.f14.results.toList)))) := by
  kernel_rfl
theorem lb14_4_eq (n : Nat) (x0 : List (List Int)) (x1 : List (List Int)) (x13 : Int) (x14 : Int) (K : Ex → S6 → Option E6) : lbC E14 (cdAt Go.Proofs.Try.f14 [1, 1, 0, 1, 0, 0]) 10004 n (st14_4 x0 x1 x13 x14) K =
    bif decide (x14 < x13) then (match idx x0 x14 with | none => none | some y1 => (match idx x1 x14 with | none => none | some y2 => (bif (List.length y1 : Int) != (List.length y2 : Int) then (K .ret ⟨[(4, .one (.bool false))], []⟩) else (match idx x0 x14 with | none => none | some y3 => (evLoop (lbC E14 (cdAt Go.Proofs.Try.f14 [1, 1, 0, 1, 0, 0, 1, 1, 0, 0, 1, 1, 1, 0, 0]) 10009 n) n (st14_9 x0 x1 x14 x13 x14 (List.length y3 : Int) 0) (blockK 2 (blockK 1 (seqK (evCode E14 n (cdAt Go.Proofs.Try.f14 [1, 1, 0, 1, 0, 0, 1, 1, 1])) (headK (E14.drop 10004) K))))))))) else (K (.exit 0) ⟨[(0, .one (.sl .rs x0 none)), (1, .one (.sl .rs x1 none)), (13, .one (.int .i64 x13)), (14, .one (.int .i64 x14)), (15, .one (.bool (decide (x14 < x13))))], []⟩) := by
  kernel_rfl
theorem ex14_4_0 (n : Nat) (x0 : List (List Int)) (x1 : List (List Int)) (x13 : Int) (x14 : Int) (x15 : Bool) : (blockK 0 (seqK (evCode E14 n (cdAt Go.Proofs.Try.f14 [1, 1, 1])) (retK Go.Proofs.Try.f14.results.toList))) (.exit 0) ⟨[(0, .one (.sl .rs x0 none)), (1, .one (.sl .rs x1 none)), (13, .one (.int .i64 x13)), (14, .one (.int .i64 x14)), (15, .one (.bool x15))], []⟩ =
    some (.one (.bool true)) := by
  kernel_rfl
theorem lb14_9_eq (n : Nat) (x0 : List (List Int)) (x1 : List (List Int)) (x5 : Int) (x13 : Int) (x14 : Int) (x32 : Int) (x33 : Int) (K : Ex → S6 → Option E6) : lbC E14 (cdAt Go.Proofs.Try.f14 [1, 1, 0, 1, 0, 0, 1, 1, 0, 0, 1, 1, 1, 0, 0]) 10009 n (st14_9 x0 x1 x5 x13 x14 x32 x33) K =
    bif decide (x33 < x32) then (match idx x0 x5 with | none => none | some y4 => (match idx y4 x33 with | none => none | some y5 => (match idx x1 x5 with | none => none | some y6 => (match idx y6 x33 with | none => none | some y7 => (bif y5 != y7 then (K .ret ⟨[(4, .one (.bool false))], []⟩) else (K .normal (st14_9 x0 x1 x5 x13 x14 x32 (IntKind.wrap .i64 (x33 + 1))))))))) else (K (.exit 2) ⟨[(0, .one (.sl .rs x0 none)), (1, .one (.sl .rs x1 none)), (5, .one (.int .i64 x5)), (13, .one (.int .i64 x13)), (14, .one (.int .i64 x14)), (32, .one (.int .i64 x32)), (33, .one (.int .i64 x33)), (34, .one (.bool (decide (x33 < x32))))], []⟩) := by
  kernel_rfl
theorem ex14_9_2 (n : Nat) (x0 : List (List Int)) (x1 : List (List Int)) (x5 : Int) (x13 : Int) (x14 : Int) (x32 : Int) (x33 : Int) (x34 : Bool) (K : Ex → S6 → Option E6) : (blockK 2 (blockK 1 (seqK (evCode E14 n (cdAt Go.Proofs.Try.f14 [1, 1, 0, 1, 0, 0, 1, 1, 1])) (headK (E14.drop 10004) K)))) (.exit 2) ⟨[(0, .one (.sl .rs x0 none)), (1, .one (.sl .rs x1 none)), (5, .one (.int .i64 x5)), (13, .one (.int .i64 x13)), (14, .one (.int .i64 x14)), (32, .one (.int .i64 x32)), (33, .one (.int .i64 x33)), (34, .one (.bool x34))], []⟩ =
    K .normal (st14_4 x0 x1 x13 (IntKind.wrap .i64 (x14 + 1))) := by
  kernel_rfl

end Go.Aev
end

section
set_option linter.unusedVariables false
namespace Go.Aev
open Go.Proofs
/- pergola/strval.Dedent -/
def dr12 : Nat → List Nat := fun r => match r with
  | 0 => [2]
  | 4 => [14, 15, 16, 17]
  | 5 => [4, 18, 19, 20, 21, 22, 23, 24, 25, 26, 27, 28, 29, 30, 31, 32, 33]
  | 6 => [5, 34, 35, 36]
  | 7 => [5, 34, 37]
  | 8 => [11, 12, 13, 14, 38, 39]
  | 9 => [40, 41, 42, 43, 44, 45, 46, 47, 48]
  | 10 => [49, 50, 51]
  | 11 => [52, 53, 54, 55, 56, 57, 58, 59, 60, 61]
  | 12 => [62, 63, 64]
  | 13 => [62]
  | 14 => [6, 65]
  | 15 => [66, 67]
  | 16 => [69, 70]
  | 17 => [68, 71, 72, 73, 74]
  | 18 => [75]
  | 19 => [76, 77, 78, 79, 80, 81, 82, 83]
  | 20 => [10, 76, 84, 85, 86, 87, 88, 89, 90, 91, 92, 93]
  | 21 => [0, 3, 7, 8, 9, 68, 94]
  | 10011 => [49]
  | _ => []
def T12 : T6 := fun f ls => match f with
  | 27 => S27 ls
  | 28 => S28 ls
  | _ => none
def cn12 : FuncId → Option Nat := fun f => match f with

  | _ => none
def E12 : Env Ty6 den6 := mk6 T12 cn12 dr12 95 (fun d => Nat.beq d 8)
def st12_3 (x0 : List (List Int)) (x3 : Int) (x11 : List (List Int)) (x12 : Int) (x13 : Int) : S6 := ⟨[(0, .one (.sl .rs x0 none)), (3, .one (.int .i64 x3)), (11, .one (.sl .rs x11 none)), (12, .one (.int .i64 x12)), (13, .one (.int .i64 x13))], []⟩
def st12_9 (x0 : List (List Int)) (x3 : Int) (x6 : Int) (x7 : Int) : S6 := ⟨[(0, .one (.sl .rs x0 none)), (3, .one (.int .i64 x3)), (6, .one (.int .i64 x6)), (7, .one (.int .i64 x7))], []⟩
def st12_11 (x0 : List (List Int)) (x3 : Int) (x6 : Int) (x7 : Int) : S6 := ⟨[(0, .one (.sl .rs x0 none)), (3, .one (.int .i64 x3)), (6, .one (.int .i64 x6)), (7, .one (.int .i64 x7))], []⟩
def st12_15 (x0 : List (List Int)) (x3 : Int) (x7 : Int) (x8 : List (List Int)) (x9 : Int) : S6 := ⟨[(0, .one (.sl .rs x0 none)), (3, .one (.int .i64 x3)), (7, .one (.int .i64 x7)), (8, .one (.sl .rs x8 (some 1000008))), (9, .one (.int .i64 x9))], [1000008]⟩
theorem ev12 (n : Nat) (a0 : List (List Int)) : evFn E12 n Go.Proofs.Try.f12 [.sl .rs a0 none] =
    evLoop (lbC E12 (cdAt Go.Proofs.Try.f12 [1, 1, 0, 1, 0, 0]) 10003 n) n (st12_3 a0 (-1) a0 (List.length a0 : Int) 0) (blockK 0 (seqK (evCode E12 n (cdAt Go.Proofs.Try.f12 [1, 1, 1])) (retK Go.Proofs.Try.f12.results.toList))) := by
  kernel_rfl
theorem lb12_3_eq (n : Nat) (x0 : List (List Int)) (x3 : Int) (x11 : List (List Int)) (x12 : Int) (x13 : Int) (K : Ex → S6 → Option E6) : lbC E12 (cdAt Go.Proofs.Try.f12 [1, 1, 0, 1, 0, 0]) 10003 n (st12_3 x0 x3 x11 x12 x13) K =
    bif decide (x13 < x12) then (match idx x11 x13 with | none => none | some y1 => (bif (decide (x13 > 0)) == true then (bif lim4 y1 then (bif (!(blankF y1)) == true then (bif (decide (x3 < 0)) == false then (bif lim4 y1 then (bif decide ((indentF y1) < x3) then (bif lim4 y1 then (K .normal (st12_3 x0 (indentF y1) x11 x12 (IntKind.wrap .i64 (x13 + 1)))) else none) else (K .normal (st12_3 x0 x3 x11 x12 (IntKind.wrap .i64 (x13 + 1))))) else none) else (bif lim4 y1 then (K .normal (st12_3 x0 (indentF y1) x11 x12 (IntKind.wrap .i64 (x13 + 1)))) else none)) else (K .normal (st12_3 x0 x3 x11 x12 (IntKind.wrap .i64 (x13 + 1))))) else none) else (K .normal (st12_3 x0 x3 x11 x12 (IntKind.wrap .i64 (x13 + 1)))))) else (K (.exit 0) ⟨[(0, .one (.sl .rs x0 none)), (3, .one (.int .i64 x3)), (11, .one (.sl .rs x11 none)), (12, .one (.int .i64 x12)), (13, .one (.int .i64 x13)), (14, .one (.bool (decide (x13 < x12))))], []⟩) := by
  kernel_rfl
theorem ex12_3_0 (n : Nat) (x0 : List (List Int)) (x3 : Int) (x11 : List (List Int)) (x12 : Int) (x13 : Int) (x14 : Bool) : (blockK 0 (seqK (evCode E12 n (cdAt Go.Proofs.Try.f12 [1, 1, 1])) (retK Go.Proofs.Try.f12.results.toList))) (.exit 0) ⟨[(0, .one (.sl .rs x0 none)), (3, .one (.int .i64 x3)), (11, .one (.sl .rs x11 none)), (12, .one (.int .i64 x12)), (13, .one (.int .i64 x13)), (14, .one (.bool x14))], []⟩ =
    evLoop (lbC E12 (cdAt Go.Proofs.Try.f12 [1, 1, 1, 1, 0, 0, 0]) 10009 n) n (st12_9 x0 x3 0 (List.length x0 : Int)) (blockK 2 (seqK (evCode E12 n (cdAt Go.Proofs.Try.f12 [1, 1, 1, 1, 1])) (retK Go.Proofs.Try.f12.results.toList))) := by
  kernel_rfl
theorem lb12_9_eq (n : Nat) (x0 : List (List Int)) (x3 : Int) (x6 : Int) (x7 : Int) (K : Ex → S6 → Option E6) : lbC E12 (cdAt Go.Proofs.Try.f12 [1, 1, 1, 1, 0, 0, 0]) 10009 n (st12_9 x0 x3 x6 x7) K =
    bif (decide (x6 < x7)) == true then (match idx x0 x6 with | none => none | some y2 => (bif lim4 y2 then (bif blankF y2 then (K .normal (st12_9 x0 x3 (IntKind.wrap .i64 (x6 + 1)) x7)) else (K (.exit 2) ⟨[(0, .one (.sl .rs x0 none)), (3, .one (.int .i64 x3)), (6, .one (.int .i64 x6)), (7, .one (.int .i64 x7)), (49, .one (.bool (blankF y2)))], []⟩)) else none)) else (K (.exit 2) ⟨[(0, .one (.sl .rs x0 none)), (3, .one (.int .i64 x3)), (6, .one (.int .i64 x6)), (7, .one (.int .i64 x7)), (49, .one (.bool false))], []⟩) := by
  kernel_rfl
theorem ex12_9_2 (n : Nat) (x0 : List (List Int)) (x3 : Int) (x6 : Int) (x7 : Int) (x49 : Bool) : (blockK 2 (seqK (evCode E12 n (cdAt Go.Proofs.Try.f12 [1, 1, 1, 1, 1])) (retK Go.Proofs.Try.f12.results.toList))) (.exit 2) ⟨[(0, .one (.sl .rs x0 none)), (3, .one (.int .i64 x3)), (6, .one (.int .i64 x6)), (7, .one (.int .i64 x7)), (49, .one (.bool x49))], []⟩ =
    evLoop (lbC E12 (cdAt Go.Proofs.Try.f12 [1, 1, 1, 1, 1, 0, 0, 0]) 10011 n) n (st12_11 x0 x3 x6 x7) (blockK 4 (seqK (evCode E12 n (cdAt Go.Proofs.Try.f12 [1, 1, 1, 1, 1, 1])) (retK Go.Proofs.Try.f12.results.toList))) := by
  kernel_rfl
theorem ex12_9_2_2 (n : Nat) (x0 : List (List Int)) (x3 : Int) (x6 : Int) (x7 : Int) : (blockK 2 (seqK (evCode E12 n (cdAt Go.Proofs.Try.f12 [1, 1, 1, 1, 1])) (retK Go.Proofs.Try.f12.results.toList))) (.exit 2) ⟨[(0, .one (.sl .rs x0 none)), (3, .one (.int .i64 x3)), (6, .one (.int .i64 x6)), (7, .one (.int .i64 x7)), (49, .one (.bool false))], []⟩ =
    evLoop (lbC E12 (cdAt Go.Proofs.Try.f12 [1, 1, 1, 1, 1, 0, 0, 0]) 10011 n) n (st12_11 x0 x3 x6 x7) (blockK 4 (seqK (evCode E12 n (cdAt Go.Proofs.Try.f12 [1, 1, 1, 1, 1, 1])) (retK Go.Proofs.Try.f12.results.toList))) := by
  kernel_rfl
theorem lb12_11_eq (n : Nat) (x0 : List (List Int)) (x3 : Int) (x6 : Int) (x7 : Int) (K : Ex → S6 → Option E6) : lbC E12 (cdAt Go.Proofs.Try.f12 [1, 1, 1, 1, 1, 0, 0, 0]) 10011 n (st12_11 x0 x3 x6 x7) K =
    bif (decide (x7 > x6)) == true then (match idx x0 (IntKind.wrap .i64 (x7 - 1)) with | none => none | some y3 => (bif lim4 y3 then (bif blankF y3 then (K .normal (st12_11 x0 x3 x6 (IntKind.wrap .i64 (x7 - 1)))) else (K (.exit 4) ⟨[(0, .one (.sl .rs x0 none)), (3, .one (.int .i64 x3)), (6, .one (.int .i64 x6)), (7, .one (.int .i64 x7)), (62, .one (.bool (blankF y3)))], []⟩)) else none)) else (K (.exit 4) ⟨[(0, .one (.sl .rs x0 none)), (3, .one (.int .i64 x3)), (6, .one (.int .i64 x6)), (7, .one (.int .i64 x7)), (62, .one (.bool false))], []⟩) := by
  kernel_rfl
theorem ex12_11_4 (n : Nat) (x0 : List (List Int)) (x3 : Int) (x6 : Int) (x7 : Int) (x62 : Bool) : (blockK 4 (seqK (evCode E12 n (cdAt Go.Proofs.Try.f12 [1, 1, 1, 1, 1, 1])) (retK Go.Proofs.Try.f12.results.toList))) (.exit 4) ⟨[(0, .one (.sl .rs x0 none)), (3, .one (.int .i64 x3)), (6, .one (.int .i64 x6)), (7, .one (.int .i64 x7)), (62, .one (.bool x62))], []⟩ =
    evLoop (lbC E12 (cdAt Go.Proofs.Try.f12 [1, 1, 1, 1, 1, 1, 1, 0, 1, 0, 0]) 10015 n) n (st12_15 x0 x3 x7 [] x6) (blockK 6 (seqK (evCode E12 n (cdAt Go.Proofs.Try.f12 [1, 1, 1, 1, 1, 1, 1, 1])) (retK Go.Proofs.Try.f12.results.toList))) := by
  kernel_rfl
theorem ex12_11_4_2 (n : Nat) (x0 : List (List Int)) (x3 : Int) (x6 : Int) (x7 : Int) : (blockK 4 (seqK (evCode E12 n (cdAt Go.Proofs.Try.f12 [1, 1, 1, 1, 1, 1])) (retK Go.Proofs.Try.f12.results.toList))) (.exit 4) ⟨[(0, .one (.sl .rs x0 none)), (3, .one (.int .i64 x3)), (6, .one (.int .i64 x6)), (7, .one (.int .i64 x7)), (62, .one (.bool false))], []⟩ =
    evLoop (lbC E12 (cdAt Go.Proofs.Try.f12 [1, 1, 1, 1, 1, 1, 1, 0, 1, 0, 0]) 10015 n) n (st12_15 x0 x3 x7 [] x6) (blockK 6 (seqK (evCode E12 n (cdAt Go.Proofs.Try.f12 [1, 1, 1, 1, 1, 1, 1, 1])) (retK Go.Proofs.Try.f12.results.toList))) := by
  kernel_rfl
theorem lb12_15_eq (n : Nat) (x0 : List (List Int)) (x3 : Int) (x7 : Int) (x8 : List (List Int)) (x9 : Int) (K : Ex → S6 → Option E6) : lbC E12 (cdAt Go.Proofs.Try.f12 [1, 1, 1, 1, 1, 1, 1, 0, 1, 0, 0]) 10015 n (st12_15 x0 x3 x7 x8 x9) K =
    bif decide (x9 < x7) then (match idx x0 x9 with | none => none | some y4 => (bif decide (x9 > 0) then (match sub y4 (if (List.length y4 : Int) < (if 0 > x3 then 0 else x3) then (List.length y4 : Int) else (if 0 > x3 then 0 else x3)) (List.length y4 : Int) with | none => none | some y5 => (bif true && decide ((List.length y5 : Int) = (List.length y5 : Int)) then (match sub y5 0 (List.length y5 : Int) with | none => none | some y6 => (bif room (0 + List.length y6) 4 then (bif room (List.length x8 + 1) 24 then (K .normal (st12_15 x0 x3 x7 (x8 ++ [y6]) (IntKind.wrap .i64 (x9 + 1)))) else none) else none)) else none)) else (bif true && decide ((List.length y4 : Int) = (List.length y4 : Int)) then (match sub y4 0 (List.length y4 : Int) with | none => none | some y7 => (bif room (0 + List.length y7) 4 then (bif room (List.length x8 + 1) 24 then (K .normal (st12_15 x0 x3 x7 (x8 ++ [y7]) (IntKind.wrap .i64 (x9 + 1)))) else none) else none)) else none))) else (K (.exit 6) ⟨[(0, .one (.sl .rs x0 none)), (3, .one (.int .i64 x3)), (7, .one (.int .i64 x7)), (8, .one (.sl .rs x8 (some 1000008))), (9, .one (.int .i64 x9)), (68, .one (.bool (decide (x9 < x7))))], [1000008]⟩) := by
  kernel_rfl
theorem ex12_15_6 (n : Nat) (x0 : List (List Int)) (x3 : Int) (x7 : Int) (x8 : List (List Int)) (x9 : Int) (x68 : Bool) : (blockK 6 (seqK (evCode E12 n (cdAt Go.Proofs.Try.f12 [1, 1, 1, 1, 1, 1, 1, 1])) (retK Go.Proofs.Try.f12.results.toList))) (.exit 6) ⟨[(0, .one (.sl .rs x0 none)), (3, .one (.int .i64 x3)), (7, .one (.int .i64 x7)), (8, .one (.sl .rs x8 (some 1000008))), (9, .one (.int .i64 x9)), (68, .one (.bool x68))], [1000008]⟩ =
    some (.one (.sl .rs x8 (some 1000001))) := by
  kernel_rfl

/- pergola/pergolaref06.Dedent -/
def dr16 : Nat → List Nat := fun r => match r with
  | 0 => [2]
  | 1 => [10, 11]
  | 4 => [12, 13, 14]
  | 5 => [16, 17]
  | 6 => [15, 18, 19, 20, 21]
  | 7 => [22, 23, 24, 25, 26, 27, 28]
  | 8 => [29]
  | 9 => [29, 30]
  | 10 => [31, 32, 33, 34]
  | 11 => [31]
  | 12 => [6, 35, 36, 37]
  | 13 => [7, 38, 39, 40, 41]
  | 14 => [0, 3, 5, 15]
  | 15 => [42, 43, 44, 45, 46, 47, 48, 49, 50, 51]
  | 16 => [52, 53, 54]
  | 17 => [52, 55, 56]
  | 18 => [57, 58, 59, 60, 61, 62, 63, 64, 65, 66]
  | 19 => [67, 68, 69]
  | 20 => [4, 8, 9, 67, 70, 71, 72, 73]
  | _ => []
def T16 : T6 := fun f ls => match f with
  | 29 => S29 ls
  | 30 => S30 ls
  | _ => none
def cn16 : FuncId → Option Nat := fun f => match f with

  | _ => none
def E16 : Env Ty6 den6 := mk6 T16 cn16 dr16 74
def st16_4 (x0 : List (List Int)) (x3 : Int) (x4 : List (List Int)) (x5 : Int) : S6 := ⟨[(0, .one (.sl .rs x0 none)), (3, .one (.int .i64 x3)), (4, .one (.sl .rs x4 (some 104))), (5, .one (.int .i64 x5))], [104]⟩
def st16_15 (x4 : List (List Int)) (x8 : Int) : S6 := ⟨[(4, .one (.sl .rs x4 (some 104))), (8, .one (.int .i64 x8))], [104]⟩
def st16_18 (x4 : List (List Int)) (x8 : Int) (x9 : Int) : S6 := ⟨[(4, .one (.sl .rs x4 (some 104))), (8, .one (.int .i64 x8)), (9, .one (.int .i64 x9))], [104]⟩
theorem ev16 (n : Nat) (a0 : List (List Int)) : evFn E16 n Go.Proofs.Try.f16 [.sl .rs a0 none] =
    bif limL a0 then (evLoop (lbC E16 (cdAt Go.Proofs.Try.f16 [1, 1, 1, 0, 1, 0, 0]) 10004 n) n (st16_4 a0 (commonF a0) [] 0) (blockK 0 (seqK (evCode E16 n (cdAt Go.Proofs.Try.f16 [1, 1, 1, 1])) (retK Go.Proofs.Try.f16.results.toList)))) else none := by
  kernel_rfl
theorem lb16_4_eq (n : Nat) (x0 : List (List Int)) (x3 : Int) (x4 : List (List Int)) (x5 : Int) (K : Ex → S6 → Option E6) : lbC E16 (cdAt Go.Proofs.Try.f16 [1, 1, 1, 0, 1, 0, 0]) 10004 n (st16_4 x0 x3 x4 x5) K =
    bif decide (x5 < (List.length x0 : Int)) then (match idx x0 x5 with | none => none | some y1 => (bif (decide (x5 > 0)) == true then (bif decide ((List.length y1 : Int) ≤ x3) then (bif room (0 + 0) 4 then (bif room (List.length x4 + 1) 24 then (K .normal (st16_4 x0 x3 (x4 ++ [[]]) (IntKind.wrap .i64 (x5 + 1)))) else none) else none) else (bif decide (x5 > 0) then (match sub y1 x3 (List.length y1 : Int) with | none => none | some y2 => (bif room (0 + List.length y2) 4 then (bif room (List.length x4 + 1) 24 then (K .normal (st16_4 x0 x3 (x4 ++ [y2]) (IntKind.wrap .i64 (x5 + 1)))) else none) else none)) else (bif room (0 + List.length y1) 4 then (bif room (List.length x4 + 1) 24 then (K .normal (st16_4 x0 x3 (x4 ++ [y1]) (IntKind.wrap .i64 (x5 + 1)))) else none) else none))) else (bif decide (x5 > 0) then (match sub y1 x3 (List.length y1 : Int) with | none => none | some y3 => (bif room (0 + List.length y3) 4 then (bif room (List.length x4 + 1) 24 then (K .normal (st16_4 x0 x3 (x4 ++ [y3]) (IntKind.wrap .i64 (x5 + 1)))) else none) else none)) else (bif room (0 + List.length y1) 4 then (bif room (List.length x4 + 1) 24 then (K .normal (st16_4 x0 x3 (x4 ++ [y1]) (IntKind.wrap .i64 (x5 + 1)))) else none) else none)))) else (K (.exit 0) ⟨[(0, .one (.sl .rs x0 none)), (3, .one (.int .i64 x3)), (4, .one (.sl .rs x4 (some 104))), (5, .one (.int .i64 x5)), (15, .one (.bool (decide (x5 < (List.length x0 : Int)))))], [104]⟩) := by
  kernel_rfl
theorem ex16_4_0 (n : Nat) (x0 : List (List Int)) (x3 : Int) (x4 : List (List Int)) (x5 : Int) (x15 : Bool) : (blockK 0 (seqK (evCode E16 n (cdAt Go.Proofs.Try.f16 [1, 1, 1, 1])) (retK Go.Proofs.Try.f16.results.toList))) (.exit 0) ⟨[(0, .one (.sl .rs x0 none)), (3, .one (.int .i64 x3)), (4, .one (.sl .rs x4 (some 104))), (5, .one (.int .i64 x5)), (15, .one (.bool x15))], [104]⟩ =
    evLoop (lbC E16 (cdAt Go.Proofs.Try.f16 [1, 1, 1, 1, 1, 0, 0, 0]) 10015 n) n (st16_15 x4 0) (blockK 2 (seqK (evCode E16 n (cdAt Go.Proofs.Try.f16 [1, 1, 1, 1, 1, 1])) (retK Go.Proofs.Try.f16.results.toList))) := by
  kernel_rfl
theorem lb16_15_eq (n : Nat) (x4 : List (List Int)) (x8 : Int) (K : Ex → S6 → Option E6) : lbC E16 (cdAt Go.Proofs.Try.f16 [1, 1, 1, 1, 1, 0, 0, 0]) 10015 n (st16_15 x4 x8) K =
    bif (decide (x8 < (List.length x4 : Int))) == true then (match idx x4 x8 with | none => none | some y4 => (bif lim4 y4 then (bif blankF y4 then (K .normal (st16_15 x4 (IntKind.wrap .i64 (x8 + 1)))) else (K (.exit 2) ⟨[(4, .one (.sl .rs x4 (some 104))), (8, .one (.int .i64 x8)), (52, .one (.bool (blankF y4)))], [104]⟩)) else none)) else (K (.exit 2) ⟨[(4, .one (.sl .rs x4 (some 104))), (8, .one (.int .i64 x8)), (52, .one (.bool false))], [104]⟩) := by
  kernel_rfl
theorem ex16_15_2 (n : Nat) (x4 : List (List Int)) (x8 : Int) (x52 : Bool) : (blockK 2 (seqK (evCode E16 n (cdAt Go.Proofs.Try.f16 [1, 1, 1, 1, 1, 1])) (retK Go.Proofs.Try.f16.results.toList))) (.exit 2) ⟨[(4, .one (.sl .rs x4 (some 104))), (8, .one (.int .i64 x8)), (52, .one (.bool x52))], [104]⟩ =
    evLoop (lbC E16 (cdAt Go.Proofs.Try.f16 [1, 1, 1, 1, 1, 1, 1, 0, 0, 0]) 10018 n) n (st16_18 x4 x8 (List.length x4 : Int)) (blockK 4 (seqK (evCode E16 n (cdAt Go.Proofs.Try.f16 [1, 1, 1, 1, 1, 1, 1, 1])) (retK Go.Proofs.Try.f16.results.toList))) := by
  kernel_rfl
theorem ex16_15_2_2 (n : Nat) (x4 : List (List Int)) (x8 : Int) : (blockK 2 (seqK (evCode E16 n (cdAt Go.Proofs.Try.f16 [1, 1, 1, 1, 1, 1])) (retK Go.Proofs.Try.f16.results.toList))) (.exit 2) ⟨[(4, .one (.sl .rs x4 (some 104))), (8, .one (.int .i64 x8)), (52, .one (.bool false))], [104]⟩ =
    evLoop (lbC E16 (cdAt Go.Proofs.Try.f16 [1, 1, 1, 1, 1, 1, 1, 0, 0, 0]) 10018 n) n (st16_18 x4 x8 (List.length x4 : Int)) (blockK 4 (seqK (evCode E16 n (cdAt Go.Proofs.Try.f16 [1, 1, 1, 1, 1, 1, 1, 1])) (retK Go.Proofs.Try.f16.results.toList))) := by
  kernel_rfl
theorem lb16_18_eq (n : Nat) (x4 : List (List Int)) (x8 : Int) (x9 : Int) (K : Ex → S6 → Option E6) : lbC E16 (cdAt Go.Proofs.Try.f16 [1, 1, 1, 1, 1, 1, 1, 0, 0, 0]) 10018 n (st16_18 x4 x8 x9) K =
    bif (decide (x9 > x8)) == true then (match idx x4 (IntKind.wrap .i64 (x9 - 1)) with | none => none | some y5 => (bif lim4 y5 then (bif blankF y5 then (K .normal (st16_18 x4 x8 (IntKind.wrap .i64 (x9 - 1)))) else (K (.exit 4) ⟨[(4, .one (.sl .rs x4 (some 104))), (8, .one (.int .i64 x8)), (9, .one (.int .i64 x9)), (67, .one (.bool (blankF y5)))], [104]⟩)) else none)) else (K (.exit 4) ⟨[(4, .one (.sl .rs x4 (some 104))), (8, .one (.int .i64 x8)), (9, .one (.int .i64 x9)), (67, .one (.bool false))], [104]⟩) := by
  kernel_rfl
theorem ex16_18_4 (n : Nat) (x4 : List (List Int)) (x8 : Int) (x9 : Int) (x67 : Bool) : (blockK 4 (seqK (evCode E16 n (cdAt Go.Proofs.Try.f16 [1, 1, 1, 1, 1, 1, 1, 1])) (retK Go.Proofs.Try.f16.results.toList))) (.exit 4) ⟨[(4, .one (.sl .rs x4 (some 104))), (8, .one (.int .i64 x8)), (9, .one (.int .i64 x9)), (67, .one (.bool x67))], [104]⟩ =
    match sub x4 x8 x9 with | none => none | some y6 => (some (.one (.sl .rs y6 none))) := by
  kernel_rfl
theorem ex16_18_4_2 (n : Nat) (x4 : List (List Int)) (x8 : Int) (x9 : Int) : (blockK 4 (seqK (evCode E16 n (cdAt Go.Proofs.Try.f16 [1, 1, 1, 1, 1, 1, 1, 1])) (retK Go.Proofs.Try.f16.results.toList))) (.exit 4) ⟨[(4, .one (.sl .rs x4 (some 104))), (8, .one (.int .i64 x8)), (9, .one (.int .i64 x9)), (67, .one (.bool false))], [104]⟩ =
    match sub x4 x8 x9 with | none => none | some y7 => (some (.one (.sl .rs y7 none))) := by
  kernel_rfl

end Go.Aev
end
