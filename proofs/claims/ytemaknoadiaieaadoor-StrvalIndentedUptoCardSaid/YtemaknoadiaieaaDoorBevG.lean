/- Proved here: lemmas of an evaluator over the model's code that the claim's text uses (G8). Conditions: those that each lemma states. -/
import Derived.Test.YtemaknoadiaieaaDoorBevE
section
set_option linter.unusedVariables false
namespace Go.Aev
open Go.Proofs
/- pergola/strval.fitting -/
def dr227 : Nat → List Nat := fun r => match r with
  | 0 => [2]
  | 1 => [5, 6, 7, 8, 9, 10, 11, 12, 13, 14, 15, 16]
  | 2 => [0, 17]
  | 3 => [17, 18, 19]
  | 4 => [0, 20]
  | 5 => [0, 20]
  | 7 => [24, 25, 26]
  | 8 => [4, 27, 28, 29, 30, 31, 32, 33, 34, 35]
  | 9 => [21, 22, 23, 36]
  | 10 => [36, 37]
  | 11 => [21, 22, 23, 24]
  | _ => []
def T227 : T6 := fun f ls => match f with
  | 28 => S41 ls
  | 58 => S27 ls
  | _ => none
def cn227 : FuncId → Option Nat := fun f => match f with

  | _ => none
def E227 : Env Ty6 den6 := mk6 T227 cn227 dr227 38
def st227_6 (x21 : List (List Int)) (x22 : Int) (x23 : Int) : S6 := ⟨[(21, .one (.sl .rs x21 none)), (22, .one (.int .i64 x22)), (23, .one (.int .i64 x23))], []⟩
theorem ev227 (n : Nat) (a0 : List (List Int)) : evFn E227 n Go.Proofs.Tryd.f27 [.sl .rs a0 none] =
    match idx a0 0 with | none => none | some y1 => (bif lim4 y1 then (bif (blankF y1) == false then (match idx a0 (IntKind.wrap .i64 ((List.length a0 : Int) - 1)) with | none => none | some y2 => (bif lim4 y2 then (bif blankF y2 then (some (.one (.bool false))) else (bif (List.length a0 : Int) == 1 then (some (.one (.bool true))) else (evLoop (lbC E227 (cdAt Go.Proofs.Tryd.f27 [1, 1, 1, 0, 1, 0, 0]) 10006 n) n (st227_6 a0 (List.length a0 : Int) 0) (blockK 0 (seqK (evCode E227 n (cdAt Go.Proofs.Tryd.f27 [1, 1, 1, 1])) (retK Go.Proofs.Tryd.f27.results.toList)))))) else none)) else (some (.one (.bool false)))) else none) := by
  kernel_rfl
theorem lb227_6_eq (n : Nat) (x21 : List (List Int)) (x22 : Int) (x23 : Int) (K : Ex → S6 → Option E6) : lbC E227 (cdAt Go.Proofs.Tryd.f27 [1, 1, 1, 0, 1, 0, 0]) 10006 n (st227_6 x21 x22 x23) K =
    bif decide (x23 < x22) then (match idx x21 x23 with | none => none | some y3 => (bif lim4 y3 then (bif (!(blankF y3)) == true then (match idx y3 0 with | none => none | some y4 => (bif !(whiteF y4) then (K .ret ⟨[(2, .one (.bool true))], []⟩) else (K .normal (st227_6 x21 x22 (IntKind.wrap .i64 (x23 + 1)))))) else (K .normal (st227_6 x21 x22 (IntKind.wrap .i64 (x23 + 1))))) else none)) else (K (.exit 0) ⟨[(21, .one (.sl .rs x21 none)), (22, .one (.int .i64 x22)), (23, .one (.int .i64 x23)), (24, .one (.bool (decide (x23 < x22))))], []⟩) := by
  kernel_rfl
theorem ex227_6_0 (n : Nat) (x21 : List (List Int)) (x22 : Int) (x23 : Int) (x24 : Bool) : (blockK 0 (seqK (evCode E227 n (cdAt Go.Proofs.Tryd.f27 [1, 1, 1, 1])) (retK Go.Proofs.Tryd.f27.results.toList))) (.exit 0) ⟨[(21, .one (.sl .rs x21 none)), (22, .one (.int .i64 x22)), (23, .one (.int .i64 x23)), (24, .one (.bool x24))], []⟩ =
    some (.one (.bool false)) := by
  kernel_rfl

/- pergola/pergolaref06.possible -/
def dr232 : Nat → List Nat := fun r => match r with
  | 0 => [2]
  | 1 => [7, 8, 9, 10]
  | 2 => [11, 12, 13, 14, 15, 16, 17]
  | 3 => [3, 4, 18, 19, 20]
  | 4 => [0, 21]
  | 5 => [21]
  | 6 => [22, 23, 24]
  | 7 => [26, 27, 42]
  | 8 => [25, 28, 29, 30, 31, 32]
  | 9 => [6, 33, 34, 35, 36, 37, 38, 39, 40, 41]
  | 10 => [0, 5, 42]
  | 11 => [0, 5, 25, 43, 44, 45]
  | _ => []
def T232 : T6 := fun f ls => match f with
  | 62 => S30 ls
  | 63 => S42 ls
  | _ => none
def cn232 : FuncId → Option Nat := fun f => match f with

  | _ => none
def E232 : Env Ty6 den6 := mk6 T232 cn232 dr232 46
def st232_6 (x0 : List (List Int)) (x5 : Int) : S6 := ⟨[(0, .one (.sl .rs x0 none)), (5, .one (.int .i64 x5))], []⟩
theorem ev232 (n : Nat) (a0 : List (List Int)) : evFn E232 n Go.Proofs.Tryd.f32 [.sl .rs a0 none] =
    match idx a0 0 with | none => none | some y1 => (bif lim4 y1 then (match idx a0 (IntKind.wrap .i64 ((List.length a0 : Int) - 1)) with | none => none | some y2 => (bif lim4 y2 then (bif (blankF y1) == false then (bif blankF y2 then (some (.one (.bool false))) else (evLoop (lbC E232 (cdAt Go.Proofs.Tryd.f32 [1, 1, 1, 1, 0, 1, 0, 0]) 10006 n) n (st232_6 a0 0) (blockK 0 (seqK (evCode E232 n (cdAt Go.Proofs.Tryd.f32 [1, 1, 1, 1, 1])) (retK Go.Proofs.Tryd.f32.results.toList))))) else (some (.one (.bool false)))) else none)) else none) := by
  kernel_rfl
theorem lb232_6_eq (n : Nat) (x0 : List (List Int)) (x5 : Int) (K : Ex → S6 → Option E6) : lbC E232 (cdAt Go.Proofs.Tryd.f32 [1, 1, 1, 1, 0, 1, 0, 0]) 10006 n (st232_6 x0 x5) K =
    bif decide (x5 < (List.length x0 : Int)) then (match idx x0 x5 with | none => none | some y3 => (bif lim4 y3 then (bif ((indentF y3) == 0) == true then (match idx x0 x5 with | none => none | some y4 => (bif decide ((List.length y4 : Int) > 0) then (K .ret ⟨[(2, .one (.bool true))], []⟩) else (K .normal (st232_6 x0 (IntKind.wrap .i64 (x5 + 1)))))) else (K .normal (st232_6 x0 (IntKind.wrap .i64 (x5 + 1))))) else none)) else (K (.exit 0) ⟨[(0, .one (.sl .rs x0 none)), (5, .one (.int .i64 x5)), (25, .one (.bool (decide (x5 < (List.length x0 : Int)))))], []⟩) := by
  kernel_rfl
theorem ex232_6_0 (n : Nat) (x0 : List (List Int)) (x5 : Int) (x25 : Bool) : (blockK 0 (seqK (evCode E232 n (cdAt Go.Proofs.Tryd.f32 [1, 1, 1, 1, 1])) (retK Go.Proofs.Tryd.f32.results.toList))) (.exit 0) ⟨[(0, .one (.sl .rs x0 none)), (5, .one (.int .i64 x5)), (25, .one (.bool x25))], []⟩ =
    some (.one (.bool ((List.length x0 : Int) == 1))) := by
  kernel_rfl

/- pergola/pergolaref06.guarded -/
def dr234 : Nat → List Nat := fun r => match r with
  | 0 => [2]
  | 3 => [5, 6, 7]
  | 4 => [8, 9, 10, 11, 12, 13, 14, 15, 16, 17, 18, 19, 20, 21, 22, 23, 24, 25, 26, 27, 28, 29, 30, 31, 32, 33, 34, 35]
  | 5 => [36, 37, 38, 39]
  | 6 => [40, 41]
  | 7 => [36, 42, 43, 44, 45, 46, 47, 48]
  | 8 => [49, 50]
  | 9 => [0, 3, 4, 8, 51]
  | _ => []
def T234 : T6 := fun f ls => match f with

  | _ => none
def cn234 : FuncId → Option Nat := fun f => match f with

  | _ => none
def E234 : Env Ty6 den6 := mk6 T234 cn234 dr234 52
def st234_3 (x0 : List Int) (x3 : List Int) (x4 : Int) : S6 := ⟨[(0, .one (.sl .i32 x0 none)), (3, .one (.sl .i32 x3 (some 103))), (4, .one (.int .i64 x4))], [103]⟩
theorem ev234 (n : Nat) (a0 : List Int) : evFn E234 n Go.Proofs.Tryd.f34 [.sl .i32 a0 none] =
    evLoop (lbC E234 (cdAt Go.Proofs.Tryd.f34 [1, 1, 1, 0, 0, 0]) 10003 n) n (st234_3 a0 [] 0) (blockK 0 (seqK (evCode E234 n (cdAt Go.Proofs.Tryd.f34 [1, 1, 1, 1])) (retK Go.Proofs.Tryd.f34.results.toList))) := by
  kernel_rfl
theorem lb234_3_eq (n : Nat) (x0 : List Int) (x3 : List Int) (x4 : Int) (K : Ex → S6 → Option E6) : lbC E234 (cdAt Go.Proofs.Tryd.f34 [1, 1, 1, 0, 0, 0]) 10003 n (st234_3 x0 x3 x4) K =
    bif decide (x4 < (List.length x0 : Int)) then (bif (decide ((IntKind.wrap .i64 (x4 + 2)) < (List.length x0 : Int))) == true then (match idx x0 x4 with | none => none | some y1 => (bif (y1 == 34) == true then (match idx x0 (IntKind.wrap .i64 (x4 + 1)) with | none => none | some y2 => (bif (y2 == 34) == true then (match idx x0 (IntKind.wrap .i64 (x4 + 2)) with | none => none | some y3 => (bif y3 == 34 then (bif room (List.length x3 + 4) 4 then (K .normal (st234_3 x0 (x3 ++ [92, 34, 34, 34]) (IntKind.wrap .i64 (x4 + 3)))) else none) else (match idx x0 x4 with | none => none | some y4 => (bif room (List.length x3 + 1) 4 then (K .normal (st234_3 x0 (x3 ++ [y4]) (IntKind.wrap .i64 (x4 + 1)))) else none)))) else (match idx x0 x4 with | none => none | some y5 => (bif room (List.length x3 + 1) 4 then (K .normal (st234_3 x0 (x3 ++ [y5]) (IntKind.wrap .i64 (x4 + 1)))) else none)))) else (match idx x0 x4 with | none => none | some y6 => (bif room (List.length x3 + 1) 4 then (K .normal (st234_3 x0 (x3 ++ [y6]) (IntKind.wrap .i64 (x4 + 1)))) else none)))) else (match idx x0 x4 with | none => none | some y7 => (bif room (List.length x3 + 1) 4 then (K .normal (st234_3 x0 (x3 ++ [y7]) (IntKind.wrap .i64 (x4 + 1)))) else none))) else (K (.exit 0) ⟨[(0, .one (.sl .i32 x0 none)), (3, .one (.sl .i32 x3 (some 103))), (4, .one (.int .i64 x4)), (8, .one (.bool (decide (x4 < (List.length x0 : Int)))))], [103]⟩) := by
  kernel_rfl
theorem ex234_3_0 (n : Nat) (x0 : List Int) (x3 : List Int) (x4 : Int) (x8 : Bool) : (blockK 0 (seqK (evCode E234 n (cdAt Go.Proofs.Tryd.f34 [1, 1, 1, 1])) (retK Go.Proofs.Tryd.f34.results.toList))) (.exit 0) ⟨[(0, .one (.sl .i32 x0 none)), (3, .one (.sl .i32 x3 (some 103))), (4, .one (.int .i64 x4)), (8, .one (.bool x8))], [103]⟩ =
    some (.one (.sl .i32 x3 (some 1))) := by
  kernel_rfl

/- pergola/strval.BlockText -/
def dr209 : Nat → List Nat := fun r => match r with
  | 0 => [2, 3]
  | 1 => [13]
  | 2 => [0, 14]
  | 3 => [14, 15, 16, 17, 18, 19]
  | 4 => [0, 5, 20, 21, 22]
  | 5 => [4, 23]
  | 6 => [23]
  | 8 => [27, 28, 29]
  | 9 => [7, 30, 31, 32, 33, 34, 35]
  | 10 => [4, 24, 25, 26, 36]
  | 11 => [36, 37]
  | 12 => [24, 25, 26, 27, 38, 39]
  | 13 => [40, 41]
  | 14 => [4, 8, 42]
  | 15 => [42, 43]
  | 16 => [8, 44, 45, 46, 47, 48, 49, 50, 51, 52]
  | 17 => [53, 54, 55, 56]
  | 18 => [53]
  | 19 => [57, 58, 59]
  | 20 => [61, 62]
  | 21 => [60, 63, 64, 65]
  | 22 => [66, 67, 68, 69]
  | 23 => [70, 71]
  | 24 => [66, 72, 73, 74, 75, 76, 77, 78]
  | 25 => [4, 9, 10, 12, 60, 79, 80, 81, 82, 83, 84, 85]
  | 26 => [11, 86]
  | _ => []
def T209 : T6 := fun f ls => match f with
  | 20 => S220 ls
  | 22 => S33 ls
  | 25 => S32 ls
  | 26 => S37 ls
  | 27 => S227 ls
  | 28 => S41 ls
  | 29 => S51 ls
  | _ => none
def cn209 : FuncId → Option Nat := fun f => match f with

  | _ => none
def E209 : Env Ty6 den6 := mk6 T209 cn209 dr209 87
def st209_7 (x4 : List Int) (x24 : List Int) (x25 : Int) (x26 : Int) : S6 := ⟨[(4, .one (.sl .i32 x4 (some 1017))), (24, .one (.sl .i32 x24 (some 1017))), (25, .one (.int .i64 x25)), (26, .one (.int .i64 x26))], [1017]⟩
def st209_19 (x4 : List Int) (x9 : List Int) (x10 : Int) : S6 := ⟨[(4, .one (.sl .i32 x4 (some 1017))), (9, .one (.sl .i32 x9 (some 143))), (10, .one (.int .i64 x10))], [143, 1017]⟩
theorem ev209 (n : Nat) (a0 : List UInt8) : evFn E209 n Go.Proofs.Tryd.f9 [.str a0] =
    bif a0 == [] then (some (.tup [.str [34, 34, 34, 34, 34, 34], .bool true])) else (bif smS a0 then (bif decide ((((decF a0).2 : Nat) : Int) < (List.length a0 : Int)) then (some (.tup [.str [], .bool false])) else (evLoop (lbC E209 (cdAt Go.Proofs.Tryd.f9 [1, 1, 1, 1, 0, 1, 0, 0]) 10007 n) n (st209_7 ((decF a0).1) ((decF a0).1) (List.length ((decF a0).1) : Int) 0) (blockK 0 (seqK (evCode E209 n (cdAt Go.Proofs.Tryd.f9 [1, 1, 1, 1, 1])) (retK Go.Proofs.Tryd.f9.results.toList))))) else none) := by
  kernel_rfl
theorem lb209_7_eq (n : Nat) (x4 : List Int) (x24 : List Int) (x25 : Int) (x26 : Int) (K : Ex → S6 → Option E6) : lbC E209 (cdAt Go.Proofs.Tryd.f9 [1, 1, 1, 1, 0, 1, 0, 0]) 10007 n (st209_7 x4 x24 x25 x26) K =
    bif decide (x26 < x25) then (match idx x24 x26 with | none => none | some y1 => (bif (!(sourceF y1)) == false then (bif y1 == 13 then (K .ret ⟨[(2, .one (.str [])), (3, .one (.bool false))], []⟩) else (K .normal (st209_7 x4 x24 x25 (IntKind.wrap .i64 (x26 + 1))))) else (K .ret ⟨[(2, .one (.str [])), (3, .one (.bool false))], []⟩))) else (K (.exit 0) ⟨[(4, .one (.sl .i32 x4 (some 1017))), (24, .one (.sl .i32 x24 (some 1017))), (25, .one (.int .i64 x25)), (26, .one (.int .i64 x26)), (27, .one (.bool (decide (x26 < x25))))], [1017]⟩) := by
  kernel_rfl
theorem ex209_7_0 (n : Nat) (x4 : List Int) (x24 : List Int) (x25 : Int) (x26 : Int) (x27 : Bool) : (blockK 0 (seqK (evCode E209 n (cdAt Go.Proofs.Tryd.f9 [1, 1, 1, 1, 1])) (retK Go.Proofs.Tryd.f9.results.toList))) (.exit 0) ⟨[(4, .one (.sl .i32 x4 (some 1017))), (24, .one (.sl .i32 x24 (some 1017))), (25, .one (.int .i64 x25)), (26, .one (.int .i64 x26)), (27, .one (.bool x27))], [1017]⟩ =
    bif smL x4 then (bif limL (linesF x4) && decide (1 ≤ List.length (linesF x4)) then (bif !(fitF (linesF x4)) then (some (.tup [.str [], .bool false])) else (bif (decide ((List.length (linesF x4) : Int) > 1)) == false then (match idx x4 0 with | none => none | some y2 => (bif !(whiteF y2) then (bif room (3 + 1) 4 then (evLoop (lbC E209 (cdAt Go.Proofs.Tryd.f9 [1, 1, 1, 1, 1, 1, 1, 1, 1, 0, 1, 0, 0]) 10019 n) n (st209_19 x4 ([34, 34, 34] ++ [10]) 0) (blockK 2 (seqK (evCode E209 n (cdAt Go.Proofs.Tryd.f9 [1, 1, 1, 1, 1, 1, 1, 1, 1, 1])) (retK Go.Proofs.Tryd.f9.results.toList)))) else none) else (evLoop (lbC E209 (cdAt Go.Proofs.Tryd.f9 [1, 1, 1, 1, 1, 1, 1, 1, 1, 0, 1, 0, 0]) 10019 n) n (st209_19 x4 [34, 34, 34] 0) (blockK 2 (seqK (evCode E209 n (cdAt Go.Proofs.Tryd.f9 [1, 1, 1, 1, 1, 1, 1, 1, 1, 1])) (retK Go.Proofs.Tryd.f9.results.toList)))))) else (bif room (3 + 1) 4 then (evLoop (lbC E209 (cdAt Go.Proofs.Tryd.f9 [1, 1, 1, 1, 1, 1, 1, 1, 1, 0, 1, 0, 0]) 10019 n) n (st209_19 x4 ([34, 34, 34] ++ [10]) 0) (blockK 2 (seqK (evCode E209 n (cdAt Go.Proofs.Tryd.f9 [1, 1, 1, 1, 1, 1, 1, 1, 1, 1])) (retK Go.Proofs.Tryd.f9.results.toList)))) else none))) else none) else none := by
  kernel_rfl
theorem lb209_19_eq (n : Nat) (x4 : List Int) (x9 : List Int) (x10 : Int) (K : Ex → S6 → Option E6) : lbC E209 (cdAt Go.Proofs.Tryd.f9 [1, 1, 1, 1, 1, 1, 1, 1, 1, 0, 1, 0, 0]) 10019 n (st209_19 x4 x9 x10) K =
    bif decide (x10 < (List.length x4 : Int)) then (match sub x4 x10 (List.length x4 : Int) with | none => none | some y3 => (bif lim4 y3 then (bif quotesF y3 then (bif room (List.length x9 + 4) 4 then (K .normal (st209_19 x4 (x9 ++ [92, 34, 34, 34]) (IntKind.wrap .i64 ((IntKind.wrap .i64 (x10 + 2)) + 1)))) else none) else (match idx x4 x10 with | none => none | some y4 => (bif room (List.length x9 + 1) 4 then (K .normal (st209_19 x4 (x9 ++ [y4]) (IntKind.wrap .i64 (x10 + 1)))) else none))) else none)) else (K (.exit 2) ⟨[(4, .one (.sl .i32 x4 (some 1017))), (9, .one (.sl .i32 x9 (some 143))), (10, .one (.int .i64 x10)), (60, .one (.bool (decide (x10 < (List.length x4 : Int)))))], [143, 1017]⟩) := by
  kernel_rfl
theorem ex209_19_2 (n : Nat) (x4 : List Int) (x9 : List Int) (x10 : Int) (x60 : Bool) : (blockK 2 (seqK (evCode E209 n (cdAt Go.Proofs.Tryd.f9 [1, 1, 1, 1, 1, 1, 1, 1, 1, 1])) (retK Go.Proofs.Tryd.f9.results.toList))) (.exit 2) ⟨[(4, .one (.sl .i32 x4 (some 1017))), (9, .one (.sl .i32 x9 (some 143))), (10, .one (.int .i64 x10)), (60, .one (.bool x60))], [143, 1017]⟩ =
    bif room (List.length x9 + 4) 4 then (bif lim4 (x9 ++ [10, 34, 34, 34]) then (some (.tup [.str ((encF (x9 ++ [10, 34, 34, 34])).1), .bool true])) else none) else none := by
  kernel_rfl

/- pergola/pergolaref06.BlockText -/
def dr210 : Nat → List Nat := fun r => match r with
  | 0 => [2, 3]
  | 1 => [16, 17, 18, 19, 20, 21]
  | 2 => [5, 22, 23, 24]
  | 3 => [0, 4, 25]
  | 4 => [25]
  | 5 => [26, 27, 28]
  | 6 => [30, 31, 45]
  | 7 => [29, 32, 33, 34, 35, 36]
  | 8 => [7, 37, 38, 39, 40, 41, 42, 43, 44]
  | 9 => [0, 4, 6, 45]
  | 10 => [6, 29]
  | 11 => [0, 46]
  | 12 => [4, 8, 47, 48, 49, 50]
  | 13 => [4, 47, 51, 52]
  | 14 => [53, 54]
  | 15 => [10, 55]
  | 16 => [8, 9, 56]
  | 17 => [56, 57]
  | 18 => [58, 59, 60, 61, 62, 63, 64, 65, 66, 67, 68]
  | 19 => [69, 70, 71]
  | 20 => [69]
  | 21 => [72, 73, 74]
  | 22 => [76, 77]
  | 23 => [75, 78, 79, 80, 81, 82]
  | 24 => [13, 15, 83, 84, 85, 86, 87]
  | 25 => [14, 88, 89, 90, 91]
  | 26 => [8, 9, 11, 12, 75, 92, 93, 94]
  | _ => []
def T210 : T6 := fun f ls => match f with
  | 23 => S223 ls
  | 30 => S53 ls
  | 31 => S39 ls
  | 32 => S232 ls
  | 33 => S56 ls
  | 34 => S234 ls
  | 35 => S35 ls
  | _ => none
def cn210 : FuncId → Option Nat := fun f => match f with

  | _ => none
def E210 : Env Ty6 den6 := mk6 T210 cn210 dr210 95
def st210_5 (x0 : List UInt8) (x4 : List Int) (x6 : Int) : S6 := ⟨[(0, .one (.str x0)), (4, .one (.sl .i32 x4 (some 1019))), (6, .one (.int .i64 x6))], [1019]⟩
def st210_21 (x8 : List UInt8) (x9 : List (List Int)) (x11 : List UInt8) (x12 : Int) : S6 := ⟨[(8, .one (.str x8)), (9, .one (.sl .rs x9 (some 1052))), (11, .one (.str x11)), (12, .one (.int .i64 x12))], [1052]⟩
theorem ev210 (n : Nat) (a0 : List UInt8) : evFn E210 n Go.Proofs.Tryd.f10 [.str a0] =
    bif room (List.length a0) 1 then (bif isB (List.map (fun (c : UInt8) => (c.toNat : Int)) a0) && smL (List.map (fun (c : UInt8) => (c.toNat : Int)) a0) then (bif (((decF (toB (List.map (fun (c : UInt8) => (c.toNat : Int)) a0))).2 : Nat) : Int) != (List.length a0 : Int) then (some (.tup [.str [], .bool false])) else (evLoop (lbC E210 (cdAt Go.Proofs.Tryd.f10 [1, 1, 1, 0, 1, 0, 0]) 10005 n) n (st210_5 a0 ((decF (toB (List.map (fun (c : UInt8) => (c.toNat : Int)) a0))).1) 0) (blockK 0 (seqK (evCode E210 n (cdAt Go.Proofs.Tryd.f10 [1, 1, 1, 1])) (retK Go.Proofs.Tryd.f10.results.toList))))) else none) else none := by
  kernel_rfl
theorem lb210_5_eq (n : Nat) (x0 : List UInt8) (x4 : List Int) (x6 : Int) (K : Ex → S6 → Option E6) : lbC E210 (cdAt Go.Proofs.Tryd.f10 [1, 1, 1, 0, 1, 0, 0]) 10005 n (st210_5 x0 x4 x6) K =
    bif decide (x6 < (List.length x4 : Int)) then (match idx x4 x6 with | none => none | some y1 => (bif (!(sourceF y1)) == false then (match idx x4 x6 with | none => none | some y2 => (bif y2 == 13 then (K .ret ⟨[(2, .one (.str [])), (3, .one (.bool false))], []⟩) else (K .normal (st210_5 x0 x4 (IntKind.wrap .i64 (x6 + 1)))))) else (K .ret ⟨[(2, .one (.str [])), (3, .one (.bool false))], []⟩))) else (K (.exit 0) ⟨[(0, .one (.str x0)), (4, .one (.sl .i32 x4 (some 1019))), (6, .one (.int .i64 x6)), (29, .one (.bool (decide (x6 < (List.length x4 : Int)))))], [1019]⟩) := by
  kernel_rfl
theorem ex210_5_0 (n : Nat) (x0 : List UInt8) (x4 : List Int) (x6 : Int) (x29 : Bool) : (blockK 0 (seqK (evCode E210 n (cdAt Go.Proofs.Tryd.f10 [1, 1, 1, 1])) (retK Go.Proofs.Tryd.f10.results.toList))) (.exit 0) ⟨[(0, .one (.str x0)), (4, .one (.sl .i32 x4 (some 1019))), (6, .one (.int .i64 x6)), (29, .one (.bool x29))], [1019]⟩ =
    bif x0 == [] then (bif decide (List.length [34, 34, 34] + List.length [34, 34, 34] ≤ 9223372036854775807) then (some (.tup [.str ([34, 34, 34] ++ [34, 34, 34]), .bool true])) else none) else (bif smL x4 then (bif limL (linesF x4) && decide (1 ≤ List.length (linesF x4)) then (bif !(fitF (linesF x4)) then (some (.tup [.str [], .bool false])) else (bif (decide ((List.length (linesF x4) : Int) > 1)) == false then (match idx (linesF x4) 0 with | none => none | some y3 => (match idx y3 0 with | none => none | some y4 => (bif !(whiteF y4) then (bif decide (List.length [34, 34, 34] + List.length [10] ≤ 9223372036854775807) then (evLoop (lbC E210 (cdAt Go.Proofs.Tryd.f10 [1, 1, 1, 1, 1, 1, 1, 1, 1, 1, 1, 0, 1, 0, 0]) 10021 n) n (st210_21 [34, 34, 34] (linesF x4) ([34, 34, 34] ++ [10]) 0) (blockK 2 (seqK (evCode E210 n (cdAt Go.Proofs.Tryd.f10 [1, 1, 1, 1, 1, 1, 1, 1, 1, 1, 1, 1])) (retK Go.Proofs.Tryd.f10.results.toList)))) else none) else (evLoop (lbC E210 (cdAt Go.Proofs.Tryd.f10 [1, 1, 1, 1, 1, 1, 1, 1, 1, 1, 1, 0, 1, 0, 0]) 10021 n) n (st210_21 [34, 34, 34] (linesF x4) [34, 34, 34] 0) (blockK 2 (seqK (evCode E210 n (cdAt Go.Proofs.Tryd.f10 [1, 1, 1, 1, 1, 1, 1, 1, 1, 1, 1, 1])) (retK Go.Proofs.Tryd.f10.results.toList))))))) else (bif decide (List.length [34, 34, 34] + List.length [10] ≤ 9223372036854775807) then (evLoop (lbC E210 (cdAt Go.Proofs.Tryd.f10 [1, 1, 1, 1, 1, 1, 1, 1, 1, 1, 1, 0, 1, 0, 0]) 10021 n) n (st210_21 [34, 34, 34] (linesF x4) ([34, 34, 34] ++ [10]) 0) (blockK 2 (seqK (evCode E210 n (cdAt Go.Proofs.Tryd.f10 [1, 1, 1, 1, 1, 1, 1, 1, 1, 1, 1, 1])) (retK Go.Proofs.Tryd.f10.results.toList)))) else none))) else none) else none) := by
  kernel_rfl
theorem lb210_21_eq (n : Nat) (x8 : List UInt8) (x9 : List (List Int)) (x11 : List UInt8) (x12 : Int) (K : Ex → S6 → Option E6) : lbC E210 (cdAt Go.Proofs.Tryd.f10 [1, 1, 1, 1, 1, 1, 1, 1, 1, 1, 1, 0, 1, 0, 0]) 10021 n (st210_21 x8 x9 x11 x12) K =
    bif decide (x12 < (List.length x9 : Int)) then (match idx x9 x12 with | none => none | some y5 => (bif smL y5 then (bif lim4 (maskF y5) then (bif decide (List.length x11 + List.length ((encF (maskF y5)).1) ≤ 9223372036854775807) then (bif decide (List.length (x11 ++ ((encF (maskF y5)).1)) + List.length [10] ≤ 9223372036854775807) then (K .normal (st210_21 x8 x9 ((x11 ++ ((encF (maskF y5)).1)) ++ [10]) (IntKind.wrap .i64 (x12 + 1)))) else none) else none) else none) else none)) else (K (.exit 2) ⟨[(8, .one (.str x8)), (9, .one (.sl .rs x9 (some 1052))), (11, .one (.str x11)), (12, .one (.int .i64 x12)), (75, .one (.bool (decide (x12 < (List.length x9 : Int)))))], [1052]⟩) := by
  kernel_rfl
theorem ex210_21_2 (n : Nat) (x8 : List UInt8) (x9 : List (List Int)) (x11 : List UInt8) (x12 : Int) (x75 : Bool) : (blockK 2 (seqK (evCode E210 n (cdAt Go.Proofs.Tryd.f10 [1, 1, 1, 1, 1, 1, 1, 1, 1, 1, 1, 1])) (retK Go.Proofs.Tryd.f10.results.toList))) (.exit 2) ⟨[(8, .one (.str x8)), (9, .one (.sl .rs x9 (some 1052))), (11, .one (.str x11)), (12, .one (.int .i64 x12)), (75, .one (.bool x75))], [1052]⟩ =
    bif decide (List.length x11 + List.length x8 ≤ 9223372036854775807) then (some (.tup [.str (x11 ++ x8), .bool true])) else none := by
  kernel_rfl

/- pergola/pergolalaw06.inside -/
def dr212 : Nat → List Nat := fun r => match r with
  | 0 => [4, 5]
  | 1 => [7, 8]
  | 2 => [6, 9, 10, 11, 12, 13, 14, 15, 16, 17, 18, 19, 20, 21, 22, 23, 24]
  | 3 => [0, 1, 25]
  | 4 => [0, 1, 25, 26, 27, 28, 29, 30, 31, 32, 33]
  | _ => []
def T212 : T6 := fun f ls => match f with
  | 17 => S217 ls
  | 19 => S219 ls
  | 37 => S237 ls
  | _ => none
def cn212 : FuncId → Option Nat := fun f => match f with

  | _ => none
def E212 : Env Ty6 den6 := mk6 T212 cn212 dr212 34
theorem ev212 (n : Nat) (a0 : List UInt8) (a1 : Int) : evFn E212 n Go.Proofs.Tryd.f12 [.str a0, .int .i64 a1] =
    bif decide (List.length [34] ≤ 1) && decide (0 ≤ a1) && decide (a1 ≤ 1000) then (bif (decide ((List.length a0 : Int) < (IntKind.wrap .i64 (2 * a1)))) == false then (bif smS a0 && smS (Go.Lib.repeatL [34] (Int.toNat a1)) then (bif (!(Go.Lib.hasPrefix a0 (Go.Lib.repeatL [34] (Int.toNat a1)))) == false then (bif smS a0 && smS (Go.Lib.repeatL [34] (Int.toNat a1)) then (bif !(Go.Lib.hasSuffix a0 (Go.Lib.repeatL [34] (Int.toNat a1))) then (some (.tup [.sl .i32 [] (some 1), .bool false])) else (match sub a0 a1 (IntKind.wrap .i64 ((List.length a0 : Int) - a1)) with | none => none | some y1 => (bif room (List.length y1) 1 then (some (.tup [.sl .i32 (runes6 y1) (some 1), .bool true])) else none))) else none) else (some (.tup [.sl .i32 [] (some 1), .bool false]))) else none) else (some (.tup [.sl .i32 [] (some 1), .bool false]))) else none := by
  kernel_rfl

/- pergola/pergolalaw06.StrvalTexts -/
def dr203 : Nat → List Nat := fun r => match r with
  | 0 => [2]
  | 1 => [11, 12, 13, 14]
  | 2 => [3, 4, 15, 16, 17, 18, 19]
  | 3 => [0, 20]
  | 4 => [20, 21, 22, 23, 24, 25]
  | 5 => [26, 27, 28, 29, 30]
  | 6 => [3, 4, 5, 6, 31, 32, 33, 34, 35, 36, 37]
  | 7 => [0, 38]
  | 8 => [38, 39, 40, 41, 42, 43]
  | 9 => [0, 44, 45, 46, 47, 48]
  | 10 => [7, 8, 9, 10, 49, 50, 51, 52, 53, 54, 55, 56]
  | _ => []
def T203 : T6 := fun f ls => match f with
  | 7 => S207 ls
  | 8 => S208 ls
  | 9 => S209 ls
  | 10 => S210 ls
  | _ => none
def cn203 : FuncId → Option Nat := fun f => match f with

  | _ => none
def E203 : Env Ty6 den6 := mk6 T203 cn203 dr203 57
theorem ev203 (n : Nat) (a0 : List UInt8) : evFn E203 n Go.Proofs.Tryd.f3 [.str a0] =
    bif smS [9, 34, 240, 159, 152, 128, 47, 127] then (bif (!(((qtF [9, 34, 240, 159, 152, 128, 47, 127]).1) == [34, 92, 116, 92, 34, 92, 117, 68, 56, 51, 68, 92, 117, 68, 69, 48, 48, 47, 92, 117, 48, 48, 55, 70, 34])) == false then (bif ((qtF [9, 34, 240, 159, 152, 128, 47, 127]).2) != 0 then (some (.one (.bool false))) else (bif smS a0 then (bif smS a0 then (bif (!(((qtF a0).1) == ((qtF a0).1))) == false then (bif ((qtF a0).2) != ((qtF a0).2) then (some (.one (.bool false))) else (bif smS a0 then (bif smS a0 then (bif (((btF a0).1) == ((btF a0).1)) == true then (some (.one (.bool (((btF a0).2) == ((btF a0).2))))) else (some (.one (.bool false)))) else none) else none)) else (some (.one (.bool false)))) else none) else none)) else (some (.one (.bool false)))) else none := by
  kernel_rfl

/- pergola/pergolalaw06.StrvalBlockBack -/
def dr204 : Nat → List Nat := fun r => match r with
  | 0 => [4]
  | 1 => [16]
  | 2 => [0, 1, 17]
  | 3 => [17, 18, 19, 20, 21, 22]
  | 4 => [6]
  | 5 => [5, 23, 24, 25, 26, 27, 28]
  | 6 => [8, 29]
  | 7 => [0, 1, 7, 30]
  | 8 => [7, 30, 31, 32, 33, 34, 35]
  | 9 => [0, 9, 10, 36, 37, 38, 39, 40, 41]
  | 10 => [1, 42]
  | 11 => [0, 1, 5, 23, 42, 43, 44, 45, 46, 47, 48]
  | 12 => [12, 49]
  | 13 => [11, 50, 51, 52]
  | 14 => [50, 53, 54, 55, 56, 57]
  | 15 => [6, 58]
  | 16 => [5, 11, 59]
  | 17 => [5, 59, 60, 61, 62, 63, 64]
  | 18 => [14, 65]
  | 19 => [11, 13, 66]
  | 20 => [13, 66, 67, 68, 69, 70, 71]
  | 21 => [11, 12, 15, 72, 73, 74, 75, 76, 77, 78]
  | _ => []
def T204 : T6 := fun f ls => match f with
  | 9 => S209 ls
  | 11 => S18 ls
  | 12 => S212 ls
  | 13 => S22 ls
  | 14 => S20 ls
  | _ => none
def cn204 : FuncId → Option Nat := fun f => match f with

  | _ => none
def E204 : Env Ty6 den6 := mk6 T204 cn204 dr204 79
theorem ev204 (n : Nat) (a0 : List UInt8) (a1 : List Int) : evFn E204 n Go.Proofs.Tryd.f4 [.str a0, .sl .i32 a1 none] =
    bif smS a0 then (bif (btF a0).2 then (bif smS ((btF a0).1) && decide (0 ≤ 3) && decide (3 ≤ 1000) then (bif !((insF ((btF a0).1) (Int.toNat 3)).2) then (some (.one (.bool false))) else (bif smL ((insF ((btF a0).1) (Int.toNat 3)).1) then (bif (!(((blockF ((insF ((btF a0).1) (Int.toNat 3)).1)).1) == a0)) == false then (bif ((blockF ((insF ((btF a0).1) (Int.toNat 3)).1)).2) != 0 then (some (.one (.bool false))) else (bif lim4 a1 then (bif smL a1 then (bif ((blockF a1).2) != 0 then (some (.one (.bool (((blockF a1).1) == [])))) else (bif smS ((blockF a1).1) then (bif !((btF ((blockF a1).1)).2) then (some (.one (.bool false))) else (bif smS ((btF ((blockF a1).1)).1) && decide (0 ≤ 3) && decide (3 ≤ 1000) then (bif !((insF ((btF ((blockF a1).1)).1) (Int.toNat 3)).2) then (some (.one (.bool false))) else (bif smL ((insF ((btF ((blockF a1).1)).1) (Int.toNat 3)).1) then (bif (((blockF ((insF ((btF ((blockF a1).1)).1) (Int.toNat 3)).1)).1) == ((blockF a1).1)) == true then (some (.one (.bool (((blockF ((insF ((btF ((blockF a1).1)).1) (Int.toNat 3)).1)).2) == 0)))) else (some (.one (.bool false)))) else none)) else none)) else none)) else none) else none)) else (some (.one (.bool false)))) else none)) else none) else (bif lim4 a1 then (bif smL a1 then (bif ((blockF a1).2) != 0 then (some (.one (.bool (((blockF a1).1) == [])))) else (bif smS ((blockF a1).1) then (bif !((btF ((blockF a1).1)).2) then (some (.one (.bool false))) else (bif smS ((btF ((blockF a1).1)).1) && decide (0 ≤ 3) && decide (3 ≤ 1000) then (bif !((insF ((btF ((blockF a1).1)).1) (Int.toNat 3)).2) then (some (.one (.bool false))) else (bif smL ((insF ((btF ((blockF a1).1)).1) (Int.toNat 3)).1) then (bif (((blockF ((insF ((btF ((blockF a1).1)).1) (Int.toNat 3)).1)).1) == ((blockF a1).1)) == true then (some (.one (.bool (((blockF ((insF ((btF ((blockF a1).1)).1) (Int.toNat 3)).1)).2) == 0)))) else (some (.one (.bool false)))) else none)) else none)) else none)) else none) else none)) else none := by
  kernel_rfl

/- pergola/pergolalaw06.StrvalQuotedBack -/
def dr205 : Nat → List Nat := fun r => match r with
  | 0 => [2]
  | 1 => [10]
  | 2 => [0, 11]
  | 3 => [11, 12, 13, 14, 15, 16]
  | 4 => [17, 18]
  | 5 => [0, 3, 4, 19, 20, 21, 22, 23, 24, 25]
  | 6 => [19, 26, 27, 28, 29, 30]
  | 7 => [3, 4, 6, 31, 32, 33, 34, 35, 36, 37, 38, 39, 40]
  | 8 => [0, 5, 41]
  | 9 => [41]
  | 11 => [45, 46, 47]
  | 12 => [8, 48, 49, 50, 51, 52, 53, 54, 55, 56]
  | 13 => [0, 5, 42, 43, 44, 57]
  | 14 => [57, 58]
  | 15 => [5, 42, 43, 44, 45, 59, 60, 61, 62, 63]
  | 16 => [0, 4, 9, 64, 65, 66, 67, 68, 69, 70]
  | _ => []
def T205 : T6 := fun f ls => match f with
  | 7 => S207 ls
  | 11 => S18 ls
  | 12 => S212 ls
  | 15 => S215 ls
  | 16 => S19 ls
  | _ => none
def cn205 : FuncId → Option Nat := fun f => match f with

  | _ => none
def E205 : Env Ty6 den6 := mk6 T205 cn205 dr205 71
def st205_10 (x0 : List UInt8) (x5 : List Int) (x42 : List Int) (x43 : Int) (x44 : Int) : S6 := ⟨[(0, .one (.str x0)), (5, .one (.sl .i32 x5 (some 1028))), (42, .one (.sl .i32 x42 (some 1028))), (43, .one (.int .i64 x43)), (44, .one (.int .i64 x44))], [1028]⟩
theorem ev205 (n : Nat) (a0 : List UInt8) : evFn E205 n Go.Proofs.Tryd.f5 [.str a0] =
    bif smS a0 then (bif smS a0 then (bif !(Go.Lib.validD a0) then (bif (((qtF a0).1) == []) == true then (some (.one (.bool (((qtF a0).2) == 1)))) else (some (.one (.bool false)))) else (bif smS ((qtF a0).1) && decide (0 ≤ 1) && decide (1 ≤ 1000) then (bif (!((insF ((qtF a0).1) (Int.toNat 1)).2)) == false then (bif (((qtF a0).2) != 0) == false then (bif smS ((qtF a0).1) then (bif !(Go.Lib.validD ((qtF a0).1)) then (some (.one (.bool false))) else (evLoop (lbC E205 (cdAt Go.Proofs.Tryd.f5 [1, 1, 1, 1, 1, 1, 0, 1, 0, 0]) 10010 n) n (st205_10 a0 ((insF ((qtF a0).1) (Int.toNat 1)).1) ((insF ((qtF a0).1) (Int.toNat 1)).1) (List.length ((insF ((qtF a0).1) (Int.toNat 1)).1) : Int) 0) (blockK 0 (seqK (evCode E205 n (cdAt Go.Proofs.Tryd.f5 [1, 1, 1, 1, 1, 1, 1])) (retK Go.Proofs.Tryd.f5.results.toList))))) else none) else (some (.one (.bool false)))) else (some (.one (.bool false)))) else none)) else none) else none := by
  kernel_rfl
theorem lb205_10_eq (n : Nat) (x0 : List UInt8) (x5 : List Int) (x42 : List Int) (x43 : Int) (x44 : Int) (K : Ex → S6 → Option E6) : lbC E205 (cdAt Go.Proofs.Tryd.f5 [1, 1, 1, 1, 1, 1, 0, 1, 0, 0]) 10010 n (st205_10 x0 x5 x42 x43 x44) K =
    bif decide (x44 < x43) then (match idx x42 x44 with | none => none | some y1 => (bif (decide (y1 < 32)) == false then (bif (y1 == 127) == false then (bif decide (y1 > 65535) then (K .ret ⟨[(2, .one (.bool false))], []⟩) else (K .normal (st205_10 x0 x5 x42 x43 (IntKind.wrap .i64 (x44 + 1))))) else (K .ret ⟨[(2, .one (.bool false))], []⟩)) else (K .ret ⟨[(2, .one (.bool false))], []⟩))) else (K (.exit 0) ⟨[(0, .one (.str x0)), (5, .one (.sl .i32 x5 (some 1028))), (42, .one (.sl .i32 x42 (some 1028))), (43, .one (.int .i64 x43)), (44, .one (.int .i64 x44)), (45, .one (.bool (decide (x44 < x43))))], [1028]⟩) := by
  kernel_rfl
theorem ex205_10_0 (n : Nat) (x0 : List UInt8) (x5 : List Int) (x42 : List Int) (x43 : Int) (x44 : Int) (x45 : Bool) : (blockK 0 (seqK (evCode E205 n (cdAt Go.Proofs.Tryd.f5 [1, 1, 1, 1, 1, 1, 1])) (retK Go.Proofs.Tryd.f5.results.toList))) (.exit 0) ⟨[(0, .one (.str x0)), (5, .one (.sl .i32 x5 (some 1028))), (42, .one (.sl .i32 x42 (some 1028))), (43, .one (.int .i64 x43)), (44, .one (.int .i64 x44)), (45, .one (.bool x45))], [1028]⟩ =
    bif lim4 x5 then (bif (((quotedF x5).1) == x0) == true then (some (.one (.bool (((quotedF x5).2) == 0)))) else (some (.one (.bool false)))) else none := by
  kernel_rfl

/- pergola/pergolalaw06.StrvalIndented -/
def dr206 : Nat → List Nat := fun r => match r with
  | 0 => [4]
  | 1 => [12]
  | 2 => [0, 1, 13]
  | 3 => [13, 14, 15, 16, 17, 18]
  | 4 => [6, 19, 20, 21, 22, 23, 24]
  | 5 => [0, 1, 5, 25]
  | 6 => [5, 25, 26, 27, 28, 29, 30]
  | 7 => [8, 31]
  | 8 => [0, 1, 7, 32]
  | 9 => [1, 7, 32, 33, 34, 35, 36, 37, 38, 39]
  | 10 => [9, 40, 41, 42, 43, 44, 45]
  | 11 => [0, 10, 11, 46, 47, 48, 49, 50, 51, 52]
  | _ => []
def T206 : T6 := fun f ls => match f with
  | 9 => S209 ls
  | 11 => S18 ls
  | 12 => S212 ls
  | 13 => S22 ls
  | 17 => S217 ls
  | 18 => S218 ls
  | 19 => S219 ls
  | _ => none
def cn206 : FuncId → Option Nat := fun f => match f with

  | _ => none
def E206 : Env Ty6 den6 := mk6 T206 cn206 dr206 53
theorem ev206 (n : Nat) (a0 : List UInt8) (a1 : Int) : evFn E206 n Go.Proofs.Tryd.f6 [.str a0, .int .u8 a1] =
    bif smS a0 then (bif (!((btF a0).2)) == false then (bif smS ((btF a0).1) && smS [34, 34, 34, 10] then (bif !(Go.Lib.hasPrefix ((btF a0).1) [34, 34, 34, 10]) then (some (.one (.bool true))) else (bif smS ((btF a0).1) && decide (0 ≤ 3) && decide (3 ≤ 1000) then (bif !((insF ((btF a0).1) (Int.toNat 3)).2) then (some (.one (.bool false))) else (bif decide (List.length [32] ≤ 1) && decide (0 ≤ (IntKind.wrap .i64 a1)) && decide ((IntKind.wrap .i64 a1) ≤ 1000) then (bif decide (List.length [10] + List.length (Go.Lib.repeatL [32] (Int.toNat (IntKind.wrap .i64 a1))) ≤ 9223372036854775807) then (bif raOk (runesB ((insF ((btF a0).1) (Int.toNat 3)).1)) [10] ([10] ++ (Go.Lib.repeatL [32] (Int.toNat (IntKind.wrap .i64 a1)))) then (bif room (List.length (Go.Lib.replaceAll (runesB ((insF ((btF a0).1) (Int.toNat 3)).1)) [10] ([10] ++ (Go.Lib.repeatL [32] (Int.toNat (IntKind.wrap .i64 a1)))))) 1 then (bif smL (runes6 (Go.Lib.replaceAll (runesB ((insF ((btF a0).1) (Int.toNat 3)).1)) [10] ([10] ++ (Go.Lib.repeatL [32] (Int.toNat (IntKind.wrap .i64 a1)))))) then (bif (((blockF (runes6 (Go.Lib.replaceAll (runesB ((insF ((btF a0).1) (Int.toNat 3)).1)) [10] ([10] ++ (Go.Lib.repeatL [32] (Int.toNat (IntKind.wrap .i64 a1))))))).1) == a0) == true then (some (.one (.bool (((blockF (runes6 (Go.Lib.replaceAll (runesB ((insF ((btF a0).1) (Int.toNat 3)).1)) [10] ([10] ++ (Go.Lib.repeatL [32] (Int.toNat (IntKind.wrap .i64 a1))))))).2) == 0)))) else (some (.one (.bool false)))) else none) else none) else none) else none) else none)) else none)) else none) else (some (.one (.bool true)))) else none := by
  kernel_rfl

end Go.Aev
end
