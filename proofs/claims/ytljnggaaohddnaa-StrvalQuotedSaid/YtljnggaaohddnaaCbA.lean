/- Proved here: lemmas of an evaluator over the model's code that the claim's text uses (G6 P17 P18 P19). Conditions: those that each lemma states. -/
import Derived.Test.YtljnggaaohddnaaCevE
import Derived.Test.YtljnggaaohddnaaCqB
section
set_option linter.unusedVariables false
namespace Go.Aev
open Go.Proofs
/- pergola/strval.quotes -/
def dr51 : Nat → List Nat := fun r => match r with
  | 0 => [2]
  | 1 => [0, 3, 4, 5, 6, 7, 8, 9, 10, 11, 12, 13, 14, 15, 16, 17, 18, 19, 20, 21, 22, 23]
  | _ => []
def T51 : T6 := fun f ls => match f with

  | _ => none
def cn51 : FuncId → Option Nat := fun f => match f with

  | _ => none
def E51 : Env Ty6 den6 := mk6 T51 cn51 dr51 24
theorem ev51 (n : Nat) (a0 : List Int) : evFn E51 n Go.Proofs.Try.f51 [.sl .i32 a0 none] =
    bif (decide ((List.length a0 : Int) ≥ 3)) == true then (match idx a0 0 with | none => none | some y1 => (bif (y1 == 34) == true then (match idx a0 1 with | none => none | some y2 => (bif (y2 == 34) == true then (match idx a0 2 with | none => none | some y3 => (some (.one (.bool (y3 == 34))))) else (some (.one (.bool false))))) else (some (.one (.bool false))))) else (some (.one (.bool false))) := by
  kernel_rfl

/- pergola/utf.ends -/
def dr52 : Nat → List Nat := fun r => match r with
  | 0 => [4]
  | 1 => [5, 6, 7]
  | 2 => [10]
  | 3 => [0, 1, 8, 9]
  | 4 => [8, 9, 12]
  | 5 => [0, 1, 11, 13, 14, 15, 16, 17, 18, 19, 20, 21, 22, 23, 24, 25]
  | 6 => [0, 1, 11]
  | _ => []
def T52 : T6 := fun f ls => match f with

  | _ => none
def cn52 : FuncId → Option Nat := fun f => match f with

  | _ => none
def E52 : Env Ty6 den6 := mk6 T52 cn52 dr52 26
theorem ev52 (n : Nat) (a0 : List Int) (a1 : Int) : evFn E52 n Go.Proofs.Try.f52 [.sl .i32 a0 none, .int .i64 a1] =
    match idx a0 a1 with | none => none | some y1 => (bif y1 == 10 then (some (.one (.bool true))) else (bif y1 == 13 then (bif ((IntKind.wrap .i64 (a1 + 1)) == (List.length a0 : Int)) == false then (match idx a0 (IntKind.wrap .i64 (a1 + 1)) with | none => none | some y2 => (some (.one (.bool (y2 != 10))))) else (some (.one (.bool true)))) else (some (.one (.bool false))))) := by
  kernel_rfl

/- pergola/pergolaref06.escaped -/
def dr54 : Nat → List Nat := fun r => match r with
  | 0 => [4]
  | 1 => [0, 1, 5, 6, 7, 8, 9, 10, 11, 12, 13, 14, 15, 16, 17, 18, 19, 20, 21, 22, 23, 24, 25, 26, 27, 28, 29, 30, 31, 32, 33, 34, 35, 36, 37, 38, 39, 40]
  | _ => []
def T54 : T6 := fun f ls => match f with

  | _ => none
def cn54 : FuncId → Option Nat := fun f => match f with

  | _ => none
def E54 : Env Ty6 den6 := mk6 T54 cn54 dr54 41
theorem ev54 (n : Nat) (a0 : List Int) (a1 : Int) : evFn E54 n Go.Proofs.Try.f54 [.sl .i32 a0 none, .int .i64 a1] =
    bif (decide ((IntKind.wrap .i64 (a1 + 3)) < (List.length a0 : Int))) == true then (match idx a0 a1 with | none => none | some y1 => (bif (y1 == 92) == true then (match idx a0 (IntKind.wrap .i64 (a1 + 1)) with | none => none | some y2 => (bif (y2 == 34) == true then (match idx a0 (IntKind.wrap .i64 (a1 + 2)) with | none => none | some y3 => (bif (y3 == 34) == true then (match idx a0 (IntKind.wrap .i64 (a1 + 3)) with | none => none | some y4 => (some (.one (.bool (y4 == 34))))) else (some (.one (.bool false))))) else (some (.one (.bool false))))) else (some (.one (.bool false))))) else (some (.one (.bool false))) := by
  kernel_rfl

/- pergola/strval.unmasked -/
def dr36 : Nat → List Nat := fun r => match r with
  | 0 => [2, 3]
  | 4 => [8, 9, 10]
  | 5 => [12, 13]
  | 6 => [5, 11, 14, 15, 16, 17]
  | 7 => [18, 19, 20, 21, 33]
  | 8 => [7, 22]
  | 9 => [24, 25, 26, 27, 28, 29, 30, 31, 32]
  | 10 => [0, 4, 6, 7, 23]
  | 11 => [23, 34, 35, 36, 37, 38, 39, 40, 41, 42]
  | 12 => [7, 33, 43, 44, 45]
  | 14 => [46, 47]
  | 15 => [0, 4, 5, 6, 11, 48, 49, 50, 51, 52, 53, 54]
  | _ => []
def T36 : T6 := fun f ls => match f with
  | 32 => S32 ls
  | 51 => S51 ls
  | _ => none
def cn36 : FuncId → Option Nat := fun f => match f with

  | _ => none
def E36 : Env Ty6 den6 := mk6 T36 cn36 dr36 55
def st36_4 (x0 : List Int) (x4 : List Int) (x5 : Int) (x6 : Int) : S6 := ⟨[(0, .one (.sl .i32 x0 none)), (4, .one (.sl .i32 x4 (some 104))), (5, .one (.int .i32 x5)), (6, .one (.int .i64 x6))], [104]⟩
theorem ev36 (n : Nat) (a0 : List Int) : evFn E36 n Go.Proofs.Try.f36 [.sl .i32 a0 none] =
    evLoop (lbC E36 (cdAt Go.Proofs.Try.f36 [1, 1, 1, 0, 1, 0, 0]) 10004 n) n (st36_4 a0 [] 0 0) (blockK 0 (seqK (evCode E36 n (cdAt Go.Proofs.Try.f36 [1, 1, 1, 1])) (retK Go.Proofs.Try.f36.results.toList))) := by
  kernel_rfl
theorem lb36_4_eq (n : Nat) (x0 : List Int) (x4 : List Int) (x5 : Int) (x6 : Int) (K : Ex → S6 → Option E6) : lbC E36 (cdAt Go.Proofs.Try.f36 [1, 1, 1, 0, 1, 0, 0]) 10004 n (st36_4 x0 x4 x5 x6) K =
    bif decide (x6 < (List.length x0 : Int)) then (match idx x0 x6 with | none => none | some y1 => (bif (!(sourceF y1)) == false then (match sub x0 x6 (List.length x0 : Int) with | none => none | some y2 => (bif lim4 y2 then (bif quotesF y2 then (K .ret ⟨[(2, .one (.sl .i32 [] (some 102))), (3, .one (.bool false))], [102]⟩) else (bif (y1 == 92) == true then (match sub x0 (IntKind.wrap .i64 (x6 + 1)) (List.length x0 : Int) with | none => none | some y3 => (bif lim4 y3 then (bif quotesF y3 then (bif room (List.length x4 + 3) 4 then (K .normal (st36_4 x0 (x4 ++ [34, 34, 34]) 0 (IntKind.wrap .i64 ((IntKind.wrap .i64 (x6 + 3)) + 1)))) else none) else (bif room (List.length x4 + 1) 4 then (K .normal (st36_4 x0 (x4 ++ [y1]) y1 (IntKind.wrap .i64 (x6 + 1)))) else none)) else none)) else (bif room (List.length x4 + 1) 4 then (K .normal (st36_4 x0 (x4 ++ [y1]) y1 (IntKind.wrap .i64 (x6 + 1)))) else none))) else none)) else (K .ret ⟨[(2, .one (.sl .i32 [] (some 102))), (3, .one (.bool false))], [102]⟩))) else (K (.exit 0) ⟨[(0, .one (.sl .i32 x0 none)), (4, .one (.sl .i32 x4 (some 104))), (5, .one (.int .i32 x5)), (6, .one (.int .i64 x6)), (11, .one (.bool (decide (x6 < (List.length x0 : Int)))))], [104]⟩) := by
  kernel_rfl
theorem ex36_4_0 (n : Nat) (x0 : List Int) (x4 : List Int) (x5 : Int) (x6 : Int) (x11 : Bool) : (blockK 0 (seqK (evCode E36 n (cdAt Go.Proofs.Try.f36 [1, 1, 1, 1])) (retK Go.Proofs.Try.f36.results.toList))) (.exit 0) ⟨[(0, .one (.sl .i32 x0 none)), (4, .one (.sl .i32 x4 (some 104))), (5, .one (.int .i32 x5)), (6, .one (.int .i64 x6)), (11, .one (.bool x11))], [104]⟩ =
    bif (x5 != 34) == true then (some (.tup [.sl .i32 x4 (some 1), .bool (x5 != 92)])) else (some (.tup [.sl .i32 x4 (some 1), .bool false])) := by
  kernel_rfl

/- pergola/utf.Lines -/
def dr37 : Nat → List Nat := fun r => match r with
  | 0 => [2]
  | 5 => [10, 11, 12, 13]
  | 6 => [6, 14, 15, 16, 17, 26]
  | 7 => [5, 19, 20, 21]
  | 8 => [4, 6, 18, 22, 23, 24, 25]
  | 10 => [18, 27, 28]
  | 11 => [6, 26, 29]
  | 12 => [0, 3, 4, 7, 8, 9, 10, 30, 31, 32, 33]
  | _ => []
def T37 : T6 := fun f ls => match f with
  | 52 => S52 ls
  | _ => none
def cn37 : FuncId → Option Nat := fun f => match f with

  | _ => none
def E37 : Env Ty6 den6 := mk6 T37 cn37 dr37 34
def st37_4 (x0 : List Int) (x3 : List (List Int)) (x4 : List Int) (x7 : List Int) (x8 : Int) (x9 : Int) : S6 := ⟨[(0, .one (.sl .i32 x0 none)), (3, .one (.sl .rs x3 (some 103))), (4, .one (.sl .i32 x4 (some 104))), (7, .one (.sl .i32 x7 none)), (8, .one (.int .i64 x8)), (9, .one (.int .i64 x9))], [103, 104]⟩
theorem ev37 (n : Nat) (a0 : List Int) : evFn E37 n Go.Proofs.Try.f37 [.sl .i32 a0 none] =
    evLoop (lbC E37 (cdAt Go.Proofs.Try.f37 [1, 1, 1, 0, 1, 0, 0]) 10004 n) n (st37_4 a0 [] [] a0 (List.length a0 : Int) 0) (blockK 0 (seqK (evCode E37 n (cdAt Go.Proofs.Try.f37 [1, 1, 1, 1])) (retK Go.Proofs.Try.f37.results.toList))) := by
  kernel_rfl
theorem lb37_4_eq (n : Nat) (x0 : List Int) (x3 : List (List Int)) (x4 : List Int) (x7 : List Int) (x8 : Int) (x9 : Int) (K : Ex → S6 → Option E6) : lbC E37 (cdAt Go.Proofs.Try.f37 [1, 1, 1, 0, 1, 0, 0]) 10004 n (st37_4 x0 x3 x4 x7 x8 x9) K =
    bif decide (x9 < x8) then (match idx x7 x9 with | none => none | some y1 => (bif lim4 x0 && decide (0 ≤ x9) && decide (x9 < (List.length x0 : Int)) then (bif endsF (List.drop (Int.toNat x9) x0) then (bif room (List.length x3 + 1) 24 then (K .normal (st37_4 x0 (x3 ++ [x4]) [] x7 x8 (IntKind.wrap .i64 (x9 + 1)))) else none) else (bif y1 == 13 then (K .normal (st37_4 x0 x3 x4 x7 x8 (IntKind.wrap .i64 (x9 + 1)))) else (bif room (List.length x4 + 1) 4 then (K .normal (st37_4 x0 x3 (x4 ++ [y1]) x7 x8 (IntKind.wrap .i64 (x9 + 1)))) else none))) else none)) else (K (.exit 0) ⟨[(0, .one (.sl .i32 x0 none)), (3, .one (.sl .rs x3 (some 103))), (4, .one (.sl .i32 x4 (some 104))), (7, .one (.sl .i32 x7 none)), (8, .one (.int .i64 x8)), (9, .one (.int .i64 x9)), (10, .one (.bool (decide (x9 < x8))))], [103, 104]⟩) := by
  kernel_rfl
theorem ex37_4_0 (n : Nat) (x0 : List Int) (x3 : List (List Int)) (x4 : List Int) (x7 : List Int) (x8 : Int) (x9 : Int) (x10 : Bool) : (blockK 0 (seqK (evCode E37 n (cdAt Go.Proofs.Try.f37 [1, 1, 1, 1])) (retK Go.Proofs.Try.f37.results.toList))) (.exit 0) ⟨[(0, .one (.sl .i32 x0 none)), (3, .one (.sl .rs x3 (some 103))), (4, .one (.sl .i32 x4 (some 104))), (7, .one (.sl .i32 x7 none)), (8, .one (.int .i64 x8)), (9, .one (.int .i64 x9)), (10, .one (.bool x10))], [103, 104]⟩ =
    bif room (List.length x3 + 1) 24 then (some (.one (.sl .rs (x3 ++ [x4]) (some 1)))) else none := by
  kernel_rfl

/- pergola/pergolaref06.standing -/
def dr38 : Nat → List Nat := fun r => match r with
  | 0 => [2]
  | 4 => [8, 9, 10]
  | 5 => [4, 11, 12, 13, 14, 15, 16]
  | 6 => [6, 17]
  | 7 => [0, 3, 5, 18]
  | 8 => [18, 19, 20, 21]
  | 9 => [7]
  | 10 => [22]
  | 12 => [23, 24]
  | 13 => [22, 25, 26, 27, 28]
  | 14 => [29]
  | 15 => [30, 31, 32]
  | 16 => [30]
  | 17 => [33]
  | 18 => [0, 3, 4, 5, 34]
  | 19 => [34, 35, 36]
  | 20 => [0, 3, 4, 5, 11, 37, 38, 39, 40, 41, 42]
  | _ => []
def T38 : T6 := fun f ls => match f with
  | 53 => S53 ls
  | 54 => S54 ls
  | _ => none
def cn38 : FuncId → Option Nat := fun f => match f with

  | _ => none
def E38 : Env Ty6 den6 := mk6 T38 cn38 dr38 43
def st38_4 (x0 : List Int) (x3 : Int) (x4 : Int) (x5 : Int) : S6 := ⟨[(0, .one (.sl .i32 x0 none)), (3, .one (.int .i64 x3)), (4, .one (.int .i32 x4)), (5, .one (.int .i64 x5))], []⟩
theorem ev38 (n : Nat) (a0 : List Int) : evFn E38 n Go.Proofs.Try.f38 [.sl .i32 a0 none] =
    evLoop (lbC E38 (cdAt Go.Proofs.Try.f38 [1, 1, 1, 1, 0, 0, 0]) 10004 n) n (st38_4 a0 0 0 0) (blockK 0 (seqK (evCode E38 n (cdAt Go.Proofs.Try.f38 [1, 1, 1, 1, 1])) (retK Go.Proofs.Try.f38.results.toList))) := by
  kernel_rfl
theorem lb38_4_eq (n : Nat) (x0 : List Int) (x3 : Int) (x4 : Int) (x5 : Int) (K : Ex → S6 → Option E6) : lbC E38 (cdAt Go.Proofs.Try.f38 [1, 1, 1, 1, 0, 0, 0]) 10004 n (st38_4 x0 x3 x4 x5) K =
    bif decide (x5 < (List.length x0 : Int)) then (match idx x0 x5 with | none => none | some y1 => (bif !(sourceF y1) then (K .ret ⟨[(2, .one (.bool false))], []⟩) else (bif lim4 x0 && decide (0 ≤ x5) && decide (x5 < (List.length x0 : Int)) then (bif isEsc (List.drop (Int.toNat x5) x0) then (K .normal (st38_4 x0 0 0 (IntKind.wrap .i64 (x5 + 4)))) else (match idx x0 x5 with | none => none | some y2 => (bif y2 == 34 then (bif (IntKind.wrap .i64 (x3 + 1)) == 3 then (K .ret ⟨[(2, .one (.bool false))], []⟩) else (K .normal (st38_4 x0 (IntKind.wrap .i64 (x3 + 1)) y2 (IntKind.wrap .i64 (x5 + 1))))) else (K .normal (st38_4 x0 0 y2 (IntKind.wrap .i64 (x5 + 1))))))) else none))) else (K (.exit 0) ⟨[(0, .one (.sl .i32 x0 none)), (3, .one (.int .i64 x3)), (4, .one (.int .i32 x4)), (5, .one (.int .i64 x5)), (11, .one (.bool (decide (x5 < (List.length x0 : Int)))))], []⟩) := by
  kernel_rfl
theorem ex38_4_0 (n : Nat) (x0 : List Int) (x3 : Int) (x4 : Int) (x5 : Int) (x11 : Bool) : (blockK 0 (seqK (evCode E38 n (cdAt Go.Proofs.Try.f38 [1, 1, 1, 1, 1])) (retK Go.Proofs.Try.f38.results.toList))) (.exit 0) ⟨[(0, .one (.sl .i32 x0 none)), (3, .one (.int .i64 x3)), (4, .one (.int .i32 x4)), (5, .one (.int .i64 x5)), (11, .one (.bool x11))], []⟩ =
    bif (x4 != 34) == true then (some (.one (.bool (x4 != 92)))) else (some (.one (.bool false))) := by
  kernel_rfl

/- pergola/pergolaref01.Lines -/
def dr39 : Nat → List Nat := fun r => match r with
  | 0 => [2]
  | 2 => [8, 9]
  | 4 => [10, 11, 12]
  | 5 => [14, 15]
  | 6 => [13, 16, 17]
  | 7 => [18, 19, 20, 21]
  | 8 => [22, 23, 24, 25, 26, 27, 28]
  | 9 => [29, 30, 31, 32, 33, 34, 35, 36, 37, 38, 39, 40, 41, 42, 43, 44, 45, 46, 47, 48]
  | 10 => [49, 50, 51]
  | 11 => [22, 49, 52, 53, 54, 55, 56, 57, 58]
  | 12 => [6, 59, 60, 61, 62, 63, 64, 65, 66, 67]
  | 13 => [7, 68, 69, 70, 71]
  | 14 => [0, 3, 4, 5, 13, 72]
  | _ => []
def T39 : T6 := fun f ls => match f with
  | 55 => S55 ls
  | _ => none
def cn39 : FuncId → Option Nat := fun f => match f with

  | _ => none
def E39 : Env Ty6 den6 := mk6 T39 cn39 dr39 73
def st39_4 (x0 : List Int) (x3 : List (List Int)) (x4 : List Int) (x5 : Int) : S6 := ⟨[(0, .one (.sl .i32 x0 none)), (3, .one (.sl .rs x3 (some 103))), (4, .one (.sl .i64 x4 (some 1009))), (5, .one (.int .i64 x5))], [103, 1009]⟩
theorem ev39 (n : Nat) (a0 : List Int) : evFn E39 n Go.Proofs.Try.f39 [.sl .i32 a0 none] =
    bif smL a0 then (evLoop (lbC E39 (cdAt Go.Proofs.Try.f39 [1, 1, 1, 0, 1, 0, 0]) 10004 n) n (st39_4 a0 [] (startsF a0) 0) (blockK 0 (seqK (evCode E39 n (cdAt Go.Proofs.Try.f39 [1, 1, 1, 1])) (retK Go.Proofs.Try.f39.results.toList)))) else none := by
  kernel_rfl
theorem lb39_4_eq (n : Nat) (x0 : List Int) (x3 : List (List Int)) (x4 : List Int) (x5 : Int) (K : Ex → S6 → Option E6) : lbC E39 (cdAt Go.Proofs.Try.f39 [1, 1, 1, 0, 1, 0, 0]) 10004 n (st39_4 x0 x3 x4 x5) K =
    bif decide (x5 < (List.length x4 : Int)) then (bif decide ((IntKind.wrap .i64 (x5 + 1)) < (List.length x4 : Int)) then (match idx x4 (IntKind.wrap .i64 (x5 + 1)) with | none => none | some y1 => (match idx x0 (IntKind.wrap .i64 (y1 - 1)) with | none => none | some y2 => (bif (y2 == 10) == true then (match idx x4 x5 with | none => none | some y3 => (bif (decide ((IntKind.wrap .i64 (y1 - 1)) > y3)) == true then (match idx x0 (IntKind.wrap .i64 ((IntKind.wrap .i64 (y1 - 1)) - 1)) with | none => none | some y4 => (bif y4 == 13 then (match idx x4 x5 with | none => none | some y5 => (bif decide (0 ≤ (IntKind.wrap .i64 ((IntKind.wrap .i64 ((IntKind.wrap .i64 (y1 - 1)) - 1)) - y5))) && room (Int.toNat (IntKind.wrap .i64 ((IntKind.wrap .i64 ((IntKind.wrap .i64 (y1 - 1)) - 1)) - y5))) 4 then (match idx x4 x5 with | none => none | some y6 => (match sub x0 y6 (IntKind.wrap .i64 ((IntKind.wrap .i64 (y1 - 1)) - 1)) with | none => none | some y7 => (bif room (0 + List.length y7) 4 then (bif room (List.length x3 + 1) 24 then (K .normal (st39_4 x0 (x3 ++ [y7]) x4 (IntKind.wrap .i64 (x5 + 1)))) else none) else none))) else none)) else (match idx x4 x5 with | none => none | some y8 => (bif decide (0 ≤ (IntKind.wrap .i64 ((IntKind.wrap .i64 (y1 - 1)) - y8))) && room (Int.toNat (IntKind.wrap .i64 ((IntKind.wrap .i64 (y1 - 1)) - y8))) 4 then (match idx x4 x5 with | none => none | some y9 => (match sub x0 y9 (IntKind.wrap .i64 (y1 - 1)) with | none => none | some y10 => (bif room (0 + List.length y10) 4 then (bif room (List.length x3 + 1) 24 then (K .normal (st39_4 x0 (x3 ++ [y10]) x4 (IntKind.wrap .i64 (x5 + 1)))) else none) else none))) else none)))) else (match idx x4 x5 with | none => none | some y11 => (bif decide (0 ≤ (IntKind.wrap .i64 ((IntKind.wrap .i64 (y1 - 1)) - y11))) && room (Int.toNat (IntKind.wrap .i64 ((IntKind.wrap .i64 (y1 - 1)) - y11))) 4 then (match idx x4 x5 with | none => none | some y12 => (match sub x0 y12 (IntKind.wrap .i64 (y1 - 1)) with | none => none | some y13 => (bif room (0 + List.length y13) 4 then (bif room (List.length x3 + 1) 24 then (K .normal (st39_4 x0 (x3 ++ [y13]) x4 (IntKind.wrap .i64 (x5 + 1)))) else none) else none))) else none)))) else (match idx x4 x5 with | none => none | some y14 => (bif decide (0 ≤ (IntKind.wrap .i64 ((IntKind.wrap .i64 (y1 - 1)) - y14))) && room (Int.toNat (IntKind.wrap .i64 ((IntKind.wrap .i64 (y1 - 1)) - y14))) 4 then (match idx x4 x5 with | none => none | some y15 => (match sub x0 y15 (IntKind.wrap .i64 (y1 - 1)) with | none => none | some y16 => (bif room (0 + List.length y16) 4 then (bif room (List.length x3 + 1) 24 then (K .normal (st39_4 x0 (x3 ++ [y16]) x4 (IntKind.wrap .i64 (x5 + 1)))) else none) else none))) else none))))) else (match idx x4 x5 with | none => none | some y17 => (bif decide (0 ≤ (IntKind.wrap .i64 ((List.length x0 : Int) - y17))) && room (Int.toNat (IntKind.wrap .i64 ((List.length x0 : Int) - y17))) 4 then (match idx x4 x5 with | none => none | some y18 => (match sub x0 y18 (List.length x0 : Int) with | none => none | some y19 => (bif room (0 + List.length y19) 4 then (bif room (List.length x3 + 1) 24 then (K .normal (st39_4 x0 (x3 ++ [y19]) x4 (IntKind.wrap .i64 (x5 + 1)))) else none) else none))) else none))) else (K (.exit 0) ⟨[(0, .one (.sl .i32 x0 none)), (3, .one (.sl .rs x3 (some 103))), (4, .one (.sl .i64 x4 (some 1009))), (5, .one (.int .i64 x5)), (13, .one (.bool (decide (x5 < (List.length x4 : Int)))))], [103, 1009]⟩) := by
  kernel_rfl
theorem ex39_4_0 (n : Nat) (x0 : List Int) (x3 : List (List Int)) (x4 : List Int) (x5 : Int) (x13 : Bool) : (blockK 0 (seqK (evCode E39 n (cdAt Go.Proofs.Try.f39 [1, 1, 1, 1])) (retK Go.Proofs.Try.f39.results.toList))) (.exit 0) ⟨[(0, .one (.sl .i32 x0 none)), (3, .one (.sl .rs x3 (some 103))), (4, .one (.sl .i64 x4 (some 1009))), (5, .one (.int .i64 x5)), (13, .one (.bool x13))], [103, 1009]⟩ =
    some (.one (.sl .rs x3 (some 1))) := by
  kernel_rfl

/- pergola/pergolaref06.opened -/
def dr40 : Nat → List Nat := fun r => match r with
  | 0 => [2]
  | 3 => [6, 7, 8]
  | 4 => [9, 10, 11, 12]
  | 5 => [5]
  | 6 => [13, 14, 15]
  | 7 => [16, 17, 18]
  | 8 => [19, 20]
  | 9 => [13, 21, 22, 23, 24, 25, 26, 27]
  | 10 => [28, 29]
  | 11 => [0, 3, 4, 9, 30]
  | _ => []
def T40 : T6 := fun f ls => match f with
  | 54 => S54 ls
  | _ => none
def cn40 : FuncId → Option Nat := fun f => match f with

  | _ => none
def E40 : Env Ty6 den6 := mk6 T40 cn40 dr40 31
def st40_3 (x0 : List Int) (x3 : List Int) (x4 : Int) : S6 := ⟨[(0, .one (.sl .i32 x0 none)), (3, .one (.sl .i32 x3 (some 103))), (4, .one (.int .i64 x4))], [103]⟩
theorem ev40 (n : Nat) (a0 : List Int) : evFn E40 n Go.Proofs.Try.f40 [.sl .i32 a0 none] =
    evLoop (lbC E40 (cdAt Go.Proofs.Try.f40 [1, 1, 1, 0, 0, 0]) 10003 n) n (st40_3 a0 [] 0) (blockK 0 (seqK (evCode E40 n (cdAt Go.Proofs.Try.f40 [1, 1, 1, 1])) (retK Go.Proofs.Try.f40.results.toList))) := by
  kernel_rfl
theorem lb40_3_eq (n : Nat) (x0 : List Int) (x3 : List Int) (x4 : Int) (K : Ex → S6 → Option E6) : lbC E40 (cdAt Go.Proofs.Try.f40 [1, 1, 1, 0, 0, 0]) 10003 n (st40_3 x0 x3 x4) K =
    bif decide (x4 < (List.length x0 : Int)) then (bif lim4 x0 && decide (0 ≤ x4) && decide (x4 < (List.length x0 : Int)) then (bif isEsc (List.drop (Int.toNat x4) x0) then (bif room (List.length x3 + 3) 4 then (K .normal (st40_3 x0 (x3 ++ [34, 34, 34]) (IntKind.wrap .i64 ((IntKind.wrap .i64 (x4 + 1)) + 3)))) else none) else (match idx x0 x4 with | none => none | some y1 => (bif room (List.length x3 + 1) 4 then (K .normal (st40_3 x0 (x3 ++ [y1]) (IntKind.wrap .i64 (x4 + 1)))) else none))) else none) else (K (.exit 0) ⟨[(0, .one (.sl .i32 x0 none)), (3, .one (.sl .i32 x3 (some 103))), (4, .one (.int .i64 x4)), (9, .one (.bool (decide (x4 < (List.length x0 : Int)))))], [103]⟩) := by
  kernel_rfl
theorem ex40_3_0 (n : Nat) (x0 : List Int) (x3 : List Int) (x4 : Int) (x9 : Bool) : (blockK 0 (seqK (evCode E40 n (cdAt Go.Proofs.Try.f40 [1, 1, 1, 1])) (retK Go.Proofs.Try.f40.results.toList))) (.exit 0) ⟨[(0, .one (.sl .i32 x0 none)), (3, .one (.sl .i32 x3 (some 103))), (4, .one (.int .i64 x4)), (9, .one (.bool x9))], [103]⟩ =
    some (.one (.sl .i32 x3 (some 1))) := by
  kernel_rfl

/- pergola/pergolaref01.Starts -/
def dr55 : Nat → List Nat := fun r => match r with
  | 0 => [2]
  | 1 => [5]
  | 3 => [6, 7, 8]
  | 4 => [10, 11, 23, 43]
  | 5 => [9, 12, 13, 14, 15, 16, 17, 18, 19, 20, 21, 22]
  | 6 => [23, 24, 25, 26, 27, 28, 29, 30, 31, 32, 33, 34, 35, 36, 37, 38, 39, 40, 41, 42]
  | 7 => [43, 44, 45, 46, 47, 48]
  | 8 => [0, 3, 4, 9, 49]
  | _ => []
def T55 : T6 := fun f ls => match f with

  | _ => none
def cn55 : FuncId → Option Nat := fun f => match f with

  | _ => none
def E55 : Env Ty6 den6 := mk6 T55 cn55 dr55 50
def st55_3 (x0 : List Int) (x3 : List Int) (x4 : Int) : S6 := ⟨[(0, .one (.sl .i32 x0 none)), (3, .one (.sl .i64 x3 (some 105))), (4, .one (.int .i64 x4))], [105]⟩
theorem ev55 (n : Nat) (a0 : List Int) : evFn E55 n Go.Proofs.Try.f55 [.sl .i32 a0 none] =
    evLoop (lbC E55 (cdAt Go.Proofs.Try.f55 [1, 1, 0, 1, 0, 0]) 10003 n) n (st55_3 a0 [0] 0) (blockK 0 (seqK (evCode E55 n (cdAt Go.Proofs.Try.f55 [1, 1, 1])) (retK Go.Proofs.Try.f55.results.toList))) := by
  kernel_rfl
theorem lb55_3_eq (n : Nat) (x0 : List Int) (x3 : List Int) (x4 : Int) (K : Ex → S6 → Option E6) : lbC E55 (cdAt Go.Proofs.Try.f55 [1, 1, 0, 1, 0, 0]) 10003 n (st55_3 x0 x3 x4) K =
    bif decide (x4 < (List.length x0 : Int)) then (match idx x0 x4 with | none => none | some y1 => (bif (y1 != 13) == true then (match idx x0 x4 with | none => none | some y2 => (bif y2 != 10 then (K .normal (st55_3 x0 x3 (IntKind.wrap .i64 (x4 + 1)))) else (match idx x0 x4 with | none => none | some y3 => (bif (y3 == 13) == true then (bif (decide ((IntKind.wrap .i64 (x4 + 1)) < (List.length x0 : Int))) == true then (match idx x0 (IntKind.wrap .i64 (x4 + 1)) with | none => none | some y4 => (bif y4 == 10 then (K .normal (st55_3 x0 x3 (IntKind.wrap .i64 (x4 + 1)))) else (bif room (List.length x3 + 1) 8 then (K .normal (st55_3 x0 (x3 ++ [IntKind.wrap .i64 (x4 + 1)]) (IntKind.wrap .i64 (x4 + 1)))) else none))) else (bif room (List.length x3 + 1) 8 then (K .normal (st55_3 x0 (x3 ++ [IntKind.wrap .i64 (x4 + 1)]) (IntKind.wrap .i64 (x4 + 1)))) else none)) else (bif room (List.length x3 + 1) 8 then (K .normal (st55_3 x0 (x3 ++ [IntKind.wrap .i64 (x4 + 1)]) (IntKind.wrap .i64 (x4 + 1)))) else none))))) else (match idx x0 x4 with | none => none | some y5 => (bif (y5 == 13) == true then (bif (decide ((IntKind.wrap .i64 (x4 + 1)) < (List.length x0 : Int))) == true then (match idx x0 (IntKind.wrap .i64 (x4 + 1)) with | none => none | some y6 => (bif y6 == 10 then (K .normal (st55_3 x0 x3 (IntKind.wrap .i64 (x4 + 1)))) else (bif room (List.length x3 + 1) 8 then (K .normal (st55_3 x0 (x3 ++ [IntKind.wrap .i64 (x4 + 1)]) (IntKind.wrap .i64 (x4 + 1)))) else none))) else (bif room (List.length x3 + 1) 8 then (K .normal (st55_3 x0 (x3 ++ [IntKind.wrap .i64 (x4 + 1)]) (IntKind.wrap .i64 (x4 + 1)))) else none)) else (bif room (List.length x3 + 1) 8 then (K .normal (st55_3 x0 (x3 ++ [IntKind.wrap .i64 (x4 + 1)]) (IntKind.wrap .i64 (x4 + 1)))) else none))))) else (K (.exit 0) ⟨[(0, .one (.sl .i32 x0 none)), (3, .one (.sl .i64 x3 (some 105))), (4, .one (.int .i64 x4)), (9, .one (.bool (decide (x4 < (List.length x0 : Int)))))], [105]⟩) := by
  kernel_rfl
theorem ex55_3_0 (n : Nat) (x0 : List Int) (x3 : List Int) (x4 : Int) (x9 : Bool) : (blockK 0 (seqK (evCode E55 n (cdAt Go.Proofs.Try.f55 [1, 1, 1])) (retK Go.Proofs.Try.f55.results.toList))) (.exit 0) ⟨[(0, .one (.sl .i32 x0 none)), (3, .one (.sl .i64 x3 (some 105))), (4, .one (.int .i64 x4)), (9, .one (.bool x9))], [105]⟩ =
    some (.one (.sl .i64 x3 (some 1))) := by
  kernel_rfl

/- pergola/strval.Block -/
def dr22 : Nat → List Nat := fun r => match r with
  | 0 => [2, 3]
  | 1 => [0, 11, 12, 13, 14, 15]
  | 2 => [5, 16]
  | 3 => [4, 17]
  | 4 => [17]
  | 5 => [4, 18, 19]
  | 7 => [23, 24, 25, 26]
  | 8 => [7, 27]
  | 9 => [28, 29, 30, 31]
  | 10 => [8, 28, 32, 33, 34]
  | 11 => [35]
  | 12 => [6, 10, 20, 21, 22, 23, 36, 37, 38, 39, 40]
  | 13 => [9, 41]
  | _ => []
def T22 : T6 := fun f ls => match f with
  | 12 => S12 ls
  | 33 => S33 ls
  | 36 => S36 ls
  | 37 => S37 ls
  | _ => none
def cn22 : FuncId → Option Nat := fun f => match f with

  | _ => none
def E22 : Env Ty6 den6 := mk6 T22 cn22 dr22 42
def st22_6 (x6 : List Int) (x20 : List (List Int)) (x21 : Int) (x22 : Int) : S6 := ⟨[(6, .one (.sl .i32 x6 (some 106))), (20, .one (.sl .rs x20 (some 1020))), (21, .one (.int .i64 x21)), (22, .one (.int .i64 x22))], [106, 1020]⟩
theorem ev22 (n : Nat) (a0 : List Int) : evFn E22 n Go.Proofs.Try.f22 [.sl .i32 a0 none] =
    bif smL a0 then (bif !((unmF a0).2) then (some (.tup [.str [], .int .i64 60])) else (bif smL ((unmF a0).1) then (bif limL (linesF ((unmF a0).1)) then (evLoop (lbC E22 (cdAt Go.Proofs.Try.f22 [1, 1, 1, 1, 0, 1, 0, 0]) 10006 n) n (st22_6 [] (dedentF (linesF ((unmF a0).1))) (List.length (dedentF (linesF ((unmF a0).1))) : Int) 0) (blockK 0 (seqK (evCode E22 n (cdAt Go.Proofs.Try.f22 [1, 1, 1, 1, 1])) (retK Go.Proofs.Try.f22.results.toList)))) else none) else none)) else none := by
  kernel_rfl
theorem lb22_6_eq (n : Nat) (x6 : List Int) (x20 : List (List Int)) (x21 : Int) (x22 : Int) (K : Ex → S6 → Option E6) : lbC E22 (cdAt Go.Proofs.Try.f22 [1, 1, 1, 1, 0, 1, 0, 0]) 10006 n (st22_6 x6 x20 x21 x22) K =
    bif decide (x22 < x21) then (match idx x20 x22 with | none => none | some y1 => (bif decide (x22 > 0) then (bif room (List.length x6 + 1) 4 then (bif room (List.length (x6 ++ [10]) + List.length y1) 4 then (K .normal (st22_6 ((x6 ++ [10]) ++ y1) x20 x21 (IntKind.wrap .i64 (x22 + 1)))) else none) else none) else (bif room (List.length x6 + List.length y1) 4 then (K .normal (st22_6 (x6 ++ y1) x20 x21 (IntKind.wrap .i64 (x22 + 1)))) else none))) else (K (.exit 0) ⟨[(6, .one (.sl .i32 x6 (some 106))), (20, .one (.sl .rs x20 (some 1020))), (21, .one (.int .i64 x21)), (22, .one (.int .i64 x22)), (23, .one (.bool (decide (x22 < x21))))], [106, 1020]⟩) := by
  kernel_rfl
theorem ex22_6_0 (n : Nat) (x6 : List Int) (x20 : List (List Int)) (x21 : Int) (x22 : Int) (x23 : Bool) : (blockK 0 (seqK (evCode E22 n (cdAt Go.Proofs.Try.f22 [1, 1, 1, 1, 1])) (retK Go.Proofs.Try.f22.results.toList))) (.exit 0) ⟨[(6, .one (.sl .i32 x6 (some 106))), (20, .one (.sl .rs x20 (some 1020))), (21, .one (.int .i64 x21)), (22, .one (.int .i64 x22)), (23, .one (.bool x23))], [106, 1020]⟩ =
    bif lim4 x6 then (some (.tup [.str ((encF x6).1), .int .i64 0])) else none := by
  kernel_rfl

/- pergola/pergolaref06.Block -/
def dr23 : Nat → List Nat := fun r => match r with
  | 0 => [2, 3]
  | 1 => [14, 15]
  | 2 => [4, 16]
  | 3 => [0, 17]
  | 4 => [0, 17, 18, 19]
  | 7 => [20, 21, 22]
  | 8 => [24, 25]
  | 9 => [23, 26, 27, 28, 29, 30]
  | 10 => [8, 31, 32, 33, 34]
  | 11 => [5, 6, 7, 23, 35, 36]
  | 14 => [37, 38, 39]
  | 15 => [41, 42]
  | 16 => [40, 43]
  | 17 => [44, 45, 46, 47]
  | 18 => [44, 48, 49, 50, 51, 52, 53]
  | 19 => [9, 10, 11, 13, 40, 54, 55, 56, 57, 58]
  | 20 => [12, 59]
  | _ => []
def T23 : T6 := fun f ls => match f with
  | 16 => S16 ls
  | 35 => S35 ls
  | 38 => S38 ls
  | 39 => S39 ls
  | 40 => S40 ls
  | _ => none
def cn23 : FuncId → Option Nat := fun f => match f with

  | _ => none
def E23 : Env Ty6 den6 := mk6 T23 cn23 dr23 60
def st23_7 (x5 : List (List Int)) (x6 : List (List Int)) (x7 : Int) : S6 := ⟨[(5, .one (.sl .rs x5 (some 1019))), (6, .one (.sl .rs x6 (some 106))), (7, .one (.int .i64 x7))], [106, 1019]⟩
def st23_14 (x9 : List (List Int)) (x10 : List Int) (x11 : Int) : S6 := ⟨[(9, .one (.sl .rs x9 none)), (10, .one (.sl .i32 x10 (some 110))), (11, .one (.int .i64 x11))], [110]⟩
theorem ev23 (n : Nat) (a0 : List Int) : evFn E23 n Go.Proofs.Try.f23 [.sl .i32 a0 none] =
    bif smL a0 then (bif !(blockOkF 0 a0) then (some (.tup [.str [], .int .i64 60])) else (bif smL a0 then (evLoop (lbC E23 (cdAt Go.Proofs.Try.f23 [1, 1, 1, 1, 1, 0, 1, 0, 0]) 10007 n) n (st23_7 (linesF a0) [] 0) (blockK 0 (seqK (evCode E23 n (cdAt Go.Proofs.Try.f23 [1, 1, 1, 1, 1, 1])) (retK Go.Proofs.Try.f23.results.toList)))) else none)) else none := by
  kernel_rfl
theorem lb23_7_eq (n : Nat) (x5 : List (List Int)) (x6 : List (List Int)) (x7 : Int) (K : Ex → S6 → Option E6) : lbC E23 (cdAt Go.Proofs.Try.f23 [1, 1, 1, 1, 1, 0, 1, 0, 0]) 10007 n (st23_7 x5 x6 x7) K =
    bif decide (x7 < (List.length x5 : Int)) then (match idx x5 x7 with | none => none | some y1 => (bif smL y1 then (bif room (List.length x6 + 1) 24 then (K .normal (st23_7 x5 (x6 ++ [openF y1]) (IntKind.wrap .i64 (x7 + 1)))) else none) else none)) else (K (.exit 0) ⟨[(5, .one (.sl .rs x5 (some 1019))), (6, .one (.sl .rs x6 (some 106))), (7, .one (.int .i64 x7)), (23, .one (.bool (decide (x7 < (List.length x5 : Int)))))], [106, 1019]⟩) := by
  kernel_rfl
theorem ex23_7_0 (n : Nat) (x5 : List (List Int)) (x6 : List (List Int)) (x7 : Int) (x23 : Bool) : (blockK 0 (seqK (evCode E23 n (cdAt Go.Proofs.Try.f23 [1, 1, 1, 1, 1, 1])) (retK Go.Proofs.Try.f23.results.toList))) (.exit 0) ⟨[(5, .one (.sl .rs x5 (some 1019))), (6, .one (.sl .rs x6 (some 106))), (7, .one (.int .i64 x7)), (23, .one (.bool x23))], [106, 1019]⟩ =
    bif limL x6 then (evLoop (lbC E23 (cdAt Go.Proofs.Try.f23 [1, 1, 1, 1, 1, 1, 1, 1, 0, 1, 0, 0]) 10014 n) n (st23_14 (dedentF x6) [] 0) (blockK 2 (seqK (evCode E23 n (cdAt Go.Proofs.Try.f23 [1, 1, 1, 1, 1, 1, 1, 1, 1])) (retK Go.Proofs.Try.f23.results.toList)))) else none := by
  kernel_rfl
theorem lb23_14_eq (n : Nat) (x9 : List (List Int)) (x10 : List Int) (x11 : Int) (K : Ex → S6 → Option E6) : lbC E23 (cdAt Go.Proofs.Try.f23 [1, 1, 1, 1, 1, 1, 1, 1, 0, 1, 0, 0]) 10014 n (st23_14 x9 x10 x11) K =
    bif decide (x11 < (List.length x9 : Int)) then (bif decide (x11 > 0) then (bif room (List.length x10 + 1) 4 then (match idx x9 x11 with | none => none | some y2 => (bif room (List.length (x10 ++ [10]) + List.length y2) 4 then (K .normal (st23_14 x9 ((x10 ++ [10]) ++ y2) (IntKind.wrap .i64 (x11 + 1)))) else none)) else none) else (match idx x9 x11 with | none => none | some y3 => (bif room (List.length x10 + List.length y3) 4 then (K .normal (st23_14 x9 (x10 ++ y3) (IntKind.wrap .i64 (x11 + 1)))) else none))) else (K (.exit 2) ⟨[(9, .one (.sl .rs x9 none)), (10, .one (.sl .i32 x10 (some 110))), (11, .one (.int .i64 x11)), (40, .one (.bool (decide (x11 < (List.length x9 : Int)))))], [110]⟩) := by
  kernel_rfl
theorem ex23_14_2 (n : Nat) (x9 : List (List Int)) (x10 : List Int) (x11 : Int) (x40 : Bool) : (blockK 2 (seqK (evCode E23 n (cdAt Go.Proofs.Try.f23 [1, 1, 1, 1, 1, 1, 1, 1, 1])) (retK Go.Proofs.Try.f23.results.toList))) (.exit 2) ⟨[(9, .one (.sl .rs x9 none)), (10, .one (.sl .i32 x10 (some 110))), (11, .one (.int .i64 x11)), (40, .one (.bool x40))], [110]⟩ =
    bif lim4 x10 then (some (.tup [.str ((encF x10).1), .int .i64 0])) else none := by
  kernel_rfl

/- pergola/pergolalaw06.reads -/
def dr18 : Nat → List Nat := fun r => match r with
  | 0 => [0]
  | 1 => [3, 4, 5, 6, 7]
  | 2 => [1, 2, 8, 9, 10, 11, 12]
  | 3 => [13]
  | 4 => [13, 14, 15, 16, 17, 18]
  | 5 => [1, 2, 19, 20, 21, 22, 23, 24]
  | _ => []
def T18 : T6 := fun f ls => match f with
  | 13 => S13 ls
  | 19 => S19 ls
  | 22 => S22 ls
  | _ => none
def cn18 : FuncId → Option Nat := fun f => match f with

  | _ => none
def E18 : Env Ty6 den6 := mk6 T18 cn18 dr18 25
theorem ev18 (n : Nat)  : evFn E18 n Go.Proofs.Try.f18 [] =
    bif room (List.length [92, 117, 48, 48, 52, 49, 92, 110, 92, 117, 68, 56, 51, 68, 92, 117, 68, 69, 48, 48]) 1 then (bif lim4 (runes6 [92, 117, 48, 48, 52, 49, 92, 110, 92, 117, 68, 56, 51, 68, 92, 117, 68, 69, 48, 48]) then (bif (!(((quotedF (runes6 [92, 117, 48, 48, 52, 49, 92, 110, 92, 117, 68, 56, 51, 68, 92, 117, 68, 69, 48, 48])).1) == [65, 10, 240, 159, 152, 128])) == false then (bif ((quotedF (runes6 [92, 117, 48, 48, 52, 49, 92, 110, 92, 117, 68, 56, 51, 68, 92, 117, 68, 69, 48, 48])).2) != 0 then (some (.one (.bool false))) else (bif room (List.length [10, 32, 32, 97, 10, 32, 32, 32, 32, 98, 10]) 1 then (bif smL (runes6 [10, 32, 32, 97, 10, 32, 32, 32, 32, 98, 10]) then (bif (((blockF (runes6 [10, 32, 32, 97, 10, 32, 32, 32, 32, 98, 10])).1) == [97, 10, 32, 32, 98]) == true then (some (.one (.bool (((blockF (runes6 [10, 32, 32, 97, 10, 32, 32, 32, 32, 98, 10])).2) == 0)))) else (some (.one (.bool false)))) else none) else none)) else (some (.one (.bool false)))) else none) else none := by
  kernel_rfl

/- pergola/pergolalaw06.StrvalQuoted -/
def dr7 : Nat → List Nat := fun r => match r with
  | 0 => [2]
  | 1 => [9]
  | 2 => [0, 10]
  | 3 => [0, 10]
  | 5 => [14, 15, 16]
  | 6 => [17, 18, 19, 20, 21, 22]
  | 7 => [4, 23, 24, 25, 26, 27]
  | 8 => [5, 6, 7, 8, 28, 29, 30, 31, 32, 33, 34]
  | 9 => [11, 12, 13, 35]
  | 10 => [35, 36]
  | 11 => [11, 12, 13, 14]
  | _ => []
def T7 : T6 := fun f ls => match f with
  | 18 => S18 ls
  | 19 => S19 ls
  | 20 => S20 ls
  | 21 => S21 ls
  | _ => none
def cn7 : FuncId → Option Nat := fun f => match f with

  | _ => none
def E7 : Env Ty6 den6 := mk6 T7 cn7 dr7 37
def st7_4 (x11 : List (List Int)) (x12 : Int) (x13 : Int) : S6 := ⟨[(11, .one (.sl .rs x11 none)), (12, .one (.int .i64 x12)), (13, .one (.int .i64 x13))], []⟩
theorem ev7 (n : Nat) (a0 : List (List Int)) : evFn E7 n Go.Proofs.Try.f7 [.sl .rs a0 none] =
    evLoop (lbC E7 (cdAt Go.Proofs.Try.f7 [1, 1, 0, 1, 0, 0]) 10004 n) n (st7_4 a0 (List.length a0 : Int) 0) (blockK 0 (seqK (evCode E7 n (cdAt Go.Proofs.Try.f7 [1, 1, 1])) (retK Go.Proofs.Try.f7.results.toList))) := by
  kernel_rfl
theorem lb7_4_eq (n : Nat) (x11 : List (List Int)) (x12 : Int) (x13 : Int) (K : Ex → S6 → Option E6) : lbC E7 (cdAt Go.Proofs.Try.f7 [1, 1, 0, 1, 0, 0]) 10004 n (st7_4 x11 x12 x13) K =
    bif decide (x13 < x12) then (match idx x11 x13 with | none => none | some y1 => (bif lim4 y1 then (bif lim4 y1 then (bif lim4 y1 then (bif (!(((quotedF y1).1) == ((quotedF y1).1))) == false then (bif ((quotedF y1).2) != ((quotedF y1).2) then (K .ret ⟨[(2, .one (.bool false))], []⟩) else (K .normal (st7_4 x11 x12 (IntKind.wrap .i64 (x13 + 1))))) else (K .ret ⟨[(2, .one (.bool false))], []⟩)) else none) else none) else none)) else (K (.exit 0) ⟨[(11, .one (.sl .rs x11 none)), (12, .one (.int .i64 x12)), (13, .one (.int .i64 x13)), (14, .one (.bool (decide (x13 < x12))))], []⟩) := by
  kernel_rfl
theorem ex7_4_0 (n : Nat) (x11 : List (List Int)) (x12 : Int) (x13 : Int) (x14 : Bool) : (blockK 0 (seqK (evCode E7 n (cdAt Go.Proofs.Try.f7 [1, 1, 1])) (retK Go.Proofs.Try.f7.results.toList))) (.exit 0) ⟨[(11, .one (.sl .rs x11 none)), (12, .one (.int .i64 x12)), (13, .one (.int .i64 x13)), (14, .one (.bool x14))], []⟩ =
    some (.one (.bool true)) := by
  kernel_rfl

/- pergola/pergolalaw06.StrvalBlock -/
def dr8 : Nat → List Nat := fun r => match r with
  | 0 => [2]
  | 1 => [9]
  | 2 => [0, 10]
  | 3 => [0, 10]
  | 5 => [14, 15, 16]
  | 6 => [17, 18, 19, 20, 21, 22]
  | 7 => [4, 23, 24, 25, 26, 27]
  | 8 => [5, 6, 7, 8, 28, 29, 30, 31, 32, 33, 34]
  | 9 => [11, 12, 13, 35]
  | 10 => [35, 36]
  | 11 => [11, 12, 13, 14]
  | _ => []
def T8 : T6 := fun f ls => match f with
  | 18 => S18 ls
  | 20 => S20 ls
  | 22 => S22 ls
  | 23 => S23 ls
  | _ => none
def cn8 : FuncId → Option Nat := fun f => match f with

  | _ => none
def E8 : Env Ty6 den6 := mk6 T8 cn8 dr8 37
def st8_4 (x11 : List (List Int)) (x12 : Int) (x13 : Int) : S6 := ⟨[(11, .one (.sl .rs x11 none)), (12, .one (.int .i64 x12)), (13, .one (.int .i64 x13))], []⟩
theorem ev8 (n : Nat) (a0 : List (List Int)) : evFn E8 n Go.Proofs.Try.f8 [.sl .rs a0 none] =
    evLoop (lbC E8 (cdAt Go.Proofs.Try.f8 [1, 1, 0, 1, 0, 0]) 10004 n) n (st8_4 a0 (List.length a0 : Int) 0) (blockK 0 (seqK (evCode E8 n (cdAt Go.Proofs.Try.f8 [1, 1, 1])) (retK Go.Proofs.Try.f8.results.toList))) := by
  kernel_rfl
theorem lb8_4_eq (n : Nat) (x11 : List (List Int)) (x12 : Int) (x13 : Int) (K : Ex → S6 → Option E6) : lbC E8 (cdAt Go.Proofs.Try.f8 [1, 1, 0, 1, 0, 0]) 10004 n (st8_4 x11 x12 x13) K =
    bif decide (x13 < x12) then (match idx x11 x13 with | none => none | some y1 => (bif lim4 y1 then (bif smL y1 then (bif smL y1 then (bif (!(((blockF y1).1) == ((blockF y1).1))) == false then (bif ((blockF y1).2) != ((blockF y1).2) then (K .ret ⟨[(2, .one (.bool false))], []⟩) else (K .normal (st8_4 x11 x12 (IntKind.wrap .i64 (x13 + 1))))) else (K .ret ⟨[(2, .one (.bool false))], []⟩)) else none) else none) else none)) else (K (.exit 0) ⟨[(11, .one (.sl .rs x11 none)), (12, .one (.int .i64 x12)), (13, .one (.int .i64 x13)), (14, .one (.bool (decide (x13 < x12))))], []⟩) := by
  kernel_rfl
theorem ex8_4_0 (n : Nat) (x11 : List (List Int)) (x12 : Int) (x13 : Int) (x14 : Bool) : (blockK 0 (seqK (evCode E8 n (cdAt Go.Proofs.Try.f8 [1, 1, 1])) (retK Go.Proofs.Try.f8.results.toList))) (.exit 0) ⟨[(11, .one (.sl .rs x11 none)), (12, .one (.int .i64 x12)), (13, .one (.int .i64 x13)), (14, .one (.bool x14))], []⟩ =
    some (.one (.bool true)) := by
  kernel_rfl

/- pergola/pergolalaw06.StrvalJoined -/
def dr9 : Nat → List Nat := fun r => match r with
  | 0 => [4]
  | 1 => [11]
  | 2 => [0, 1, 12]
  | 3 => [12, 13, 14, 15, 16, 17, 18]
  | 4 => [6, 19]
  | 5 => [0, 1, 5, 20, 21, 22]
  | 6 => [20, 23, 24, 25, 26, 27, 28]
  | 7 => [0, 1, 29, 30, 31, 32, 33, 34, 35, 36]
  | 8 => [37]
  | 9 => [5, 7, 8, 9, 10, 38, 39, 40, 41, 42, 43, 44, 45]
  | 10 => [5, 7, 8, 9, 10, 38, 46, 47, 48, 49, 50, 51, 52, 53, 54]
  | _ => []
def T9 : T6 := fun f ls => match f with
  | 18 => S18 ls
  | 19 => S19 ls
  | 20 => S20 ls
  | _ => none
def cn9 : FuncId → Option Nat := fun f => match f with

  | _ => none
def E9 : Env Ty6 den6 := mk6 T9 cn9 dr9 55
theorem ev9 (n : Nat) (a0 : List Int) (a1 : List Int) : evFn E9 n Go.Proofs.Try.f9 [.sl .i32 a0 none, .sl .i32 a1 none] =
    bif lim4 a0 then (bif lim4 a0 then (bif ((quotedF a0).2) != 0 then (some (.one (.bool (((quotedF a0).1) == [])))) else (bif lim4 a1 then (bif lim4 a1 then (bif lim4 a0 then (bif room (List.length a0 + List.length a1) 4 then (bif lim4 (a0 ++ a1) then (bif ((quotedF a1).2) != 0 then (bif (((quotedF (a0 ++ a1)).1) == []) == true then (some (.one (.bool (((quotedF (a0 ++ a1)).2) == ((quotedF a1).2))))) else (some (.one (.bool false)))) else (bif decide (List.length ((quotedF a0).1) + List.length ((quotedF a1).1) ≤ 9223372036854775807) then (bif (((quotedF (a0 ++ a1)).1) == (((quotedF a0).1) ++ ((quotedF a1).1))) == true then (some (.one (.bool (((quotedF (a0 ++ a1)).2) == 0)))) else (some (.one (.bool false)))) else none)) else none) else none) else none) else none) else none)) else none) else none := by
  kernel_rfl

end Go.Aev
end

section
set_option linter.unusedVariables false
namespace Go.Aev
open Go.Proofs

theorem isEsc_iff {l : List Int} : isEsc l = true ↔ ∃ r, l = 92 :: 34 :: 34 :: 34 :: r := by
  constructor
  · intro h
    unfold isEsc at h
    split at h
    · exact ⟨_, rfl⟩
    · cases h
  · rintro ⟨r, rfl⟩; rfl
theorem openF_cons {c : Int} {r : List Int} (h : isEsc (c :: r) = false) : openF (c :: r) = c :: openF r := by
  conv => lhs; unfold openF
  split
  · rename_i heq; rw [heq] at h; cases h
  · rename_i heq; cases heq; rfl
  · rename_i heq; cases heq
theorem midF_cons {c : Int} {r : List Int} (h : isEsc (c :: r) = false) : midF (c :: r) = if !sourceF c || quotesF (c :: r) then false else midF r := by
  conv => lhs; unfold midF
  split
  · rename_i heq; rw [heq] at h; cases h
  · rename_i heq; cases heq; rfl
  · rename_i heq; cases heq
theorem lastF_cons {c x : Int} {r : List Int} (h : isEsc (c :: r) = false) : lastF x (c :: r) = lastF c r := by
  conv => lhs; unfold lastF
  split
  · rename_i heq; rw [heq] at h; cases h
  · rename_i heq; cases heq; rfl
  · rename_i heq; cases heq
theorem openF_esc (r : List Int) : openF (92 :: 34 :: 34 :: 34 :: r) = 34 :: 34 :: 34 :: openF r := rfl
theorem midF_esc (r : List Int) : midF (92 :: 34 :: 34 :: 34 :: r) = midF r := rfl
theorem lastF_esc (x : Int) (r : List Int) : lastF x (92 :: 34 :: 34 :: 34 :: r) = lastF 0 r := rfl
theorem quotesF_iff {l : List Int} : quotesF l = true ↔ ∃ r, l = 34 :: 34 :: 34 :: r := by
  constructor
  · intro h
    unfold quotesF at h
    split at h
    · exact ⟨_, rfl⟩
    · cases h
  · rintro ⟨r, rfl⟩; rfl
theorem quotesF_at {l : List Int} (h : 3 ≤ l.length) : quotesF l = (l[0] == 34 && (l[1] == 34 && l[2] == 34)) := by
  match l, h with
  | a :: b :: c :: r, _ =>
    show quotesF (a :: b :: c :: r) = (a == 34 && (b == 34 && c == 34))
    cases h : (a == 34 && (b == 34 && c == 34)) with
    | true =>
      simp only [Bool.and_eq_true, beq_iff_eq] at h
      obtain ⟨rfl, rfl, rfl⟩ := h
      rfl
    | false =>
      cases hq : quotesF (a :: b :: c :: r) with
      | false => rfl
      | true =>
        obtain ⟨r', hr⟩ := quotesF_iff.1 hq
        simp only [List.cons.injEq] at hr
        obtain ⟨rfl, rfl, rfl, _⟩ := hr
        simp at h
theorem quotesF_short {l : List Int} (h : l.length < 3) : quotesF l = false := by
  cases hq : quotesF l with
  | false => rfl
  | true => obtain ⟨r, rfl⟩ := quotesF_iff.1 hq; simp at h; omega
theorem isEsc_cons (c : Int) (r : List Int) : isEsc (c :: r) = (c == 92 && quotesF r) := by
  cases h : (c == 92 && quotesF r) with
  | true =>
    simp only [Bool.and_eq_true, beq_iff_eq] at h
    obtain ⟨rfl, h2⟩ := h
    obtain ⟨r', rfl⟩ := quotesF_iff.1 h2
    rfl
  | false =>
    cases hq : isEsc (c :: r) with
    | false => rfl
    | true =>
      obtain ⟨r', hr⟩ := isEsc_iff.1 hq
      simp only [List.cons.injEq] at hr
      obtain ⟨rfl, rfl⟩ := hr
      simp [quotesF] at h

theorem quotes_ok (l : List Int) (hl : lim4 l = true) (n : Nat) : evFn E51 n Try.f51 [.sl .i32 l none] = some (.one (.bool (quotesF l))) := by
  have hlen := lim4_len hl
  rw [ev51]
  by_cases h : l.length < 3
  · rw [decide_eq_false (by omega : ¬ (l.length : Int) ≥ 3), quotesF_short h]; rfl
  · rw [decide_eq_true (by omega : (l.length : Int) ≥ 3), quotesF_at (by omega), show (0 : Int) = ((0 : Nat) : Int) from rfl, show (1 : Int) = ((1 : Nat) : Int) from rfl, show (2 : Int) = ((2 : Nat) : Int) from rfl, idx_lt (by omega), idx_lt (by omega), idx_lt (by omega)]
    dsimp only
    cases l[0] == 34 <;> cases l[1] == 34 <;> rfl

theorem endsF_drop {l : List Int} {i : Nat} (h : i < l.length) : endsF (l.drop i) = if l[i] = 10 then true else if l[i] = 13 then !(l[i + 1]? == some 10) else false := by
  rw [get_drop h]
  by_cases h1 : l[i] = 10
  · rw [h1]; rfl
  · rw [if_neg h1]
    by_cases h2 : l[i] = 13
    · rw [h2, if_pos rfl]
      show (!((l.drop (i + 1)).head? == some 10)) = _
      rw [List.head?_drop]
    · rw [if_neg h2]
      unfold endsF
      split
      · rename_i heq; simp only [List.cons.injEq] at heq; exact absurd heq.1 h1
      · rename_i heq; simp only [List.cons.injEq] at heq; exact absurd heq.1 h2
      · rfl
theorem ends_ok (l : List Int) (hl : lim4 l = true) (i : Nat) (hi : i < l.length) (n : Nat) : evFn E52 n Try.f52 [.sl .i32 l none, .int .i64 i] = some (.one (.bool (endsF (l.drop i)))) := by
  have hlen := lim4_len hl
  rw [ev52, idx_lt hi, endsF_drop hi, wrapSucc (by omega)]
  dsimp only
  by_cases h1 : l[i] = 10
  · rw [beqT h1, if_pos h1]; rfl
  · rw [beqF h1, if_neg h1]
    by_cases h2 : l[i] = 13
    · rw [beqT h2, if_pos h2]
      by_cases h3 : i + 1 = l.length
      · rw [beqT (by omega : ((i + 1 : Nat) : Int) = (l.length : Int)), List.getElem?_eq_none (by omega)]; rfl
      · rw [beqF (by omega : ((i + 1 : Nat) : Int) ≠ (l.length : Int)), idx_lt (by omega), List.getElem?_eq_getElem (by omega)]
        show some (Ent.one (Leaf.bool (l[i + 1] != 10))) = some (Ent.one (Leaf.bool (!(some l[i + 1] == some 10))))
        rfl
    · rw [beqF h2, if_neg h2]; rfl

theorem isEsc_drop {l : List Int} {i : Nat} (h : i + 3 < l.length) : isEsc (l.drop i) = (l[i] == 92 && (l[i + 1] == 34 && (l[i + 2] == 34 && l[i + 3] == 34))) := by
  rw [get_drop (i := i) (by omega), isEsc_cons, quotesF_at (by rw [List.length_drop]; omega)]
  have e0 : (l.drop (i + 1))[0]'(by rw [List.length_drop]; omega) = l[i + 1] := by simp
  have e1 : (l.drop (i + 1))[1]'(by rw [List.length_drop]; omega) = l[i + 2] := by simp
  have e2 : (l.drop (i + 1))[2]'(by rw [List.length_drop]; omega) = l[i + 3] := by simp
  rw [e0, e1, e2]
theorem isEsc_end {l : List Int} {i : Nat} (h : l.length ≤ i + 3) : isEsc (l.drop i) = false := by
  cases hq : isEsc (l.drop i) with
  | false => rfl
  | true =>
    obtain ⟨r, hr⟩ := isEsc_iff.1 hq
    have := congrArg List.length hr
    simp at this
    omega
theorem escaped_ok (l : List Int) (hl : lim4 l = true) (i : Nat) (hi : i < l.length) (n : Nat) : evFn E54 n Try.f54 [.sl .i32 l none, .int .i64 i] = some (.one (.bool (isEsc (l.drop i)))) := by
  have hlen := lim4_len hl
  rw [ev54, show (3 : Int) = ((3 : Nat) : Int) from rfl, wrapAdd (by omega), wrapSucc (by omega), show (2 : Int) = ((2 : Nat) : Int) from rfl, wrapAdd (by omega), idx_lt hi]
  by_cases h : i + 3 < l.length
  · rw [decide_eq_true (by omega : ((i + 3 : Nat) : Int) < (l.length : Int)), isEsc_drop h, idx_lt (by omega), idx_lt (by omega), idx_lt (by omega)]
    dsimp only
    cases l[i] == 92 <;> cases l[i + 1] == 34 <;> cases l[i + 2] == 34 <;> rfl
  · rw [decide_eq_false (by omega : ¬ ((i + 3 : Nat) : Int) < (l.length : Int)), isEsc_end (by omega)]; rfl

theorem smL_len {l : List Int} (h : smL l = true) : l.length ≤ 4194304 := by simpa [smL] using h
theorem smL_iff {l : List Int} : smL l = true ↔ l.length ≤ 4194304 := by simp [smL]
theorem smL_lim {l : List Int} (h : smL l = true) : lim4 l = true := lim4_iff.2 (by have := smL_len h; omega)
theorem openF_len (l : List Int) : (openF l).length ≤ l.length := by
  fun_induction openF l with
  | case1 r ih => simp; omega
  | case2 c r h ih => simp; omega
  | case3 => simp

/-- What the program's first loop ends with. -/
def finU (out : List Int) (last : Int) (l : List Int) : Option E6 :=
  some (.tup [.sl .i32 (if midF l then out ++ openF l else []) (some 1), .bool (if midF l then okEnd (lastF last l) else false)])
theorem okEnd_eq (x : Int) : okEnd x = if x = 34 then false else !(x == 92) := by
  unfold okEnd
  by_cases h : x = 34
  · rw [beqT h, if_pos h]; rfl
  · rw [beqF h, if_neg h]; simp

theorem unmasked_ok (l : List Int) (hl : smL l = true) (n : Nat) (hn : l.length < n) : evFn E36 n Try.f36 [.sl .i32 l none] = some (.tup [.sl .i32 (unmF l).1 (some 1), .bool (unmF l).2]) := by
  have hlen := smL_len hl
  have h4 := smL_lim hl
  rw [ev36]
  refine (loop_rule (fun p : List Int × Int × Nat => st36_4 l p.1 p.2.1 p.2.2) (fun p => p.1.length ≤ p.2.2 ∧ p.2.2 ≤ l.length + 4) (fun p => l.length - p.2.2) (fun p => finU p.1 p.2.1 (l.drop p.2.2)) ?_ n ([], 0, 0) (by simp) (by simp only; omega)).trans ?_
  · rintro ⟨out, last, i⟩ ⟨h1, h2⟩ K hke hkr hnx
    dsimp only at h1 h2 hnx ⊢
    rw [lb36_4_eq]
    by_cases h : i < l.length
    · rw [decide_eq_true (by omega : (i : Int) < (l.length : Int)), cond_true, idx_lt h, sub_from (by omega), wrapSucc (by omega), sub_from (by omega)]
      dsimp only
      rw [lim4_drop h4, lim4_drop h4, room_iff.2 (by omega), room_iff.2 (by omega)]
      have hd := get_drop h
      have hstep1 : isEsc (l.drop i) = false → (K .normal (st36_4 l (out ++ [l[i]]) l[i] ((i + 1 : Nat) : Int)) = finU (out ++ [l[i]]) l[i] (l.drop (i + 1))) := fun _ => hnx (out ++ [l[i]], l[i], i + 1) ⟨by simp; omega, by simp only; omega⟩ (by simp only; omega)
      have hfin : isEsc (l.drop i) = false → sourceF l[i] = true → quotesF (l.drop i) = false → finU (out ++ [l[i]]) l[i] (l.drop (i + 1)) = finU out last (l.drop i) := by
        intro he hs hq
        rw [hd] at he hq ⊢
        unfold finU
        rw [midF_cons he, openF_cons he, lastF_cons he, hs, hq]
        simp
      cases hs : sourceF l[i] with
      | false =>
        have he : isEsc (l.drop i) = false := by
          cases hc : isEsc (l.drop i) with
          | false => rfl
          | true =>
            obtain ⟨r, hr⟩ := isEsc_iff.1 hc
            rw [hd] at hr
            simp only [List.cons.injEq] at hr
            rw [hr.1] at hs
            exact absurd hs (by decide)
        have : finU out last (l.drop i) = some (.tup [.sl .i32 [] (some 1), .bool false]) := by
          rw [hd] at he ⊢
          unfold finU
          rw [midF_cons he, hs]; rfl
        rw [this]
        exact (hkr _).trans rfl
      | true =>
        cases hq : quotesF (l.drop i) with
        | true =>
          have he : isEsc (l.drop i) = false := by
            obtain ⟨r, hr⟩ := quotesF_iff.1 hq
            rw [hr]; rfl
          have : finU out last (l.drop i) = some (.tup [.sl .i32 [] (some 1), .bool false]) := by
            rw [hd] at he hq ⊢
            unfold finU
            rw [midF_cons he, hs, hq]; rfl
          rw [this]
          exact (hkr _).trans rfl
        | false =>
          by_cases c0 : l[i] = 92
          · rw [beqT c0]
            cases hq2 : quotesF (l.drop (i + 1)) with
            | true =>
              obtain ⟨r, hr⟩ := quotesF_iff.1 hq2
              have hdr : l.drop i = 92 :: 34 :: 34 :: 34 :: r := by rw [hd, c0, hr]
              have hr4 : l.drop (i + 4) = r := by
                have := congrArg (List.drop 4) hdr
                simpa using this
              have hnx2 := hnx (out ++ [34, 34, 34], 0, i + 4) ⟨by simp; omega, by simp only; omega⟩ (by simp only; omega)
              dsimp only at hnx2
              have hw : IntKind.wrap .i64 (IntKind.wrap .i64 ((i : Int) + 3) + 1) = ((i + 4 : Nat) : Int) := by
                rw [wrap64 (n := (i : Int) + 3) (by omega) (by omega), wrap64 (by omega) (by omega)]; omega
              rw [hw]
              refine Eq.trans (b := K .normal (st36_4 l (out ++ [34, 34, 34]) 0 ((i + 4 : Nat) : Int))) rfl ?_
              rw [hnx2, hr4, hdr]
              unfold finU
              rw [midF_esc, openF_esc, lastF_esc]
              simp
            | false =>
              have he : isEsc (l.drop i) = false := by rw [hd, isEsc_cons, hq2]; simp
              refine Eq.trans (b := K .normal (st36_4 l (out ++ [l[i]]) l[i] ((i + 1 : Nat) : Int))) rfl ?_
              rw [hstep1 he, hfin he hs hq]
          · have he : isEsc (l.drop i) = false := by rw [hd, isEsc_cons, beqF c0]; rfl
            rw [beqF c0]
            refine Eq.trans (b := K .normal (st36_4 l (out ++ [l[i]]) l[i] ((i + 1 : Nat) : Int))) rfl ?_
            rw [hstep1 he, hfin he hs hq]
    · rw [decide_eq_false (by omega : ¬ (i : Int) < (l.length : Int)), cond_false, hke, ex36_4_0, List.drop_eq_nil_of_le (by omega)]
      unfold finU
      rw [show midF [] = true from rfl, show openF [] = [] from rfl, show lastF last [] = last from rfl, okEnd_eq, List.append_nil, if_pos rfl]
      by_cases hq : last = 34
      · rw [bneF hq, if_pos hq]; rfl
      · rw [bneT hq, if_neg hq]; rfl
  · unfold finU unmF
    dsimp only
    rw [List.drop_zero]
    cases hm : midF l <;> rfl

theorem opened_ok (l : List Int) (hl : smL l = true) (n : Nat) (hn : l.length < n) : evFn E40 n Try.f40 [.sl .i32 l none] = some (.one (.sl .i32 (openF l) (some 1))) := by
  have hlen := smL_len hl
  have h4 := smL_lim hl
  rw [ev40]
  refine (loop_rule (fun p : List Int × Nat => st40_3 l p.1 p.2) (fun p => p.1.length ≤ p.2 ∧ p.2 ≤ l.length + 4) (fun p => l.length - p.2) (fun p => (some (.one (.sl .i32 (p.1 ++ openF (l.drop p.2)) (some 1))) : Option E6)) ?_ n ([], 0) (by simp) (by simp only; omega)).trans (by simp)
  rintro ⟨out, i⟩ ⟨h1, h2⟩ K hke hkr hnx
  dsimp only at h1 h2 hnx ⊢
  rw [lb40_3_eq]
  by_cases h : i < l.length
  · rw [decide_eq_true (by omega : (i : Int) < (l.length : Int)), cond_true, h4, decide_eq_true (by omega : (0 : Int) ≤ (i : Int)), Int.toNat_natCast, room_iff.2 (by omega), idx_lt h, room_iff.2 (by omega), wrapSucc (by omega)]
    have hd := get_drop h
    cases he : isEsc (l.drop i) with
    | true =>
      obtain ⟨r, hr⟩ := isEsc_iff.1 he
      have hr4 : l.drop (i + 4) = r := by
        have := congrArg (List.drop 4) hr
        simpa using this
      have hw : IntKind.wrap .i64 (((i + 1 : Nat) : Int) + 3) = ((i + 4 : Nat) : Int) := by
        rw [wrap64 (by omega) (by omega)]; omega
      rw [hw]
      have hnx2 := hnx (out ++ [34, 34, 34], i + 4) ⟨by simp; omega, by simp only; omega⟩ (by simp only; omega)
      refine Eq.trans (b := K .normal (st40_3 l (out ++ [34, 34, 34]) ((i + 4 : Nat) : Int))) rfl (hnx2.trans ?_)
      dsimp only
      rw [hr4, hr, openF_esc]; simp
    | false =>
      have hnx2 := hnx (out ++ [l[i]], i + 1) ⟨by simp; omega, by simp only; omega⟩ (by simp only; omega)
      refine Eq.trans (b := K .normal (st40_3 l (out ++ [l[i]]) ((i + 1 : Nat) : Int))) rfl (hnx2.trans ?_)
      dsimp only
      rw [hd] at he ⊢
      rw [openF_cons he]; simp
  · rw [decide_eq_false (by omega : ¬ (i : Int) < (l.length : Int)), cond_false, hke, ex40_3_0, List.drop_eq_nil_of_le (by omega), show openF [] = [] from rfl, List.append_nil]
end Go.Aev
end

section
set_option linter.unusedVariables false
namespace Go.Aev
open Go.Proofs

theorem midF_34 (r : List Int) : midF (34 :: r) = if quotesF (34 :: r) then false else midF r := by
  rw [midF_cons (by rw [isEsc_cons]; rfl), show sourceF 34 = true from by decide]; simp
theorem quotesF_no1 {c : Int} {r : List Int} (h : c ≠ 34) : quotesF (34 :: c :: r) = false := by
  cases hq : quotesF (34 :: c :: r) with
  | false => rfl
  | true => obtain ⟨r', hr⟩ := quotesF_iff.1 hq; simp only [List.cons.injEq] at hr; exact absurd hr.2.1 h
theorem quotesF_no2 {c : Int} {r : List Int} (h : c ≠ 34) : quotesF (34 :: 34 :: c :: r) = false := by
  cases hq : quotesF (34 :: 34 :: c :: r) with
  | false => rfl
  | true => obtain ⟨r', hr⟩ := quotesF_iff.1 hq; simp only [List.cons.injEq] at hr; exact absurd hr.2.2.1 h
/-- So many quotes by themselves stand ahead of l. -/
def midQ (q : Nat) (l : List Int) : Bool := midF (List.replicate q 34 ++ l)
theorem midQ_other {q : Nat} (hq : q ≤ 2) {c : Int} {r : List Int} (h : c ≠ 34) : midQ q (c :: r) = midF (c :: r) := by
  have : q = 0 ∨ q = 1 ∨ q = 2 := by omega
  rcases this with rfl | rfl | rfl
  · rfl
  · show midF (34 :: c :: r) = _
    rw [midF_34, quotesF_no1 h]; rfl
  · show midF (34 :: 34 :: c :: r) = _
    rw [midF_34, quotesF_no2 h, if_neg (by simp), midF_34, quotesF_no1 h]; rfl
theorem midQ_quote (q : Nat) (r : List Int) : midQ q (34 :: r) = midQ (q + 1) r := by
  unfold midQ
  rw [List.replicate_succ', List.append_assoc]; rfl
theorem midQ_3 (r : List Int) : midQ 3 r = false := by
  show midF (34 :: 34 :: 34 :: r) = _
  rw [midF_34, show quotesF (34 :: 34 :: 34 :: r) = true from rfl]; rfl
theorem midQ_nil {q : Nat} (hq : q ≤ 2) : midQ q [] = true := by
  have : q = 0 ∨ q = 1 ∨ q = 2 := by omega
  rcases this with rfl | rfl | rfl <;> decide

theorem standing_ok (l : List Int) (hl : smL l = true) (n : Nat) (hn : l.length < n) : evFn E38 n Try.f38 [.sl .i32 l none] = some (.one (.bool (blockOkF 0 l))) := by
  have hlen := smL_len hl
  have h4 := smL_lim hl
  rw [ev38]
  refine (loop_rule (fun p : Nat × Int × Nat => st38_4 l p.1 p.2.1 p.2.2) (fun p => p.1 ≤ 2 ∧ p.2.2 ≤ l.length + 4) (fun p => l.length - p.2.2) (fun p => (some (.one (.bool (midQ p.1 (l.drop p.2.2) && okEnd (lastF p.2.1 (l.drop p.2.2))))) : Option E6)) ?_ n (0, 0, 0) (by simp) (by simp only; omega))
  rintro ⟨q, last, i⟩ ⟨h1, h2⟩ K hke hkr hnx
  dsimp only at h1 h2 hnx ⊢
  rw [lb38_4_eq]
  by_cases h : i < l.length
  · rw [decide_eq_true (by omega : (i : Int) < (l.length : Int)), cond_true, idx_lt h, h4, decide_eq_true (by omega : (0 : Int) ≤ (i : Int)), Int.toNat_natCast, wrapSucc (by omega), wrapSucc (by omega)]
    have hw : IntKind.wrap .i64 ((i : Int) + 4) = ((i + 4 : Nat) : Int) := by
      rw [wrap64 (by omega) (by omega)]; omega
    rw [hw]
    dsimp only
    have hd := get_drop h
    cases hs : sourceF l[i] with
    | false =>
      have hc : l[i] ≠ 34 := fun e => by rw [e] at hs; exact absurd hs (by decide)
      have he : isEsc (l[i] :: l.drop (i + 1)) = false := by
        rw [isEsc_cons]
        by_cases e : l[i] = 92
        · rw [e] at hs; exact absurd hs (by decide)
        · rw [beqF e]; rfl
      rw [hd, midQ_other h1 hc, midF_cons he, hs]
      exact (hkr _).trans rfl
    | true =>
      cases he : isEsc (l.drop i) with
      | true =>
        obtain ⟨r, hr⟩ := isEsc_iff.1 he
        have hr4 : l.drop (i + 4) = r := by
          have := congrArg (List.drop 4) hr
          simpa using this
        refine (hnx (0, 0, i + 4) ⟨by simp, by simp only; omega⟩ (by simp only; omega)).trans ?_
        dsimp only
        rw [hr4, hr, midQ_other h1 (by decide), midF_esc, lastF_esc]; rfl
      | false =>
        rw [hd] at he ⊢
        rw [lastF_cons he]
        by_cases hc : l[i] = 34
        · rw [beqT hc, hc, midQ_quote]
          by_cases hq : q = 2
          · subst hq
            rw [midQ_3]
            exact (hkr _).trans rfl
          · rw [beqF (by omega : ((q + 1 : Nat) : Int) ≠ 3)]
            exact hnx (q + 1, 34, i + 1) ⟨by simp only; omega, by simp only; omega⟩ (by simp only; omega)
        · rw [beqF hc]
          refine (hnx (0, l[i], i + 1) ⟨by simp, by simp only; omega⟩ (by simp only; omega)).trans ?_
          dsimp only
          have hq : quotesF (l[i] :: l.drop (i + 1)) = false := by
            cases hq : quotesF (l[i] :: l.drop (i + 1)) with
            | false => rfl
            | true => obtain ⟨r', hr⟩ := quotesF_iff.1 hq; simp only [List.cons.injEq] at hr; exact absurd hr.1 hc
          rw [midQ_other h1 hc, midF_cons he, hs, hq]; rfl
  · rw [decide_eq_false (by omega : ¬ (i : Int) < (l.length : Int)), cond_false, hke, ex38_4_0, List.drop_eq_nil_of_le (by omega), midQ_nil h1, show lastF last [] = last from rfl, okEnd_eq]
    by_cases hq : last = 34
    · rw [bneF hq, if_pos hq]; rfl
    · rw [bneT hq, if_neg hq]; rfl

theorem lineF_cons (cur : List Int) (c : Int) (r : List Int) : lineF cur (c :: r) = if endsF (c :: r) then cur :: lineF [] r else if c = 13 then lineF cur r else lineF (cur ++ [c]) r := rfl
theorem lines_ok (l : List Int) (hl : smL l = true) (n : Nat) (hn : l.length < n) : evFn E37 n Try.f37 [.sl .i32 l none] = some (.one (.sl .rs (linesF l) (some 1))) := by
  have hlen := smL_len hl
  have h4 := smL_lim hl
  rw [ev37]
  refine (loop_rule (fun p : List (List Int) × List Int × Nat => st37_4 l p.1 p.2.1 l (l.length : Int) p.2.2) (fun p => p.1.length ≤ p.2.2 ∧ p.2.1.length ≤ p.2.2 ∧ p.2.2 ≤ l.length) (fun p => l.length - p.2.2) (fun p => (some (.one (.sl .rs (p.1 ++ lineF p.2.1 (l.drop p.2.2)) (some 1))) : Option E6)) ?_ n ([], [], 0) (by simp) (by simp only; omega)).trans rfl
  rintro ⟨all, cur, i⟩ ⟨h1, h2, h3⟩ K hke hkr hnx
  dsimp only at h1 h2 h3 hnx ⊢
  rw [lb37_4_eq]
  by_cases h : i < l.length
  · rw [decide_eq_true (by omega : (i : Int) < (l.length : Int)), cond_true, idx_lt h, h4, decide_eq_true (by omega : (0 : Int) ≤ (i : Int)), Int.toNat_natCast, wrapSucc (by omega), room_iff.2 (by omega), room_iff.2 (by omega)]
    dsimp only
    have hd := get_drop h
    rw [hd, lineF_cons, ← hd]
    cases he : endsF (l.drop i) with
    | true =>
      rw [if_pos rfl]
      refine (hnx (all ++ [cur], [], i + 1) ⟨by simp; omega, by simp, by simp only; omega⟩ (by simp only; omega)).trans ?_
      simp
    | false =>
      rw [if_neg (by simp)]
      by_cases hc : l[i] = 13
      · rw [beqT hc, if_pos hc]
        exact hnx (all, cur, i + 1) ⟨by simp only; omega, by simp only; omega, by simp only; omega⟩ (by simp only; omega)
      · rw [beqF hc, if_neg hc]
        exact hnx (all, cur ++ [l[i]], i + 1) ⟨by simp only; omega, by simp; omega, by simp only; omega⟩ (by simp only; omega)
  · rw [decide_eq_false (by omega : ¬ (i : Int) < (l.length : Int)), cond_false, hke, ex37_4_0, List.drop_eq_nil_of_le (by omega), room_iff.2 (by omega)]
    rfl

theorem startsN_cons (i : Nat) (c : Int) (r : List Int) : startsN i (c :: r) = if endsF (c :: r) then ((i + 1 : Nat) : Int) :: startsN (i + 1) r else startsN (i + 1) r := rfl
theorem starts_ok (l : List Int) (hl : smL l = true) (n : Nat) (hn : l.length < n) : evFn E55 n Try.f55 [.sl .i32 l none] = some (.one (.sl .i64 (startsF l) (some 1))) := by
  have hlen := smL_len hl
  rw [ev55]
  refine (loop_rule (fun p : List Int × Nat => st55_3 l p.1 p.2) (fun p => p.1.length ≤ p.2 + 1 ∧ p.2 ≤ l.length) (fun p => l.length - p.2) (fun p => (some (.one (.sl .i64 (p.1 ++ startsN p.2 (l.drop p.2)) (some 1))) : Option E6)) ?_ n ([0], 0) (by simp) (by simp only; omega)).trans rfl
  rintro ⟨s, i⟩ ⟨h1, h2⟩ K hke hkr hnx
  dsimp only at h1 h2 hnx ⊢
  rw [lb55_3_eq]
  by_cases h : i < l.length
  · rw [decide_eq_true (by omega : (i : Int) < (l.length : Int)), cond_true, idx_lt h, wrapSucc (by omega), room_iff.2 (by omega)]
    dsimp only
    have hd := get_drop h
    have hyes : endsF (l.drop i) = true → K .normal (st55_3 l (s ++ [((i + 1 : Nat) : Int)]) ((i + 1 : Nat) : Int)) = some (.one (.sl .i64 (s ++ startsN i (l.drop i)) (some 1))) := fun he => by
      refine (hnx (s ++ [((i + 1 : Nat) : Int)], i + 1) ⟨by simp; omega, by simp only; omega⟩ (by simp only; omega)).trans ?_
      rw [hd] at he ⊢
      rw [startsN_cons, if_pos he]; simp
    have hno : endsF (l.drop i) = false → K .normal (st55_3 l s ((i + 1 : Nat) : Int)) = some (.one (.sl .i64 (s ++ startsN i (l.drop i)) (some 1))) := fun he => by
      refine (hnx (s, i + 1) ⟨by simp only; omega, by simp only; omega⟩ (by simp only; omega)).trans ?_
      rw [hd] at he ⊢
      rw [startsN_cons, he]; rfl
    have hends := endsF_drop h
    by_cases c1 : l[i] = 13
    · have c2 : l[i] ≠ 10 := by omega
      rw [if_neg c2, if_pos c1] at hends
      rw [bneF c1, beqT c1]
      by_cases h3 : i + 1 < l.length
      · rw [decide_eq_true (by omega : ((i + 1 : Nat) : Int) < (l.length : Int)), idx_lt h3]
        rw [List.getElem?_eq_getElem h3] at hends
        by_cases c3 : l[i + 1] = 10
        · rw [c3] at hends
          dsimp only
          rw [beqT c3]
          exact hno (by rw [hends]; rfl)
        · dsimp only
          rw [beqF c3]
          refine hyes ?_
          rw [hends]
          simp [c3]
      · rw [decide_eq_false (by omega : ¬ ((i + 1 : Nat) : Int) < (l.length : Int))]
        refine hyes ?_
        rw [hends, List.getElem?_eq_none (by omega)]; rfl
    · rw [bneT c1, beqF c1]
      rw [if_neg c1] at hends
      by_cases c2 : l[i] = 10
      · rw [bneF c2]
        exact hyes (by rw [hends, if_pos c2])
      · rw [bneT c2]
        exact hno (by rw [hends, if_neg c2])
  · rw [decide_eq_false (by omega : ¬ (i : Int) < (l.length : Int)), cond_false, hke, ex55_3_0, List.drop_eq_nil_of_le (by omega), show startsN i [] = [] from rfl, List.append_nil]
end Go.Aev
end

section
set_option linter.unusedVariables false
namespace Go.Aev
open Go.Proofs

/-! ### lines by the places where they begin -/
theorem startsN_none : ∀ (m : List Int) (i : Nat), startsN i m = [] → ∀ cur, lineF cur m = [cur ++ m]
  | [], i, _, cur => by simp [lineF]
  | c :: r, i, h, cur => by
    rw [startsN_cons] at h
    rw [lineF_cons]
    cases he : endsF (c :: r) with
    | true => rw [he] at h; simp at h
    | false =>
      rw [he] at h
      simp only [Bool.false_eq_true, if_false] at h ⊢
      have ih := startsN_none r (i + 1) h
      by_cases hc : c = 13
      · subst hc
        have h2 : (!(r.head? == some 10)) = false := he
        cases r with
        | nil => simp at h2
        | cons d r =>
          simp at h2
          subst h2
          rw [startsN_cons] at h
          rw [show endsF (10 :: r) = true from rfl] at h
          simp at h
      · rw [if_neg hc, ih]; simp
def cutJ (m : List Int) (j : Nat) : Nat := if m[j]? = some 10 ∧ 0 < j ∧ m[j - 1]? = some 13 then j - 1 else j
theorem startsN_some : ∀ (m : List Int) (i : Nat) (b : Int) (rest : List Int), startsN i m = b :: rest →
    ∃ j : Nat, j < m.length ∧ b = ((i + j + 1 : Nat) : Int) ∧ rest = startsN (i + j + 1) (m.drop (j + 1)) ∧ ∀ cur, lineF cur m = (cur ++ m.take (cutJ m j)) :: lineF [] (m.drop (j + 1))
  | [], i, b, rest, h => by cases h
  | c :: r, i, b, rest, h => by
    rw [startsN_cons] at h
    cases he : endsF (c :: r) with
    | true =>
      rw [he] at h
      simp only [if_true, List.cons.injEq] at h
      refine ⟨0, by simp, h.1.symm, by simpa using h.2.symm, fun cur => ?_⟩
      rw [lineF_cons, he]
      simp [cutJ]
    | false =>
      rw [he] at h
      simp only [Bool.false_eq_true, if_false] at h
      obtain ⟨j, h1, h2, h3, h4⟩ := startsN_some r (i + 1) b rest h
      refine ⟨j + 1, by simp; omega, by rw [h2]; congr 1; omega, by rw [h3, List.drop_succ_cons]; congr 1; omega, fun cur => ?_⟩
      rw [lineF_cons, he, List.drop_succ_cons]
      simp only [Bool.false_eq_true, if_false]
      by_cases hc : c = 13
      · subst hc
        have h2' : (!(r.head? == some 10)) = false := he
        cases r with
        | nil => simp at h2'
        | cons d r =>
          simp at h2'
          subst h2'
          rw [startsN_cons, show endsF (10 :: r) = true from rfl] at h
          simp only [if_true, List.cons.injEq] at h
          have hj : j = 0 := by have := h.1; rw [h2] at this; omega
          subst hj
          rw [if_pos rfl, h4]
          simp [cutJ]
      · rw [if_neg hc, h4]
        have hcut : (c :: r).take (cutJ (c :: r) (j + 1)) = c :: r.take (cutJ r j) := by
          unfold cutJ
          rw [List.getElem?_cons_succ, Nat.add_sub_cancel]
          cases j with
          | zero =>
            rw [List.getElem?_cons_zero, if_neg (by rintro ⟨_, _, h5⟩; exact hc (Option.some.inj h5)), if_neg (by rintro ⟨_, h5, _⟩; omega)]
            rfl
          | succ j =>
            rw [List.getElem?_cons_succ, Nat.add_sub_cancel]
            by_cases hh : r[j + 1]? = some 10 ∧ r[j]? = some 13
            · rw [if_pos ⟨hh.1, by omega, hh.2⟩, if_pos ⟨hh.1, by omega, hh.2⟩]; rfl
            · rw [if_neg (fun h5 => hh ⟨h5.1, h5.2.2⟩), if_neg (fun h5 => hh ⟨h5.1, h5.2.2⟩)]; rfl
        rw [hcut]; simp
theorem startsN_len : ∀ (m : List Int) (i : Nat), (startsN i m).length ≤ m.length
  | [], _ => by simp [startsN]
  | c :: r, i => by
    rw [startsN_cons]
    have := startsN_len r (i + 1)
    split <;> simp <;> omega
theorem cutJ_le (m : List Int) (j : Nat) : cutJ m j ≤ j := by unfold cutJ; split <;> omega

theorem rlines_ok (l : List Int) (hl : smL l = true) (n : Nat) (hn : l.length + 2 < n) : evFn E39 n Try.f39 [.sl .i32 l none] = some (.one (.sl .rs (linesF l) (some 1))) := by
  have hlen := smL_len hl
  have h4 := smL_lim hl
  have hsl : (startsF l).length ≤ l.length + 1 := by have := startsN_len l 0; simp [startsF]; omega
  rw [ev39, hl, cond_true]
  refine (loop_rule (fun p : List (List Int) × Nat × Nat × Bool => st39_4 l p.1 (startsF l) p.2.1)
    (fun p => p.1.length = p.2.1 ∧ p.2.2.1 ≤ l.length ∧ (p.2.2.2 = true → p.2.1 = (startsF l).length) ∧ (p.2.2.2 = false → (startsF l).drop p.2.1 = (p.2.2.1 : Int) :: startsN p.2.2.1 (l.drop p.2.2.1)))
    (fun p => (startsF l).length - p.2.1) (fun p => (some (.one (.sl .rs (bif p.2.2.2 then p.1 else p.1 ++ lineF [] (l.drop p.2.2.1)) (some 1))) : Option E6)) ?_ n ([], 0, 0, false)
    ⟨rfl, Nat.zero_le _, (fun h => by cases h), fun _ => rfl⟩ (by simp only; omega)).trans rfl
  rintro ⟨out, k, a, done⟩ ⟨h1, h2, h3, h5⟩ K hke hkr hnx
  dsimp only at h1 h2 h3 h5 hnx ⊢
  rw [lb39_4_eq]
  cases done with
  | true =>
    have hk := h3 rfl
    rw [decide_eq_false (by omega : ¬ (k : Int) < ((startsF l).length : Int)), cond_false, hke, ex39_4_0]; rfl
  | false =>
    have hd := h5 rfl
    have hk : k < (startsF l).length := by
      rcases Nat.lt_or_ge k (startsF l).length with h | h
      · exact h
      · rw [List.drop_eq_nil_of_le h] at hd; cases hd
    rw [get_drop hk] at hd
    simp only [List.cons.injEq] at hd
    obtain ⟨hsk, hrest⟩ := hd
    rw [decide_eq_true (by omega : (k : Int) < ((startsF l).length : Int)), cond_true, wrapSucc (by omega), idx_lt hk, hsk]
    dsimp only
    rw [room_iff.2 (by omega : (out.length + 1) * 24 ≤ 140737488355328)]
    by_cases h6 : k + 1 < (startsF l).length
    · rw [decide_eq_true (by omega : ((k + 1 : Nat) : Int) < ((startsF l).length : Int)), idx_lt h6]
      have hr2 := hrest
      rw [get_drop h6] at hr2
      obtain ⟨j, j1, j2, j3, j4⟩ := startsN_some _ _ _ _ hr2.symm
      rw [List.length_drop] at j1
      rw [j2]
      dsimp only
      have hlin := j4 []
      rw [List.nil_append] at hlin
      have hfin : ∀ e : Nat, e = a + cutJ (l.drop a) j → ∀ x, x = (l.drop a).take (e - a) → K .normal (st39_4 l (out ++ [x]) (startsF l) ((k + 1 : Nat) : Int)) = some (.one (.sl .rs (out ++ lineF [] (l.drop a)) (some 1))) := by
        intro e he x hx
        have he2 : e - a = cutJ (l.drop a) j := by omega
        refine (hnx (out ++ [x], k + 1, a + j + 1, false) ⟨by simp; omega, by simp only; omega, (fun h => by cases h), fun _ => ?_⟩ (by simp only; omega)).trans ?_
        · dsimp only
          rw [get_drop h6, j2, j3, List.drop_drop]
          rfl
        · dsimp only
          refine congrArg (fun z : List (List Int) => (some (.one (.sl .rs z (some 1))) : Option E6)) ?_
          rw [hlin, hx, he2, List.drop_drop]
          show out ++ [_] ++ _ = _
          rw [List.append_assoc]
          rfl
      have w1 : IntKind.wrap .i64 (((a + j + 1 : Nat) : Int) - 1) = ((a + j : Nat) : Int) := by rw [wrap64 (by omega) (by omega)]; omega
      rw [w1, idx_lt (by omega : a + j < l.length)]
      dsimp only
      have hmj : (l.drop a)[j]? = some (l[a + j]'(by omega)) := by rw [List.getElem?_drop, List.getElem?_eq_getElem (by omega)]
      have hsub : ∀ e : Nat, a ≤ e → e ≤ l.length → sub l (a : Int) (e : Int) = some ((l.drop a).take (e - a)) := fun e he1 he2 => sub_nat he1 he2
      have hw2 : ∀ e : Nat, a ≤ e → e ≤ l.length → IntKind.wrap .i64 ((e : Int) - (a : Int)) = ((e - a : Nat) : Int) := fun e he1 he2 => by rw [wrap64 (by omega) (by omega)]; omega
      have hrm : ∀ e : Nat, e ≤ l.length → room e 4 = true := fun e he => room_iff.2 (by omega)
      have hfull : cutJ (l.drop a) j = j → (bif decide ((0 : Int) ≤ ((a + j - a : Nat) : Int)) && room (Int.toNat ((a + j - a : Nat) : Int)) 4 then (match sub l (a : Int) ((a + j : Nat) : Int) with | none => none | some y7 => (bif room (0 + List.length y7) 4 then (bif true then (K .normal (st39_4 l (out ++ [y7]) (startsF l) ((k + 1 : Nat) : Int))) else none) else none)) else none) = some (.one (.sl .rs (out ++ lineF [] (l.drop a)) (some 1))) := by
        intro hcut
        rw [decide_eq_true (by omega), Int.toNat_natCast, hrm _ (by omega), hsub _ (by omega) (by omega)]
        dsimp only
        rw [hrm _ (by rw [List.length_take, List.length_drop]; omega)]
        exact hfin (a + j) (by omega) _ rfl
      by_cases c1 : l[a + j] = 10
      · rw [beqT c1]
        by_cases c2 : 0 < j
        · rw [decide_eq_true (by omega : ((a + j : Nat) : Int) > (a : Int))]
          have w2 : IntKind.wrap .i64 (((a + j : Nat) : Int) - 1) = ((a + j - 1 : Nat) : Int) := by rw [wrap64 (by omega) (by omega)]; omega
          rw [w2, idx_lt (by omega : a + j - 1 < l.length)]
          dsimp only
          have hmj1 : (l.drop a)[j - 1]? = some (l[a + j - 1]'(by omega)) := by
            have e : a + (j - 1) = a + j - 1 := by omega
            rw [List.getElem?_drop, List.getElem?_eq_getElem (by omega)]
            simp only [e]
          by_cases c3 : l[a + j - 1] = 13
          · rw [beqT c3, hw2 (a + j - 1) (by omega) (by omega)]
            have hcut : cutJ (l.drop a) j = j - 1 := by unfold cutJ; rw [hmj, hmj1, c1, c3, if_pos ⟨rfl, c2, rfl⟩]
            rw [decide_eq_true (by omega : (0 : Int) ≤ ((a + j - 1 - a : Nat) : Int)), Int.toNat_natCast, hrm _ (by omega), hsub _ (by omega) (by omega)]
            dsimp only
            rw [hrm _ (by rw [List.length_take, List.length_drop]; omega)]
            exact hfin (a + j - 1) (by omega) _ rfl
          · rw [beqF c3, hw2 (a + j) (by omega) (by omega)]
            exact hfull (by unfold cutJ; rw [hmj1, if_neg (fun h => c3 (Option.some.inj h.2.2))])
        · rw [decide_eq_false (by omega : ¬ ((a + j : Nat) : Int) > (a : Int)), hw2 (a + j) (by omega) (by omega)]
          exact hfull (by unfold cutJ; rw [if_neg (fun h => c2 h.2.1)])
      · rw [beqF c1, hw2 (a + j) (by omega) (by omega)]
        exact hfull (by unfold cutJ; rw [hmj, if_neg (fun h => c1 (Option.some.inj h.1))])
    · rw [decide_eq_false (by omega : ¬ ((k + 1 : Nat) : Int) < ((startsF l).length : Int))]
      have hnil : startsN a (l.drop a) = [] := by rw [← hrest, List.drop_eq_nil_of_le (by omega)]
      have hlin := startsN_none _ _ hnil []
      rw [List.nil_append] at hlin
      have w2 : IntKind.wrap .i64 ((l.length : Int) - (a : Int)) = ((l.length - a : Nat) : Int) := by rw [wrap64 (by omega) (by omega)]; omega
      rw [w2, decide_eq_true (by omega : (0 : Int) ≤ ((l.length - a : Nat) : Int)), Int.toNat_natCast, room_iff.2 (by omega), sub_from h2]
      dsimp only
      rw [room_iff.2 (by rw [List.length_drop]; omega)]
      refine Eq.trans (b := K .normal (st39_4 l (out ++ [l.drop a]) (startsF l) ((k + 1 : Nat) : Int))) rfl ?_
      refine (hnx (out ++ [l.drop a], k + 1, a, true) ⟨by simp; omega, h2, (fun _ => by simp only; omega), (fun h => by cases h)⟩ (by simp only; omega)).trans ?_
      refine congrArg (fun z : List (List Int) => (some (.one (.sl .rs z (some 1))) : Option E6)) ?_
      rw [hlin]; rfl
end Go.Aev
end
