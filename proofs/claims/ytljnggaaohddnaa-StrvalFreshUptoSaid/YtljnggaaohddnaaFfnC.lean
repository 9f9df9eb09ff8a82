/- Proved here: lemmas of an evaluator over the model's code that the claim's text uses (G4 G5 G6). Conditions: those that each lemma states. -/
import Derived.Test.YtljnggaaohddnaaFfnA
section
set_option linter.unusedVariables false
namespace Go.Aev
open Go.Proofs
/- pergola/utf.Digit -/
def dr64 : Nat → List Nat := fun r => match r with
  | 0 => [2]
  | 1 => [0, 3, 4, 5, 6, 7, 8]
  | _ => []
def T64 : T6 := fun f ls => match f with

  | _ => none
def cn64 : FuncId → Option Nat := fun f => match f with

  | _ => none
def E64 : Env Ty6 den6 := mk6 T64 cn64 dr64 9
theorem ev64 (n : Nat) (a0 : Int) : evFn E64 n Go.Proofs.Try.f64 [.int .i32 a0] =
    bif (decide (a0 ≥ 48)) == true then (some (.one (.bool (decide (a0 ≤ 57))))) else (some (.one (.bool false))) := by
  kernel_rfl

/- pergola/utf.Hex -/
def dr63 : Nat → List Nat := fun r => match r with
  | 0 => [2]
  | 1 => [4, 5]
  | 2 => [0, 3, 6, 7, 8]
  | 3 => [3, 10, 11, 12, 13, 14, 15]
  | 4 => [0, 9, 16, 17, 18, 19]
  | 5 => [9, 21, 22, 23, 24, 25, 26]
  | 6 => [0, 20, 27, 28, 29, 30]
  | 7 => [0, 20]
  | _ => []
def T63 : T6 := fun f ls => match f with
  | 64 => S64 ls
  | _ => none
def cn63 : FuncId → Option Nat := fun f => match f with

  | _ => none
def E63 : Env Ty6 den6 := mk6 T63 cn63 dr63 31
theorem ev63 (n : Nat) (a0 : Int) : evFn E63 n Go.Proofs.Try.f63 [.int .i32 a0] =
    bif digitF a0 then (some (.one (.int .i64 (IntKind.wrap .i64 (IntKind.wrap .i32 (a0 - 48)))))) else (bif (decide (a0 ≥ 97)) == true then (bif decide (a0 ≤ 102) then (some (.one (.int .i64 (IntKind.wrap .i64 ((IntKind.wrap .i64 (IntKind.wrap .i32 (a0 - 97))) + 10))))) else (bif (decide (a0 ≥ 65)) == true then (bif decide (a0 ≤ 70) then (some (.one (.int .i64 (IntKind.wrap .i64 ((IntKind.wrap .i64 (IntKind.wrap .i32 (a0 - 65))) + 10))))) else (some (.one (.int .i64 (-1))))) else (some (.one (.int .i64 (-1)))))) else (bif (decide (a0 ≥ 65)) == true then (bif decide (a0 ≤ 70) then (some (.one (.int .i64 (IntKind.wrap .i64 ((IntKind.wrap .i64 (IntKind.wrap .i32 (a0 - 65))) + 10))))) else (some (.one (.int .i64 (-1))))) else (some (.one (.int .i64 (-1)))))) := by
  kernel_rfl

/- pergola/pergolaref01.Hex -/
def dr60 : Nat → List Nat := fun r => match r with
  | 0 => [2]
  | 4 => [6]
  | 5 => [8, 9, 23]
  | 6 => [7, 10, 11, 12, 13, 14, 15, 16, 17, 18, 19, 20, 21, 22]
  | 7 => [0, 3, 4, 5, 23, 24]
  | 8 => [0, 3, 4, 5, 7]
  | _ => []
def T60 : T6 := fun f ls => match f with

  | _ => none
def cn60 : FuncId → Option Nat := fun f => match f with

  | _ => none
def E60 : Env Ty6 den6 := mk6 T60 cn60 dr60 25
def st60_4 (x0 : Int) (x3 : List UInt8) (x4 : List UInt8) (x5 : Int) : S6 := ⟨[(0, .one (.int .i32 x0)), (3, .one (.str x3)), (4, .one (.str x4)), (5, .one (.int .i64 x5))], []⟩
theorem ev60 (n : Nat) (a0 : Int) : evFn E60 n Go.Proofs.Try.f60 [.int .i32 a0] =
    evLoop (lbC E60 (cdAt Go.Proofs.Try.f60 [1, 1, 1, 0, 1, 0, 0]) 10004 n) n (st60_4 a0 [48, 49, 50, 51, 52, 53, 54, 55, 56, 57, 97, 98, 99, 100, 101, 102] [48, 49, 50, 51, 52, 53, 54, 55, 56, 57, 65, 66, 67, 68, 69, 70] 0) (blockK 0 (seqK (evCode E60 n (cdAt Go.Proofs.Try.f60 [1, 1, 1, 1])) (retK Go.Proofs.Try.f60.results.toList))) := by
  kernel_rfl
theorem lb60_4_eq (n : Nat) (x0 : Int) (x3 : List UInt8) (x4 : List UInt8) (x5 : Int) (K : Ex → S6 → Option E6) : lbC E60 (cdAt Go.Proofs.Try.f60 [1, 1, 1, 0, 1, 0, 0]) 10004 n (st60_4 x0 x3 x4 x5) K =
    bif decide (x5 < 16) then (match idx x3 x5 with | none => none | some y1 => (bif ((IntKind.wrap .i32 (UInt8.toNat y1 : Int)) == x0) == false then (match idx x4 x5 with | none => none | some y2 => (bif (IntKind.wrap .i32 (UInt8.toNat y2 : Int)) == x0 then (K .ret ⟨[(2, .one (.int .i64 x5))], []⟩) else (K .normal (st60_4 x0 x3 x4 (IntKind.wrap .i64 (x5 + 1)))))) else (K .ret ⟨[(2, .one (.int .i64 x5))], []⟩))) else (K (.exit 0) ⟨[(0, .one (.int .i32 x0)), (3, .one (.str x3)), (4, .one (.str x4)), (5, .one (.int .i64 x5)), (7, .one (.bool (decide (x5 < 16))))], []⟩) := by
  kernel_rfl
theorem ex60_4_0 (n : Nat) (x0 : Int) (x3 : List UInt8) (x4 : List UInt8) (x5 : Int) (x7 : Bool) : (blockK 0 (seqK (evCode E60 n (cdAt Go.Proofs.Try.f60 [1, 1, 1, 1])) (retK Go.Proofs.Try.f60.results.toList))) (.exit 0) ⟨[(0, .one (.int .i32 x0)), (3, .one (.str x3)), (4, .one (.str x4)), (5, .one (.int .i64 x5)), (7, .one (.bool x7))], []⟩ =
    some (.one (.int .i64 (-1))) := by
  kernel_rfl

/- pergola/strval.hex4 -/
def dr57 : Nat → List Nat := fun r => match r with
  | 0 => [2]
  | 1 => [7, 8]
  | 2 => [0, 9]
  | 3 => [9]
  | 4 => [0, 10]
  | 6 => [14, 15, 16]
  | 7 => [5, 17, 18]
  | 8 => [19]
  | 9 => [3, 6, 11, 12, 13, 20]
  | 10 => [6, 20, 21, 22, 23, 24, 25]
  | 11 => [26]
  | 12 => [3, 11, 12, 13, 14, 27]
  | _ => []
def T57 : T6 := fun f ls => match f with
  | 63 => S63 ls
  | _ => none
def cn57 : FuncId → Option Nat := fun f => match f with

  | _ => none
def E57 : Env Ty6 den6 := mk6 T57 cn57 dr57 28
def st57_5 (x3 : Int) (x11 : List Int) (x12 : Int) (x13 : Int) : S6 := ⟨[(3, .one (.int .i32 x3)), (11, .one (.sl .i32 x11 none)), (12, .one (.int .i64 x12)), (13, .one (.int .i64 x13))], []⟩
theorem ev57 (n : Nat) (a0 : List Int) : evFn E57 n Go.Proofs.Try.f57 [.sl .i32 a0 none] =
    bif decide ((List.length a0 : Int) < 4) then (some (.one (.int .i32 (-1)))) else (match sub a0 0 4 with | none => none | some y1 => (evLoop (lbC E57 (cdAt Go.Proofs.Try.f57 [1, 1, 1, 0, 1, 0, 0]) 10005 n) n (st57_5 0 y1 (List.length y1 : Int) 0) (blockK 0 (seqK (evCode E57 n (cdAt Go.Proofs.Try.f57 [1, 1, 1, 1])) (retK Go.Proofs.Try.f57.results.toList))))) := by
  kernel_rfl
theorem lb57_5_eq (n : Nat) (x3 : Int) (x11 : List Int) (x12 : Int) (x13 : Int) (K : Ex → S6 → Option E6) : lbC E57 (cdAt Go.Proofs.Try.f57 [1, 1, 1, 0, 1, 0, 0]) 10005 n (st57_5 x3 x11 x12 x13) K =
    bif decide (x13 < x12) then (match idx x11 x13 with | none => none | some y2 => (bif decide ((hexF y2) < 0) then (K .ret ⟨[(2, .one (.int .i32 (-1)))], []⟩) else (K .normal (st57_5 (IntKind.wrap .i32 ((IntKind.wrap .i32 (x3 * 16)) + (IntKind.wrap .i32 (hexF y2)))) x11 x12 (IntKind.wrap .i64 (x13 + 1)))))) else (K (.exit 0) ⟨[(3, .one (.int .i32 x3)), (11, .one (.sl .i32 x11 none)), (12, .one (.int .i64 x12)), (13, .one (.int .i64 x13)), (14, .one (.bool (decide (x13 < x12))))], []⟩) := by
  kernel_rfl
theorem ex57_5_0 (n : Nat) (x3 : Int) (x11 : List Int) (x12 : Int) (x13 : Int) (x14 : Bool) : (blockK 0 (seqK (evCode E57 n (cdAt Go.Proofs.Try.f57 [1, 1, 1, 1])) (retK Go.Proofs.Try.f57.results.toList))) (.exit 0) ⟨[(3, .one (.int .i32 x3)), (11, .one (.sl .i32 x11 none)), (12, .one (.int .i64 x12)), (13, .one (.int .i64 x13)), (14, .one (.bool x14))], []⟩ =
    some (.one (.int .i32 x3)) := by
  kernel_rfl

/- pergola/utf.Join -/
def dr58 : Nat → List Nat := fun r => match r with
  | 0 => [4, 5]
  | 1 => [6, 7, 8, 9, 10, 11, 12, 13, 14, 15, 16, 17, 18]
  | 2 => [0, 1, 19]
  | 3 => [0, 1, 19, 20, 21, 22, 23, 24, 25, 26]
  | _ => []
def T58 : T6 := fun f ls => match f with

  | _ => none
def cn58 : FuncId → Option Nat := fun f => match f with

  | _ => none
def E58 : Env Ty6 den6 := mk6 T58 cn58 dr58 27
theorem ev58 (n : Nat) (a0 : Int) (a1 : Int) : evFn E58 n Go.Proofs.Try.f58 [.int .i32 a0, .int .i32 a1] =
    bif (decide (a0 < 55296)) == false then (bif (decide (a0 ≥ 56320)) == false then (bif (decide (a1 < 56320)) == false then (bif decide (a1 ≥ 57344) then (some (.tup [.int .i32 0, .bool false])) else (some (.tup [.int .i32 (IntKind.wrap .i32 ((IntKind.wrap .i32 (65536 + (IntKind.wrap .i32 ((IntKind.wrap .i32 (a0 - 55296)) * 2 ^ (Int.toNat 10))))) + (IntKind.wrap .i32 (a1 - 56320)))), .bool true]))) else (some (.tup [.int .i32 0, .bool false]))) else (some (.tup [.int .i32 0, .bool false]))) else (some (.tup [.int .i32 0, .bool false])) := by
  kernel_rfl

/- pergola/pergolaref01.Join -/
def dr49 : Nat → List Nat := fun r => match r with
  | 0 => [4, 5]
  | 1 => [6, 7, 8, 9, 10, 11, 12, 13, 14, 15, 16, 17, 18]
  | 2 => [0, 1, 19]
  | 3 => [0, 1, 19, 20, 21, 22, 23, 24, 25, 26]
  | _ => []
def T49 : T6 := fun f ls => match f with

  | _ => none
def cn49 : FuncId → Option Nat := fun f => match f with

  | _ => none
def E49 : Env Ty6 den6 := mk6 T49 cn49 dr49 27
theorem ev49 (n : Nat) (a0 : Int) (a1 : Int) : evFn E49 n Go.Proofs.Try.f49 [.int .i32 a0, .int .i32 a1] =
    bif (decide (a0 < 55296)) == false then (bif (decide (a0 > 56319)) == false then (bif (decide (a1 < 56320)) == false then (bif decide (a1 > 57343) then (some (.tup [.int .i32 0, .bool false])) else (some (.tup [.int .i32 (IntKind.wrap .i32 ((IntKind.wrap .i32 (65536 + (IntKind.wrap .i32 ((IntKind.wrap .i32 (a0 - 55296)) * 1024)))) + (IntKind.wrap .i32 (a1 - 56320)))), .bool true]))) else (some (.tup [.int .i32 0, .bool false]))) else (some (.tup [.int .i32 0, .bool false]))) else (some (.tup [.int .i32 0, .bool false])) := by
  kernel_rfl

/- pergola/strval.coded -/
def dr43 : Nat → List Nat := fun r => match r with
  | 0 => [2, 3]
  | 1 => [7, 8, 9]
  | 2 => [11, 12, 13, 14, 15, 16, 17, 18, 19, 20]
  | 3 => [0, 4, 10]
  | 4 => [10, 22, 23, 24, 25, 26, 27]
  | 5 => [0, 4, 21, 28]
  | 6 => [21, 29, 30, 31, 32, 33, 34, 35, 36, 37, 38, 39, 40, 41, 42]
  | 7 => [0, 4, 43]
  | 8 => [0, 4, 43, 44, 45, 46, 47, 48, 49, 50, 51]
  | 9 => [6, 52]
  | 10 => [5, 53]
  | 11 => [5, 53, 54]
  | _ => []
def T43 : T6 := fun f ls => match f with
  | 57 => S57 ls
  | 58 => S58 ls
  | _ => none
def cn43 : FuncId → Option Nat := fun f => match f with

  | _ => none
def E43 : Env Ty6 den6 := mk6 T43 cn43 dr43 55
theorem ev43 (n : Nat) (a0 : List Int) : evFn E43 n Go.Proofs.Try.f43 [.sl .i32 a0 none] =
    match sub a0 2 (List.length a0 : Int) with | none => none | some y1 => (bif lim4 y1 then (bif (decide ((hex4F y1) < 0)) == false then (bif (decide ((hex4F y1) ≥ 56320)) == true then (bif decide ((hex4F y1) ≤ 57343) then (some (.tup [.int .i32 0, .int .i64 0])) else (bif (decide ((hex4F y1) < 55296)) == false then (bif decide ((hex4F y1) > 57343) then (some (.tup [.int .i32 (hex4F y1), .int .i64 6])) else (bif (decide ((List.length a0 : Int) < 12)) == false then (match idx a0 6 with | none => none | some y2 => (bif (y2 != 92) == false then (match idx a0 7 with | none => none | some y3 => (bif y3 != 117 then (some (.tup [.int .i32 0, .int .i64 0])) else (match sub a0 8 (List.length a0 : Int) with | none => none | some y4 => (bif lim4 y4 then (bif !((joinF (hex4F y1) (hex4F y4)).2) then (some (.tup [.int .i32 0, .int .i64 0])) else (some (.tup [.int .i32 ((joinF (hex4F y1) (hex4F y4)).1), .int .i64 12]))) else none)))) else (some (.tup [.int .i32 0, .int .i64 0])))) else (some (.tup [.int .i32 0, .int .i64 0])))) else (some (.tup [.int .i32 (hex4F y1), .int .i64 6])))) else (bif (decide ((hex4F y1) < 55296)) == false then (bif decide ((hex4F y1) > 57343) then (some (.tup [.int .i32 (hex4F y1), .int .i64 6])) else (bif (decide ((List.length a0 : Int) < 12)) == false then (match idx a0 6 with | none => none | some y5 => (bif (y5 != 92) == false then (match idx a0 7 with | none => none | some y6 => (bif y6 != 117 then (some (.tup [.int .i32 0, .int .i64 0])) else (match sub a0 8 (List.length a0 : Int) with | none => none | some y7 => (bif lim4 y7 then (bif !((joinF (hex4F y1) (hex4F y7)).2) then (some (.tup [.int .i32 0, .int .i64 0])) else (some (.tup [.int .i32 ((joinF (hex4F y1) (hex4F y7)).1), .int .i64 12]))) else none)))) else (some (.tup [.int .i32 0, .int .i64 0])))) else (some (.tup [.int .i32 0, .int .i64 0])))) else (some (.tup [.int .i32 (hex4F y1), .int .i64 6])))) else (some (.tup [.int .i32 0, .int .i64 0]))) else none) := by
  kernel_rfl

/- pergola/strval.escaped -/
def dr31 : Nat → List Nat := fun r => match r with
  | 0 => [2, 3]
  | 1 => [4, 5]
  | 2 => [0, 6]
  | 3 => [6, 7, 8]
  | 4 => [11]
  | 5 => [12]
  | 6 => [13]
  | 7 => [0, 9, 10, 14, 15, 16]
  | 8 => [10, 18]
  | 9 => [0, 9, 17]
  | 10 => [17, 20]
  | 11 => [0, 9, 19]
  | 12 => [19, 22]
  | 13 => [0, 9, 21]
  | 14 => [21, 24]
  | 15 => [0, 9, 23]
  | 16 => [23, 26]
  | 17 => [0, 9, 25]
  | 18 => [9, 25, 28]
  | 19 => [0, 27, 29, 30, 31, 32]
  | 20 => [0, 27]
  | _ => []
def T31 : T6 := fun f ls => match f with
  | 43 => S43 ls
  | _ => none
def cn31 : FuncId → Option Nat := fun f => match f with

  | _ => none
def E31 : Env Ty6 den6 := mk6 T31 cn31 dr31 33
theorem ev31 (n : Nat) (a0 : List Int) : evFn E31 n Go.Proofs.Try.f31 [.sl .i32 a0 none] =
    bif decide ((List.length a0 : Int) < 2) then (some (.tup [.int .i32 0, .int .i64 0])) else (match idx a0 1 with | none => none | some y1 => (bif y1 == 34 then (bif y1 == 34 then (match idx a0 1 with | none => none | some y2 => (some (.tup [.int .i32 y2, .int .i64 2]))) else (bif y1 == 98 then (some (.tup [.int .i32 8, .int .i64 2])) else (bif y1 == 102 then (some (.tup [.int .i32 12, .int .i64 2])) else (bif y1 == 110 then (some (.tup [.int .i32 10, .int .i64 2])) else (bif y1 == 114 then (some (.tup [.int .i32 13, .int .i64 2])) else (bif y1 == 116 then (some (.tup [.int .i32 9, .int .i64 2])) else (bif y1 == 117 then (bif lim4 a0 && decide (2 ≤ List.length a0) then (some (.tup [.int .i32 ((codedF (List.drop 2 a0)).1), .int .i64 ((codedF (List.drop 2 a0)).2)])) else none) else (some (.tup [.int .i32 0, .int .i64 0]))))))))) else (bif y1 == 92 then (bif y1 == 92 then (match idx a0 1 with | none => none | some y3 => (some (.tup [.int .i32 y3, .int .i64 2]))) else (bif y1 == 98 then (some (.tup [.int .i32 8, .int .i64 2])) else (bif y1 == 102 then (some (.tup [.int .i32 12, .int .i64 2])) else (bif y1 == 110 then (some (.tup [.int .i32 10, .int .i64 2])) else (bif y1 == 114 then (some (.tup [.int .i32 13, .int .i64 2])) else (bif y1 == 116 then (some (.tup [.int .i32 9, .int .i64 2])) else (bif y1 == 117 then (bif lim4 a0 && decide (2 ≤ List.length a0) then (some (.tup [.int .i32 ((codedF (List.drop 2 a0)).1), .int .i64 ((codedF (List.drop 2 a0)).2)])) else none) else (some (.tup [.int .i32 0, .int .i64 0]))))))))) else (bif y1 == 47 then (match idx a0 1 with | none => none | some y4 => (some (.tup [.int .i32 y4, .int .i64 2]))) else (bif y1 == 98 then (some (.tup [.int .i32 8, .int .i64 2])) else (bif y1 == 102 then (some (.tup [.int .i32 12, .int .i64 2])) else (bif y1 == 110 then (some (.tup [.int .i32 10, .int .i64 2])) else (bif y1 == 114 then (some (.tup [.int .i32 13, .int .i64 2])) else (bif y1 == 116 then (some (.tup [.int .i32 9, .int .i64 2])) else (bif y1 == 117 then (bif lim4 a0 && decide (2 ≤ List.length a0) then (some (.tup [.int .i32 ((codedF (List.drop 2 a0)).1), .int .i64 ((codedF (List.drop 2 a0)).2)])) else none) else (some (.tup [.int .i32 0, .int .i64 0])))))))))))) := by
  kernel_rfl

/- pergola/utf.Source -/
def dr32 : Nat → List Nat := fun r => match r with
  | 0 => [2]
  | 1 => [3]
  | 2 => [0, 4, 5, 6, 7, 8, 9, 10, 11, 12, 13, 14]
  | 3 => [0, 4, 15, 16, 17, 18, 19, 20, 21, 22, 23, 24]
  | _ => []
def T32 : T6 := fun f ls => match f with

  | _ => none
def cn32 : FuncId → Option Nat := fun f => match f with

  | _ => none
def E32 : Env Ty6 den6 := mk6 T32 cn32 dr32 25
theorem ev32 (n : Nat) (a0 : Int) : evFn E32 n Go.Proofs.Try.f32 [.int .i32 a0] =
    bif decide (a0 < 32) then (bif (a0 == 9) == false then (bif (a0 == 10) == false then (some (.one (.bool (a0 == 13)))) else (some (.one (.bool true)))) else (some (.one (.bool true)))) else (bif (decide (a0 ≤ 65535)) == true then (bif (decide (a0 < 55296)) == false then (some (.one (.bool (decide (a0 ≥ 57344))))) else (some (.one (.bool true)))) else (some (.one (.bool false)))) := by
  kernel_rfl

/- pergola/pergolaref01.Source -/
def dr53 : Nat → List Nat := fun r => match r with
  | 0 => [2]
  | 1 => [3]
  | 2 => [0, 4, 5, 6]
  | 3 => [0, 4, 7, 8, 9, 10, 11, 12]
  | _ => []
def T53 : T6 := fun f ls => match f with
  | 61 => S61 ls
  | 62 => S62 ls
  | _ => none
def cn53 : FuncId → Option Nat := fun f => match f with

  | _ => none
def E53 : Env Ty6 den6 := mk6 T53 cn53 dr53 13
theorem ev53 (n : Nat) (a0 : Int) : evFn E53 n Go.Proofs.Try.f53 [.int .i32 a0] =
    bif decide (a0 < 32) then (bif room (List.length [9, 10, 13]) 1 then (some (.one (.bool (inF a0 [9, 10, 13])))) else none) else (bif (decide (a0 < 65536)) == true then (some (.one (.bool (validF a0)))) else (some (.one (.bool false)))) := by
  kernel_rfl

/- pergola/pergolaref01.Scalar -/
def dr61 : Nat → List Nat := fun r => match r with
  | 0 => [2]
  | 1 => [3, 4, 5, 6, 7]
  | 2 => [0, 8]
  | 3 => [0, 8, 9, 10, 11, 12, 13, 14]
  | _ => []
def T61 : T6 := fun f ls => match f with

  | _ => none
def cn61 : FuncId → Option Nat := fun f => match f with

  | _ => none
def E61 : Env Ty6 den6 := mk6 T61 cn61 dr61 15
theorem ev61 (n : Nat) (a0 : Int) : evFn E61 n Go.Proofs.Try.f61 [.int .i32 a0] =
    bif (decide (a0 ≥ 55296)) == true then (bif decide (a0 ≤ 57343) then (some (.one (.bool false))) else (bif (decide (a0 ≥ 0)) == true then (some (.one (.bool (decide (a0 ≤ 1114111))))) else (some (.one (.bool false))))) else (bif (decide (a0 ≥ 0)) == true then (some (.one (.bool (decide (a0 ≤ 1114111))))) else (some (.one (.bool false)))) := by
  kernel_rfl

/- pergola/pergolaref01.in -/
def dr62 : Nat → List Nat := fun r => match r with
  | 0 => [4]
  | 2 => [6, 7, 8]
  | 3 => [10, 11, 17]
  | 4 => [9, 12, 13, 14, 15, 16]
  | 5 => [0, 1, 5, 17]
  | 6 => [0, 1, 5, 9]
  | _ => []
def T62 : T6 := fun f ls => match f with

  | _ => none
def cn62 : FuncId → Option Nat := fun f => match f with

  | _ => none
def E62 : Env Ty6 den6 := mk6 T62 cn62 dr62 18
def st62_2 (x0 : Int) (x1 : List UInt8) (x5 : Int) : S6 := ⟨[(0, .one (.int .i32 x0)), (1, .one (.str x1)), (5, .one (.int .i64 x5))], []⟩
theorem ev62 (n : Nat) (a0 : Int) (a1 : List UInt8) : evFn E62 n Go.Proofs.Try.f62 [.int .i32 a0, .str a1] =
    evLoop (lbC E62 (cdAt Go.Proofs.Try.f62 [1, 0, 1, 0, 0]) 10002 n) n (st62_2 a0 a1 0) (blockK 0 (seqK (evCode E62 n (cdAt Go.Proofs.Try.f62 [1, 1])) (retK Go.Proofs.Try.f62.results.toList))) := by
  kernel_rfl
theorem lb62_2_eq (n : Nat) (x0 : Int) (x1 : List UInt8) (x5 : Int) (K : Ex → S6 → Option E6) : lbC E62 (cdAt Go.Proofs.Try.f62 [1, 0, 1, 0, 0]) 10002 n (st62_2 x0 x1 x5) K =
    bif decide (x5 < (List.length x1 : Int)) then (match idx x1 x5 with | none => none | some y1 => (bif (IntKind.wrap .i32 (UInt8.toNat y1 : Int)) == x0 then (K .ret ⟨[(4, .one (.bool true))], []⟩) else (K .normal (st62_2 x0 x1 (IntKind.wrap .i64 (x5 + 1)))))) else (K (.exit 0) ⟨[(0, .one (.int .i32 x0)), (1, .one (.str x1)), (5, .one (.int .i64 x5)), (9, .one (.bool (decide (x5 < (List.length x1 : Int)))))], []⟩) := by
  kernel_rfl
theorem ex62_2_0 (n : Nat) (x0 : Int) (x1 : List UInt8) (x5 : Int) (x9 : Bool) : (blockK 0 (seqK (evCode E62 n (cdAt Go.Proofs.Try.f62 [1, 1])) (retK Go.Proofs.Try.f62.results.toList))) (.exit 0) ⟨[(0, .one (.int .i32 x0)), (1, .one (.str x1)), (5, .one (.int .i64 x5)), (9, .one (.bool x9))], []⟩ =
    some (.one (.bool false)) := by
  kernel_rfl

/- unicode/utf8.ValidRune -/
def dr44 : Nat → List Nat := fun r => match r with
  | 0 => [2]
  | 1 => [4, 5, 6, 7, 8, 9]
  | 2 => [0, 3]
  | 3 => [0, 3, 11, 12, 13, 14, 15, 16]
  | 4 => [10]
  | 5 => [10]
  | _ => []
def T44 : T6 := fun f ls => match f with

  | _ => none
def cn44 : FuncId → Option Nat := fun f => match f with

  | _ => none
def E44 : Env Ty6 den6 := mk6 T44 cn44 dr44 17
theorem ev44 (n : Nat) (a0 : Int) : evFn E44 n Go.Proofs.Try.f44 [.int .i32 a0] =
    bif (decide (0 ≤ a0)) == true then (bif decide (a0 < 55296) then (some (.one (.bool true))) else (bif (decide (57343 < a0)) == true then (bif decide (a0 ≤ 1114111) then (some (.one (.bool true))) else (some (.one (.bool false)))) else (some (.one (.bool false))))) else (bif (decide (57343 < a0)) == true then (bif decide (a0 ≤ 1114111) then (some (.one (.bool true))) else (some (.one (.bool false)))) else (some (.one (.bool false)))) := by
  kernel_rfl

/- unicode/utf8.AppendRune -/
def dr45 : Nat → List Nat := fun r => match r with
  | 0 => [4]
  | 1 => [5, 6]
  | 2 => [0, 1, 7, 8, 9, 10, 11, 12]
  | 3 => [0, 1, 7, 13, 14, 15]
  | _ => []
def T45 : T6 := fun f ls => match f with
  | 59 => S59 ls
  | _ => none
def cn45 : FuncId → Option Nat := fun f => match f with
  | 59 => some 0
  | _ => none
def E45 : Env Ty6 den6 := mk6 T45 cn45 dr45 16
theorem ev45 (n : Nat) (a0 : List Int) (a1 : Int) : evFn E45 n Go.Proofs.Try.f45 [.sl .u8 a0 (some 0), .int .i32 a1] =
    bif decide ((IntKind.wrap .u32 a1) ≤ 127) then (bif room (List.length a0 + 1) 1 then (some (.one (.sl .u8 (a0 ++ [IntKind.wrap .u8 a1]) (some 0)))) else none) else (bif room (List.length a0 + 4) 1 && validF a1 && decide (128 ≤ a1) then (some (.one (.sl .u8 (catI a0 (u8F a1)) (some 0)))) else none) := by
  kernel_rfl

/- unicode/utf8.appendRuneNonASCII -/
def dr59 : Nat → List Nat := fun r => match r with
  | 0 => [4]
  | 1 => [6, 7]
  | 2 => [0, 1, 8, 9, 10, 50]
  | 3 => [12, 13]
  | 4 => [0, 1, 5, 11, 14, 15, 16, 17, 18, 19, 20, 21, 22, 23, 24]
  | 5 => [11, 26, 27]
  | 6 => [28, 29, 30, 31, 32, 33]
  | 7 => [0, 1, 5, 25, 34, 35, 36, 37, 38, 39, 40, 41, 42, 43, 44, 45, 46, 47, 48, 49]
  | 8 => [5, 25, 51, 52, 53, 54, 55, 56]
  | 9 => [0, 1, 50, 57, 58, 59, 60, 61, 62, 63, 64, 65, 66, 67, 68, 69, 70, 71, 72, 73, 74, 75, 76, 77]
  | _ => []
def T59 : T6 := fun f ls => match f with

  | _ => none
def cn59 : FuncId → Option Nat := fun f => match f with

  | _ => none
def E59 : Env Ty6 den6 := mk6 T59 cn59 dr59 78
theorem ev59 (n : Nat) (a0 : List Int) (a1 : Int) : evFn E59 n Go.Proofs.Try.f59 [.sl .u8 a0 (some 0), .int .i32 a1] =
    bif decide ((IntKind.wrap .u32 a1) ≤ 2047) then (bif room (List.length a0 + 2) 1 then (some (.one (.sl .u8 (a0 ++ [bits .or .u8 192 (IntKind.wrap .u8 (a1 / 2 ^ (Int.toNat 6))), bits .or .u8 128 (bits .and .u8 (IntKind.wrap .u8 a1) 63)]) (some 0)))) else none) else (bif decide ((IntKind.wrap .u32 a1) < 55296) then (bif decide ((IntKind.wrap .u32 a1) < 55296) then (bif room (List.length a0 + 3) 1 then (some (.one (.sl .u8 (a0 ++ [bits .or .u8 224 (IntKind.wrap .u8 (a1 / 2 ^ (Int.toNat 12))), bits .or .u8 128 (bits .and .u8 (IntKind.wrap .u8 (a1 / 2 ^ (Int.toNat 6))) 63), bits .or .u8 128 (bits .and .u8 (IntKind.wrap .u8 a1) 63)]) (some 0)))) else none) else (bif (decide ((IntKind.wrap .u32 a1) > 65535)) == true then (bif decide ((IntKind.wrap .u32 a1) ≤ 1114111) then (bif room (List.length a0 + 4) 1 then (some (.one (.sl .u8 (a0 ++ [bits .or .u8 240 (IntKind.wrap .u8 (a1 / 2 ^ (Int.toNat 18))), bits .or .u8 128 (bits .and .u8 (IntKind.wrap .u8 (a1 / 2 ^ (Int.toNat 12))) 63), bits .or .u8 128 (bits .and .u8 (IntKind.wrap .u8 (a1 / 2 ^ (Int.toNat 6))) 63), bits .or .u8 128 (bits .and .u8 (IntKind.wrap .u8 a1) 63)]) (some 0)))) else none) else (bif room (List.length a0 + 3) 1 then (some (.one (.sl .u8 (a0 ++ [239, 191, 189]) (some 0)))) else none)) else (bif room (List.length a0 + 3) 1 then (some (.one (.sl .u8 (a0 ++ [239, 191, 189]) (some 0)))) else none))) else (bif (decide (57343 < (IntKind.wrap .u32 a1))) == true then (bif decide ((IntKind.wrap .u32 a1) ≤ 65535) then (bif room (List.length a0 + 3) 1 then (some (.one (.sl .u8 (a0 ++ [bits .or .u8 224 (IntKind.wrap .u8 (a1 / 2 ^ (Int.toNat 12))), bits .or .u8 128 (bits .and .u8 (IntKind.wrap .u8 (a1 / 2 ^ (Int.toNat 6))) 63), bits .or .u8 128 (bits .and .u8 (IntKind.wrap .u8 a1) 63)]) (some 0)))) else none) else (bif (decide ((IntKind.wrap .u32 a1) > 65535)) == true then (bif decide ((IntKind.wrap .u32 a1) ≤ 1114111) then (bif room (List.length a0 + 4) 1 then (some (.one (.sl .u8 (a0 ++ [bits .or .u8 240 (IntKind.wrap .u8 (a1 / 2 ^ (Int.toNat 18))), bits .or .u8 128 (bits .and .u8 (IntKind.wrap .u8 (a1 / 2 ^ (Int.toNat 12))) 63), bits .or .u8 128 (bits .and .u8 (IntKind.wrap .u8 (a1 / 2 ^ (Int.toNat 6))) 63), bits .or .u8 128 (bits .and .u8 (IntKind.wrap .u8 a1) 63)]) (some 0)))) else none) else (bif room (List.length a0 + 3) 1 then (some (.one (.sl .u8 (a0 ++ [239, 191, 189]) (some 0)))) else none)) else (bif room (List.length a0 + 3) 1 then (some (.one (.sl .u8 (a0 ++ [239, 191, 189]) (some 0)))) else none))) else (bif (decide ((IntKind.wrap .u32 a1) > 65535)) == true then (bif decide ((IntKind.wrap .u32 a1) ≤ 1114111) then (bif room (List.length a0 + 4) 1 then (some (.one (.sl .u8 (a0 ++ [bits .or .u8 240 (IntKind.wrap .u8 (a1 / 2 ^ (Int.toNat 18))), bits .or .u8 128 (bits .and .u8 (IntKind.wrap .u8 (a1 / 2 ^ (Int.toNat 12))) 63), bits .or .u8 128 (bits .and .u8 (IntKind.wrap .u8 (a1 / 2 ^ (Int.toNat 6))) 63), bits .or .u8 128 (bits .and .u8 (IntKind.wrap .u8 a1) 63)]) (some 0)))) else none) else (bif room (List.length a0 + 3) 1 then (some (.one (.sl .u8 (a0 ++ [239, 191, 189]) (some 0)))) else none)) else (bif room (List.length a0 + 3) 1 then (some (.one (.sl .u8 (a0 ++ [239, 191, 189]) (some 0)))) else none)))) := by
  kernel_rfl

end Go.Aev
end

section
set_option linter.unusedVariables false
namespace Go.Aev
open Go.Proofs
/- pergola/pergolaref06.unit -/
def dr48 : Nat → List Nat := fun r => match r with
  | 0 => [4]
  | 1 => [8, 9, 10, 11, 12, 13, 14, 15, 16, 17, 18, 19, 20, 21, 22, 23, 24, 25, 26]
  | 2 => [0, 1, 27]
  | 3 => [27]
  | 4 => [28, 29]
  | 5 => [30, 31, 32]
  | 6 => [34, 35]
  | 7 => [33, 36, 37, 38, 39, 40]
  | 8 => [41]
  | 9 => [0, 1, 5, 6, 7, 42]
  | 10 => [7, 42, 43, 44, 45, 46, 47]
  | 11 => [0, 1, 5, 6, 33, 48]
  | _ => []
def T48 : T6 := fun f ls => match f with
  | 60 => S60 ls
  | _ => none
def cn48 : FuncId → Option Nat := fun f => match f with

  | _ => none
def E48 : Env Ty6 den6 := mk6 T48 cn48 dr48 49
def st48_5 (x0 : List Int) (x1 : Int) (x5 : Int) (x6 : Int) : S6 := ⟨[(0, .one (.sl .i32 x0 none)), (1, .one (.int .i64 x1)), (5, .one (.int .i32 x5)), (6, .one (.int .i64 x6))], []⟩
theorem ev48 (n : Nat) (a0 : List Int) (a1 : Int) : evFn E48 n Go.Proofs.Try.f48 [.sl .i32 a0 none, .int .i64 a1] =
    bif (decide ((IntKind.wrap .i64 (a1 + 6)) > (List.length a0 : Int))) == false then (match idx a0 a1 with | none => none | some y1 => (bif (y1 != 92) == false then (match idx a0 (IntKind.wrap .i64 (a1 + 1)) with | none => none | some y2 => (bif y2 != 117 then (some (.one (.int .i32 (-1)))) else (evLoop (lbC E48 (cdAt Go.Proofs.Try.f48 [1, 1, 1, 0, 1, 0, 0]) 10005 n) n (st48_5 a0 a1 0 (IntKind.wrap .i64 (a1 + 2))) (blockK 0 (seqK (evCode E48 n (cdAt Go.Proofs.Try.f48 [1, 1, 1, 1])) (retK Go.Proofs.Try.f48.results.toList)))))) else (some (.one (.int .i32 (-1)))))) else (some (.one (.int .i32 (-1)))) := by
  kernel_rfl
theorem lb48_5_eq (n : Nat) (x0 : List Int) (x1 : Int) (x5 : Int) (x6 : Int) (K : Ex → S6 → Option E6) : lbC E48 (cdAt Go.Proofs.Try.f48 [1, 1, 1, 0, 1, 0, 0]) 10005 n (st48_5 x0 x1 x5 x6) K =
    bif decide (x6 < (IntKind.wrap .i64 (x1 + 6))) then (match idx x0 x6 with | none => none | some y3 => (bif decide ((hexF y3) < 0) then (K .ret ⟨[(4, .one (.int .i32 (-1)))], []⟩) else (K .normal (st48_5 x0 x1 (IntKind.wrap .i32 ((IntKind.wrap .i32 (x5 * 16)) + (IntKind.wrap .i32 (hexF y3)))) (IntKind.wrap .i64 (x6 + 1)))))) else (K (.exit 0) ⟨[(0, .one (.sl .i32 x0 none)), (1, .one (.int .i64 x1)), (5, .one (.int .i32 x5)), (6, .one (.int .i64 x6)), (33, .one (.bool (decide (x6 < (IntKind.wrap .i64 (x1 + 6))))))], []⟩) := by
  kernel_rfl
theorem ex48_5_0 (n : Nat) (x0 : List Int) (x1 : Int) (x5 : Int) (x6 : Int) (x33 : Bool) : (blockK 0 (seqK (evCode E48 n (cdAt Go.Proofs.Try.f48 [1, 1, 1, 1])) (retK Go.Proofs.Try.f48.results.toList))) (.exit 0) ⟨[(0, .one (.sl .i32 x0 none)), (1, .one (.int .i64 x1)), (5, .one (.int .i32 x5)), (6, .one (.int .i64 x6)), (33, .one (.bool x33))], []⟩ =
    some (.one (.int .i32 x5)) := by
  kernel_rfl

/- pergola/pergolaref06.short -/
def dr47 : Nat → List Nat := fun r => match r with
  | 0 => [2]
  | 4 => [6, 7, 8]
  | 5 => [10, 11, 17]
  | 6 => [9, 12, 13, 14, 15, 16]
  | 7 => [0, 3, 4, 5, 17, 18, 19, 20, 21]
  | 8 => [0, 3, 4, 5, 9]
  | _ => []
def T47 : T6 := fun f ls => match f with

  | _ => none
def cn47 : FuncId → Option Nat := fun f => match f with

  | _ => none
def E47 : Env Ty6 den6 := mk6 T47 cn47 dr47 22
def st47_4 (x0 : Int) (x3 : List UInt8) (x4 : List UInt8) (x5 : Int) : S6 := ⟨[(0, .one (.int .i32 x0)), (3, .one (.str x3)), (4, .one (.str x4)), (5, .one (.int .i64 x5))], []⟩
theorem ev47 (n : Nat) (a0 : Int) : evFn E47 n Go.Proofs.Try.f47 [.int .i32 a0] =
    evLoop (lbC E47 (cdAt Go.Proofs.Try.f47 [1, 1, 1, 0, 1, 0, 0]) 10004 n) n (st47_4 a0 [34, 92, 47, 98, 102, 110, 114, 116] [34, 92, 47, 8, 12, 10, 13, 9] 0) (blockK 0 (seqK (evCode E47 n (cdAt Go.Proofs.Try.f47 [1, 1, 1, 1])) (retK Go.Proofs.Try.f47.results.toList))) := by
  kernel_rfl
theorem lb47_4_eq (n : Nat) (x0 : Int) (x3 : List UInt8) (x4 : List UInt8) (x5 : Int) (K : Ex → S6 → Option E6) : lbC E47 (cdAt Go.Proofs.Try.f47 [1, 1, 1, 0, 1, 0, 0]) 10004 n (st47_4 x0 x3 x4 x5) K =
    bif decide (x5 < (List.length x3 : Int)) then (match idx x3 x5 with | none => none | some y1 => (bif (IntKind.wrap .i32 (UInt8.toNat y1 : Int)) == x0 then (match idx x4 x5 with | none => none | some y2 => (K .ret ⟨[(2, .one (.int .i32 (IntKind.wrap .i32 (UInt8.toNat y2 : Int))))], []⟩)) else (K .normal (st47_4 x0 x3 x4 (IntKind.wrap .i64 (x5 + 1)))))) else (K (.exit 0) ⟨[(0, .one (.int .i32 x0)), (3, .one (.str x3)), (4, .one (.str x4)), (5, .one (.int .i64 x5)), (9, .one (.bool (decide (x5 < (List.length x3 : Int)))))], []⟩) := by
  kernel_rfl
theorem ex47_4_0 (n : Nat) (x0 : Int) (x3 : List UInt8) (x4 : List UInt8) (x5 : Int) (x9 : Bool) : (blockK 0 (seqK (evCode E47 n (cdAt Go.Proofs.Try.f47 [1, 1, 1, 1])) (retK Go.Proofs.Try.f47.results.toList))) (.exit 0) ⟨[(0, .one (.int .i32 x0)), (3, .one (.str x3)), (4, .one (.str x4)), (5, .one (.int .i64 x5)), (9, .one (.bool x9))], []⟩ =
    some (.one (.int .i32 (-1))) := by
  kernel_rfl

/- pergola/pergolaref06.plain -/
def dr46 : Nat → List Nat := fun r => match r with
  | 0 => [2]
  | 1 => [0, 3, 4, 5, 6, 7, 8, 9, 10, 11, 12, 13, 14, 15, 16, 17, 18, 19, 20]
  | _ => []
def T46 : T6 := fun f ls => match f with
  | 53 => S53 ls
  | _ => none
def cn46 : FuncId → Option Nat := fun f => match f with

  | _ => none
def E46 : Env Ty6 den6 := mk6 T46 cn46 dr46 21
theorem ev46 (n : Nat) (a0 : Int) : evFn E46 n Go.Proofs.Try.f46 [.int .i32 a0] =
    bif (sourceF a0) == true then (bif (a0 != 34) == true then (bif (a0 != 92) == true then (bif (a0 != 10) == true then (some (.one (.bool (a0 != 13)))) else (some (.one (.bool false)))) else (some (.one (.bool false)))) else (some (.one (.bool false)))) else (some (.one (.bool false))) := by
  kernel_rfl

/- pergola/pergolaref06.piece -/
def dr34 : Nat → List Nat := fun r => match r with
  | 0 => [4, 5]
  | 1 => [12, 13, 14, 15, 16]
  | 2 => [6]
  | 3 => [0, 1, 17, 18, 19, 20, 21]
  | 4 => [17, 22, 23, 24, 25, 26, 27, 28, 29, 30, 31, 32]
  | 5 => [0, 1, 33]
  | 6 => [33, 34, 35, 36, 37, 38, 39]
  | 7 => [40]
  | 8 => [0, 1, 7, 41, 42]
  | 9 => [7, 41, 43, 44, 45]
  | 10 => [47, 48, 49, 50, 51, 52, 53, 54, 55, 56]
  | 11 => [0, 1, 8, 46]
  | 12 => [46, 58, 59, 60, 61, 62, 63]
  | 13 => [0, 1, 57, 64, 65, 66, 67]
  | 14 => [8, 9, 68, 69, 70, 71, 72, 73]
  | 15 => [11, 74]
  | 16 => [10, 75]
  | 17 => [10, 75, 76]
  | 18 => [0, 1, 8, 57, 77]
  | _ => []
def T34 : T6 := fun f ls => match f with
  | 46 => S46 ls
  | 47 => S47 ls
  | 48 => S48 ls
  | 49 => S49 ls
  | _ => none
def cn34 : FuncId → Option Nat := fun f => match f with

  | _ => none
def E34 : Env Ty6 den6 := mk6 T34 cn34 dr34 78
theorem ev34 (n : Nat) (a0 : List Int) (a1 : Int) : evFn E34 n Go.Proofs.Try.f34 [.sl .i32 a0 none, .int .i64 a1] =
    match idx a0 a1 with | none => none | some y1 => (bif plainF y1 then (match idx a0 a1 with | none => none | some y2 => (some (.tup [.int .i32 y2, .int .i64 1]))) else (match idx a0 a1 with | none => none | some y3 => (bif (y3 != 92) == false then (bif decide ((IntKind.wrap .i64 (a1 + 1)) ≥ (List.length a0 : Int)) then (some (.tup [.int .i32 0, .int .i64 0])) else (match idx a0 (IntKind.wrap .i64 (a1 + 1)) with | none => none | some y4 => (bif decide ((shortF y4) ≥ 0) then (some (.tup [.int .i32 (shortF y4), .int .i64 2])) else (bif lim4 a0 && decide (0 ≤ a1) && decide (a1 ≤ (List.length a0 : Int) + 12) then (bif (decide ((unitF (List.drop (Int.toNat a1) a0)) < 0)) == false then (bif (decide ((unitF (List.drop (Int.toNat a1) a0)) ≥ 56320)) == true then (bif decide ((unitF (List.drop (Int.toNat a1) a0)) ≤ 57343) then (some (.tup [.int .i32 0, .int .i64 0])) else (bif (decide ((unitF (List.drop (Int.toNat a1) a0)) ≥ 55296)) == true then (bif decide ((unitF (List.drop (Int.toNat a1) a0)) ≤ 56319) then (bif lim4 a0 && decide (0 ≤ (IntKind.wrap .i64 (a1 + 6))) && decide ((IntKind.wrap .i64 (a1 + 6)) ≤ (List.length a0 : Int) + 12) then (bif !((joinF (unitF (List.drop (Int.toNat a1) a0)) (unitF (List.drop (Int.toNat (IntKind.wrap .i64 (a1 + 6))) a0))).2) then (some (.tup [.int .i32 0, .int .i64 0])) else (some (.tup [.int .i32 ((joinF (unitF (List.drop (Int.toNat a1) a0)) (unitF (List.drop (Int.toNat (IntKind.wrap .i64 (a1 + 6))) a0))).1), .int .i64 12]))) else none) else (some (.tup [.int .i32 (unitF (List.drop (Int.toNat a1) a0)), .int .i64 6]))) else (some (.tup [.int .i32 (unitF (List.drop (Int.toNat a1) a0)), .int .i64 6])))) else (bif (decide ((unitF (List.drop (Int.toNat a1) a0)) ≥ 55296)) == true then (bif decide ((unitF (List.drop (Int.toNat a1) a0)) ≤ 56319) then (bif lim4 a0 && decide (0 ≤ (IntKind.wrap .i64 (a1 + 6))) && decide ((IntKind.wrap .i64 (a1 + 6)) ≤ (List.length a0 : Int) + 12) then (bif !((joinF (unitF (List.drop (Int.toNat a1) a0)) (unitF (List.drop (Int.toNat (IntKind.wrap .i64 (a1 + 6))) a0))).2) then (some (.tup [.int .i32 0, .int .i64 0])) else (some (.tup [.int .i32 ((joinF (unitF (List.drop (Int.toNat a1) a0)) (unitF (List.drop (Int.toNat (IntKind.wrap .i64 (a1 + 6))) a0))).1), .int .i64 12]))) else none) else (some (.tup [.int .i32 (unitF (List.drop (Int.toNat a1) a0)), .int .i64 6]))) else (some (.tup [.int .i32 (unitF (List.drop (Int.toNat a1) a0)), .int .i64 6])))) else (some (.tup [.int .i32 0, .int .i64 0]))) else none)))) else (some (.tup [.int .i32 0, .int .i64 0]))))) := by
  kernel_rfl

/- pergola/pergolaref01.Put -/
def dr50 : Nat → List Nat := fun r => match r with
  | 0 => [2]
  | 1 => [6, 7]
  | 2 => [0, 8]
  | 3 => [8, 9, 10, 11, 12]
  | 4 => [13, 14, 15, 16, 17]
  | 5 => [18, 19, 20, 21, 22]
  | 6 => [24, 25]
  | 7 => [0, 3, 4, 5, 23, 26, 27, 28]
  | 8 => [23, 30, 31]
  | 9 => [0, 3, 4, 5, 29, 32, 33, 34, 35, 36, 37]
  | 10 => [29, 39, 40]
  | 11 => [0, 3, 4, 5, 38, 41, 42, 43, 44, 45, 46, 47]
  | 12 => [0, 3, 4, 5, 38, 48, 49, 50, 51, 52, 53, 54, 55]
  | _ => []
def T50 : T6 := fun f ls => match f with
  | 61 => S61 ls
  | _ => none
def cn50 : FuncId → Option Nat := fun f => match f with

  | _ => none
def E50 : Env Ty6 den6 := mk6 T50 cn50 dr50 56
theorem ev50 (n : Nat) (a0 : Int) : evFn E50 n Go.Proofs.Try.f50 [.int .i32 a0] =
    bif !(validF a0) then (some (.one (.sl .u8 [] (some 1)))) else (bif decide (a0 < 128) then (some (.one (.sl .u8 [IntKind.wrap .u8 a0] (some 1)))) else (bif decide (a0 < 2048) then (some (.one (.sl .u8 [IntKind.wrap .u8 (IntKind.wrap .i32 (192 + (IntKind.wrap .i32 (Int.tdiv a0 64)))), IntKind.wrap .u8 (IntKind.wrap .i32 (128 + (Int.tmod a0 64)))] (some 1)))) else (bif decide (a0 < 65536) then (some (.one (.sl .u8 [IntKind.wrap .u8 (IntKind.wrap .i32 (224 + (IntKind.wrap .i32 (Int.tdiv a0 4096)))), IntKind.wrap .u8 (IntKind.wrap .i32 (128 + (Int.tmod (IntKind.wrap .i32 (Int.tdiv a0 64)) 64))), IntKind.wrap .u8 (IntKind.wrap .i32 (128 + (Int.tmod a0 64)))] (some 1)))) else (some (.one (.sl .u8 [IntKind.wrap .u8 (IntKind.wrap .i32 (240 + (IntKind.wrap .i32 (Int.tdiv a0 262144)))), IntKind.wrap .u8 (IntKind.wrap .i32 (128 + (Int.tmod (IntKind.wrap .i32 (Int.tdiv a0 4096)) 64))), IntKind.wrap .u8 (IntKind.wrap .i32 (128 + (Int.tmod (IntKind.wrap .i32 (Int.tdiv a0 64)) 64))), IntKind.wrap .u8 (IntKind.wrap .i32 (128 + (Int.tmod a0 64)))] (some 1))))))) := by
  kernel_rfl

/- pergola/utf.Encode -/
def dr33 : Nat → List Nat := fun r => match r with
  | 0 => [2, 3]
  | 2 => [0]
  | 4 => [10, 11, 12]
  | 5 => [13, 14]
  | 6 => [4, 6, 7, 8, 9, 15]
  | 7 => [6, 15, 16, 17, 18]
  | 8 => [19]
  | 9 => [4, 7, 8, 9, 10, 20, 21]
  | _ => []
def T33 : T6 := fun f ls => match f with
  | 44 => S44 ls
  | 45 => S45 ls
  | _ => none
def cn33 : FuncId → Option Nat := fun f => match f with
  | 45 => some 0
  | _ => none
def E33 : Env Ty6 den6 := mk6 T33 cn33 dr33 22
def st33_3 (x4 : List Int) (x7 : List Int) (x8 : Int) (x9 : Int) : S6 := ⟨[(4, .one (.sl .u8 x4 (some 104))), (7, .one (.sl .i32 x7 none)), (8, .one (.int .i64 x8)), (9, .one (.int .i64 x9))], [104]⟩
theorem ev33 (n : Nat) (a0 : List Int) : evFn E33 n Go.Proofs.Try.f33 [.sl .i32 a0 none] =
    evLoop (lbC E33 (cdAt Go.Proofs.Try.f33 [1, 1, 0, 1, 0, 0]) 10003 n) n (st33_3 [] a0 (List.length a0 : Int) 0) (blockK 0 (seqK (evCode E33 n (cdAt Go.Proofs.Try.f33 [1, 1, 1])) (retK Go.Proofs.Try.f33.results.toList))) := by
  kernel_rfl
theorem lb33_3_eq (n : Nat) (x4 : List Int) (x7 : List Int) (x8 : Int) (x9 : Int) (K : Ex → S6 → Option E6) : lbC E33 (cdAt Go.Proofs.Try.f33 [1, 1, 0, 1, 0, 0]) 10003 n (st33_3 x4 x7 x8 x9) K =
    bif decide (x9 < x8) then (match idx x7 x9 with | none => none | some y1 => (bif !(validF y1) then (K .ret ⟨[(2, .one (.str [])), (3, .one (.bool false))], []⟩) else (bif room (List.length x4 + 4) 1 && validF y1 then (K .normal (st33_3 (catI x4 (u8F y1)) x7 x8 (IntKind.wrap .i64 (x9 + 1)))) else none))) else (K (.exit 0) ⟨[(4, .one (.sl .u8 x4 (some 104))), (7, .one (.sl .i32 x7 none)), (8, .one (.int .i64 x8)), (9, .one (.int .i64 x9)), (10, .one (.bool (decide (x9 < x8))))], [104]⟩) := by
  kernel_rfl
theorem ex33_3_0 (n : Nat) (x4 : List Int) (x7 : List Int) (x8 : Int) (x9 : Int) (x10 : Bool) : (blockK 0 (seqK (evCode E33 n (cdAt Go.Proofs.Try.f33 [1, 1, 1])) (retK Go.Proofs.Try.f33.results.toList))) (.exit 0) ⟨[(4, .one (.sl .u8 x4 (some 104))), (7, .one (.sl .i32 x7 none)), (8, .one (.int .i64 x8)), (9, .one (.int .i64 x9)), (10, .one (.bool x10))], [104]⟩ =
    some (.tup [.str (List.map (fun (n : Int) => UInt8.ofNat n.toNat) x4), .bool true]) := by
  kernel_rfl

/- pergola/pergolaref01.Encode -/
def dr35 : Nat → List Nat := fun r => match r with
  | 0 => [2, 3]
  | 3 => [7, 8, 9]
  | 4 => [11, 12]
  | 5 => [10, 13, 14, 15, 16, 17]
  | 6 => [18, 19]
  | 7 => [0, 4, 5, 6, 20]
  | 8 => [6, 20, 21, 22, 23]
  | 9 => [0, 4, 5, 10, 24, 25]
  | _ => []
def T35 : T6 := fun f ls => match f with
  | 50 => S50 ls
  | _ => none
def cn35 : FuncId → Option Nat := fun f => match f with

  | _ => none
def E35 : Env Ty6 den6 := mk6 T35 cn35 dr35 26
def st35_3 (x0 : List Int) (x4 : List Int) (x5 : Int) : S6 := ⟨[(0, .one (.sl .i32 x0 none)), (4, .one (.sl .u8 x4 (some 104))), (5, .one (.int .i64 x5))], [104]⟩
theorem ev35 (n : Nat) (a0 : List Int) : evFn E35 n Go.Proofs.Try.f35 [.sl .i32 a0 none] =
    evLoop (lbC E35 (cdAt Go.Proofs.Try.f35 [1, 1, 0, 1, 0, 0]) 10003 n) n (st35_3 a0 [] 0) (blockK 0 (seqK (evCode E35 n (cdAt Go.Proofs.Try.f35 [1, 1, 1])) (retK Go.Proofs.Try.f35.results.toList))) := by
  kernel_rfl
theorem lb35_3_eq (n : Nat) (x0 : List Int) (x4 : List Int) (x5 : Int) (K : Ex → S6 → Option E6) : lbC E35 (cdAt Go.Proofs.Try.f35 [1, 1, 0, 1, 0, 0]) 10003 n (st35_3 x0 x4 x5) K =
    bif decide (x5 < (List.length x0 : Int)) then (match idx x0 x5 with | none => none | some y1 => (bif (List.length (putF y1) : Int) == 0 then (K .ret ⟨[(2, .one (.str [])), (3, .one (.bool false))], []⟩) else (bif room (List.length x4 + List.length (putF y1)) 1 then (K .normal (st35_3 x0 (x4 ++ (putF y1)) (IntKind.wrap .i64 (x5 + 1)))) else none))) else (K (.exit 0) ⟨[(0, .one (.sl .i32 x0 none)), (4, .one (.sl .u8 x4 (some 104))), (5, .one (.int .i64 x5)), (10, .one (.bool (decide (x5 < (List.length x0 : Int)))))], [104]⟩) := by
  kernel_rfl
theorem ex35_3_0 (n : Nat) (x0 : List Int) (x4 : List Int) (x5 : Int) (x10 : Bool) : (blockK 0 (seqK (evCode E35 n (cdAt Go.Proofs.Try.f35 [1, 1, 1])) (retK Go.Proofs.Try.f35.results.toList))) (.exit 0) ⟨[(0, .one (.sl .i32 x0 none)), (4, .one (.sl .u8 x4 (some 104))), (5, .one (.int .i64 x5)), (10, .one (.bool x10))], [104]⟩ =
    some (.tup [.str (List.map (fun (n : Int) => UInt8.ofNat n.toNat) x4), .bool true]) := by
  kernel_rfl

/- pergola/strval.Quoted -/
def dr19 : Nat → List Nat := fun r => match r with
  | 0 => [2, 3]
  | 3 => [10, 11, 12]
  | 4 => [13, 14, 15, 16, 17]
  | 5 => [19, 20]
  | 6 => [18, 21, 22, 23, 24, 25, 26, 27]
  | 7 => [28]
  | 8 => [0, 4, 5, 6, 7, 29]
  | 9 => [18, 31, 32, 33, 34, 35, 36, 37, 38, 39, 40, 41, 42, 43, 44, 45]
  | 10 => [0, 4, 5, 6, 7, 30]
  | 11 => [6, 29, 30, 46, 47, 48, 49]
  | 12 => [7, 50, 51, 52]
  | 13 => [0, 4, 5, 9, 13, 53, 54, 55, 56, 57]
  | 14 => [8, 58]
  | _ => []
def T19 : T6 := fun f ls => match f with
  | 31 => S31 ls
  | 32 => S32 ls
  | 33 => S33 ls
  | _ => none
def cn19 : FuncId → Option Nat := fun f => match f with

  | _ => none
def E19 : Env Ty6 den6 := mk6 T19 cn19 dr19 59
def st19_3 (x0 : List Int) (x4 : List Int) (x5 : Int) : S6 := ⟨[(0, .one (.sl .i32 x0 none)), (4, .one (.sl .i32 x4 (some 104))), (5, .one (.int .i64 x5))], [104]⟩
theorem ev19 (n : Nat) (a0 : List Int) : evFn E19 n Go.Proofs.Try.f19 [.sl .i32 a0 none] =
    evLoop (lbC E19 (cdAt Go.Proofs.Try.f19 [1, 1, 0, 1, 0, 0]) 10003 n) n (st19_3 a0 [] 0) (blockK 0 (seqK (evCode E19 n (cdAt Go.Proofs.Try.f19 [1, 1, 1])) (retK Go.Proofs.Try.f19.results.toList))) := by
  kernel_rfl
theorem lb19_3_eq (n : Nat) (x0 : List Int) (x4 : List Int) (x5 : Int) (K : Ex → S6 → Option E6) : lbC E19 (cdAt Go.Proofs.Try.f19 [1, 1, 0, 1, 0, 0]) 10003 n (st19_3 x0 x4 x5) K =
    bif decide (x5 < (List.length x0 : Int)) then (match idx x0 x5 with | none => none | some y1 => (bif y1 == 92 then (match sub x0 x5 (List.length x0 : Int) with | none => none | some y2 => (bif lim4 y2 then (bif ((escF y2).2) == 0 then (K .ret ⟨[(2, .one (.str [])), (3, .one (.int .i64 60))], []⟩) else (bif room (List.length x4 + 1) 4 then (K .normal (st19_3 x0 (x4 ++ [(escF y2).1]) (IntKind.wrap .i64 (x5 + ((escF y2).2))))) else none)) else none)) else (bif (y1 == 34) == false then (bif (y1 == 10) == false then (bif (y1 == 13) == false then (bif !(sourceF y1) then (K .ret ⟨[(2, .one (.str [])), (3, .one (.int .i64 60))], []⟩) else (bif room (List.length x4 + 1) 4 then (K .normal (st19_3 x0 (x4 ++ [y1]) (IntKind.wrap .i64 (x5 + 1)))) else none)) else (K .ret ⟨[(2, .one (.str [])), (3, .one (.int .i64 60))], []⟩)) else (K .ret ⟨[(2, .one (.str [])), (3, .one (.int .i64 60))], []⟩)) else (K .ret ⟨[(2, .one (.str [])), (3, .one (.int .i64 60))], []⟩)))) else (K (.exit 0) ⟨[(0, .one (.sl .i32 x0 none)), (4, .one (.sl .i32 x4 (some 104))), (5, .one (.int .i64 x5)), (13, .one (.bool (decide (x5 < (List.length x0 : Int)))))], [104]⟩) := by
  kernel_rfl
theorem ex19_3_0 (n : Nat) (x0 : List Int) (x4 : List Int) (x5 : Int) (x13 : Bool) : (blockK 0 (seqK (evCode E19 n (cdAt Go.Proofs.Try.f19 [1, 1, 1])) (retK Go.Proofs.Try.f19.results.toList))) (.exit 0) ⟨[(0, .one (.sl .i32 x0 none)), (4, .one (.sl .i32 x4 (some 104))), (5, .one (.int .i64 x5)), (13, .one (.bool x13))], [104]⟩ =
    bif lim4 x4 then (some (.tup [.str ((encF x4).1), .int .i64 0])) else none := by
  kernel_rfl

/- pergola/pergolaref06.Quoted -/
def dr21 : Nat → List Nat := fun r => match r with
  | 0 => [2, 3]
  | 3 => [10, 11, 12]
  | 4 => [13, 14, 15, 16, 17, 18, 19]
  | 5 => [20]
  | 6 => [0, 4, 5, 6, 7, 21]
  | 7 => [6, 21, 22, 23, 24, 25]
  | 8 => [7, 26, 27, 28]
  | 9 => [0, 4, 5, 9, 13, 29, 30, 31, 32, 33]
  | 10 => [8, 34]
  | _ => []
def T21 : T6 := fun f ls => match f with
  | 34 => S34 ls
  | 35 => S35 ls
  | _ => none
def cn21 : FuncId → Option Nat := fun f => match f with

  | _ => none
def E21 : Env Ty6 den6 := mk6 T21 cn21 dr21 35
def st21_3 (x0 : List Int) (x4 : List Int) (x5 : Int) : S6 := ⟨[(0, .one (.sl .i32 x0 none)), (4, .one (.sl .i32 x4 (some 104))), (5, .one (.int .i64 x5))], [104]⟩
theorem ev21 (n : Nat) (a0 : List Int) : evFn E21 n Go.Proofs.Try.f21 [.sl .i32 a0 none] =
    evLoop (lbC E21 (cdAt Go.Proofs.Try.f21 [1, 1, 1, 0, 0, 0]) 10003 n) n (st21_3 a0 [] 0) (blockK 0 (seqK (evCode E21 n (cdAt Go.Proofs.Try.f21 [1, 1, 1, 1])) (retK Go.Proofs.Try.f21.results.toList))) := by
  kernel_rfl
theorem lb21_3_eq (n : Nat) (x0 : List Int) (x4 : List Int) (x5 : Int) (K : Ex → S6 → Option E6) : lbC E21 (cdAt Go.Proofs.Try.f21 [1, 1, 1, 0, 0, 0]) 10003 n (st21_3 x0 x4 x5) K =
    bif decide (x5 < (List.length x0 : Int)) then (bif lim4 x0 && decide (0 ≤ x5) && decide (x5 < (List.length x0 : Int)) then (bif ((pieceF (List.drop (Int.toNat x5) x0)).2) == 0 then (K .ret ⟨[(2, .one (.str [])), (3, .one (.int .i64 60))], []⟩) else (bif room (List.length x4 + 1) 4 then (K .normal (st21_3 x0 (x4 ++ [(pieceF (List.drop (Int.toNat x5) x0)).1]) (IntKind.wrap .i64 (x5 + ((pieceF (List.drop (Int.toNat x5) x0)).2))))) else none)) else none) else (K (.exit 0) ⟨[(0, .one (.sl .i32 x0 none)), (4, .one (.sl .i32 x4 (some 104))), (5, .one (.int .i64 x5)), (13, .one (.bool (decide (x5 < (List.length x0 : Int)))))], [104]⟩) := by
  kernel_rfl
theorem ex21_3_0 (n : Nat) (x0 : List Int) (x4 : List Int) (x5 : Int) (x13 : Bool) : (blockK 0 (seqK (evCode E21 n (cdAt Go.Proofs.Try.f21 [1, 1, 1, 1])) (retK Go.Proofs.Try.f21.results.toList))) (.exit 0) ⟨[(0, .one (.sl .i32 x0 none)), (4, .one (.sl .i32 x4 (some 104))), (5, .one (.int .i64 x5)), (13, .one (.bool x13))], [104]⟩ =
    bif lim4 x4 then (some (.tup [.str ((encF x4).1), .int .i64 0])) else none := by
  kernel_rfl

end Go.Aev
end

section
set_option linter.unusedVariables false
namespace Go.Aev
open Go.Proofs
/- pergola/strval.quotes -/
def dr51 : Nat → List Nat := fun r => match r with
  | 0 => [2]
  | 1 => [0, 3, 4, 5, 6, 7, 8, 9, 10, 11, 12, 13, 14, 15, 16, 17, 18, 19, 20, 21, 22, 23]
  | _ => []
def T51 : T6 := fun f ls => match f with

  | _ => none
def cn51 : FuncId → Option Nat := fun f => match f with

  | _ => none
def E51 : Env Ty6 den6 := mk6 T51 cn51 dr51 24
theorem ev51 (n : Nat) (a0 : List Int) : evFn E51 n Go.Proofs.Try.f51 [.sl .i32 a0 none] =
    bif (decide ((List.length a0 : Int) ≥ 3)) == true then (match idx a0 0 with | none => none | some y1 => (bif (y1 == 34) == true then (match idx a0 1 with | none => none | some y2 => (bif (y2 == 34) == true then (match idx a0 2 with | none => none | some y3 => (some (.one (.bool (y3 == 34))))) else (some (.one (.bool false))))) else (some (.one (.bool false))))) else (some (.one (.bool false))) := by
  kernel_rfl

/- pergola/utf.ends -/
def dr52 : Nat → List Nat := fun r => match r with
  | 0 => [4]
  | 1 => [5, 6, 7]
  | 2 => [10]
  | 3 => [0, 1, 8, 9]
  | 4 => [8, 9, 12]
  | 5 => [0, 1, 11, 13, 14, 15, 16, 17, 18, 19, 20, 21, 22, 23, 24, 25]
  | 6 => [0, 1, 11]
  | _ => []
def T52 : T6 := fun f ls => match f with

  | _ => none
def cn52 : FuncId → Option Nat := fun f => match f with

  | _ => none
def E52 : Env Ty6 den6 := mk6 T52 cn52 dr52 26
theorem ev52 (n : Nat) (a0 : List Int) (a1 : Int) : evFn E52 n Go.Proofs.Try.f52 [.sl .i32 a0 none, .int .i64 a1] =
    match idx a0 a1 with | none => none | some y1 => (bif y1 == 10 then (some (.one (.bool true))) else (bif y1 == 13 then (bif ((IntKind.wrap .i64 (a1 + 1)) == (List.length a0 : Int)) == false then (match idx a0 (IntKind.wrap .i64 (a1 + 1)) with | none => none | some y2 => (some (.one (.bool (y2 != 10))))) else (some (.one (.bool true)))) else (some (.one (.bool false))))) := by
  kernel_rfl

/- pergola/pergolaref06.escaped -/
def dr54 : Nat → List Nat := fun r => match r with
  | 0 => [4]
  | 1 => [0, 1, 5, 6, 7, 8, 9, 10, 11, 12, 13, 14, 15, 16, 17, 18, 19, 20, 21, 22, 23, 24, 25, 26, 27, 28, 29, 30, 31, 32, 33, 34, 35, 36, 37, 38, 39, 40]
  | _ => []
def T54 : T6 := fun f ls => match f with

  | _ => none
def cn54 : FuncId → Option Nat := fun f => match f with

  | _ => none
def E54 : Env Ty6 den6 := mk6 T54 cn54 dr54 41
theorem ev54 (n : Nat) (a0 : List Int) (a1 : Int) : evFn E54 n Go.Proofs.Try.f54 [.sl .i32 a0 none, .int .i64 a1] =
    bif (decide ((IntKind.wrap .i64 (a1 + 3)) < (List.length a0 : Int))) == true then (match idx a0 a1 with | none => none | some y1 => (bif (y1 == 92) == true then (match idx a0 (IntKind.wrap .i64 (a1 + 1)) with | none => none | some y2 => (bif (y2 == 34) == true then (match idx a0 (IntKind.wrap .i64 (a1 + 2)) with | none => none | some y3 => (bif (y3 == 34) == true then (match idx a0 (IntKind.wrap .i64 (a1 + 3)) with | none => none | some y4 => (some (.one (.bool (y4 == 34))))) else (some (.one (.bool false))))) else (some (.one (.bool false))))) else (some (.one (.bool false))))) else (some (.one (.bool false))) := by
  kernel_rfl

/- pergola/strval.unmasked -/
def dr36 : Nat → List Nat := fun r => match r with
  | 0 => [2, 3]
  | 4 => [8, 9, 10]
  | 5 => [12, 13]
  | 6 => [5, 11, 14, 15, 16, 17]
  | 7 => [18, 19, 20, 21, 33]
  | 8 => [7, 22]
  | 9 => [24, 25, 26, 27, 28, 29, 30, 31, 32]
  | 10 => [0, 4, 6, 7, 23]
  | 11 => [23, 34, 35, 36, 37, 38, 39, 40, 41, 42]
  | 12 => [7, 33, 43, 44, 45]
  | 14 => [46, 47]
  | 15 => [0, 4, 5, 6, 11, 48, 49, 50, 51, 52, 53, 54]
  | _ => []
def T36 : T6 := fun f ls => match f with
  | 32 => S32 ls
  | 51 => S51 ls
  | _ => none
def cn36 : FuncId → Option Nat := fun f => match f with

  | _ => none
def E36 : Env Ty6 den6 := mk6 T36 cn36 dr36 55
def st36_4 (x0 : List Int) (x4 : List Int) (x5 : Int) (x6 : Int) : S6 := ⟨[(0, .one (.sl .i32 x0 none)), (4, .one (.sl .i32 x4 (some 104))), (5, .one (.int .i32 x5)), (6, .one (.int .i64 x6))], [104]⟩
theorem ev36 (n : Nat) (a0 : List Int) : evFn E36 n Go.Proofs.Try.f36 [.sl .i32 a0 none] =
    evLoop (lbC E36 (cdAt Go.Proofs.Try.f36 [1, 1, 1, 0, 1, 0, 0]) 10004 n) n (st36_4 a0 [] 0 0) (blockK 0 (seqK (evCode E36 n (cdAt Go.Proofs.Try.f36 [1, 1, 1, 1])) (retK Go.Proofs.Try.f36.results.toList))) := by
  kernel_rfl
theorem lb36_4_eq (n : Nat) (x0 : List Int) (x4 : List Int) (x5 : Int) (x6 : Int) (K : Ex → S6 → Option E6) : lbC E36 (cdAt Go.Proofs.Try.f36 [1, 1, 1, 0, 1, 0, 0]) 10004 n (st36_4 x0 x4 x5 x6) K =
    bif decide (x6 < (List.length x0 : Int)) then (match idx x0 x6 with | none => none | some y1 => (bif (!(sourceF y1)) == false then (match sub x0 x6 (List.length x0 : Int) with | none => none | some y2 => (bif lim4 y2 then (bif quotesF y2 then (K .ret ⟨[(2, .one (.sl .i32 [] (some 102))), (3, .one (.bool false))], [102]⟩) else (bif (y1 == 92) == true then (match sub x0 (IntKind.wrap .i64 (x6 + 1)) (List.length x0 : Int) with | none => none | some y3 => (bif lim4 y3 then (bif quotesF y3 then (bif room (List.length x4 + 3) 4 then (K .normal (st36_4 x0 (x4 ++ [34, 34, 34]) 0 (IntKind.wrap .i64 ((IntKind.wrap .i64 (x6 + 3)) + 1)))) else none) else (bif room (List.length x4 + 1) 4 then (K .normal (st36_4 x0 (x4 ++ [y1]) y1 (IntKind.wrap .i64 (x6 + 1)))) else none)) else none)) else (bif room (List.length x4 + 1) 4 then (K .normal (st36_4 x0 (x4 ++ [y1]) y1 (IntKind.wrap .i64 (x6 + 1)))) else none))) else none)) else (K .ret ⟨[(2, .one (.sl .i32 [] (some 102))), (3, .one (.bool false))], [102]⟩))) else (K (.exit 0) ⟨[(0, .one (.sl .i32 x0 none)), (4, .one (.sl .i32 x4 (some 104))), (5, .one (.int .i32 x5)), (6, .one (.int .i64 x6)), (11, .one (.bool (decide (x6 < (List.length x0 : Int)))))], [104]⟩) := by
  kernel_rfl
theorem ex36_4_0 (n : Nat) (x0 : List Int) (x4 : List Int) (x5 : Int) (x6 : Int) (x11 : Bool) : (blockK 0 (seqK (evCode E36 n (cdAt Go.Proofs.Try.f36 [1, 1, 1, 1])) (retK Go.Proofs.Try.f36.results.toList))) (.exit 0) ⟨[(0, .one (.sl .i32 x0 none)), (4, .one (.sl .i32 x4 (some 104))), (5, .one (.int .i32 x5)), (6, .one (.int .i64 x6)), (11, .one (.bool x11))], [104]⟩ =
    bif (x5 != 34) == true then (some (.tup [.sl .i32 x4 (some 1), .bool (x5 != 92)])) else (some (.tup [.sl .i32 x4 (some 1), .bool false])) := by
  kernel_rfl

/- pergola/utf.Lines -/
def dr37 : Nat → List Nat := fun r => match r with
  | 0 => [2]
  | 5 => [10, 11, 12, 13]
  | 6 => [6, 14, 15, 16, 17, 26]
  | 7 => [5, 19, 20, 21]
  | 8 => [4, 6, 18, 22, 23, 24, 25]
  | 10 => [18, 27, 28]
  | 11 => [6, 26, 29]
  | 12 => [0, 3, 4, 7, 8, 9, 10, 30, 31, 32, 33]
  | _ => []
def T37 : T6 := fun f ls => match f with
  | 52 => S52 ls
  | _ => none
def cn37 : FuncId → Option Nat := fun f => match f with

  | _ => none
def E37 : Env Ty6 den6 := mk6 T37 cn37 dr37 34
def st37_4 (x0 : List Int) (x3 : List (List Int)) (x4 : List Int) (x7 : List Int) (x8 : Int) (x9 : Int) : S6 := ⟨[(0, .one (.sl .i32 x0 none)), (3, .one (.sl .rs x3 (some 103))), (4, .one (.sl .i32 x4 (some 104))), (7, .one (.sl .i32 x7 none)), (8, .one (.int .i64 x8)), (9, .one (.int .i64 x9))], [103, 104]⟩
theorem ev37 (n : Nat) (a0 : List Int) : evFn E37 n Go.Proofs.Try.f37 [.sl .i32 a0 none] =
    evLoop (lbC E37 (cdAt Go.Proofs.Try.f37 [1, 1, 1, 0, 1, 0, 0]) 10004 n) n (st37_4 a0 [] [] a0 (List.length a0 : Int) 0) (blockK 0 (seqK (evCode E37 n (cdAt Go.Proofs.Try.f37 [1, 1, 1, 1])) (retK Go.Proofs.Try.f37.results.toList))) := by
  kernel_rfl
theorem lb37_4_eq (n : Nat) (x0 : List Int) (x3 : List (List Int)) (x4 : List Int) (x7 : List Int) (x8 : Int) (x9 : Int) (K : Ex → S6 → Option E6) : lbC E37 (cdAt Go.Proofs.Try.f37 [1, 1, 1, 0, 1, 0, 0]) 10004 n (st37_4 x0 x3 x4 x7 x8 x9) K =
    bif decide (x9 < x8) then (match idx x7 x9 with | none => none | some y1 => (bif lim4 x0 && decide (0 ≤ x9) && decide (x9 < (List.length x0 : Int)) then (bif endsF (List.drop (Int.toNat x9) x0) then (bif room (List.length x3 + 1) 24 then (K .normal (st37_4 x0 (x3 ++ [x4]) [] x7 x8 (IntKind.wrap .i64 (x9 + 1)))) else none) else (bif y1 == 13 then (K .normal (st37_4 x0 x3 x4 x7 x8 (IntKind.wrap .i64 (x9 + 1)))) else (bif room (List.length x4 + 1) 4 then (K .normal (st37_4 x0 x3 (x4 ++ [y1]) x7 x8 (IntKind.wrap .i64 (x9 + 1)))) else none))) else none)) else (K (.exit 0) ⟨[(0, .one (.sl .i32 x0 none)), (3, .one (.sl .rs x3 (some 103))), (4, .one (.sl .i32 x4 (some 104))), (7, .one (.sl .i32 x7 none)), (8, .one (.int .i64 x8)), (9, .one (.int .i64 x9)), (10, .one (.bool (decide (x9 < x8))))], [103, 104]⟩) := by
  kernel_rfl
theorem ex37_4_0 (n : Nat) (x0 : List Int) (x3 : List (List Int)) (x4 : List Int) (x7 : List Int) (x8 : Int) (x9 : Int) (x10 : Bool) : (blockK 0 (seqK (evCode E37 n (cdAt Go.Proofs.Try.f37 [1, 1, 1, 1])) (retK Go.Proofs.Try.f37.results.toList))) (.exit 0) ⟨[(0, .one (.sl .i32 x0 none)), (3, .one (.sl .rs x3 (some 103))), (4, .one (.sl .i32 x4 (some 104))), (7, .one (.sl .i32 x7 none)), (8, .one (.int .i64 x8)), (9, .one (.int .i64 x9)), (10, .one (.bool x10))], [103, 104]⟩ =
    bif room (List.length x3 + 1) 24 then (some (.one (.sl .rs (x3 ++ [x4]) (some 1)))) else none := by
  kernel_rfl

/- pergola/pergolaref06.standing -/
def dr38 : Nat → List Nat := fun r => match r with
  | 0 => [2]
  | 4 => [8, 9, 10]
  | 5 => [4, 11, 12, 13, 14, 15, 16]
  | 6 => [6, 17]
  | 7 => [0, 3, 5, 18]
  | 8 => [18, 19, 20, 21]
  | 9 => [7]
  | 10 => [22]
  | 12 => [23, 24]
  | 13 => [22, 25, 26, 27, 28]
  | 14 => [29]
  | 15 => [30, 31, 32]
  | 16 => [30]
  | 17 => [33]
  | 18 => [0, 3, 4, 5, 34]
  | 19 => [34, 35, 36]
  | 20 => [0, 3, 4, 5, 11, 37, 38, 39, 40, 41, 42]
  | _ => []
def T38 : T6 := fun f ls => match f with
  | 53 => S53 ls
  | 54 => S54 ls
  | _ => none
def cn38 : FuncId → Option Nat := fun f => match f with

  | _ => none
def E38 : Env Ty6 den6 := mk6 T38 cn38 dr38 43
def st38_4 (x0 : List Int) (x3 : Int) (x4 : Int) (x5 : Int) : S6 := ⟨[(0, .one (.sl .i32 x0 none)), (3, .one (.int .i64 x3)), (4, .one (.int .i32 x4)), (5, .one (.int .i64 x5))], []⟩
theorem ev38 (n : Nat) (a0 : List Int) : evFn E38 n Go.Proofs.Try.f38 [.sl .i32 a0 none] =
    evLoop (lbC E38 (cdAt Go.Proofs.Try.f38 [1, 1, 1, 1, 0, 0, 0]) 10004 n) n (st38_4 a0 0 0 0) (blockK 0 (seqK (evCode E38 n (cdAt Go.Proofs.Try.f38 [1, 1, 1, 1, 1])) (retK Go.Proofs.Try.f38.results.toList))) := by
  kernel_rfl
theorem lb38_4_eq (n : Nat) (x0 : List Int) (x3 : Int) (x4 : Int) (x5 : Int) (K : Ex → S6 → Option E6) : lbC E38 (cdAt Go.Proofs.Try.f38 [1, 1, 1, 1, 0, 0, 0]) 10004 n (st38_4 x0 x3 x4 x5) K =
    bif decide (x5 < (List.length x0 : Int)) then (match idx x0 x5 with | none => none | some y1 => (bif !(sourceF y1) then (K .ret ⟨[(2, .one (.bool false))], []⟩) else (bif lim4 x0 && decide (0 ≤ x5) && decide (x5 < (List.length x0 : Int)) then (bif isEsc (List.drop (Int.toNat x5) x0) then (K .normal (st38_4 x0 0 0 (IntKind.wrap .i64 (x5 + 4)))) else (match idx x0 x5 with | none => none | some y2 => (bif y2 == 34 then (bif (IntKind.wrap .i64 (x3 + 1)) == 3 then (K .ret ⟨[(2, .one (.bool false))], []⟩) else (K .normal (st38_4 x0 (IntKind.wrap .i64 (x3 + 1)) y2 (IntKind.wrap .i64 (x5 + 1))))) else (K .normal (st38_4 x0 0 y2 (IntKind.wrap .i64 (x5 + 1))))))) else none))) else (K (.exit 0) ⟨[(0, .one (.sl .i32 x0 none)), (3, .one (.int .i64 x3)), (4, .one (.int .i32 x4)), (5, .one (.int .i64 x5)), (11, .one (.bool (decide (x5 < (List.length x0 : Int)))))], []⟩) := by
  kernel_rfl
theorem ex38_4_0 (n : Nat) (x0 : List Int) (x3 : Int) (x4 : Int) (x5 : Int) (x11 : Bool) : (blockK 0 (seqK (evCode E38 n (cdAt Go.Proofs.Try.f38 [1, 1, 1, 1, 1])) (retK Go.Proofs.Try.f38.results.toList))) (.exit 0) ⟨[(0, .one (.sl .i32 x0 none)), (3, .one (.int .i64 x3)), (4, .one (.int .i32 x4)), (5, .one (.int .i64 x5)), (11, .one (.bool x11))], []⟩ =
    bif (x4 != 34) == true then (some (.one (.bool (x4 != 92)))) else (some (.one (.bool false))) := by
  kernel_rfl

/- pergola/pergolaref01.Lines -/
def dr39 : Nat → List Nat := fun r => match r with
  | 0 => [2]
  | 2 => [8, 9]
  | 4 => [10, 11, 12]
  | 5 => [14, 15]
  | 6 => [13, 16, 17]
  | 7 => [18, 19, 20, 21]
  | 8 => [22, 23, 24, 25, 26, 27, 28]
  | 9 => [29, 30, 31, 32, 33, 34, 35, 36, 37, 38, 39, 40, 41, 42, 43, 44, 45, 46, 47, 48]
  | 10 => [49, 50, 51]
  | 11 => [22, 49, 52, 53, 54, 55, 56, 57, 58]
  | 12 => [6, 59, 60, 61, 62, 63, 64, 65, 66, 67]
  | 13 => [7, 68, 69, 70, 71]
  | 14 => [0, 3, 4, 5, 13, 72]
  | _ => []
def T39 : T6 := fun f ls => match f with
  | 55 => S55 ls
  | _ => none
def cn39 : FuncId → Option Nat := fun f => match f with

  | _ => none
def E39 : Env Ty6 den6 := mk6 T39 cn39 dr39 73
def st39_4 (x0 : List Int) (x3 : List (List Int)) (x4 : List Int) (x5 : Int) : S6 := ⟨[(0, .one (.sl .i32 x0 none)), (3, .one (.sl .rs x3 (some 103))), (4, .one (.sl .i64 x4 (some 1009))), (5, .one (.int .i64 x5))], [103, 1009]⟩
theorem ev39 (n : Nat) (a0 : List Int) : evFn E39 n Go.Proofs.Try.f39 [.sl .i32 a0 none] =
    bif smL a0 then (evLoop (lbC E39 (cdAt Go.Proofs.Try.f39 [1, 1, 1, 0, 1, 0, 0]) 10004 n) n (st39_4 a0 [] (startsF a0) 0) (blockK 0 (seqK (evCode E39 n (cdAt Go.Proofs.Try.f39 [1, 1, 1, 1])) (retK Go.Proofs.Try.f39.results.toList)))) else none := by
  kernel_rfl
theorem lb39_4_eq (n : Nat) (x0 : List Int) (x3 : List (List Int)) (x4 : List Int) (x5 : Int) (K : Ex → S6 → Option E6) : lbC E39 (cdAt Go.Proofs.Try.f39 [1, 1, 1, 0, 1, 0, 0]) 10004 n (st39_4 x0 x3 x4 x5) K =
    bif decide (x5 < (List.length x4 : Int)) then (bif decide ((IntKind.wrap .i64 (x5 + 1)) < (List.length x4 : Int)) then (match idx x4 (IntKind.wrap .i64 (x5 + 1)) with | none => none | some y1 => (match idx x0 (IntKind.wrap .i64 (y1 - 1)) with | none => none | some y2 => (bif (y2 == 10) == true then (match idx x4 x5 with | none => none | some y3 => (bif (decide ((IntKind.wrap .i64 (y1 - 1)) > y3)) == true then (match idx x0 (IntKind.wrap .i64 ((IntKind.wrap .i64 (y1 - 1)) - 1)) with | none => none | some y4 => (bif y4 == 13 then (match idx x4 x5 with | none => none | some y5 => (bif decide (0 ≤ (IntKind.wrap .i64 ((IntKind.wrap .i64 ((IntKind.wrap .i64 (y1 - 1)) - 1)) - y5))) && room (Int.toNat (IntKind.wrap .i64 ((IntKind.wrap .i64 ((IntKind.wrap .i64 (y1 - 1)) - 1)) - y5))) 4 then (match idx x4 x5 with | none => none | some y6 => (match sub x0 y6 (IntKind.wrap .i64 ((IntKind.wrap .i64 (y1 - 1)) - 1)) with | none => none | some y7 => (bif room (0 + List.length y7) 4 then (bif room (List.length x3 + 1) 24 then (K .normal (st39_4 x0 (x3 ++ [y7]) x4 (IntKind.wrap .i64 (x5 + 1)))) else none) else none))) else none)) else (match idx x4 x5 with | none => none | some y8 => (bif decide (0 ≤ (IntKind.wrap .i64 ((IntKind.wrap .i64 (y1 - 1)) - y8))) && room (Int.toNat (IntKind.wrap .i64 ((IntKind.wrap .i64 (y1 - 1)) - y8))) 4 then (match idx x4 x5 with | none => none | some y9 => (match sub x0 y9 (IntKind.wrap .i64 (y1 - 1)) with | none => none | some y10 => (bif room (0 + List.length y10) 4 then (bif room (List.length x3 + 1) 24 then (K .normal (st39_4 x0 (x3 ++ [y10]) x4 (IntKind.wrap .i64 (x5 + 1)))) else none) else none))) else none)))) else (match idx x4 x5 with | none => none | some y11 => (bif decide (0 ≤ (IntKind.wrap .i64 ((IntKind.wrap .i64 (y1 - 1)) - y11))) && room (Int.toNat (IntKind.wrap .i64 ((IntKind.wrap .i64 (y1 - 1)) - y11))) 4 then (match idx x4 x5 with | none => none | some y12 => (match sub x0 y12 (IntKind.wrap .i64 (y1 - 1)) with | none => none | some y13 => (bif room (0 + List.length y13) 4 then (bif room (List.length x3 + 1) 24 then (K .normal (st39_4 x0 (x3 ++ [y13]) x4 (IntKind.wrap .i64 (x5 + 1)))) else none) else none))) else none)))) else (match idx x4 x5 with | none => none | some y14 => (bif decide (0 ≤ (IntKind.wrap .i64 ((IntKind.wrap .i64 (y1 - 1)) - y14))) && room (Int.toNat (IntKind.wrap .i64 ((IntKind.wrap .i64 (y1 - 1)) - y14))) 4 then (match idx x4 x5 with | none => none | some y15 => (match sub x0 y15 (IntKind.wrap .i64 (y1 - 1)) with | none => none | some y16 => (bif room (0 + List.length y16) 4 then (bif room (List.length x3 + 1) 24 then (K .normal (st39_4 x0 (x3 ++ [y16]) x4 (IntKind.wrap .i64 (x5 + 1)))) else none) else none))) else none))))) else (match idx x4 x5 with | none => none | some y17 => (bif decide (0 ≤ (IntKind.wrap .i64 ((List.length x0 : Int) - y17))) && room (Int.toNat (IntKind.wrap .i64 ((List.length x0 : Int) - y17))) 4 then (match idx x4 x5 with | none => none | some y18 => (match sub x0 y18 (List.length x0 : Int) with | none => none | some y19 => (bif room (0 + List.length y19) 4 then (bif room (List.length x3 + 1) 24 then (K .normal (st39_4 x0 (x3 ++ [y19]) x4 (IntKind.wrap .i64 (x5 + 1)))) else none) else none))) else none))) else (K (.exit 0) ⟨[(0, .one (.sl .i32 x0 none)), (3, .one (.sl .rs x3 (some 103))), (4, .one (.sl .i64 x4 (some 1009))), (5, .one (.int .i64 x5)), (13, .one (.bool (decide (x5 < (List.length x4 : Int)))))], [103, 1009]⟩) := by
  kernel_rfl
theorem ex39_4_0 (n : Nat) (x0 : List Int) (x3 : List (List Int)) (x4 : List Int) (x5 : Int) (x13 : Bool) : (blockK 0 (seqK (evCode E39 n (cdAt Go.Proofs.Try.f39 [1, 1, 1, 1])) (retK Go.Proofs.Try.f39.results.toList))) (.exit 0) ⟨[(0, .one (.sl .i32 x0 none)), (3, .one (.sl .rs x3 (some 103))), (4, .one (.sl .i64 x4 (some 1009))), (5, .one (.int .i64 x5)), (13, .one (.bool x13))], [103, 1009]⟩ =
    some (.one (.sl .rs x3 (some 1))) := by
  kernel_rfl

/- pergola/pergolaref06.opened -/
def dr40 : Nat → List Nat := fun r => match r with
  | 0 => [2]
  | 3 => [6, 7, 8]
  | 4 => [9, 10, 11, 12]
  | 5 => [5]
  | 6 => [13, 14, 15]
  | 7 => [16, 17, 18]
  | 8 => [19, 20]
  | 9 => [13, 21, 22, 23, 24, 25, 26, 27]
  | 10 => [28, 29]
  | 11 => [0, 3, 4, 9, 30]
  | _ => []
def T40 : T6 := fun f ls => match f with
  | 54 => S54 ls
  | _ => none
def cn40 : FuncId → Option Nat := fun f => match f with

  | _ => none
def E40 : Env Ty6 den6 := mk6 T40 cn40 dr40 31
def st40_3 (x0 : List Int) (x3 : List Int) (x4 : Int) : S6 := ⟨[(0, .one (.sl .i32 x0 none)), (3, .one (.sl .i32 x3 (some 103))), (4, .one (.int .i64 x4))], [103]⟩
theorem ev40 (n : Nat) (a0 : List Int) : evFn E40 n Go.Proofs.Try.f40 [.sl .i32 a0 none] =
    evLoop (lbC E40 (cdAt Go.Proofs.Try.f40 [1, 1, 1, 0, 0, 0]) 10003 n) n (st40_3 a0 [] 0) (blockK 0 (seqK (evCode E40 n (cdAt Go.Proofs.Try.f40 [1, 1, 1, 1])) (retK Go.Proofs.Try.f40.results.toList))) := by
  kernel_rfl
theorem lb40_3_eq (n : Nat) (x0 : List Int) (x3 : List Int) (x4 : Int) (K : Ex → S6 → Option E6) : lbC E40 (cdAt Go.Proofs.Try.f40 [1, 1, 1, 0, 0, 0]) 10003 n (st40_3 x0 x3 x4) K =
    bif decide (x4 < (List.length x0 : Int)) then (bif lim4 x0 && decide (0 ≤ x4) && decide (x4 < (List.length x0 : Int)) then (bif isEsc (List.drop (Int.toNat x4) x0) then (bif room (List.length x3 + 3) 4 then (K .normal (st40_3 x0 (x3 ++ [34, 34, 34]) (IntKind.wrap .i64 ((IntKind.wrap .i64 (x4 + 1)) + 3)))) else none) else (match idx x0 x4 with | none => none | some y1 => (bif room (List.length x3 + 1) 4 then (K .normal (st40_3 x0 (x3 ++ [y1]) (IntKind.wrap .i64 (x4 + 1)))) else none))) else none) else (K (.exit 0) ⟨[(0, .one (.sl .i32 x0 none)), (3, .one (.sl .i32 x3 (some 103))), (4, .one (.int .i64 x4)), (9, .one (.bool (decide (x4 < (List.length x0 : Int)))))], [103]⟩) := by
  kernel_rfl
theorem ex40_3_0 (n : Nat) (x0 : List Int) (x3 : List Int) (x4 : Int) (x9 : Bool) : (blockK 0 (seqK (evCode E40 n (cdAt Go.Proofs.Try.f40 [1, 1, 1, 1])) (retK Go.Proofs.Try.f40.results.toList))) (.exit 0) ⟨[(0, .one (.sl .i32 x0 none)), (3, .one (.sl .i32 x3 (some 103))), (4, .one (.int .i64 x4)), (9, .one (.bool x9))], [103]⟩ =
    some (.one (.sl .i32 x3 (some 1))) := by
  kernel_rfl

/- pergola/pergolaref01.Starts -/
def dr55 : Nat → List Nat := fun r => match r with
  | 0 => [2]
  | 1 => [5]
  | 3 => [6, 7, 8]
  | 4 => [10, 11, 23, 43]
  | 5 => [9, 12, 13, 14, 15, 16, 17, 18, 19, 20, 21, 22]
  | 6 => [23, 24, 25, 26, 27, 28, 29, 30, 31, 32, 33, 34, 35, 36, 37, 38, 39, 40, 41, 42]
  | 7 => [43, 44, 45, 46, 47, 48]
  | 8 => [0, 3, 4, 9, 49]
  | _ => []
def T55 : T6 := fun f ls => match f with

  | _ => none
def cn55 : FuncId → Option Nat := fun f => match f with

  | _ => none
def E55 : Env Ty6 den6 := mk6 T55 cn55 dr55 50
def st55_3 (x0 : List Int) (x3 : List Int) (x4 : Int) : S6 := ⟨[(0, .one (.sl .i32 x0 none)), (3, .one (.sl .i64 x3 (some 105))), (4, .one (.int .i64 x4))], [105]⟩
theorem ev55 (n : Nat) (a0 : List Int) : evFn E55 n Go.Proofs.Try.f55 [.sl .i32 a0 none] =
    evLoop (lbC E55 (cdAt Go.Proofs.Try.f55 [1, 1, 0, 1, 0, 0]) 10003 n) n (st55_3 a0 [0] 0) (blockK 0 (seqK (evCode E55 n (cdAt Go.Proofs.Try.f55 [1, 1, 1])) (retK Go.Proofs.Try.f55.results.toList))) := by
  kernel_rfl
theorem lb55_3_eq (n : Nat) (x0 : List Int) (x3 : List Int) (x4 : Int) (K : Ex → S6 → Option E6) : lbC E55 (cdAt Go.Proofs.Try.f55 [1, 1, 0, 1, 0, 0]) 10003 n (st55_3 x0 x3 x4) K =
    bif decide (x4 < (List.length x0 : Int)) then (match idx x0 x4 with | none => none | some y1 => (bif (y1 != 13) == true then (match idx x0 x4 with | none => none | some y2 => (bif y2 != 10 then (K .normal (st55_3 x0 x3 (IntKind.wrap .i64 (x4 + 1)))) else (match idx x0 x4 with | none => none | some y3 => (bif (y3 == 13) == true then (bif (decide ((IntKind.wrap .i64 (x4 + 1)) < (List.length x0 : Int))) == true then (match idx x0 (IntKind.wrap .i64 (x4 + 1)) with | none => none | some y4 => (bif y4 == 10 then (K .normal (st55_3 x0 x3 (IntKind.wrap .i64 (x4 + 1)))) else (bif room (List.length x3 + 1) 8 then (K .normal (st55_3 x0 (x3 ++ [IntKind.wrap .i64 (x4 + 1)]) (IntKind.wrap .i64 (x4 + 1)))) else none))) else (bif room (List.length x3 + 1) 8 then (K .normal (st55_3 x0 (x3 ++ [IntKind.wrap .i64 (x4 + 1)]) (IntKind.wrap .i64 (x4 + 1)))) else none)) else (bif room (List.length x3 + 1) 8 then (K .normal (st55_3 x0 (x3 ++ [IntKind.wrap .i64 (x4 + 1)]) (IntKind.wrap .i64 (x4 + 1)))) else none))))) else (match idx x0 x4 with | none => none | some y5 => (bif (y5 == 13) == true then (bif (decide ((IntKind.wrap .i64 (x4 + 1)) < (List.length x0 : Int))) == true then (match idx x0 (IntKind.wrap .i64 (x4 + 1)) with | none => none | some y6 => (bif y6 == 10 then (K .normal (st55_3 x0 x3 (IntKind.wrap .i64 (x4 + 1)))) else (bif room (List.length x3 + 1) 8 then (K .normal (st55_3 x0 (x3 ++ [IntKind.wrap .i64 (x4 + 1)]) (IntKind.wrap .i64 (x4 + 1)))) else none))) else (bif room (List.length x3 + 1) 8 then (K .normal (st55_3 x0 (x3 ++ [IntKind.wrap .i64 (x4 + 1)]) (IntKind.wrap .i64 (x4 + 1)))) else none)) else (bif room (List.length x3 + 1) 8 then (K .normal (st55_3 x0 (x3 ++ [IntKind.wrap .i64 (x4 + 1)]) (IntKind.wrap .i64 (x4 + 1)))) else none))))) else (K (.exit 0) ⟨[(0, .one (.sl .i32 x0 none)), (3, .one (.sl .i64 x3 (some 105))), (4, .one (.int .i64 x4)), (9, .one (.bool (decide (x4 < (List.length x0 : Int)))))], [105]⟩) := by
  kernel_rfl
theorem ex55_3_0 (n : Nat) (x0 : List Int) (x3 : List Int) (x4 : Int) (x9 : Bool) : (blockK 0 (seqK (evCode E55 n (cdAt Go.Proofs.Try.f55 [1, 1, 1])) (retK Go.Proofs.Try.f55.results.toList))) (.exit 0) ⟨[(0, .one (.sl .i32 x0 none)), (3, .one (.sl .i64 x3 (some 105))), (4, .one (.int .i64 x4)), (9, .one (.bool x9))], [105]⟩ =
    some (.one (.sl .i64 x3 (some 1))) := by
  kernel_rfl

/- pergola/strval.Block -/
def dr22 : Nat → List Nat := fun r => match r with
  | 0 => [2, 3]
  | 1 => [0, 11, 12, 13, 14, 15]
  | 2 => [5, 16]
  | 3 => [4, 17]
  | 4 => [17]
  | 5 => [4, 18, 19]
  | 7 => [23, 24, 25, 26]
  | 8 => [7, 27]
  | 9 => [28, 29, 30, 31]
  | 10 => [8, 28, 32, 33, 34]
  | 11 => [35]
  | 12 => [6, 10, 20, 21, 22, 23, 36, 37, 38, 39, 40]
  | 13 => [9, 41]
  | _ => []
def T22 : T6 := fun f ls => match f with
  | 12 => S12 ls
  | 33 => S33 ls
  | 36 => S36 ls
  | 37 => S37 ls
  | _ => none
def cn22 : FuncId → Option Nat := fun f => match f with

  | _ => none
def E22 : Env Ty6 den6 := mk6 T22 cn22 dr22 42
def st22_6 (x6 : List Int) (x20 : List (List Int)) (x21 : Int) (x22 : Int) : S6 := ⟨[(6, .one (.sl .i32 x6 (some 106))), (20, .one (.sl .rs x20 none)), (21, .one (.int .i64 x21)), (22, .one (.int .i64 x22))], [106]⟩
theorem ev22 (n : Nat) (a0 : List Int) : evFn E22 n Go.Proofs.Try.f22 [.sl .i32 a0 none] =
    bif smL a0 then (bif !((unmF a0).2) then (some (.tup [.str [], .int .i64 60])) else (bif smL ((unmF a0).1) then (bif limL (linesF ((unmF a0).1)) then (evLoop (lbC E22 (cdAt Go.Proofs.Try.f22 [1, 1, 1, 1, 0, 1, 0, 0]) 10006 n) n (st22_6 [] (dedentF (linesF ((unmF a0).1))) (List.length (dedentF (linesF ((unmF a0).1))) : Int) 0) (blockK 0 (seqK (evCode E22 n (cdAt Go.Proofs.Try.f22 [1, 1, 1, 1, 1])) (retK Go.Proofs.Try.f22.results.toList)))) else none) else none)) else none := by
  kernel_rfl
theorem lb22_6_eq (n : Nat) (x6 : List Int) (x20 : List (List Int)) (x21 : Int) (x22 : Int) (K : Ex → S6 → Option E6) : lbC E22 (cdAt Go.Proofs.Try.f22 [1, 1, 1, 1, 0, 1, 0, 0]) 10006 n (st22_6 x6 x20 x21 x22) K =
    bif decide (x22 < x21) then (match idx x20 x22 with | none => none | some y1 => (bif decide (x22 > 0) then (bif room (List.length x6 + 1) 4 then (bif room (List.length (x6 ++ [10]) + List.length y1) 4 then (K .normal (st22_6 ((x6 ++ [10]) ++ y1) x20 x21 (IntKind.wrap .i64 (x22 + 1)))) else none) else none) else (bif room (List.length x6 + List.length y1) 4 then (K .normal (st22_6 (x6 ++ y1) x20 x21 (IntKind.wrap .i64 (x22 + 1)))) else none))) else (K (.exit 0) ⟨[(6, .one (.sl .i32 x6 (some 106))), (20, .one (.sl .rs x20 none)), (21, .one (.int .i64 x21)), (22, .one (.int .i64 x22)), (23, .one (.bool (decide (x22 < x21))))], [106]⟩) := by
  kernel_rfl
theorem ex22_6_0 (n : Nat) (x6 : List Int) (x20 : List (List Int)) (x21 : Int) (x22 : Int) (x23 : Bool) : (blockK 0 (seqK (evCode E22 n (cdAt Go.Proofs.Try.f22 [1, 1, 1, 1, 1])) (retK Go.Proofs.Try.f22.results.toList))) (.exit 0) ⟨[(6, .one (.sl .i32 x6 (some 106))), (20, .one (.sl .rs x20 none)), (21, .one (.int .i64 x21)), (22, .one (.int .i64 x22)), (23, .one (.bool x23))], [106]⟩ =
    bif lim4 x6 then (some (.tup [.str ((encF x6).1), .int .i64 0])) else none := by
  kernel_rfl

/- pergola/pergolaref06.Block -/
def dr23 : Nat → List Nat := fun r => match r with
  | 0 => [2, 3]
  | 1 => [14, 15]
  | 2 => [4, 16]
  | 3 => [0, 17]
  | 4 => [0, 17, 18, 19]
  | 7 => [20, 21, 22]
  | 8 => [24, 25]
  | 9 => [23, 26, 27, 28, 29, 30]
  | 10 => [8, 31, 32, 33, 34]
  | 11 => [5, 6, 7, 23, 35, 36]
  | 14 => [37, 38, 39]
  | 15 => [41, 42]
  | 16 => [40, 43]
  | 17 => [44, 45, 46, 47]
  | 18 => [44, 48, 49, 50, 51, 52, 53]
  | 19 => [9, 10, 11, 13, 40, 54, 55, 56, 57, 58]
  | 20 => [12, 59]
  | _ => []
def T23 : T6 := fun f ls => match f with
  | 16 => S16 ls
  | 35 => S35 ls
  | 38 => S38 ls
  | 39 => S39 ls
  | 40 => S40 ls
  | _ => none
def cn23 : FuncId → Option Nat := fun f => match f with

  | _ => none
def E23 : Env Ty6 den6 := mk6 T23 cn23 dr23 60
def st23_7 (x5 : List (List Int)) (x6 : List (List Int)) (x7 : Int) : S6 := ⟨[(5, .one (.sl .rs x5 (some 1019))), (6, .one (.sl .rs x6 (some 106))), (7, .one (.int .i64 x7))], [106, 1019]⟩
def st23_14 (x9 : List (List Int)) (x10 : List Int) (x11 : Int) : S6 := ⟨[(9, .one (.sl .rs x9 none)), (10, .one (.sl .i32 x10 (some 110))), (11, .one (.int .i64 x11))], [110]⟩
theorem ev23 (n : Nat) (a0 : List Int) : evFn E23 n Go.Proofs.Try.f23 [.sl .i32 a0 none] =
    bif smL a0 then (bif !(blockOkF 0 a0) then (some (.tup [.str [], .int .i64 60])) else (bif smL a0 then (evLoop (lbC E23 (cdAt Go.Proofs.Try.f23 [1, 1, 1, 1, 1, 0, 1, 0, 0]) 10007 n) n (st23_7 (linesF a0) [] 0) (blockK 0 (seqK (evCode E23 n (cdAt Go.Proofs.Try.f23 [1, 1, 1, 1, 1, 1])) (retK Go.Proofs.Try.f23.results.toList)))) else none)) else none := by
  kernel_rfl
theorem lb23_7_eq (n : Nat) (x5 : List (List Int)) (x6 : List (List Int)) (x7 : Int) (K : Ex → S6 → Option E6) : lbC E23 (cdAt Go.Proofs.Try.f23 [1, 1, 1, 1, 1, 0, 1, 0, 0]) 10007 n (st23_7 x5 x6 x7) K =
    bif decide (x7 < (List.length x5 : Int)) then (match idx x5 x7 with | none => none | some y1 => (bif smL y1 then (bif room (List.length x6 + 1) 24 then (K .normal (st23_7 x5 (x6 ++ [openF y1]) (IntKind.wrap .i64 (x7 + 1)))) else none) else none)) else (K (.exit 0) ⟨[(5, .one (.sl .rs x5 (some 1019))), (6, .one (.sl .rs x6 (some 106))), (7, .one (.int .i64 x7)), (23, .one (.bool (decide (x7 < (List.length x5 : Int)))))], [106, 1019]⟩) := by
  kernel_rfl
theorem ex23_7_0 (n : Nat) (x5 : List (List Int)) (x6 : List (List Int)) (x7 : Int) (x23 : Bool) : (blockK 0 (seqK (evCode E23 n (cdAt Go.Proofs.Try.f23 [1, 1, 1, 1, 1, 1])) (retK Go.Proofs.Try.f23.results.toList))) (.exit 0) ⟨[(5, .one (.sl .rs x5 (some 1019))), (6, .one (.sl .rs x6 (some 106))), (7, .one (.int .i64 x7)), (23, .one (.bool x23))], [106, 1019]⟩ =
    bif limL x6 then (evLoop (lbC E23 (cdAt Go.Proofs.Try.f23 [1, 1, 1, 1, 1, 1, 1, 1, 0, 1, 0, 0]) 10014 n) n (st23_14 (dedentF x6) [] 0) (blockK 2 (seqK (evCode E23 n (cdAt Go.Proofs.Try.f23 [1, 1, 1, 1, 1, 1, 1, 1, 1])) (retK Go.Proofs.Try.f23.results.toList)))) else none := by
  kernel_rfl
theorem lb23_14_eq (n : Nat) (x9 : List (List Int)) (x10 : List Int) (x11 : Int) (K : Ex → S6 → Option E6) : lbC E23 (cdAt Go.Proofs.Try.f23 [1, 1, 1, 1, 1, 1, 1, 1, 0, 1, 0, 0]) 10014 n (st23_14 x9 x10 x11) K =
    bif decide (x11 < (List.length x9 : Int)) then (bif decide (x11 > 0) then (bif room (List.length x10 + 1) 4 then (match idx x9 x11 with | none => none | some y2 => (bif room (List.length (x10 ++ [10]) + List.length y2) 4 then (K .normal (st23_14 x9 ((x10 ++ [10]) ++ y2) (IntKind.wrap .i64 (x11 + 1)))) else none)) else none) else (match idx x9 x11 with | none => none | some y3 => (bif room (List.length x10 + List.length y3) 4 then (K .normal (st23_14 x9 (x10 ++ y3) (IntKind.wrap .i64 (x11 + 1)))) else none))) else (K (.exit 2) ⟨[(9, .one (.sl .rs x9 none)), (10, .one (.sl .i32 x10 (some 110))), (11, .one (.int .i64 x11)), (40, .one (.bool (decide (x11 < (List.length x9 : Int)))))], [110]⟩) := by
  kernel_rfl
theorem ex23_14_2 (n : Nat) (x9 : List (List Int)) (x10 : List Int) (x11 : Int) (x40 : Bool) : (blockK 2 (seqK (evCode E23 n (cdAt Go.Proofs.Try.f23 [1, 1, 1, 1, 1, 1, 1, 1, 1])) (retK Go.Proofs.Try.f23.results.toList))) (.exit 2) ⟨[(9, .one (.sl .rs x9 none)), (10, .one (.sl .i32 x10 (some 110))), (11, .one (.int .i64 x11)), (40, .one (.bool x40))], [110]⟩ =
    bif lim4 x10 then (some (.tup [.str ((encF x10).1), .int .i64 0])) else none := by
  kernel_rfl

end Go.Aev
end
