/- Proved here: lemmas of an evaluator over the model's code that the claim's text uses (G4 G5 P11 P12 P13). Conditions: those that each lemma states. -/
import Derived.Test.YtljnggaaohddnaaCevE
section
set_option linter.unusedVariables false
namespace Go.Aev
open Go.Proofs
/- pergola/utf.Digit -/
def dr64 : Nat → List Nat := fun r => match r with
  | 0 => [2]
  | 1 => [0, 3, 4, 5, 6, 7, 8]
  | _ => []
def T64 : T6 := fun f ls => match f with

  | _ => none
def cn64 : FuncId → Option Nat := fun f => match f with

  | _ => none
def E64 : Env Ty6 den6 := mk6 T64 cn64 dr64 9
theorem ev64 (n : Nat) (a0 : Int) : evFn E64 n Go.Proofs.Try.f64 [.int .i32 a0] =
    bif (decide (a0 ≥ 48)) == true then (some (.one (.bool (decide (a0 ≤ 57))))) else (some (.one (.bool false))) := by
  kernel_rfl

/- pergola/utf.Hex -/
def dr63 : Nat → List Nat := fun r => match r with
  | 0 => [2]
  | 1 => [4, 5]
  | 2 => [0, 3, 6, 7, 8]
  | 3 => [3, 10, 11, 12, 13, 14, 15]
  | 4 => [0, 9, 16, 17, 18, 19]
  | 5 => [9, 21, 22, 23, 24, 25, 26]
  | 6 => [0, 20, 27, 28, 29, 30]
  | 7 => [0, 20]
  | _ => []
def T63 : T6 := fun f ls => match f with
  | 64 => S64 ls
  | _ => none
def cn63 : FuncId → Option Nat := fun f => match f with

  | _ => none
def E63 : Env Ty6 den6 := mk6 T63 cn63 dr63 31
theorem ev63 (n : Nat) (a0 : Int) : evFn E63 n Go.Proofs.Try.f63 [.int .i32 a0] =
    bif digitF a0 then (some (.one (.int .i64 (IntKind.wrap .i64 (IntKind.wrap .i32 (a0 - 48)))))) else (bif (decide (a0 ≥ 97)) == true then (bif decide (a0 ≤ 102) then (some (.one (.int .i64 (IntKind.wrap .i64 ((IntKind.wrap .i64 (IntKind.wrap .i32 (a0 - 97))) + 10))))) else (bif (decide (a0 ≥ 65)) == true then (bif decide (a0 ≤ 70) then (some (.one (.int .i64 (IntKind.wrap .i64 ((IntKind.wrap .i64 (IntKind.wrap .i32 (a0 - 65))) + 10))))) else (some (.one (.int .i64 (-1))))) else (some (.one (.int .i64 (-1)))))) else (bif (decide (a0 ≥ 65)) == true then (bif decide (a0 ≤ 70) then (some (.one (.int .i64 (IntKind.wrap .i64 ((IntKind.wrap .i64 (IntKind.wrap .i32 (a0 - 65))) + 10))))) else (some (.one (.int .i64 (-1))))) else (some (.one (.int .i64 (-1)))))) := by
  kernel_rfl

/- pergola/pergolaref01.Hex -/
def dr60 : Nat → List Nat := fun r => match r with
  | 0 => [2]
  | 4 => [6]
  | 5 => [8, 9, 23]
  | 6 => [7, 10, 11, 12, 13, 14, 15, 16, 17, 18, 19, 20, 21, 22]
  | 7 => [0, 3, 4, 5, 23, 24]
  | 8 => [0, 3, 4, 5, 7]
  | _ => []
def T60 : T6 := fun f ls => match f with

  | _ => none
def cn60 : FuncId → Option Nat := fun f => match f with

  | _ => none
def E60 : Env Ty6 den6 := mk6 T60 cn60 dr60 25
def st60_4 (x0 : Int) (x3 : List UInt8) (x4 : List UInt8) (x5 : Int) : S6 := ⟨[(0, .one (.int .i32 x0)), (3, .one (.str x3)), (4, .one (.str x4)), (5, .one (.int .i64 x5))], []⟩
theorem ev60 (n : Nat) (a0 : Int) : evFn E60 n Go.Proofs.Try.f60 [.int .i32 a0] =
    evLoop (lbC E60 (cdAt Go.Proofs.Try.f60 [1, 1, 1, 0, 1, 0, 0]) 10004 n) n (st60_4 a0 [48, 49, 50, 51, 52, 53, 54, 55, 56, 57, 97, 98, 99, 100, 101, 102] [48, 49, 50, 51, 52, 53, 54, 55, 56, 57, 65, 66, 67, 68, 69, 70] 0) (blockK 0 (seqK (evCode E60 n (cdAt Go.Proofs.Try.f60 [1, 1, 1, 1])) (retK Go.Proofs.Try.f60.results.toList))) := by
  kernel_rfl
theorem lb60_4_eq (n : Nat) (x0 : Int) (x3 : List UInt8) (x4 : List UInt8) (x5 : Int) (K : Ex → S6 → Option E6) : lbC E60 (cdAt Go.Proofs.Try.f60 [1, 1, 1, 0, 1, 0, 0]) 10004 n (st60_4 x0 x3 x4 x5) K =
    bif decide (x5 < 16) then (match idx x3 x5 with | none => none | some y1 => (bif ((IntKind.wrap .i32 (UInt8.toNat y1 : Int)) == x0) == false then (match idx x4 x5 with | none => none | some y2 => (bif (IntKind.wrap .i32 (UInt8.toNat y2 : Int)) == x0 then (K .ret ⟨[(2, .one (.int .i64 x5))], []⟩) else (K .normal (st60_4 x0 x3 x4 (IntKind.wrap .i64 (x5 + 1)))))) else (K .ret ⟨[(2, .one (.int .i64 x5))], []⟩))) else (K (.exit 0) ⟨[(0, .one (.int .i32 x0)), (3, .one (.str x3)), (4, .one (.str x4)), (5, .one (.int .i64 x5)), (7, .one (.bool (decide (x5 < 16))))], []⟩) := by
  kernel_rfl
theorem ex60_4_0 (n : Nat) (x0 : Int) (x3 : List UInt8) (x4 : List UInt8) (x5 : Int) (x7 : Bool) : (blockK 0 (seqK (evCode E60 n (cdAt Go.Proofs.Try.f60 [1, 1, 1, 1])) (retK Go.Proofs.Try.f60.results.toList))) (.exit 0) ⟨[(0, .one (.int .i32 x0)), (3, .one (.str x3)), (4, .one (.str x4)), (5, .one (.int .i64 x5)), (7, .one (.bool x7))], []⟩ =
    some (.one (.int .i64 (-1))) := by
  kernel_rfl

/- pergola/strval.hex4 -/
def dr57 : Nat → List Nat := fun r => match r with
  | 0 => [2]
  | 1 => [7, 8]
  | 2 => [0, 9]
  | 3 => [9]
  | 4 => [0, 10]
  | 6 => [14, 15, 16]
  | 7 => [5, 17, 18]
  | 8 => [19]
  | 9 => [3, 6, 11, 12, 13, 20]
  | 10 => [6, 20, 21, 22, 23, 24, 25]
  | 11 => [26]
  | 12 => [3, 11, 12, 13, 14, 27]
  | _ => []
def T57 : T6 := fun f ls => match f with
  | 63 => S63 ls
  | _ => none
def cn57 : FuncId → Option Nat := fun f => match f with

  | _ => none
def E57 : Env Ty6 den6 := mk6 T57 cn57 dr57 28
def st57_5 (x3 : Int) (x11 : List Int) (x12 : Int) (x13 : Int) : S6 := ⟨[(3, .one (.int .i32 x3)), (11, .one (.sl .i32 x11 none)), (12, .one (.int .i64 x12)), (13, .one (.int .i64 x13))], []⟩
theorem ev57 (n : Nat) (a0 : List Int) : evFn E57 n Go.Proofs.Try.f57 [.sl .i32 a0 none] =
    bif decide ((List.length a0 : Int) < 4) then (some (.one (.int .i32 (-1)))) else (match sub a0 0 4 with | none => none | some y1 => (evLoop (lbC E57 (cdAt Go.Proofs.Try.f57 [1, 1, 1, 0, 1, 0, 0]) 10005 n) n (st57_5 0 y1 (List.length y1 : Int) 0) (blockK 0 (seqK (evCode E57 n (cdAt Go.Proofs.Try.f57 [1, 1, 1, 1])) (retK Go.Proofs.Try.f57.results.toList))))) := by
  kernel_rfl
theorem lb57_5_eq (n : Nat) (x3 : Int) (x11 : List Int) (x12 : Int) (x13 : Int) (K : Ex → S6 → Option E6) : lbC E57 (cdAt Go.Proofs.Try.f57 [1, 1, 1, 0, 1, 0, 0]) 10005 n (st57_5 x3 x11 x12 x13) K =
    bif decide (x13 < x12) then (match idx x11 x13 with | none => none | some y2 => (bif decide ((hexF y2) < 0) then (K .ret ⟨[(2, .one (.int .i32 (-1)))], []⟩) else (K .normal (st57_5 (IntKind.wrap .i32 ((IntKind.wrap .i32 (x3 * 16)) + (IntKind.wrap .i32 (hexF y2)))) x11 x12 (IntKind.wrap .i64 (x13 + 1)))))) else (K (.exit 0) ⟨[(3, .one (.int .i32 x3)), (11, .one (.sl .i32 x11 none)), (12, .one (.int .i64 x12)), (13, .one (.int .i64 x13)), (14, .one (.bool (decide (x13 < x12))))], []⟩) := by
  kernel_rfl
theorem ex57_5_0 (n : Nat) (x3 : Int) (x11 : List Int) (x12 : Int) (x13 : Int) (x14 : Bool) : (blockK 0 (seqK (evCode E57 n (cdAt Go.Proofs.Try.f57 [1, 1, 1, 1])) (retK Go.Proofs.Try.f57.results.toList))) (.exit 0) ⟨[(3, .one (.int .i32 x3)), (11, .one (.sl .i32 x11 none)), (12, .one (.int .i64 x12)), (13, .one (.int .i64 x13)), (14, .one (.bool x14))], []⟩ =
    some (.one (.int .i32 x3)) := by
  kernel_rfl

/- pergola/utf.Join -/
def dr58 : Nat → List Nat := fun r => match r with
  | 0 => [4, 5]
  | 1 => [6, 7, 8, 9, 10, 11, 12, 13, 14, 15, 16, 17, 18]
  | 2 => [0, 1, 19]
  | 3 => [0, 1, 19, 20, 21, 22, 23, 24, 25, 26]
  | _ => []
def T58 : T6 := fun f ls => match f with

  | _ => none
def cn58 : FuncId → Option Nat := fun f => match f with

  | _ => none
def E58 : Env Ty6 den6 := mk6 T58 cn58 dr58 27
theorem ev58 (n : Nat) (a0 : Int) (a1 : Int) : evFn E58 n Go.Proofs.Try.f58 [.int .i32 a0, .int .i32 a1] =
    bif (decide (a0 < 55296)) == false then (bif (decide (a0 ≥ 56320)) == false then (bif (decide (a1 < 56320)) == false then (bif decide (a1 ≥ 57344) then (some (.tup [.int .i32 0, .bool false])) else (some (.tup [.int .i32 (IntKind.wrap .i32 ((IntKind.wrap .i32 (65536 + (IntKind.wrap .i32 ((IntKind.wrap .i32 (a0 - 55296)) * 2 ^ (Int.toNat 10))))) + (IntKind.wrap .i32 (a1 - 56320)))), .bool true]))) else (some (.tup [.int .i32 0, .bool false]))) else (some (.tup [.int .i32 0, .bool false]))) else (some (.tup [.int .i32 0, .bool false])) := by
  kernel_rfl

/- pergola/pergolaref01.Join -/
def dr49 : Nat → List Nat := fun r => match r with
  | 0 => [4, 5]
  | 1 => [6, 7, 8, 9, 10, 11, 12, 13, 14, 15, 16, 17, 18]
  | 2 => [0, 1, 19]
  | 3 => [0, 1, 19, 20, 21, 22, 23, 24, 25, 26]
  | _ => []
def T49 : T6 := fun f ls => match f with

  | _ => none
def cn49 : FuncId → Option Nat := fun f => match f with

  | _ => none
def E49 : Env Ty6 den6 := mk6 T49 cn49 dr49 27
theorem ev49 (n : Nat) (a0 : Int) (a1 : Int) : evFn E49 n Go.Proofs.Try.f49 [.int .i32 a0, .int .i32 a1] =
    bif (decide (a0 < 55296)) == false then (bif (decide (a0 > 56319)) == false then (bif (decide (a1 < 56320)) == false then (bif decide (a1 > 57343) then (some (.tup [.int .i32 0, .bool false])) else (some (.tup [.int .i32 (IntKind.wrap .i32 ((IntKind.wrap .i32 (65536 + (IntKind.wrap .i32 ((IntKind.wrap .i32 (a0 - 55296)) * 1024)))) + (IntKind.wrap .i32 (a1 - 56320)))), .bool true]))) else (some (.tup [.int .i32 0, .bool false]))) else (some (.tup [.int .i32 0, .bool false]))) else (some (.tup [.int .i32 0, .bool false])) := by
  kernel_rfl

/- pergola/strval.coded -/
def dr43 : Nat → List Nat := fun r => match r with
  | 0 => [2, 3]
  | 1 => [7, 8, 9]
  | 2 => [11, 12, 13, 14, 15, 16, 17, 18, 19, 20]
  | 3 => [0, 4, 10]
  | 4 => [10, 22, 23, 24, 25, 26, 27]
  | 5 => [0, 4, 21, 28]
  | 6 => [21, 29, 30, 31, 32, 33, 34, 35, 36, 37, 38, 39, 40, 41, 42]
  | 7 => [0, 4, 43]
  | 8 => [0, 4, 43, 44, 45, 46, 47, 48, 49, 50, 51]
  | 9 => [6, 52]
  | 10 => [5, 53]
  | 11 => [5, 53, 54]
  | _ => []
def T43 : T6 := fun f ls => match f with
  | 57 => S57 ls
  | 58 => S58 ls
  | _ => none
def cn43 : FuncId → Option Nat := fun f => match f with

  | _ => none
def E43 : Env Ty6 den6 := mk6 T43 cn43 dr43 55
theorem ev43 (n : Nat) (a0 : List Int) : evFn E43 n Go.Proofs.Try.f43 [.sl .i32 a0 none] =
    match sub a0 2 (List.length a0 : Int) with | none => none | some y1 => (bif lim4 y1 then (bif (decide ((hex4F y1) < 0)) == false then (bif (decide ((hex4F y1) ≥ 56320)) == true then (bif decide ((hex4F y1) ≤ 57343) then (some (.tup [.int .i32 0, .int .i64 0])) else (bif (decide ((hex4F y1) < 55296)) == false then (bif decide ((hex4F y1) > 57343) then (some (.tup [.int .i32 (hex4F y1), .int .i64 6])) else (bif (decide ((List.length a0 : Int) < 12)) == false then (match idx a0 6 with | none => none | some y2 => (bif (y2 != 92) == false then (match idx a0 7 with | none => none | some y3 => (bif y3 != 117 then (some (.tup [.int .i32 0, .int .i64 0])) else (match sub a0 8 (List.length a0 : Int) with | none => none | some y4 => (bif lim4 y4 then (bif !((joinF (hex4F y1) (hex4F y4)).2) then (some (.tup [.int .i32 0, .int .i64 0])) else (some (.tup [.int .i32 ((joinF (hex4F y1) (hex4F y4)).1), .int .i64 12]))) else none)))) else (some (.tup [.int .i32 0, .int .i64 0])))) else (some (.tup [.int .i32 0, .int .i64 0])))) else (some (.tup [.int .i32 (hex4F y1), .int .i64 6])))) else (bif (decide ((hex4F y1) < 55296)) == false then (bif decide ((hex4F y1) > 57343) then (some (.tup [.int .i32 (hex4F y1), .int .i64 6])) else (bif (decide ((List.length a0 : Int) < 12)) == false then (match idx a0 6 with | none => none | some y5 => (bif (y5 != 92) == false then (match idx a0 7 with | none => none | some y6 => (bif y6 != 117 then (some (.tup [.int .i32 0, .int .i64 0])) else (match sub a0 8 (List.length a0 : Int) with | none => none | some y7 => (bif lim4 y7 then (bif !((joinF (hex4F y1) (hex4F y7)).2) then (some (.tup [.int .i32 0, .int .i64 0])) else (some (.tup [.int .i32 ((joinF (hex4F y1) (hex4F y7)).1), .int .i64 12]))) else none)))) else (some (.tup [.int .i32 0, .int .i64 0])))) else (some (.tup [.int .i32 0, .int .i64 0])))) else (some (.tup [.int .i32 (hex4F y1), .int .i64 6])))) else (some (.tup [.int .i32 0, .int .i64 0]))) else none) := by
  kernel_rfl

/- pergola/strval.escaped -/
def dr31 : Nat → List Nat := fun r => match r with
  | 0 => [2, 3]
  | 1 => [4, 5]
  | 2 => [0, 6]
  | 3 => [6, 7, 8]
  | 4 => [11]
  | 5 => [12]
  | 6 => [13]
  | 7 => [0, 9, 10, 14, 15, 16]
  | 8 => [10, 18]
  | 9 => [0, 9, 17]
  | 10 => [17, 20]
  | 11 => [0, 9, 19]
  | 12 => [19, 22]
  | 13 => [0, 9, 21]
  | 14 => [21, 24]
  | 15 => [0, 9, 23]
  | 16 => [23, 26]
  | 17 => [0, 9, 25]
  | 18 => [9, 25, 28]
  | 19 => [0, 27, 29, 30, 31, 32]
  | 20 => [0, 27]
  | _ => []
def T31 : T6 := fun f ls => match f with
  | 43 => S43 ls
  | _ => none
def cn31 : FuncId → Option Nat := fun f => match f with

  | _ => none
def E31 : Env Ty6 den6 := mk6 T31 cn31 dr31 33
theorem ev31 (n : Nat) (a0 : List Int) : evFn E31 n Go.Proofs.Try.f31 [.sl .i32 a0 none] =
    bif decide ((List.length a0 : Int) < 2) then (some (.tup [.int .i32 0, .int .i64 0])) else (match idx a0 1 with | none => none | some y1 => (bif y1 == 34 then (bif y1 == 34 then (match idx a0 1 with | none => none | some y2 => (some (.tup [.int .i32 y2, .int .i64 2]))) else (bif y1 == 98 then (some (.tup [.int .i32 8, .int .i64 2])) else (bif y1 == 102 then (some (.tup [.int .i32 12, .int .i64 2])) else (bif y1 == 110 then (some (.tup [.int .i32 10, .int .i64 2])) else (bif y1 == 114 then (some (.tup [.int .i32 13, .int .i64 2])) else (bif y1 == 116 then (some (.tup [.int .i32 9, .int .i64 2])) else (bif y1 == 117 then (bif lim4 a0 && decide (2 ≤ List.length a0) then (some (.tup [.int .i32 ((codedF (List.drop 2 a0)).1), .int .i64 ((codedF (List.drop 2 a0)).2)])) else none) else (some (.tup [.int .i32 0, .int .i64 0]))))))))) else (bif y1 == 92 then (bif y1 == 92 then (match idx a0 1 with | none => none | some y3 => (some (.tup [.int .i32 y3, .int .i64 2]))) else (bif y1 == 98 then (some (.tup [.int .i32 8, .int .i64 2])) else (bif y1 == 102 then (some (.tup [.int .i32 12, .int .i64 2])) else (bif y1 == 110 then (some (.tup [.int .i32 10, .int .i64 2])) else (bif y1 == 114 then (some (.tup [.int .i32 13, .int .i64 2])) else (bif y1 == 116 then (some (.tup [.int .i32 9, .int .i64 2])) else (bif y1 == 117 then (bif lim4 a0 && decide (2 ≤ List.length a0) then (some (.tup [.int .i32 ((codedF (List.drop 2 a0)).1), .int .i64 ((codedF (List.drop 2 a0)).2)])) else none) else (some (.tup [.int .i32 0, .int .i64 0]))))))))) else (bif y1 == 47 then (match idx a0 1 with | none => none | some y4 => (some (.tup [.int .i32 y4, .int .i64 2]))) else (bif y1 == 98 then (some (.tup [.int .i32 8, .int .i64 2])) else (bif y1 == 102 then (some (.tup [.int .i32 12, .int .i64 2])) else (bif y1 == 110 then (some (.tup [.int .i32 10, .int .i64 2])) else (bif y1 == 114 then (some (.tup [.int .i32 13, .int .i64 2])) else (bif y1 == 116 then (some (.tup [.int .i32 9, .int .i64 2])) else (bif y1 == 117 then (bif lim4 a0 && decide (2 ≤ List.length a0) then (some (.tup [.int .i32 ((codedF (List.drop 2 a0)).1), .int .i64 ((codedF (List.drop 2 a0)).2)])) else none) else (some (.tup [.int .i32 0, .int .i64 0])))))))))))) := by
  kernel_rfl

/- pergola/utf.Source -/
def dr32 : Nat → List Nat := fun r => match r with
  | 0 => [2]
  | 1 => [3]
  | 2 => [0, 4, 5, 6, 7, 8, 9, 10, 11, 12, 13, 14]
  | 3 => [0, 4, 15, 16, 17, 18, 19, 20, 21, 22, 23, 24]
  | _ => []
def T32 : T6 := fun f ls => match f with

  | _ => none
def cn32 : FuncId → Option Nat := fun f => match f with

  | _ => none
def E32 : Env Ty6 den6 := mk6 T32 cn32 dr32 25
theorem ev32 (n : Nat) (a0 : Int) : evFn E32 n Go.Proofs.Try.f32 [.int .i32 a0] =
    bif decide (a0 < 32) then (bif (a0 == 9) == false then (bif (a0 == 10) == false then (some (.one (.bool (a0 == 13)))) else (some (.one (.bool true)))) else (some (.one (.bool true)))) else (bif (decide (a0 ≤ 65535)) == true then (bif (decide (a0 < 55296)) == false then (some (.one (.bool (decide (a0 ≥ 57344))))) else (some (.one (.bool true)))) else (some (.one (.bool false)))) := by
  kernel_rfl

/- pergola/pergolaref01.Source -/
def dr53 : Nat → List Nat := fun r => match r with
  | 0 => [2]
  | 1 => [3]
  | 2 => [0, 4, 5, 6]
  | 3 => [0, 4, 7, 8, 9, 10, 11, 12]
  | _ => []
def T53 : T6 := fun f ls => match f with
  | 61 => S61 ls
  | 62 => S62 ls
  | _ => none
def cn53 : FuncId → Option Nat := fun f => match f with

  | _ => none
def E53 : Env Ty6 den6 := mk6 T53 cn53 dr53 13
theorem ev53 (n : Nat) (a0 : Int) : evFn E53 n Go.Proofs.Try.f53 [.int .i32 a0] =
    bif decide (a0 < 32) then (bif room (List.length [9, 10, 13]) 1 then (some (.one (.bool (inF a0 [9, 10, 13])))) else none) else (bif (decide (a0 < 65536)) == true then (some (.one (.bool (validF a0)))) else (some (.one (.bool false)))) := by
  kernel_rfl

/- pergola/pergolaref01.Scalar -/
def dr61 : Nat → List Nat := fun r => match r with
  | 0 => [2]
  | 1 => [3, 4, 5, 6, 7]
  | 2 => [0, 8]
  | 3 => [0, 8, 9, 10, 11, 12, 13, 14]
  | _ => []
def T61 : T6 := fun f ls => match f with

  | _ => none
def cn61 : FuncId → Option Nat := fun f => match f with

  | _ => none
def E61 : Env Ty6 den6 := mk6 T61 cn61 dr61 15
theorem ev61 (n : Nat) (a0 : Int) : evFn E61 n Go.Proofs.Try.f61 [.int .i32 a0] =
    bif (decide (a0 ≥ 55296)) == true then (bif decide (a0 ≤ 57343) then (some (.one (.bool false))) else (bif (decide (a0 ≥ 0)) == true then (some (.one (.bool (decide (a0 ≤ 1114111))))) else (some (.one (.bool false))))) else (bif (decide (a0 ≥ 0)) == true then (some (.one (.bool (decide (a0 ≤ 1114111))))) else (some (.one (.bool false)))) := by
  kernel_rfl

/- pergola/pergolaref01.in -/
def dr62 : Nat → List Nat := fun r => match r with
  | 0 => [4]
  | 2 => [6, 7, 8]
  | 3 => [10, 11, 17]
  | 4 => [9, 12, 13, 14, 15, 16]
  | 5 => [0, 1, 5, 17]
  | 6 => [0, 1, 5, 9]
  | _ => []
def T62 : T6 := fun f ls => match f with

  | _ => none
def cn62 : FuncId → Option Nat := fun f => match f with

  | _ => none
def E62 : Env Ty6 den6 := mk6 T62 cn62 dr62 18
def st62_2 (x0 : Int) (x1 : List UInt8) (x5 : Int) : S6 := ⟨[(0, .one (.int .i32 x0)), (1, .one (.str x1)), (5, .one (.int .i64 x5))], []⟩
theorem ev62 (n : Nat) (a0 : Int) (a1 : List UInt8) : evFn E62 n Go.Proofs.Try.f62 [.int .i32 a0, .str a1] =
    evLoop (lbC E62 (cdAt Go.Proofs.Try.f62 [1, 0, 1, 0, 0]) 10002 n) n (st62_2 a0 a1 0) (blockK 0 (seqK (evCode E62 n (cdAt Go.Proofs.Try.f62 [1, 1])) (retK Go.Proofs.Try.f62.results.toList))) := by
  kernel_rfl
theorem lb62_2_eq (n : Nat) (x0 : Int) (x1 : List UInt8) (x5 : Int) (K : Ex → S6 → Option E6) : lbC E62 (cdAt Go.Proofs.Try.f62 [1, 0, 1, 0, 0]) 10002 n (st62_2 x0 x1 x5) K =
    bif decide (x5 < (List.length x1 : Int)) then (match idx x1 x5 with | none => none | some y1 => (bif (IntKind.wrap .i32 (UInt8.toNat y1 : Int)) == x0 then (K .ret ⟨[(4, .one (.bool true))], []⟩) else (K .normal (st62_2 x0 x1 (IntKind.wrap .i64 (x5 + 1)))))) else (K (.exit 0) ⟨[(0, .one (.int .i32 x0)), (1, .one (.str x1)), (5, .one (.int .i64 x5)), (9, .one (.bool (decide (x5 < (List.length x1 : Int)))))], []⟩) := by
  kernel_rfl
theorem ex62_2_0 (n : Nat) (x0 : Int) (x1 : List UInt8) (x5 : Int) (x9 : Bool) : (blockK 0 (seqK (evCode E62 n (cdAt Go.Proofs.Try.f62 [1, 1])) (retK Go.Proofs.Try.f62.results.toList))) (.exit 0) ⟨[(0, .one (.int .i32 x0)), (1, .one (.str x1)), (5, .one (.int .i64 x5)), (9, .one (.bool x9))], []⟩ =
    some (.one (.bool false)) := by
  kernel_rfl

/- unicode/utf8.ValidRune -/
def dr44 : Nat → List Nat := fun r => match r with
  | 0 => [2]
  | 1 => [4, 5, 6, 7, 8, 9]
  | 2 => [0, 3]
  | 3 => [0, 3, 11, 12, 13, 14, 15, 16]
  | 4 => [10]
  | 5 => [10]
  | _ => []
def T44 : T6 := fun f ls => match f with

  | _ => none
def cn44 : FuncId → Option Nat := fun f => match f with

  | _ => none
def E44 : Env Ty6 den6 := mk6 T44 cn44 dr44 17
theorem ev44 (n : Nat) (a0 : Int) : evFn E44 n Go.Proofs.Try.f44 [.int .i32 a0] =
    bif (decide (0 ≤ a0)) == true then (bif decide (a0 < 55296) then (some (.one (.bool true))) else (bif (decide (57343 < a0)) == true then (bif decide (a0 ≤ 1114111) then (some (.one (.bool true))) else (some (.one (.bool false)))) else (some (.one (.bool false))))) else (bif (decide (57343 < a0)) == true then (bif decide (a0 ≤ 1114111) then (some (.one (.bool true))) else (some (.one (.bool false)))) else (some (.one (.bool false)))) := by
  kernel_rfl

/- unicode/utf8.AppendRune -/
def dr45 : Nat → List Nat := fun r => match r with
  | 0 => [4]
  | 1 => [5, 6]
  | 2 => [0, 1, 7, 8, 9, 10, 11, 12]
  | 3 => [0, 1, 7, 13, 14, 15]
  | _ => []
def T45 : T6 := fun f ls => match f with
  | 59 => S59 ls
  | _ => none
def cn45 : FuncId → Option Nat := fun f => match f with
  | 59 => some 0
  | _ => none
def E45 : Env Ty6 den6 := mk6 T45 cn45 dr45 16
theorem ev45 (n : Nat) (a0 : List Int) (a1 : Int) : evFn E45 n Go.Proofs.Try.f45 [.sl .u8 a0 (some 0), .int .i32 a1] =
    bif decide ((IntKind.wrap .u32 a1) ≤ 127) then (bif room (List.length a0 + 1) 1 then (some (.one (.sl .u8 (a0 ++ [IntKind.wrap .u8 a1]) (some 0)))) else none) else (bif room (List.length a0 + 4) 1 && validF a1 && decide (128 ≤ a1) then (some (.one (.sl .u8 (catI a0 (u8F a1)) (some 0)))) else none) := by
  kernel_rfl

/- unicode/utf8.appendRuneNonASCII -/
def dr59 : Nat → List Nat := fun r => match r with
  | 0 => [4]
  | 1 => [6, 7]
  | 2 => [0, 1, 8, 9, 10, 50]
  | 3 => [12, 13]
  | 4 => [0, 1, 5, 11, 14, 15, 16, 17, 18, 19, 20, 21, 22, 23, 24]
  | 5 => [11, 26, 27]
  | 6 => [28, 29, 30, 31, 32, 33]
  | 7 => [0, 1, 5, 25, 34, 35, 36, 37, 38, 39, 40, 41, 42, 43, 44, 45, 46, 47, 48, 49]
  | 8 => [5, 25, 51, 52, 53, 54, 55, 56]
  | 9 => [0, 1, 50, 57, 58, 59, 60, 61, 62, 63, 64, 65, 66, 67, 68, 69, 70, 71, 72, 73, 74, 75, 76, 77]
  | _ => []
def T59 : T6 := fun f ls => match f with

  | _ => none
def cn59 : FuncId → Option Nat := fun f => match f with

  | _ => none
def E59 : Env Ty6 den6 := mk6 T59 cn59 dr59 78
theorem ev59 (n : Nat) (a0 : List Int) (a1 : Int) : evFn E59 n Go.Proofs.Try.f59 [.sl .u8 a0 (some 0), .int .i32 a1] =
    bif decide ((IntKind.wrap .u32 a1) ≤ 2047) then (bif room (List.length a0 + 2) 1 then (some (.one (.sl .u8 (a0 ++ [bits .or .u8 192 (IntKind.wrap .u8 (a1 / 2 ^ (Int.toNat 6))), bits .or .u8 128 (bits .and .u8 (IntKind.wrap .u8 a1) 63)]) (some 0)))) else none) else (bif decide ((IntKind.wrap .u32 a1) < 55296) then (bif decide ((IntKind.wrap .u32 a1) < 55296) then (bif room (List.length a0 + 3) 1 then (some (.one (.sl .u8 (a0 ++ [bits .or .u8 224 (IntKind.wrap .u8 (a1 / 2 ^ (Int.toNat 12))), bits .or .u8 128 (bits .and .u8 (IntKind.wrap .u8 (a1 / 2 ^ (Int.toNat 6))) 63), bits .or .u8 128 (bits .and .u8 (IntKind.wrap .u8 a1) 63)]) (some 0)))) else none) else (bif (decide ((IntKind.wrap .u32 a1) > 65535)) == true then (bif decide ((IntKind.wrap .u32 a1) ≤ 1114111) then (bif room (List.length a0 + 4) 1 then (some (.one (.sl .u8 (a0 ++ [bits .or .u8 240 (IntKind.wrap .u8 (a1 / 2 ^ (Int.toNat 18))), bits .or .u8 128 (bits .and .u8 (IntKind.wrap .u8 (a1 / 2 ^ (Int.toNat 12))) 63), bits .or .u8 128 (bits .and .u8 (IntKind.wrap .u8 (a1 / 2 ^ (Int.toNat 6))) 63), bits .or .u8 128 (bits .and .u8 (IntKind.wrap .u8 a1) 63)]) (some 0)))) else none) else (bif room (List.length a0 + 3) 1 then (some (.one (.sl .u8 (a0 ++ [239, 191, 189]) (some 0)))) else none)) else (bif room (List.length a0 + 3) 1 then (some (.one (.sl .u8 (a0 ++ [239, 191, 189]) (some 0)))) else none))) else (bif (decide (57343 < (IntKind.wrap .u32 a1))) == true then (bif decide ((IntKind.wrap .u32 a1) ≤ 65535) then (bif room (List.length a0 + 3) 1 then (some (.one (.sl .u8 (a0 ++ [bits .or .u8 224 (IntKind.wrap .u8 (a1 / 2 ^ (Int.toNat 12))), bits .or .u8 128 (bits .and .u8 (IntKind.wrap .u8 (a1 / 2 ^ (Int.toNat 6))) 63), bits .or .u8 128 (bits .and .u8 (IntKind.wrap .u8 a1) 63)]) (some 0)))) else none) else (bif (decide ((IntKind.wrap .u32 a1) > 65535)) == true then (bif decide ((IntKind.wrap .u32 a1) ≤ 1114111) then (bif room (List.length a0 + 4) 1 then (some (.one (.sl .u8 (a0 ++ [bits .or .u8 240 (IntKind.wrap .u8 (a1 / 2 ^ (Int.toNat 18))), bits .or .u8 128 (bits .and .u8 (IntKind.wrap .u8 (a1 / 2 ^ (Int.toNat 12))) 63), bits .or .u8 128 (bits .and .u8 (IntKind.wrap .u8 (a1 / 2 ^ (Int.toNat 6))) 63), bits .or .u8 128 (bits .and .u8 (IntKind.wrap .u8 a1) 63)]) (some 0)))) else none) else (bif room (List.length a0 + 3) 1 then (some (.one (.sl .u8 (a0 ++ [239, 191, 189]) (some 0)))) else none)) else (bif room (List.length a0 + 3) 1 then (some (.one (.sl .u8 (a0 ++ [239, 191, 189]) (some 0)))) else none))) else (bif (decide ((IntKind.wrap .u32 a1) > 65535)) == true then (bif decide ((IntKind.wrap .u32 a1) ≤ 1114111) then (bif room (List.length a0 + 4) 1 then (some (.one (.sl .u8 (a0 ++ [bits .or .u8 240 (IntKind.wrap .u8 (a1 / 2 ^ (Int.toNat 18))), bits .or .u8 128 (bits .and .u8 (IntKind.wrap .u8 (a1 / 2 ^ (Int.toNat 12))) 63), bits .or .u8 128 (bits .and .u8 (IntKind.wrap .u8 (a1 / 2 ^ (Int.toNat 6))) 63), bits .or .u8 128 (bits .and .u8 (IntKind.wrap .u8 a1) 63)]) (some 0)))) else none) else (bif room (List.length a0 + 3) 1 then (some (.one (.sl .u8 (a0 ++ [239, 191, 189]) (some 0)))) else none)) else (bif room (List.length a0 + 3) 1 then (some (.one (.sl .u8 (a0 ++ [239, 191, 189]) (some 0)))) else none)))) := by
  kernel_rfl

end Go.Aev
end

section
set_option linter.unusedVariables false
namespace Go.Aev
open Go.Proofs
/- pergola/pergolaref06.unit -/
def dr48 : Nat → List Nat := fun r => match r with
  | 0 => [4]
  | 1 => [8, 9, 10, 11, 12, 13, 14, 15, 16, 17, 18, 19, 20, 21, 22, 23, 24, 25, 26]
  | 2 => [0, 1, 27]
  | 3 => [27]
  | 4 => [28, 29]
  | 5 => [30, 31, 32]
  | 6 => [34, 35]
  | 7 => [33, 36, 37, 38, 39, 40]
  | 8 => [41]
  | 9 => [0, 1, 5, 6, 7, 42]
  | 10 => [7, 42, 43, 44, 45, 46, 47]
  | 11 => [0, 1, 5, 6, 33, 48]
  | _ => []
def T48 : T6 := fun f ls => match f with
  | 60 => S60 ls
  | _ => none
def cn48 : FuncId → Option Nat := fun f => match f with

  | _ => none
def E48 : Env Ty6 den6 := mk6 T48 cn48 dr48 49
def st48_5 (x0 : List Int) (x1 : Int) (x5 : Int) (x6 : Int) : S6 := ⟨[(0, .one (.sl .i32 x0 none)), (1, .one (.int .i64 x1)), (5, .one (.int .i32 x5)), (6, .one (.int .i64 x6))], []⟩
theorem ev48 (n : Nat) (a0 : List Int) (a1 : Int) : evFn E48 n Go.Proofs.Try.f48 [.sl .i32 a0 none, .int .i64 a1] =
    bif (decide ((IntKind.wrap .i64 (a1 + 6)) > (List.length a0 : Int))) == false then (match idx a0 a1 with | none => none | some y1 => (bif (y1 != 92) == false then (match idx a0 (IntKind.wrap .i64 (a1 + 1)) with | none => none | some y2 => (bif y2 != 117 then (some (.one (.int .i32 (-1)))) else (evLoop (lbC E48 (cdAt Go.Proofs.Try.f48 [1, 1, 1, 0, 1, 0, 0]) 10005 n) n (st48_5 a0 a1 0 (IntKind.wrap .i64 (a1 + 2))) (blockK 0 (seqK (evCode E48 n (cdAt Go.Proofs.Try.f48 [1, 1, 1, 1])) (retK Go.Proofs.Try.f48.results.toList)))))) else (some (.one (.int .i32 (-1)))))) else (some (.one (.int .i32 (-1)))) := by
  kernel_rfl
theorem lb48_5_eq (n : Nat) (x0 : List Int) (x1 : Int) (x5 : Int) (x6 : Int) (K : Ex → S6 → Option E6) : lbC E48 (cdAt Go.Proofs.Try.f48 [1, 1, 1, 0, 1, 0, 0]) 10005 n (st48_5 x0 x1 x5 x6) K =
    bif decide (x6 < (IntKind.wrap .i64 (x1 + 6))) then (match idx x0 x6 with | none => none | some y3 => (bif decide ((hexF y3) < 0) then (K .ret ⟨[(4, .one (.int .i32 (-1)))], []⟩) else (K .normal (st48_5 x0 x1 (IntKind.wrap .i32 ((IntKind.wrap .i32 (x5 * 16)) + (IntKind.wrap .i32 (hexF y3)))) (IntKind.wrap .i64 (x6 + 1)))))) else (K (.exit 0) ⟨[(0, .one (.sl .i32 x0 none)), (1, .one (.int .i64 x1)), (5, .one (.int .i32 x5)), (6, .one (.int .i64 x6)), (33, .one (.bool (decide (x6 < (IntKind.wrap .i64 (x1 + 6))))))], []⟩) := by
  kernel_rfl
theorem ex48_5_0 (n : Nat) (x0 : List Int) (x1 : Int) (x5 : Int) (x6 : Int) (x33 : Bool) : (blockK 0 (seqK (evCode E48 n (cdAt Go.Proofs.Try.f48 [1, 1, 1, 1])) (retK Go.Proofs.Try.f48.results.toList))) (.exit 0) ⟨[(0, .one (.sl .i32 x0 none)), (1, .one (.int .i64 x1)), (5, .one (.int .i32 x5)), (6, .one (.int .i64 x6)), (33, .one (.bool x33))], []⟩ =
    some (.one (.int .i32 x5)) := by
  kernel_rfl

/- pergola/pergolaref06.short -/
def dr47 : Nat → List Nat := fun r => match r with
  | 0 => [2]
  | 4 => [6, 7, 8]
  | 5 => [10, 11, 17]
  | 6 => [9, 12, 13, 14, 15, 16]
  | 7 => [0, 3, 4, 5, 17, 18, 19, 20, 21]
  | 8 => [0, 3, 4, 5, 9]
  | _ => []
def T47 : T6 := fun f ls => match f with

  | _ => none
def cn47 : FuncId → Option Nat := fun f => match f with

  | _ => none
def E47 : Env Ty6 den6 := mk6 T47 cn47 dr47 22
def st47_4 (x0 : Int) (x3 : List UInt8) (x4 : List UInt8) (x5 : Int) : S6 := ⟨[(0, .one (.int .i32 x0)), (3, .one (.str x3)), (4, .one (.str x4)), (5, .one (.int .i64 x5))], []⟩
theorem ev47 (n : Nat) (a0 : Int) : evFn E47 n Go.Proofs.Try.f47 [.int .i32 a0] =
    evLoop (lbC E47 (cdAt Go.Proofs.Try.f47 [1, 1, 1, 0, 1, 0, 0]) 10004 n) n (st47_4 a0 [34, 92, 47, 98, 102, 110, 114, 116] [34, 92, 47, 8, 12, 10, 13, 9] 0) (blockK 0 (seqK (evCode E47 n (cdAt Go.Proofs.Try.f47 [1, 1, 1, 1])) (retK Go.Proofs.Try.f47.results.toList))) := by
  kernel_rfl
theorem lb47_4_eq (n : Nat) (x0 : Int) (x3 : List UInt8) (x4 : List UInt8) (x5 : Int) (K : Ex → S6 → Option E6) : lbC E47 (cdAt Go.Proofs.Try.f47 [1, 1, 1, 0, 1, 0, 0]) 10004 n (st47_4 x0 x3 x4 x5) K =
    bif decide (x5 < (List.length x3 : Int)) then (match idx x3 x5 with | none => none | some y1 => (bif (IntKind.wrap .i32 (UInt8.toNat y1 : Int)) == x0 then (match idx x4 x5 with | none => none | some y2 => (K .ret ⟨[(2, .one (.int .i32 (IntKind.wrap .i32 (UInt8.toNat y2 : Int))))], []⟩)) else (K .normal (st47_4 x0 x3 x4 (IntKind.wrap .i64 (x5 + 1)))))) else (K (.exit 0) ⟨[(0, .one (.int .i32 x0)), (3, .one (.str x3)), (4, .one (.str x4)), (5, .one (.int .i64 x5)), (9, .one (.bool (decide (x5 < (List.length x3 : Int)))))], []⟩) := by
  kernel_rfl
theorem ex47_4_0 (n : Nat) (x0 : Int) (x3 : List UInt8) (x4 : List UInt8) (x5 : Int) (x9 : Bool) : (blockK 0 (seqK (evCode E47 n (cdAt Go.Proofs.Try.f47 [1, 1, 1, 1])) (retK Go.Proofs.Try.f47.results.toList))) (.exit 0) ⟨[(0, .one (.int .i32 x0)), (3, .one (.str x3)), (4, .one (.str x4)), (5, .one (.int .i64 x5)), (9, .one (.bool x9))], []⟩ =
    some (.one (.int .i32 (-1))) := by
  kernel_rfl

/- pergola/pergolaref06.plain -/
def dr46 : Nat → List Nat := fun r => match r with
  | 0 => [2]
  | 1 => [0, 3, 4, 5, 6, 7, 8, 9, 10, 11, 12, 13, 14, 15, 16, 17, 18, 19, 20]
  | _ => []
def T46 : T6 := fun f ls => match f with
  | 53 => S53 ls
  | _ => none
def cn46 : FuncId → Option Nat := fun f => match f with

  | _ => none
def E46 : Env Ty6 den6 := mk6 T46 cn46 dr46 21
theorem ev46 (n : Nat) (a0 : Int) : evFn E46 n Go.Proofs.Try.f46 [.int .i32 a0] =
    bif (sourceF a0) == true then (bif (a0 != 34) == true then (bif (a0 != 92) == true then (bif (a0 != 10) == true then (some (.one (.bool (a0 != 13)))) else (some (.one (.bool false)))) else (some (.one (.bool false)))) else (some (.one (.bool false)))) else (some (.one (.bool false))) := by
  kernel_rfl

/- pergola/pergolaref06.piece -/
def dr34 : Nat → List Nat := fun r => match r with
  | 0 => [4, 5]
  | 1 => [12, 13, 14, 15, 16]
  | 2 => [6]
  | 3 => [0, 1, 17, 18, 19, 20, 21]
  | 4 => [17, 22, 23, 24, 25, 26, 27, 28, 29, 30, 31, 32]
  | 5 => [0, 1, 33]
  | 6 => [33, 34, 35, 36, 37, 38, 39]
  | 7 => [40]
  | 8 => [0, 1, 7, 41, 42]
  | 9 => [7, 41, 43, 44, 45]
  | 10 => [47, 48, 49, 50, 51, 52, 53, 54, 55, 56]
  | 11 => [0, 1, 8, 46]
  | 12 => [46, 58, 59, 60, 61, 62, 63]
  | 13 => [0, 1, 57, 64, 65, 66, 67]
  | 14 => [8, 9, 68, 69, 70, 71, 72, 73]
  | 15 => [11, 74]
  | 16 => [10, 75]
  | 17 => [10, 75, 76]
  | 18 => [0, 1, 8, 57, 77]
  | _ => []
def T34 : T6 := fun f ls => match f with
  | 46 => S46 ls
  | 47 => S47 ls
  | 48 => S48 ls
  | 49 => S49 ls
  | _ => none
def cn34 : FuncId → Option Nat := fun f => match f with

  | _ => none
def E34 : Env Ty6 den6 := mk6 T34 cn34 dr34 78
theorem ev34 (n : Nat) (a0 : List Int) (a1 : Int) : evFn E34 n Go.Proofs.Try.f34 [.sl .i32 a0 none, .int .i64 a1] =
    match idx a0 a1 with | none => none | some y1 => (bif plainF y1 then (match idx a0 a1 with | none => none | some y2 => (some (.tup [.int .i32 y2, .int .i64 1]))) else (match idx a0 a1 with | none => none | some y3 => (bif (y3 != 92) == false then (bif decide ((IntKind.wrap .i64 (a1 + 1)) ≥ (List.length a0 : Int)) then (some (.tup [.int .i32 0, .int .i64 0])) else (match idx a0 (IntKind.wrap .i64 (a1 + 1)) with | none => none | some y4 => (bif decide ((shortF y4) ≥ 0) then (some (.tup [.int .i32 (shortF y4), .int .i64 2])) else (bif lim4 a0 && decide (0 ≤ a1) && decide (a1 ≤ (List.length a0 : Int) + 12) then (bif (decide ((unitF (List.drop (Int.toNat a1) a0)) < 0)) == false then (bif (decide ((unitF (List.drop (Int.toNat a1) a0)) ≥ 56320)) == true then (bif decide ((unitF (List.drop (Int.toNat a1) a0)) ≤ 57343) then (some (.tup [.int .i32 0, .int .i64 0])) else (bif (decide ((unitF (List.drop (Int.toNat a1) a0)) ≥ 55296)) == true then (bif decide ((unitF (List.drop (Int.toNat a1) a0)) ≤ 56319) then (bif lim4 a0 && decide (0 ≤ (IntKind.wrap .i64 (a1 + 6))) && decide ((IntKind.wrap .i64 (a1 + 6)) ≤ (List.length a0 : Int) + 12) then (bif !((joinF (unitF (List.drop (Int.toNat a1) a0)) (unitF (List.drop (Int.toNat (IntKind.wrap .i64 (a1 + 6))) a0))).2) then (some (.tup [.int .i32 0, .int .i64 0])) else (some (.tup [.int .i32 ((joinF (unitF (List.drop (Int.toNat a1) a0)) (unitF (List.drop (Int.toNat (IntKind.wrap .i64 (a1 + 6))) a0))).1), .int .i64 12]))) else none) else (some (.tup [.int .i32 (unitF (List.drop (Int.toNat a1) a0)), .int .i64 6]))) else (some (.tup [.int .i32 (unitF (List.drop (Int.toNat a1) a0)), .int .i64 6])))) else (bif (decide ((unitF (List.drop (Int.toNat a1) a0)) ≥ 55296)) == true then (bif decide ((unitF (List.drop (Int.toNat a1) a0)) ≤ 56319) then (bif lim4 a0 && decide (0 ≤ (IntKind.wrap .i64 (a1 + 6))) && decide ((IntKind.wrap .i64 (a1 + 6)) ≤ (List.length a0 : Int) + 12) then (bif !((joinF (unitF (List.drop (Int.toNat a1) a0)) (unitF (List.drop (Int.toNat (IntKind.wrap .i64 (a1 + 6))) a0))).2) then (some (.tup [.int .i32 0, .int .i64 0])) else (some (.tup [.int .i32 ((joinF (unitF (List.drop (Int.toNat a1) a0)) (unitF (List.drop (Int.toNat (IntKind.wrap .i64 (a1 + 6))) a0))).1), .int .i64 12]))) else none) else (some (.tup [.int .i32 (unitF (List.drop (Int.toNat a1) a0)), .int .i64 6]))) else (some (.tup [.int .i32 (unitF (List.drop (Int.toNat a1) a0)), .int .i64 6])))) else (some (.tup [.int .i32 0, .int .i64 0]))) else none)))) else (some (.tup [.int .i32 0, .int .i64 0]))))) := by
  kernel_rfl

/- pergola/pergolaref01.Put -/
def dr50 : Nat → List Nat := fun r => match r with
  | 0 => [2]
  | 1 => [6, 7]
  | 2 => [0, 8]
  | 3 => [8, 9, 10, 11, 12]
  | 4 => [13, 14, 15, 16, 17]
  | 5 => [18, 19, 20, 21, 22]
  | 6 => [24, 25]
  | 7 => [0, 3, 4, 5, 23, 26, 27, 28]
  | 8 => [23, 30, 31]
  | 9 => [0, 3, 4, 5, 29, 32, 33, 34, 35, 36, 37]
  | 10 => [29, 39, 40]
  | 11 => [0, 3, 4, 5, 38, 41, 42, 43, 44, 45, 46, 47]
  | 12 => [0, 3, 4, 5, 38, 48, 49, 50, 51, 52, 53, 54, 55]
  | _ => []
def T50 : T6 := fun f ls => match f with
  | 61 => S61 ls
  | _ => none
def cn50 : FuncId → Option Nat := fun f => match f with

  | _ => none
def E50 : Env Ty6 den6 := mk6 T50 cn50 dr50 56
theorem ev50 (n : Nat) (a0 : Int) : evFn E50 n Go.Proofs.Try.f50 [.int .i32 a0] =
    bif !(validF a0) then (some (.one (.sl .u8 [] (some 1)))) else (bif decide (a0 < 128) then (some (.one (.sl .u8 [IntKind.wrap .u8 a0] (some 1)))) else (bif decide (a0 < 2048) then (some (.one (.sl .u8 [IntKind.wrap .u8 (IntKind.wrap .i32 (192 + (IntKind.wrap .i32 (Int.tdiv a0 64)))), IntKind.wrap .u8 (IntKind.wrap .i32 (128 + (Int.tmod a0 64)))] (some 1)))) else (bif decide (a0 < 65536) then (some (.one (.sl .u8 [IntKind.wrap .u8 (IntKind.wrap .i32 (224 + (IntKind.wrap .i32 (Int.tdiv a0 4096)))), IntKind.wrap .u8 (IntKind.wrap .i32 (128 + (Int.tmod (IntKind.wrap .i32 (Int.tdiv a0 64)) 64))), IntKind.wrap .u8 (IntKind.wrap .i32 (128 + (Int.tmod a0 64)))] (some 1)))) else (some (.one (.sl .u8 [IntKind.wrap .u8 (IntKind.wrap .i32 (240 + (IntKind.wrap .i32 (Int.tdiv a0 262144)))), IntKind.wrap .u8 (IntKind.wrap .i32 (128 + (Int.tmod (IntKind.wrap .i32 (Int.tdiv a0 4096)) 64))), IntKind.wrap .u8 (IntKind.wrap .i32 (128 + (Int.tmod (IntKind.wrap .i32 (Int.tdiv a0 64)) 64))), IntKind.wrap .u8 (IntKind.wrap .i32 (128 + (Int.tmod a0 64)))] (some 1))))))) := by
  kernel_rfl

/- pergola/utf.Encode -/
def dr33 : Nat → List Nat := fun r => match r with
  | 0 => [2, 3]
  | 2 => [0]
  | 4 => [10, 11, 12]
  | 5 => [13, 14]
  | 6 => [4, 6, 7, 8, 9, 15]
  | 7 => [6, 15, 16, 17, 18]
  | 8 => [19]
  | 9 => [4, 7, 8, 9, 10, 20, 21]
  | _ => []
def T33 : T6 := fun f ls => match f with
  | 44 => S44 ls
  | 45 => S45 ls
  | _ => none
def cn33 : FuncId → Option Nat := fun f => match f with
  | 45 => some 0
  | _ => none
def E33 : Env Ty6 den6 := mk6 T33 cn33 dr33 22
def st33_3 (x4 : List Int) (x7 : List Int) (x8 : Int) (x9 : Int) : S6 := ⟨[(4, .one (.sl .u8 x4 (some 104))), (7, .one (.sl .i32 x7 none)), (8, .one (.int .i64 x8)), (9, .one (.int .i64 x9))], [104]⟩
theorem ev33 (n : Nat) (a0 : List Int) : evFn E33 n Go.Proofs.Try.f33 [.sl .i32 a0 none] =
    evLoop (lbC E33 (cdAt Go.Proofs.Try.f33 [1, 1, 0, 1, 0, 0]) 10003 n) n (st33_3 [] a0 (List.length a0 : Int) 0) (blockK 0 (seqK (evCode E33 n (cdAt Go.Proofs.Try.f33 [1, 1, 1])) (retK Go.Proofs.Try.f33.results.toList))) := by
  kernel_rfl
theorem lb33_3_eq (n : Nat) (x4 : List Int) (x7 : List Int) (x8 : Int) (x9 : Int) (K : Ex → S6 → Option E6) : lbC E33 (cdAt Go.Proofs.Try.f33 [1, 1, 0, 1, 0, 0]) 10003 n (st33_3 x4 x7 x8 x9) K =
    bif decide (x9 < x8) then (match idx x7 x9 with | none => none | some y1 => (bif !(validF y1) then (K .ret ⟨[(2, .one (.str [])), (3, .one (.bool false))], []⟩) else (bif room (List.length x4 + 4) 1 && validF y1 then (K .normal (st33_3 (catI x4 (u8F y1)) x7 x8 (IntKind.wrap .i64 (x9 + 1)))) else none))) else (K (.exit 0) ⟨[(4, .one (.sl .u8 x4 (some 104))), (7, .one (.sl .i32 x7 none)), (8, .one (.int .i64 x8)), (9, .one (.int .i64 x9)), (10, .one (.bool (decide (x9 < x8))))], [104]⟩) := by
  kernel_rfl
theorem ex33_3_0 (n : Nat) (x4 : List Int) (x7 : List Int) (x8 : Int) (x9 : Int) (x10 : Bool) : (blockK 0 (seqK (evCode E33 n (cdAt Go.Proofs.Try.f33 [1, 1, 1])) (retK Go.Proofs.Try.f33.results.toList))) (.exit 0) ⟨[(4, .one (.sl .u8 x4 (some 104))), (7, .one (.sl .i32 x7 none)), (8, .one (.int .i64 x8)), (9, .one (.int .i64 x9)), (10, .one (.bool x10))], [104]⟩ =
    some (.tup [.str (List.map (fun (n : Int) => UInt8.ofNat n.toNat) x4), .bool true]) := by
  kernel_rfl

/- pergola/pergolaref01.Encode -/
def dr35 : Nat → List Nat := fun r => match r with
  | 0 => [2, 3]
  | 3 => [7, 8, 9]
  | 4 => [11, 12]
  | 5 => [10, 13, 14, 15, 16, 17]
  | 6 => [18, 19]
  | 7 => [0, 4, 5, 6, 20]
  | 8 => [6, 20, 21, 22, 23]
  | 9 => [0, 4, 5, 10, 24, 25]
  | _ => []
def T35 : T6 := fun f ls => match f with
  | 50 => S50 ls
  | _ => none
def cn35 : FuncId → Option Nat := fun f => match f with

  | _ => none
def E35 : Env Ty6 den6 := mk6 T35 cn35 dr35 26
def st35_3 (x0 : List Int) (x4 : List Int) (x5 : Int) : S6 := ⟨[(0, .one (.sl .i32 x0 none)), (4, .one (.sl .u8 x4 (some 104))), (5, .one (.int .i64 x5))], [104]⟩
theorem ev35 (n : Nat) (a0 : List Int) : evFn E35 n Go.Proofs.Try.f35 [.sl .i32 a0 none] =
    evLoop (lbC E35 (cdAt Go.Proofs.Try.f35 [1, 1, 0, 1, 0, 0]) 10003 n) n (st35_3 a0 [] 0) (blockK 0 (seqK (evCode E35 n (cdAt Go.Proofs.Try.f35 [1, 1, 1])) (retK Go.Proofs.Try.f35.results.toList))) := by
  kernel_rfl
theorem lb35_3_eq (n : Nat) (x0 : List Int) (x4 : List Int) (x5 : Int) (K : Ex → S6 → Option E6) : lbC E35 (cdAt Go.Proofs.Try.f35 [1, 1, 0, 1, 0, 0]) 10003 n (st35_3 x0 x4 x5) K =
    bif decide (x5 < (List.length x0 : Int)) then (match idx x0 x5 with | none => none | some y1 => (bif (List.length (putF y1) : Int) == 0 then (K .ret ⟨[(2, .one (.str [])), (3, .one (.bool false))], []⟩) else (bif room (List.length x4 + List.length (putF y1)) 1 then (K .normal (st35_3 x0 (x4 ++ (putF y1)) (IntKind.wrap .i64 (x5 + 1)))) else none))) else (K (.exit 0) ⟨[(0, .one (.sl .i32 x0 none)), (4, .one (.sl .u8 x4 (some 104))), (5, .one (.int .i64 x5)), (10, .one (.bool (decide (x5 < (List.length x0 : Int)))))], [104]⟩) := by
  kernel_rfl
theorem ex35_3_0 (n : Nat) (x0 : List Int) (x4 : List Int) (x5 : Int) (x10 : Bool) : (blockK 0 (seqK (evCode E35 n (cdAt Go.Proofs.Try.f35 [1, 1, 1])) (retK Go.Proofs.Try.f35.results.toList))) (.exit 0) ⟨[(0, .one (.sl .i32 x0 none)), (4, .one (.sl .u8 x4 (some 104))), (5, .one (.int .i64 x5)), (10, .one (.bool x10))], [104]⟩ =
    some (.tup [.str (List.map (fun (n : Int) => UInt8.ofNat n.toNat) x4), .bool true]) := by
  kernel_rfl

/- pergola/strval.Quoted -/
def dr19 : Nat → List Nat := fun r => match r with
  | 0 => [2, 3]
  | 3 => [10, 11, 12]
  | 4 => [13, 14, 15, 16, 17]
  | 5 => [19, 20]
  | 6 => [18, 21, 22, 23, 24, 25, 26, 27]
  | 7 => [28]
  | 8 => [0, 4, 5, 6, 7, 29]
  | 9 => [18, 31, 32, 33, 34, 35, 36, 37, 38, 39, 40, 41, 42, 43, 44, 45]
  | 10 => [0, 4, 5, 6, 7, 30]
  | 11 => [6, 29, 30, 46, 47, 48, 49]
  | 12 => [7, 50, 51, 52]
  | 13 => [0, 4, 5, 9, 13, 53, 54, 55, 56, 57]
  | 14 => [8, 58]
  | _ => []
def T19 : T6 := fun f ls => match f with
  | 31 => S31 ls
  | 32 => S32 ls
  | 33 => S33 ls
  | _ => none
def cn19 : FuncId → Option Nat := fun f => match f with

  | _ => none
def E19 : Env Ty6 den6 := mk6 T19 cn19 dr19 59
def st19_3 (x0 : List Int) (x4 : List Int) (x5 : Int) : S6 := ⟨[(0, .one (.sl .i32 x0 none)), (4, .one (.sl .i32 x4 (some 104))), (5, .one (.int .i64 x5))], [104]⟩
theorem ev19 (n : Nat) (a0 : List Int) : evFn E19 n Go.Proofs.Try.f19 [.sl .i32 a0 none] =
    evLoop (lbC E19 (cdAt Go.Proofs.Try.f19 [1, 1, 0, 1, 0, 0]) 10003 n) n (st19_3 a0 [] 0) (blockK 0 (seqK (evCode E19 n (cdAt Go.Proofs.Try.f19 [1, 1, 1])) (retK Go.Proofs.Try.f19.results.toList))) := by
  kernel_rfl
theorem lb19_3_eq (n : Nat) (x0 : List Int) (x4 : List Int) (x5 : Int) (K : Ex → S6 → Option E6) : lbC E19 (cdAt Go.Proofs.Try.f19 [1, 1, 0, 1, 0, 0]) 10003 n (st19_3 x0 x4 x5) K =
    bif decide (x5 < (List.length x0 : Int)) then (match idx x0 x5 with | none => none | some y1 => (bif y1 == 92 then (match sub x0 x5 (List.length x0 : Int) with | none => none | some y2 => (bif lim4 y2 then (bif ((escF y2).2) == 0 then (K .ret ⟨[(2, .one (.str [])), (3, .one (.int .i64 60))], []⟩) else (bif room (List.length x4 + 1) 4 then (K .normal (st19_3 x0 (x4 ++ [(escF y2).1]) (IntKind.wrap .i64 (x5 + ((escF y2).2))))) else none)) else none)) else (bif (y1 == 34) == false then (bif (y1 == 10) == false then (bif (y1 == 13) == false then (bif !(sourceF y1) then (K .ret ⟨[(2, .one (.str [])), (3, .one (.int .i64 60))], []⟩) else (bif room (List.length x4 + 1) 4 then (K .normal (st19_3 x0 (x4 ++ [y1]) (IntKind.wrap .i64 (x5 + 1)))) else none)) else (K .ret ⟨[(2, .one (.str [])), (3, .one (.int .i64 60))], []⟩)) else (K .ret ⟨[(2, .one (.str [])), (3, .one (.int .i64 60))], []⟩)) else (K .ret ⟨[(2, .one (.str [])), (3, .one (.int .i64 60))], []⟩)))) else (K (.exit 0) ⟨[(0, .one (.sl .i32 x0 none)), (4, .one (.sl .i32 x4 (some 104))), (5, .one (.int .i64 x5)), (13, .one (.bool (decide (x5 < (List.length x0 : Int)))))], [104]⟩) := by
  kernel_rfl
theorem ex19_3_0 (n : Nat) (x0 : List Int) (x4 : List Int) (x5 : Int) (x13 : Bool) : (blockK 0 (seqK (evCode E19 n (cdAt Go.Proofs.Try.f19 [1, 1, 1])) (retK Go.Proofs.Try.f19.results.toList))) (.exit 0) ⟨[(0, .one (.sl .i32 x0 none)), (4, .one (.sl .i32 x4 (some 104))), (5, .one (.int .i64 x5)), (13, .one (.bool x13))], [104]⟩ =
    bif lim4 x4 then (some (.tup [.str ((encF x4).1), .int .i64 0])) else none := by
  kernel_rfl

/- pergola/pergolaref06.Quoted -/
def dr21 : Nat → List Nat := fun r => match r with
  | 0 => [2, 3]
  | 3 => [10, 11, 12]
  | 4 => [13, 14, 15, 16, 17, 18, 19]
  | 5 => [20]
  | 6 => [0, 4, 5, 6, 7, 21]
  | 7 => [6, 21, 22, 23, 24, 25]
  | 8 => [7, 26, 27, 28]
  | 9 => [0, 4, 5, 9, 13, 29, 30, 31, 32, 33]
  | 10 => [8, 34]
  | _ => []
def T21 : T6 := fun f ls => match f with
  | 34 => S34 ls
  | 35 => S35 ls
  | _ => none
def cn21 : FuncId → Option Nat := fun f => match f with

  | _ => none
def E21 : Env Ty6 den6 := mk6 T21 cn21 dr21 35
def st21_3 (x0 : List Int) (x4 : List Int) (x5 : Int) : S6 := ⟨[(0, .one (.sl .i32 x0 none)), (4, .one (.sl .i32 x4 (some 104))), (5, .one (.int .i64 x5))], [104]⟩
theorem ev21 (n : Nat) (a0 : List Int) : evFn E21 n Go.Proofs.Try.f21 [.sl .i32 a0 none] =
    evLoop (lbC E21 (cdAt Go.Proofs.Try.f21 [1, 1, 1, 0, 0, 0]) 10003 n) n (st21_3 a0 [] 0) (blockK 0 (seqK (evCode E21 n (cdAt Go.Proofs.Try.f21 [1, 1, 1, 1])) (retK Go.Proofs.Try.f21.results.toList))) := by
  kernel_rfl
theorem lb21_3_eq (n : Nat) (x0 : List Int) (x4 : List Int) (x5 : Int) (K : Ex → S6 → Option E6) : lbC E21 (cdAt Go.Proofs.Try.f21 [1, 1, 1, 0, 0, 0]) 10003 n (st21_3 x0 x4 x5) K =
    bif decide (x5 < (List.length x0 : Int)) then (bif lim4 x0 && decide (0 ≤ x5) && decide (x5 < (List.length x0 : Int)) then (bif ((pieceF (List.drop (Int.toNat x5) x0)).2) == 0 then (K .ret ⟨[(2, .one (.str [])), (3, .one (.int .i64 60))], []⟩) else (bif room (List.length x4 + 1) 4 then (K .normal (st21_3 x0 (x4 ++ [(pieceF (List.drop (Int.toNat x5) x0)).1]) (IntKind.wrap .i64 (x5 + ((pieceF (List.drop (Int.toNat x5) x0)).2))))) else none)) else none) else (K (.exit 0) ⟨[(0, .one (.sl .i32 x0 none)), (4, .one (.sl .i32 x4 (some 104))), (5, .one (.int .i64 x5)), (13, .one (.bool (decide (x5 < (List.length x0 : Int)))))], [104]⟩) := by
  kernel_rfl
theorem ex21_3_0 (n : Nat) (x0 : List Int) (x4 : List Int) (x5 : Int) (x13 : Bool) : (blockK 0 (seqK (evCode E21 n (cdAt Go.Proofs.Try.f21 [1, 1, 1, 1])) (retK Go.Proofs.Try.f21.results.toList))) (.exit 0) ⟨[(0, .one (.sl .i32 x0 none)), (4, .one (.sl .i32 x4 (some 104))), (5, .one (.int .i64 x5)), (13, .one (.bool x13))], [104]⟩ =
    bif lim4 x4 then (some (.tup [.str ((encF x4).1), .int .i64 0])) else none := by
  kernel_rfl

end Go.Aev
end

section
set_option linter.unusedVariables false
namespace Go.Aev
open Go.Proofs

theorem w32 {n : Int} (h : -2147483648 ≤ n) (h2 : n ≤ 2147483647) : IntKind.wrap .i32 n = n := Go.IntWalk.i32_in n ⟨h, h2⟩
theorem w8 {n : Int} (h : 0 ≤ n) (h2 : n ≤ 255) : IntKind.wrap .u8 n = n := Go.IntWalk.u8_in n ⟨h, h2⟩
theorem wu32 {n : Int} (h : 0 ≤ n) (h2 : n ≤ 4294967295) : IntKind.wrap .u32 n = n := Go.IntWalk.u32_in n ⟨h, h2⟩

theorem digit_ok (c : Int) (n : Nat) : evFn E64 n Try.f64 [.int .i32 c] = some (.one (.bool (digitF c))) := by
  rw [ev64]
  unfold digitF
  by_cases h : 48 ≤ c <;> simp [h]
theorem digitF_iff {c : Int} : digitF c = true ↔ 48 ≤ c ∧ c ≤ 57 := by simp [digitF]
theorem hexF_range (c : Int) : -1 ≤ hexF c ∧ hexF c ≤ 15 := by
  unfold hexF
  split
  · rename_i h; have := digitF_iff.1 h; omega
  · split
    · rename_i h; simp at h; omega
    · split
      · rename_i h; simp at h; omega
      · omega
theorem hex_ok (c : Int) (n : Nat) : evFn E63 n Try.f63 [.int .i32 c] = some (.one (.int .i64 (hexF c))) := by
  rw [ev63]
  unfold hexF
  cases hd : digitF c with
  | true =>
    have h := digitF_iff.1 hd
    simp only [cond_true, if_true]
    rw [w32 (by omega) (by omega), wrap64 (by omega) (by omega)]
  | false =>
    by_cases h1 : 97 ≤ c
    · by_cases h2 : c ≤ 102
      · simp [h1, h2]
        rw [w32 (by omega) (by omega), wrap64 (n := c - 97) (by omega) (by omega), wrap64 (by omega) (by omega)]
        omega
      · have h3 : ¬ c ≤ 70 := by omega
        simp [h1, h2, h3]
    · by_cases h3 : 65 ≤ c
      · by_cases h4 : c ≤ 70
        · simp [h1, h3, h4]
          rw [w32 (by omega) (by omega), wrap64 (n := c - 65) (by omega) (by omega), wrap64 (by omega) (by omega)]
          omega
        · simp [h1, h3, h4]
      · simp [h1, h3]
theorem join_ok (a b : Int) (n : Nat) : evFn E58 n Try.f58 [.int .i32 a, .int .i32 b] = some (.tup [.int .i32 (joinF a b).1, .bool (joinF a b).2]) := by
  rw [ev58]
  unfold joinF
  by_cases h1 : a < 55296
  · simp [h1]
  · by_cases h2 : 56320 ≤ a
    · simp [h1, h2]
    · by_cases h3 : b < 56320
      · simp [h1, h2, h3]
      · by_cases h4 : 57344 ≤ b
        · simp [h1, h2, h3, h4]
        · simp [h1, h2, h3, h4]
          rw [w32 (n := a - 55296) (by omega) (by omega), w32 (n := (a - 55296) * 1024) (by omega) (by omega), w32 (n := 65536 + _) (by omega) (by omega), w32 (n := b - 56320) (by omega) (by omega), w32 (by omega) (by omega)]
theorem rjoin_ok (a b : Int) (n : Nat) : evFn E49 n Try.f49 [.int .i32 a, .int .i32 b] = some (.tup [.int .i32 (joinF a b).1, .bool (joinF a b).2]) := by
  rw [ev49]
  unfold joinF
  by_cases h1 : a < 55296
  · simp [h1]
  · by_cases h2 : 56320 ≤ a
    · have h2' : 56319 < a := by omega
      simp [h1, h2, h2']
    · have h2' : ¬ 56319 < a := by omega
      by_cases h3 : b < 56320
      · simp [h1, h2, h3, h2']
      · by_cases h4 : 57344 ≤ b
        · have h4' : 57343 < b := by omega
          simp [h1, h2, h3, h4, h2', h4']
        · have h4' : ¬ 57343 < b := by omega
          simp [h1, h2, h3, h4, h2', h4']
          rw [w32 (n := a - 55296) (by omega) (by omega), w32 (n := (a - 55296) * 1024) (by omega) (by omega), w32 (n := 65536 + _) (by omega) (by omega), w32 (n := b - 56320) (by omega) (by omega), w32 (by omega) (by omega)]
theorem source_ok (c : Int) (n : Nat) : evFn E32 n Try.f32 [.int .i32 c] = some (.one (.bool (sourceF c))) := by
  rw [ev32]
  unfold sourceF
  by_cases h : c < 32
  · cases h1 : c == 9 <;> cases h2 : c == 10 <;> simp [h, h1, h2]
  · by_cases h1 : c ≤ 65535
    · by_cases h2 : c < 55296 <;> simp [h, h1, h2]
    · simp [h, h1]
theorem valid_ok (c : Int) (n : Nat) : evFn E44 n Try.f44 [.int .i32 c] = some (.one (.bool (validF c))) := by
  rw [ev44]
  unfold validF
  by_cases h1 : 0 ≤ c
  · by_cases h2 : c < 55296
    · simp [h1, h2]
    · by_cases h3 : 57343 < c
      · by_cases h4 : c ≤ 1114111 <;> simp [h1, h2, h3, h4]
      · simp [h1, h2, h3]
  · have h3 : ¬ 57343 < c := by omega
    simp [h1, h3]
theorem scalar_ok (c : Int) (n : Nat) : evFn E61 n Try.f61 [.int .i32 c] = some (.one (.bool (validF c))) := by
  rw [ev61]
  unfold validF
  by_cases h1 : 55296 ≤ c
  · by_cases h2 : c ≤ 57343
    · have h3 : ¬ 57343 < c := by omega
      have h4 : ¬ c < 55296 := by omega
      simp [h1, h2, h3, h4]
    · have h3 : 57343 < c := by omega
      have h4 : ¬ c < 55296 := by omega
      have h5 : 0 ≤ c := by omega
      simp [h1, h2, h3, h4, h5]
  · have h4 : c < 55296 := by omega
    have h3 : ¬ 57343 < c := by omega
    by_cases h5 : 0 ≤ c
    · have h6 : c ≤ 1114111 := by omega
      simp [h1, h4, h5, h6]
    · simp [h1, h4, h5, h3]
theorem rsource_ok (c : Int) (n : Nat) : evFn E53 n Try.f53 [.int .i32 c] = some (.one (.bool (sourceF c))) := by
  rw [ev53]
  unfold sourceF
  by_cases h : c < 32
  · have e : inF c [9, 10, 13] = (c == 9 || (c == 10 || c == 13)) := by
      simp only [inF, List.any_cons, List.any_nil, Bool.or_false, show ((9 : UInt8).toNat : Int) = 9 from rfl, show ((10 : UInt8).toNat : Int) = 10 from rfl, show ((13 : UInt8).toNat : Int) = 13 from rfl]
      rw [BEq.comm (a := 9) (b := c), BEq.comm (a := 10) (b := c), BEq.comm (a := 13) (b := c)]
    simp only [h, decide_true, cond_true, if_true]
    rw [e]
    rfl
  · by_cases h1 : c ≤ 65535
    · have h2 : c < 65536 := by omega
      have e : validF c = (decide (c < 55296) || decide (57344 ≤ c)) := by
        unfold validF
        rw [Bool.eq_iff_iff]
        simp
        omega
      simp [h, h1, h2, e]
    · have h2 : ¬ c < 65536 := by omega
      simp [h, h1, h2]
theorem u8byte (b : UInt8) : 0 ≤ (b.toNat : Int) ∧ (b.toNat : Int) ≤ 255 := by have := b.toNat_lt; omega
theorem in_ok (c : Int) (t : List UInt8) (hl : room t.length 1 = true) (n : Nat) (hn : t.length < n) : evFn E62 n Try.f62 [.int .i32 c, .str t] = some (.one (.bool (inF c t))) := by
  have hlen := room_iff.1 hl
  rw [ev62]
  refine (loop_rule (fun i : Nat => st62_2 c t i) (fun i => i ≤ t.length) (fun i => t.length - i) (fun i => (some (.one (.bool (inF c (t.drop i)))) : Option E6)) ?_ n 0 (Nat.zero_le _) (by omega))
  intro i hi K hke hkr hnx
  rw [lb62_2_eq]
  by_cases h : i < t.length
  · rw [decide_eq_true (by omega : (i : Int) < (t.length : Int)), cond_true, idx_lt h]
    dsimp only
    have hb := u8byte t[i]
    rw [w32 (by omega) (by omega), List.drop_eq_getElem_cons h]
    unfold inF
    rw [List.any_cons]
    cases hc : (t[i].toNat : Int) == c with
    | true => rw [cond_true, Bool.true_or]; exact (hkr _).trans rfl
    | false =>
      rw [cond_false, wrapSucc (by omega), hnx (i + 1) (by omega) (by omega)]
      simp [inF]
  · rw [decide_eq_false (by omega : ¬ (i : Int) < (t.length : Int)), cond_false, hke, ex62_2_0, List.drop_eq_nil_of_le (by omega)]
    rfl
end Go.Aev
end

section
set_option linter.unusedVariables false
namespace Go.Aev
open Go.Proofs

/-! ### hex digits by a table -/
def smallT : List UInt8 := [48, 49, 50, 51, 52, 53, 54, 55, 56, 57, 97, 98, 99, 100, 101, 102]
def largeT : List UInt8 := [48, 49, 50, 51, 52, 53, 54, 55, 56, 57, 65, 66, 67, 68, 69, 70]
theorem hexT : ∀ i : Fin 16, hexF ((smallT[i.1]'i.2).toNat : Int) = i.1 ∧ hexF ((largeT[i.1]'i.2).toNat : Int) = i.1 := by decide
theorem hex_found {c : Int} (h : 0 ≤ hexF c) : ∃ j : Nat, ∃ hj : j < 16, ((smallT[j]'hj).toNat : Int) = c ∨ ((largeT[j]'hj).toNat : Int) = c := by
  have : (c = 48 ∨ c = 49 ∨ c = 50 ∨ c = 51 ∨ c = 52 ∨ c = 53 ∨ c = 54 ∨ c = 55 ∨ c = 56 ∨ c = 57) ∨ (c = 97 ∨ c = 98 ∨ c = 99 ∨ c = 100 ∨ c = 101 ∨ c = 102) ∨ (c = 65 ∨ c = 66 ∨ c = 67 ∨ c = 68 ∨ c = 69 ∨ c = 70) := by
    unfold hexF at h
    split at h
    · rename_i h1; have := digitF_iff.1 h1; left; omega
    · split at h
      · rename_i h1; simp at h1; right; left; omega
      · split at h
        · rename_i h1; simp at h1; right; right; omega
        · omega
  rcases this with (h | h | h | h | h | h | h | h | h | h) | (h | h | h | h | h | h) | (h | h | h | h | h | h)
  · exact ⟨0, by omega, .inl (by rw [h]; rfl)⟩
  · exact ⟨1, by omega, .inl (by rw [h]; rfl)⟩
  · exact ⟨2, by omega, .inl (by rw [h]; rfl)⟩
  · exact ⟨3, by omega, .inl (by rw [h]; rfl)⟩
  · exact ⟨4, by omega, .inl (by rw [h]; rfl)⟩
  · exact ⟨5, by omega, .inl (by rw [h]; rfl)⟩
  · exact ⟨6, by omega, .inl (by rw [h]; rfl)⟩
  · exact ⟨7, by omega, .inl (by rw [h]; rfl)⟩
  · exact ⟨8, by omega, .inl (by rw [h]; rfl)⟩
  · exact ⟨9, by omega, .inl (by rw [h]; rfl)⟩
  · exact ⟨10, by omega, .inl (by rw [h]; rfl)⟩
  · exact ⟨11, by omega, .inl (by rw [h]; rfl)⟩
  · exact ⟨12, by omega, .inl (by rw [h]; rfl)⟩
  · exact ⟨13, by omega, .inl (by rw [h]; rfl)⟩
  · exact ⟨14, by omega, .inl (by rw [h]; rfl)⟩
  · exact ⟨15, by omega, .inl (by rw [h]; rfl)⟩
  · exact ⟨10, by omega, .inr (by rw [h]; rfl)⟩
  · exact ⟨11, by omega, .inr (by rw [h]; rfl)⟩
  · exact ⟨12, by omega, .inr (by rw [h]; rfl)⟩
  · exact ⟨13, by omega, .inr (by rw [h]; rfl)⟩
  · exact ⟨14, by omega, .inr (by rw [h]; rfl)⟩
  · exact ⟨15, by omega, .inr (by rw [h]; rfl)⟩

theorem rhex_ok (c : Int) (n : Nat) (hn : 16 < n) : evFn E60 n Try.f60 [.int .i32 c] = some (.one (.int .i64 (hexF c))) := by
  rw [ev60]
  refine (loop_rule (fun i : Nat => st60_4 c smallT largeT i) (fun i => i ≤ 16 ∧ ∀ j : Nat, ∀ hj : j < 16, j < i → ((smallT[j]'hj).toNat : Int) ≠ c ∧ ((largeT[j]'hj).toNat : Int) ≠ c) (fun i => 16 - i) (fun i => (some (.one (.int .i64 (hexF c))) : Option E6)) ?_ n 0 ⟨Nat.zero_le _, fun j _ h => absurd h (Nat.not_lt_zero _)⟩ (by omega))
  intro i ⟨hi, hb⟩ K hke hkr hnx
  rw [lb60_4_eq]
  by_cases h : i < 16
  · rw [decide_eq_true (by omega : (i : Int) < 16), cond_true, idx_lt (l := smallT) h]
    dsimp only
    rw [idx_lt (l := largeT) h]
    dsimp only
    have h1 := u8byte (smallT[i]'h)
    have h2 := u8byte (largeT[i]'h)
    have ht := hexT ⟨i, h⟩
    rw [w32 (by omega) (by omega), w32 (by omega) (by omega)]
    cases hc : ((smallT[i]'h).toNat : Int) == c with
    | true =>
      simp only [beq_iff_eq] at hc
      show (bif true == false then _ else _) = _
      refine (hkr _).trans ?_
      rw [← hc, ht.1]
      rfl
    | false =>
      show (bif false == false then _ else _) = _
      rw [show (false == false) = true from rfl, cond_true]
      cases hd : ((largeT[i]'h).toNat : Int) == c with
      | true =>
        simp only [beq_iff_eq] at hd
        rw [cond_true]
        refine (hkr _).trans ?_
        rw [← hd, ht.2]
        rfl
      | false =>
        rw [cond_false, wrapSucc (by omega)]
        refine hnx (i + 1) ⟨by omega, fun j hj hji => ?_⟩ (by omega)
        by_cases hji2 : j < i
        · exact hb j hj hji2
        · have : j = i := by omega
          subst this
          exact ⟨fun e => by simp [e] at hc, fun e => by simp [e] at hd⟩
  · have hx : ¬ 0 ≤ hexF c := fun hx => by
      obtain ⟨j, hj, hf⟩ := hex_found hx
      have := hb j hj (by omega)
      rcases hf with hf | hf
      · exact this.1 hf
      · exact this.2 hf
    have hr := hexF_range c
    have he : hexF c = -1 := by omega
    rw [decide_eq_false (by omega : ¬ (i : Int) < 16), cond_false, hke, ex60_4_0, he]

/-! ### four hex digits -/
theorem hexAcc_nil (m : Int) : hexAcc m [] = m := rfl
theorem hexAcc_cons (m c : Int) (r : List Int) : hexAcc m (c :: r) = if hexF c < 0 then -1 else hexAcc (m * 16 + hexF c) r := rfl

theorem hex4_ok (l : List Int) (hl : lim4 l = true) (n : Nat) (hn : 4 < n) : evFn E57 n Try.f57 [.sl .i32 l none] = some (.one (.int .i32 (hex4F l))) := by
  have hlen := lim4_len hl
  rw [ev57]
  unfold hex4F
  by_cases h : l.length < 4
  · rw [decide_eq_true (by omega : (l.length : Int) < 4), cond_true, if_pos h]
  · rw [decide_eq_false (by omega : ¬ (l.length : Int) < 4), cond_false, if_neg h, show (4 : Int) = ((4 : Nat) : Int) from rfl, show (0 : Int) = ((0 : Nat) : Int) from rfl, sub_nat (by omega) (by omega)]
    dsimp only
    simp only [List.drop_zero, Nat.sub_zero]
    generalize hm : l.take 4 = m
    have hml : m.length = 4 := by rw [← hm, List.length_take]; omega
    refine (loop_rule (fun p : Int × Nat => st57_5 p.1 m (m.length : Int) p.2) (fun p => p.2 ≤ 4 ∧ 0 ≤ p.1 ∧ p.1 < 16 ^ p.2) (fun p => 4 - p.2) (fun p => (some (.one (.int .i32 (hexAcc p.1 (m.drop p.2)))) : Option E6)) ?_ n (0, 0) (by simp) (by simp only; omega)).trans rfl
    rintro ⟨a, i⟩ ⟨hi, ha, ha2⟩ K hke hkr hnx
    dsimp only at hi ha ha2 hnx ⊢
    rw [lb57_5_eq]
    by_cases hlt : i < 4
    · rw [decide_eq_true (by omega : (i : Int) < (m.length : Int)), cond_true, idx_lt (by omega)]
      dsimp only
      rw [List.drop_eq_getElem_cons (by omega), hexAcc_cons]
      have hr := hexF_range m[i]
      have hp : (16 : Int) ^ i ≤ 16 ^ 3 := by
        have : i = 0 ∨ i = 1 ∨ i = 2 ∨ i = 3 := by omega
        rcases this with rfl | rfl | rfl | rfl <;> decide
      by_cases hx : hexF m[i] < 0
      · rw [decide_eq_true hx, cond_true, if_pos hx]
        exact (hkr _).trans rfl
      · rw [decide_eq_false hx, cond_false, if_neg hx, w32 (n := a * 16) (by omega) (by omega), w32 (n := hexF m[i]) (by omega) (by omega), w32 (by omega) (by omega), wrapSucc (by omega)]
        refine hnx (a * 16 + hexF m[i], i + 1) ⟨by simp; omega, by simp; omega, ?_⟩ (by simp; omega)
        show a * 16 + hexF m[i] < 16 ^ (i + 1)
        rw [Int.pow_succ]; omega
    · rw [decide_eq_false (by omega : ¬ (i : Int) < (m.length : Int)), cond_false, hke, ex57_5_0, List.drop_eq_nil_of_le (by omega)]
      rfl

theorem hexAcc_range (m : List Int) : ∀ (a : Int) (k : Nat), 0 ≤ a → a < 16 ^ k → -1 ≤ hexAcc a m ∧ hexAcc a m < 16 ^ (k + m.length) := by
  induction m with
  | nil => intro a k h1 h2; simp [hexAcc]; omega
  | cons c r ih =>
    intro a k h1 h2
    rw [hexAcc_cons]
    have hr := hexF_range c
    have hp : (0 : Int) < 16 ^ (k + (c :: r).length) := Int.pow_pos (by omega)
    split
    · omega
    · have := ih (a * 16 + hexF c) (k + 1) (by omega) (by rw [Int.pow_succ]; omega)
      rw [List.length_cons, show k + (r.length + 1) = k + 1 + r.length by omega]
      exact this
theorem hex4F_range (l : List Int) : -1 ≤ hex4F l ∧ hex4F l ≤ 65535 := by
  unfold hex4F
  split
  · omega
  · rename_i h
    have := hexAcc_range (l.take 4) 0 0 (by omega) (by simp)
    have hl : (l.take 4).length = 4 := by rw [List.length_take]; omega
    rw [hl] at this
    simp at this
    omega
theorem hex4F_short {l : List Int} (h : l.length < 4) : hex4F l = -1 := by unfold hex4F; rw [if_pos h]

/-! ### escapes -/
theorem get_drop {l : List Int} {i : Nat} (h : i < l.length) : l.drop i = l[i] :: l.drop (i + 1) := List.drop_eq_getElem_cons h
theorem codedF_join (l : List Int) (h1 : ¬ hex4F l < 0) (h2 : 55296 ≤ hex4F l) (h3 : hex4F l ≤ 56319) : codedF l = if 10 ≤ l.length ∧ l[4]? = some 92 ∧ l[5]? = some 117 ∧ (joinF (hex4F l) (hex4F (l.drop 6))).2 = true then ((joinF (hex4F l) (hex4F (l.drop 6))).1, 12) else (0, 0) := by
  unfold codedF
  dsimp only
  rw [if_neg (by omega), if_neg (by omega)]
theorem codedF_bad (l : List Int) (h : hex4F l < 0 ∨ (56320 ≤ hex4F l ∧ hex4F l ≤ 57343)) : codedF l = (0, 0) := by
  unfold codedF
  dsimp only
  rw [if_pos h]
theorem codedF_plain (l : List Int) (h1 : ¬ hex4F l < 0) (h : hex4F l < 55296 ∨ 57343 < hex4F l) : codedF l = (hex4F l, 6) := by
  unfold codedF
  dsimp only
  rw [if_neg (by omega), if_pos h]
end Go.Aev
end

section
set_option linter.unusedVariables false
namespace Go.Aev
open Go.Proofs

theorem lim4_drop {l : List Int} (h : lim4 l = true) (k : Nat) : lim4 (l.drop k) = true := by
  have := lim4_iff.1 h
  exact lim4_iff.2 (by rw [List.length_drop]; omega)
theorem bneT {a b : Int} (h : a ≠ b) : (a != b) = true := bne_iff_ne.2 h
theorem bneF {a b : Int} (h : a = b) : (a != b) = false := by rw [h]; exact bne_self_eq_false _
theorem beqT {a b : Int} (h : a = b) : (a == b) = true := beq_iff_eq.2 h
theorem beqF {a b : Int} (h : a ≠ b) : (a == b) = false := beq_false_of_ne h

theorem coded_ok (l : List Int) (hl : lim4 l = true) (h2 : 2 ≤ l.length) (n : Nat) : evFn E43 n Try.f43 [.sl .i32 l none] = some (.tup [.int .i32 (codedF (l.drop 2)).1, .int .i64 (codedF (l.drop 2)).2]) := by
  have hlen := lim4_len hl
  rw [ev43, show (2 : Int) = ((2 : Nat) : Int) from rfl, sub_from h2]
  dsimp only
  rw [lim4_drop hl 2, cond_true]
  have hlm : (l.drop 2).length = l.length - 2 := List.length_drop
  generalize hm : l.drop 2 = m at hlm ⊢
  have hr := hex4F_range m
  by_cases c1 : hex4F m < 0
  · rw [codedF_bad m (.inl c1), decide_eq_true c1]; rfl
  rw [decide_eq_false c1]
  by_cases c2 : 56320 ≤ hex4F m
  · by_cases c3 : hex4F m ≤ 57343
    · rw [codedF_bad m (.inr ⟨c2, c3⟩), decide_eq_true (show hex4F m ≥ 56320 from c2), decide_eq_true c3]; rfl
    · rw [codedF_plain m c1 (.inr (by omega)), decide_eq_true (show hex4F m ≥ 56320 from c2), decide_eq_false c3, decide_eq_false (by omega : ¬ hex4F m < 55296), decide_eq_true (by omega : hex4F m > 57343)]; rfl
  · rw [decide_eq_false (show ¬ hex4F m ≥ 56320 from c2)]
    by_cases c3 : hex4F m < 55296
    · rw [codedF_plain m c1 (.inl c3), decide_eq_true c3]; rfl
    · rw [decide_eq_false c3, decide_eq_false (by omega : ¬ hex4F m > 57343), codedF_join m c1 (by omega) (by omega)]
      by_cases c4 : l.length < 12
      · rw [decide_eq_true (by omega : (l.length : Int) < 12), if_neg (fun h => by omega)]; rfl
      · rw [decide_eq_false (by omega : ¬ (l.length : Int) < 12)]
        have e6 : idx l 6 = some (m[4]'(by omega)) := by
          rw [show (6 : Int) = ((6 : Nat) : Int) from rfl, idx_lt (by omega)]
          subst hm
          simp
        have e7 : idx l 7 = some (m[5]'(by omega)) := by
          rw [show (7 : Int) = ((7 : Nat) : Int) from rfl, idx_lt (by omega)]
          subst hm
          simp
        have e8 : sub l 8 (l.length : Int) = some (m.drop 6) := by
          rw [show (8 : Int) = ((8 : Nat) : Int) from rfl, sub_from (by omega)]
          subst hm
          simp
        have hl8 : lim4 (m.drop 6) = true := by rw [← hm]; exact lim4_drop (lim4_drop hl 2) 6
        rw [e6, e7, e8, List.getElem?_eq_getElem (by omega : 4 < m.length), List.getElem?_eq_getElem (by omega : 5 < m.length)]
        generalize m[4] = x
        generalize m[5] = y
        by_cases d1 : x = 92
        · subst d1
          by_cases d2 : y = 117
          · subst d2
            dsimp only
            rw [hl8]
            cases hj : (joinF (hex4F m) (hex4F (m.drop 6))).2 with
            | true => rw [if_pos ⟨by omega, rfl, rfl, rfl⟩]; rfl
            | false => rw [if_neg (fun h => by cases h.2.2.2)]; rfl
          · dsimp only
            rw [bneT d2, if_neg (fun h => d2 (Option.some.inj h.2.2.1))]; rfl
        · dsimp only
          rw [bneT d1, if_neg (fun h => d1 (Option.some.inj h.2.1))]; rfl

theorem escF_two (c : Int) (l : List Int) (h : 2 ≤ l.length) : escF l = if 0 ≤ shortF l[1] then (shortF l[1], 2) else if l[1] = 117 then codedF (l.drop 2) else (0, 0) := by
  match l, h with
  | _ :: _ :: _, _ => rfl
theorem escF_one {l : List Int} (h : l.length < 2) : escF l = (0, 0) := by
  match l, h with
  | [], _ => rfl
  | [_], _ => rfl

theorem esc_ok (l : List Int) (hl : lim4 l = true) (n : Nat) : evFn E31 n Try.f31 [.sl .i32 l none] = some (.tup [.int .i32 (escF l).1, .int .i64 (escF l).2]) := by
  have hlen := lim4_len hl
  rw [ev31]
  by_cases h : l.length < 2
  · rw [decide_eq_true (by omega : (l.length : Int) < 2), cond_true, escF_one h]
  · rw [decide_eq_false (by omega : ¬ (l.length : Int) < 2), cond_false, show (1 : Int) = ((1 : Nat) : Int) from rfl, idx_lt (by omega), escF_two 0 l (by omega), hl, decide_eq_true (by omega : 2 ≤ l.length)]
    dsimp only
    generalize l[1] = c
    by_cases c1 : c = 34
    · subst c1; rfl
    rw [beqF c1]
    by_cases c2 : c = 92
    · subst c2; rfl
    rw [beqF c2]
    by_cases c3 : c = 47
    · subst c3; rfl
    rw [beqF c3]
    by_cases c4 : c = 98
    · subst c4; rfl
    rw [beqF c4]
    by_cases c5 : c = 102
    · subst c5; rfl
    rw [beqF c5]
    by_cases c6 : c = 110
    · subst c6; rfl
    rw [beqF c6]
    by_cases c7 : c = 114
    · subst c7; rfl
    rw [beqF c7]
    by_cases c8 : c = 116
    · subst c8; rfl
    rw [beqF c8]
    have hs : shortF c = -1 := by unfold shortF; rw [if_neg (by omega), if_neg c4, if_neg c5, if_neg c6, if_neg c7, if_neg c8]
    rw [hs]
    by_cases c9 : c = 117
    · subst c9; rfl
    · rw [beqF c9, if_neg c9]; rfl

theorem plain_ok (c : Int) (n : Nat) : evFn E46 n Try.f46 [.int .i32 c] = some (.one (.bool (plainF c))) := by
  rw [ev46]
  unfold plainF
  cases h0 : sourceF c with
  | false => rfl
  | true =>
    by_cases c1 : c = 34
    · rw [bneF c1, beqT c1]; rfl
    by_cases c2 : c = 92
    · rw [bneT c1, beqF c1, bneF c2, beqT c2]; rfl
    by_cases c3 : c = 10
    · rw [bneT c1, beqF c1, bneT c2, beqF c2, bneF c3, beqT c3]; rfl
    · rw [bneT c1, beqF c1, bneT c2, beqF c2, bneT c3, beqF c3]
      rfl

def namesT : List UInt8 := [34, 92, 47, 98, 102, 110, 114, 116]
def meansT : List UInt8 := [34, 92, 47, 8, 12, 10, 13, 9]
theorem shortT : ∀ i : Fin 8, shortF ((namesT[i.1]'i.2).toNat : Int) = ((meansT[i.1]'i.2).toNat : Int) := by decide
theorem short_none {c : Int} (h : ∀ j : Nat, ∀ hj : j < 8, ((namesT[j]'hj).toNat : Int) ≠ c) : shortF c = -1 := by
  have h0 : (34 : Int) ≠ c := h 0 (by omega)
  have h1 : (92 : Int) ≠ c := h 1 (by omega)
  have h2 : (47 : Int) ≠ c := h 2 (by omega)
  have h3 : (98 : Int) ≠ c := h 3 (by omega)
  have h4 : (102 : Int) ≠ c := h 4 (by omega)
  have h5 : (110 : Int) ≠ c := h 5 (by omega)
  have h6 : (114 : Int) ≠ c := h 6 (by omega)
  have h7 : (116 : Int) ≠ c := h 7 (by omega)
  unfold shortF
  rw [if_neg (by omega), if_neg (by omega), if_neg (by omega), if_neg (by omega), if_neg (by omega), if_neg (by omega)]
theorem short_ok (c : Int) (n : Nat) (hn : 8 < n) : evFn E47 n Try.f47 [.int .i32 c] = some (.one (.int .i32 (shortF c))) := by
  rw [ev47]
  refine (loop_rule (fun i : Nat => st47_4 c namesT meansT i) (fun i => i ≤ 8 ∧ ∀ j : Nat, ∀ hj : j < 8, j < i → ((namesT[j]'hj).toNat : Int) ≠ c) (fun i => 8 - i) (fun i => (some (.one (.int .i32 (shortF c))) : Option E6)) ?_ n 0 ⟨Nat.zero_le _, fun j _ h => absurd h (Nat.not_lt_zero _)⟩ (by omega))
  intro i ⟨hi, hb⟩ K hke hkr hnx
  rw [lb47_4_eq]
  have hlen : namesT.length = 8 := rfl
  by_cases h : i < 8
  · rw [decide_eq_true (by omega : (i : Int) < (namesT.length : Int)), cond_true, idx_lt (l := namesT) h]
    dsimp only
    rw [idx_lt (l := meansT) h]
    dsimp only
    have h1 := u8byte (namesT[i]'h)
    have h2 := u8byte (meansT[i]'h)
    have ht := shortT ⟨i, h⟩
    rw [w32 (by omega) (by omega), w32 (by omega) (by omega)]
    cases hc : ((namesT[i]'h).toNat : Int) == c with
    | true =>
      simp only [beq_iff_eq] at hc
      rw [cond_true]
      refine (hkr _).trans ?_
      rw [← hc, ht]
      rfl
    | false =>
      rw [cond_false, wrapSucc (by omega)]
      refine hnx (i + 1) ⟨by omega, fun j hj hji => ?_⟩ (by omega)
      by_cases hji2 : j < i
      · exact hb j hj hji2
      · have : j = i := by omega
        subst this
        exact fun e => by simp [e] at hc
  · rw [decide_eq_false (by omega : ¬ (i : Int) < (namesT.length : Int)), cond_false, hke, ex47_4_0, short_none (fun j hj => hb j hj (by omega))]
end Go.Aev
end
