/- Proved here: lemmas of an evaluator over the model's code that the claim's text uses (G5 G6 G7). Conditions: those that each lemma states. -/
import Derived.Test.YtemaknoadiaieaaDoorBevE
section
set_option linter.unusedVariables false
namespace Go.Aev
open Go.Proofs
/- pergola/pergolaref01.Put -/
def dr50 : Nat → List Nat := fun r => match r with
  | 0 => [2]
  | 1 => [6, 7]
  | 2 => [0, 8]
  | 3 => [8, 9, 10, 11, 12]
  | 4 => [13, 14, 15, 16, 17]
  | 5 => [18, 19, 20, 21, 22]
  | 6 => [24, 25]
  | 7 => [0, 3, 4, 5, 23, 26, 27, 28]
  | 8 => [23, 30, 31]
  | 9 => [0, 3, 4, 5, 29, 32, 33, 34, 35, 36, 37]
  | 10 => [29, 39, 40]
  | 11 => [0, 3, 4, 5, 38, 41, 42, 43, 44, 45, 46, 47]
  | 12 => [0, 3, 4, 5, 38, 48, 49, 50, 51, 52, 53, 54, 55]
  | _ => []
def T50 : T6 := fun f ls => match f with
  | 60 => S61 ls
  | _ => none
def cn50 : FuncId → Option Nat := fun f => match f with

  | _ => none
def E50 : Env Ty6 den6 := mk6 T50 cn50 dr50 56
theorem ev50 (n : Nat) (a0 : Int) : evFn E50 n Go.Proofs.Tryd.f64 [.int .i32 a0] =
    bif !(validF a0) then (some (.one (.sl .u8 [] (some 1)))) else (bif decide (a0 < 128) then (some (.one (.sl .u8 [IntKind.wrap .u8 a0] (some 1)))) else (bif decide (a0 < 2048) then (some (.one (.sl .u8 [IntKind.wrap .u8 (IntKind.wrap .i32 (192 + (IntKind.wrap .i32 (Int.tdiv a0 64)))), IntKind.wrap .u8 (IntKind.wrap .i32 (128 + (Int.tmod a0 64)))] (some 1)))) else (bif decide (a0 < 65536) then (some (.one (.sl .u8 [IntKind.wrap .u8 (IntKind.wrap .i32 (224 + (IntKind.wrap .i32 (Int.tdiv a0 4096)))), IntKind.wrap .u8 (IntKind.wrap .i32 (128 + (Int.tmod (IntKind.wrap .i32 (Int.tdiv a0 64)) 64))), IntKind.wrap .u8 (IntKind.wrap .i32 (128 + (Int.tmod a0 64)))] (some 1)))) else (some (.one (.sl .u8 [IntKind.wrap .u8 (IntKind.wrap .i32 (240 + (IntKind.wrap .i32 (Int.tdiv a0 262144)))), IntKind.wrap .u8 (IntKind.wrap .i32 (128 + (Int.tmod (IntKind.wrap .i32 (Int.tdiv a0 4096)) 64))), IntKind.wrap .u8 (IntKind.wrap .i32 (128 + (Int.tmod (IntKind.wrap .i32 (Int.tdiv a0 64)) 64))), IntKind.wrap .u8 (IntKind.wrap .i32 (128 + (Int.tmod a0 64)))] (some 1))))))) := by
  kernel_rfl

/- pergola/utf.Encode -/
def dr33 : Nat → List Nat := fun r => match r with
  | 0 => [2, 3]
  | 2 => [0]
  | 4 => [10, 11, 12]
  | 5 => [13, 14]
  | 6 => [4, 6, 7, 8, 9, 15]
  | 7 => [6, 15, 16, 17, 18]
  | 8 => [19]
  | 9 => [4, 7, 8, 9, 10, 20, 21]
  | _ => []
def T33 : T6 := fun f ls => match f with
  | 52 => S44 ls
  | 53 => S45 ls
  | _ => none
def cn33 : FuncId → Option Nat := fun f => match f with
  | 53 => some 0
  | _ => none
def E33 : Env Ty6 den6 := mk6 T33 cn33 dr33 22
def st33_3 (x4 : List Int) (x7 : List Int) (x8 : Int) (x9 : Int) : S6 := ⟨[(4, .one (.sl .u8 x4 (some 104))), (7, .one (.sl .i32 x7 none)), (8, .one (.int .i64 x8)), (9, .one (.int .i64 x9))], [104]⟩
theorem ev33 (n : Nat) (a0 : List Int) : evFn E33 n Go.Proofs.Tryd.f22 [.sl .i32 a0 none] =
    evLoop (lbC E33 (cdAt Go.Proofs.Tryd.f22 [1, 1, 0, 1, 0, 0]) 10003 n) n (st33_3 [] a0 (List.length a0 : Int) 0) (blockK 0 (seqK (evCode E33 n (cdAt Go.Proofs.Tryd.f22 [1, 1, 1])) (retK Go.Proofs.Tryd.f22.results.toList))) := by
  kernel_rfl
theorem lb33_3_eq (n : Nat) (x4 : List Int) (x7 : List Int) (x8 : Int) (x9 : Int) (K : Ex → S6 → Option E6) : lbC E33 (cdAt Go.Proofs.Tryd.f22 [1, 1, 0, 1, 0, 0]) 10003 n (st33_3 x4 x7 x8 x9) K =
    bif decide (x9 < x8) then (match idx x7 x9 with | none => none | some y1 => (bif !(validF y1) then (K .ret ⟨[(2, .one (.str [])), (3, .one (.bool false))], []⟩) else (bif room (List.length x4 + 4) 1 && validF y1 then (K .normal (st33_3 (catI x4 (u8F y1)) x7 x8 (IntKind.wrap .i64 (x9 + 1)))) else none))) else (K (.exit 0) ⟨[(4, .one (.sl .u8 x4 (some 104))), (7, .one (.sl .i32 x7 none)), (8, .one (.int .i64 x8)), (9, .one (.int .i64 x9)), (10, .one (.bool (decide (x9 < x8))))], [104]⟩) := by
  kernel_rfl
theorem ex33_3_0 (n : Nat) (x4 : List Int) (x7 : List Int) (x8 : Int) (x9 : Int) (x10 : Bool) : (blockK 0 (seqK (evCode E33 n (cdAt Go.Proofs.Tryd.f22 [1, 1, 1])) (retK Go.Proofs.Tryd.f22.results.toList))) (.exit 0) ⟨[(4, .one (.sl .u8 x4 (some 104))), (7, .one (.sl .i32 x7 none)), (8, .one (.int .i64 x8)), (9, .one (.int .i64 x9)), (10, .one (.bool x10))], [104]⟩ =
    some (.tup [.str (List.map (fun (n : Int) => UInt8.ofNat n.toNat) x4), .bool true]) := by
  kernel_rfl

/- pergola/pergolaref01.Encode -/
def dr35 : Nat → List Nat := fun r => match r with
  | 0 => [2, 3]
  | 3 => [7, 8, 9]
  | 4 => [11, 12]
  | 5 => [10, 13, 14, 15, 16, 17]
  | 6 => [18, 19]
  | 7 => [0, 4, 5, 6, 20]
  | 8 => [6, 20, 21, 22, 23]
  | 9 => [0, 4, 5, 10, 24, 25]
  | _ => []
def T35 : T6 := fun f ls => match f with
  | 64 => S50 ls
  | _ => none
def cn35 : FuncId → Option Nat := fun f => match f with

  | _ => none
def E35 : Env Ty6 den6 := mk6 T35 cn35 dr35 26
def st35_3 (x0 : List Int) (x4 : List Int) (x5 : Int) : S6 := ⟨[(0, .one (.sl .i32 x0 none)), (4, .one (.sl .u8 x4 (some 104))), (5, .one (.int .i64 x5))], [104]⟩
theorem ev35 (n : Nat) (a0 : List Int) : evFn E35 n Go.Proofs.Tryd.f35 [.sl .i32 a0 none] =
    evLoop (lbC E35 (cdAt Go.Proofs.Tryd.f35 [1, 1, 0, 1, 0, 0]) 10003 n) n (st35_3 a0 [] 0) (blockK 0 (seqK (evCode E35 n (cdAt Go.Proofs.Tryd.f35 [1, 1, 1])) (retK Go.Proofs.Tryd.f35.results.toList))) := by
  kernel_rfl
theorem lb35_3_eq (n : Nat) (x0 : List Int) (x4 : List Int) (x5 : Int) (K : Ex → S6 → Option E6) : lbC E35 (cdAt Go.Proofs.Tryd.f35 [1, 1, 0, 1, 0, 0]) 10003 n (st35_3 x0 x4 x5) K =
    bif decide (x5 < (List.length x0 : Int)) then (match idx x0 x5 with | none => none | some y1 => (bif (List.length (putF y1) : Int) == 0 then (K .ret ⟨[(2, .one (.str [])), (3, .one (.bool false))], []⟩) else (bif room (List.length x4 + List.length (putF y1)) 1 then (K .normal (st35_3 x0 (x4 ++ (putF y1)) (IntKind.wrap .i64 (x5 + 1)))) else none))) else (K (.exit 0) ⟨[(0, .one (.sl .i32 x0 none)), (4, .one (.sl .u8 x4 (some 104))), (5, .one (.int .i64 x5)), (10, .one (.bool (decide (x5 < (List.length x0 : Int)))))], [104]⟩) := by
  kernel_rfl
theorem ex35_3_0 (n : Nat) (x0 : List Int) (x4 : List Int) (x5 : Int) (x10 : Bool) : (blockK 0 (seqK (evCode E35 n (cdAt Go.Proofs.Tryd.f35 [1, 1, 1])) (retK Go.Proofs.Tryd.f35.results.toList))) (.exit 0) ⟨[(0, .one (.sl .i32 x0 none)), (4, .one (.sl .u8 x4 (some 104))), (5, .one (.int .i64 x5)), (10, .one (.bool x10))], [104]⟩ =
    some (.tup [.str (List.map (fun (n : Int) => UInt8.ofNat n.toNat) x4), .bool true]) := by
  kernel_rfl

/- pergola/strval.Quoted -/
def dr19 : Nat → List Nat := fun r => match r with
  | 0 => [2, 3]
  | 3 => [10, 11, 12]
  | 4 => [13, 14, 15, 16, 17]
  | 5 => [19, 20]
  | 6 => [18, 21, 22, 23, 24, 25, 26, 27]
  | 7 => [28]
  | 8 => [0, 4, 5, 6, 7, 29]
  | 9 => [18, 31, 32, 33, 34, 35, 36, 37, 38, 39, 40, 41, 42, 43, 44, 45]
  | 10 => [0, 4, 5, 6, 7, 30]
  | 11 => [6, 29, 30, 46, 47, 48, 49]
  | 12 => [7, 50, 51, 52]
  | 13 => [0, 4, 5, 9, 13, 53, 54, 55, 56, 57]
  | 14 => [8, 58]
  | _ => []
def T19 : T6 := fun f ls => match f with
  | 22 => S33 ls
  | 25 => S32 ls
  | 41 => S31 ls
  | _ => none
def cn19 : FuncId → Option Nat := fun f => match f with

  | _ => none
def E19 : Env Ty6 den6 := mk6 T19 cn19 dr19 59
def st19_3 (x0 : List Int) (x4 : List Int) (x5 : Int) : S6 := ⟨[(0, .one (.sl .i32 x0 none)), (4, .one (.sl .i32 x4 (some 104))), (5, .one (.int .i64 x5))], [104]⟩
theorem ev19 (n : Nat) (a0 : List Int) : evFn E19 n Go.Proofs.Tryd.f16 [.sl .i32 a0 none] =
    evLoop (lbC E19 (cdAt Go.Proofs.Tryd.f16 [1, 1, 0, 1, 0, 0]) 10003 n) n (st19_3 a0 [] 0) (blockK 0 (seqK (evCode E19 n (cdAt Go.Proofs.Tryd.f16 [1, 1, 1])) (retK Go.Proofs.Tryd.f16.results.toList))) := by
  kernel_rfl
theorem lb19_3_eq (n : Nat) (x0 : List Int) (x4 : List Int) (x5 : Int) (K : Ex → S6 → Option E6) : lbC E19 (cdAt Go.Proofs.Tryd.f16 [1, 1, 0, 1, 0, 0]) 10003 n (st19_3 x0 x4 x5) K =
    bif decide (x5 < (List.length x0 : Int)) then (match idx x0 x5 with | none => none | some y1 => (bif y1 == 92 then (match sub x0 x5 (List.length x0 : Int) with | none => none | some y2 => (bif lim4 y2 then (bif ((escF y2).2) == 0 then (K .ret ⟨[(2, .one (.str [])), (3, .one (.int .i64 60))], []⟩) else (bif room (List.length x4 + 1) 4 then (K .normal (st19_3 x0 (x4 ++ [(escF y2).1]) (IntKind.wrap .i64 (x5 + ((escF y2).2))))) else none)) else none)) else (bif (y1 == 34) == false then (bif (y1 == 10) == false then (bif (y1 == 13) == false then (bif !(sourceF y1) then (K .ret ⟨[(2, .one (.str [])), (3, .one (.int .i64 60))], []⟩) else (bif room (List.length x4 + 1) 4 then (K .normal (st19_3 x0 (x4 ++ [y1]) (IntKind.wrap .i64 (x5 + 1)))) else none)) else (K .ret ⟨[(2, .one (.str [])), (3, .one (.int .i64 60))], []⟩)) else (K .ret ⟨[(2, .one (.str [])), (3, .one (.int .i64 60))], []⟩)) else (K .ret ⟨[(2, .one (.str [])), (3, .one (.int .i64 60))], []⟩)))) else (K (.exit 0) ⟨[(0, .one (.sl .i32 x0 none)), (4, .one (.sl .i32 x4 (some 104))), (5, .one (.int .i64 x5)), (13, .one (.bool (decide (x5 < (List.length x0 : Int)))))], [104]⟩) := by
  kernel_rfl
theorem ex19_3_0 (n : Nat) (x0 : List Int) (x4 : List Int) (x5 : Int) (x13 : Bool) : (blockK 0 (seqK (evCode E19 n (cdAt Go.Proofs.Tryd.f16 [1, 1, 1])) (retK Go.Proofs.Tryd.f16.results.toList))) (.exit 0) ⟨[(0, .one (.sl .i32 x0 none)), (4, .one (.sl .i32 x4 (some 104))), (5, .one (.int .i64 x5)), (13, .one (.bool x13))], [104]⟩ =
    bif lim4 x4 then (some (.tup [.str ((encF x4).1), .int .i64 0])) else none := by
  kernel_rfl

end Go.Aev
end

section
set_option linter.unusedVariables false
namespace Go.Aev
open Go.Proofs
/- pergola/strval.quotes -/
def dr51 : Nat → List Nat := fun r => match r with
  | 0 => [2]
  | 1 => [0, 3, 4, 5, 6, 7, 8, 9, 10, 11, 12, 13, 14, 15, 16, 17, 18, 19, 20, 21, 22, 23]
  | _ => []
def T51 : T6 := fun f ls => match f with

  | _ => none
def cn51 : FuncId → Option Nat := fun f => match f with

  | _ => none
def E51 : Env Ty6 den6 := mk6 T51 cn51 dr51 24
theorem ev51 (n : Nat) (a0 : List Int) : evFn E51 n Go.Proofs.Tryd.f29 [.sl .i32 a0 none] =
    bif (decide ((List.length a0 : Int) ≥ 3)) == true then (match idx a0 0 with | none => none | some y1 => (bif (y1 == 34) == true then (match idx a0 1 with | none => none | some y2 => (bif (y2 == 34) == true then (match idx a0 2 with | none => none | some y3 => (some (.one (.bool (y3 == 34))))) else (some (.one (.bool false))))) else (some (.one (.bool false))))) else (some (.one (.bool false))) := by
  kernel_rfl

/- pergola/utf.ends -/
def dr52 : Nat → List Nat := fun r => match r with
  | 0 => [4]
  | 1 => [5, 6, 7]
  | 2 => [10]
  | 3 => [0, 1, 8, 9]
  | 4 => [8, 9, 12]
  | 5 => [0, 1, 11, 13, 14, 15, 16, 17, 18, 19, 20, 21, 22, 23, 24, 25]
  | 6 => [0, 1, 11]
  | _ => []
def T52 : T6 := fun f ls => match f with

  | _ => none
def cn52 : FuncId → Option Nat := fun f => match f with

  | _ => none
def E52 : Env Ty6 den6 := mk6 T52 cn52 dr52 26
theorem ev52 (n : Nat) (a0 : List Int) (a1 : Int) : evFn E52 n Go.Proofs.Tryd.f57 [.sl .i32 a0 none, .int .i64 a1] =
    match idx a0 a1 with | none => none | some y1 => (bif y1 == 10 then (some (.one (.bool true))) else (bif y1 == 13 then (bif ((IntKind.wrap .i64 (a1 + 1)) == (List.length a0 : Int)) == false then (match idx a0 (IntKind.wrap .i64 (a1 + 1)) with | none => none | some y2 => (some (.one (.bool (y2 != 10))))) else (some (.one (.bool true)))) else (some (.one (.bool false))))) := by
  kernel_rfl

/- pergola/strval.unmasked -/
def dr36 : Nat → List Nat := fun r => match r with
  | 0 => [2, 3]
  | 4 => [8, 9, 10]
  | 5 => [12, 13]
  | 6 => [5, 11, 14, 15, 16, 17]
  | 7 => [18, 19, 20, 21, 33]
  | 8 => [7, 22]
  | 9 => [24, 25, 26, 27, 28, 29, 30, 31, 32]
  | 10 => [0, 4, 6, 7, 23]
  | 11 => [23, 34, 35, 36, 37, 38, 39, 40, 41, 42]
  | 12 => [7, 33, 43, 44, 45]
  | 14 => [46, 47]
  | 15 => [0, 4, 5, 6, 11, 48, 49, 50, 51, 52, 53, 54]
  | _ => []
def T36 : T6 := fun f ls => match f with
  | 25 => S32 ls
  | 29 => S51 ls
  | _ => none
def cn36 : FuncId → Option Nat := fun f => match f with

  | _ => none
def E36 : Env Ty6 den6 := mk6 T36 cn36 dr36 55
def st36_4 (x0 : List Int) (x4 : List Int) (x5 : Int) (x6 : Int) : S6 := ⟨[(0, .one (.sl .i32 x0 none)), (4, .one (.sl .i32 x4 (some 104))), (5, .one (.int .i32 x5)), (6, .one (.int .i64 x6))], [104]⟩
theorem ev36 (n : Nat) (a0 : List Int) : evFn E36 n Go.Proofs.Tryd.f38 [.sl .i32 a0 none] =
    evLoop (lbC E36 (cdAt Go.Proofs.Tryd.f38 [1, 1, 1, 0, 1, 0, 0]) 10004 n) n (st36_4 a0 [] 0 0) (blockK 0 (seqK (evCode E36 n (cdAt Go.Proofs.Tryd.f38 [1, 1, 1, 1])) (retK Go.Proofs.Tryd.f38.results.toList))) := by
  kernel_rfl
theorem lb36_4_eq (n : Nat) (x0 : List Int) (x4 : List Int) (x5 : Int) (x6 : Int) (K : Ex → S6 → Option E6) : lbC E36 (cdAt Go.Proofs.Tryd.f38 [1, 1, 1, 0, 1, 0, 0]) 10004 n (st36_4 x0 x4 x5 x6) K =
    bif decide (x6 < (List.length x0 : Int)) then (match idx x0 x6 with | none => none | some y1 => (bif (!(sourceF y1)) == false then (match sub x0 x6 (List.length x0 : Int) with | none => none | some y2 => (bif lim4 y2 then (bif quotesF y2 then (K .ret ⟨[(2, .one (.sl .i32 [] (some 102))), (3, .one (.bool false))], [102]⟩) else (bif (y1 == 92) == true then (match sub x0 (IntKind.wrap .i64 (x6 + 1)) (List.length x0 : Int) with | none => none | some y3 => (bif lim4 y3 then (bif quotesF y3 then (bif room (List.length x4 + 3) 4 then (K .normal (st36_4 x0 (x4 ++ [34, 34, 34]) 0 (IntKind.wrap .i64 ((IntKind.wrap .i64 (x6 + 3)) + 1)))) else none) else (bif room (List.length x4 + 1) 4 then (K .normal (st36_4 x0 (x4 ++ [y1]) y1 (IntKind.wrap .i64 (x6 + 1)))) else none)) else none)) else (bif room (List.length x4 + 1) 4 then (K .normal (st36_4 x0 (x4 ++ [y1]) y1 (IntKind.wrap .i64 (x6 + 1)))) else none))) else none)) else (K .ret ⟨[(2, .one (.sl .i32 [] (some 102))), (3, .one (.bool false))], [102]⟩))) else (K (.exit 0) ⟨[(0, .one (.sl .i32 x0 none)), (4, .one (.sl .i32 x4 (some 104))), (5, .one (.int .i32 x5)), (6, .one (.int .i64 x6)), (11, .one (.bool (decide (x6 < (List.length x0 : Int)))))], [104]⟩) := by
  kernel_rfl
theorem ex36_4_0 (n : Nat) (x0 : List Int) (x4 : List Int) (x5 : Int) (x6 : Int) (x11 : Bool) : (blockK 0 (seqK (evCode E36 n (cdAt Go.Proofs.Tryd.f38 [1, 1, 1, 1])) (retK Go.Proofs.Tryd.f38.results.toList))) (.exit 0) ⟨[(0, .one (.sl .i32 x0 none)), (4, .one (.sl .i32 x4 (some 104))), (5, .one (.int .i32 x5)), (6, .one (.int .i64 x6)), (11, .one (.bool x11))], [104]⟩ =
    bif (x5 != 34) == true then (some (.tup [.sl .i32 x4 (some 1), .bool (x5 != 92)])) else (some (.tup [.sl .i32 x4 (some 1), .bool false])) := by
  kernel_rfl

/- pergola/utf.Lines -/
def dr37 : Nat → List Nat := fun r => match r with
  | 0 => [2]
  | 5 => [10, 11, 12, 13]
  | 6 => [6, 14, 15, 16, 17, 26]
  | 7 => [5, 19, 20, 21]
  | 8 => [4, 6, 18, 22, 23, 24, 25]
  | 10 => [18, 27, 28]
  | 11 => [6, 26, 29]
  | 12 => [0, 3, 4, 7, 8, 9, 10, 30, 31, 32, 33]
  | _ => []
def T37 : T6 := fun f ls => match f with
  | 57 => S52 ls
  | _ => none
def cn37 : FuncId → Option Nat := fun f => match f with

  | _ => none
def E37 : Env Ty6 den6 := mk6 T37 cn37 dr37 34
def st37_4 (x0 : List Int) (x3 : List (List Int)) (x4 : List Int) (x7 : List Int) (x8 : Int) (x9 : Int) : S6 := ⟨[(0, .one (.sl .i32 x0 none)), (3, .one (.sl .rs x3 (some 103))), (4, .one (.sl .i32 x4 (some 104))), (7, .one (.sl .i32 x7 none)), (8, .one (.int .i64 x8)), (9, .one (.int .i64 x9))], [103, 104]⟩
theorem ev37 (n : Nat) (a0 : List Int) : evFn E37 n Go.Proofs.Tryd.f26 [.sl .i32 a0 none] =
    evLoop (lbC E37 (cdAt Go.Proofs.Tryd.f26 [1, 1, 1, 0, 1, 0, 0]) 10004 n) n (st37_4 a0 [] [] a0 (List.length a0 : Int) 0) (blockK 0 (seqK (evCode E37 n (cdAt Go.Proofs.Tryd.f26 [1, 1, 1, 1])) (retK Go.Proofs.Tryd.f26.results.toList))) := by
  kernel_rfl
theorem lb37_4_eq (n : Nat) (x0 : List Int) (x3 : List (List Int)) (x4 : List Int) (x7 : List Int) (x8 : Int) (x9 : Int) (K : Ex → S6 → Option E6) : lbC E37 (cdAt Go.Proofs.Tryd.f26 [1, 1, 1, 0, 1, 0, 0]) 10004 n (st37_4 x0 x3 x4 x7 x8 x9) K =
    bif decide (x9 < x8) then (match idx x7 x9 with | none => none | some y1 => (bif lim4 x0 && decide (0 ≤ x9) && decide (x9 < (List.length x0 : Int)) then (bif endsF (List.drop (Int.toNat x9) x0) then (bif room (List.length x3 + 1) 24 then (K .normal (st37_4 x0 (x3 ++ [x4]) [] x7 x8 (IntKind.wrap .i64 (x9 + 1)))) else none) else (bif y1 == 13 then (K .normal (st37_4 x0 x3 x4 x7 x8 (IntKind.wrap .i64 (x9 + 1)))) else (bif room (List.length x4 + 1) 4 then (K .normal (st37_4 x0 x3 (x4 ++ [y1]) x7 x8 (IntKind.wrap .i64 (x9 + 1)))) else none))) else none)) else (K (.exit 0) ⟨[(0, .one (.sl .i32 x0 none)), (3, .one (.sl .rs x3 (some 103))), (4, .one (.sl .i32 x4 (some 104))), (7, .one (.sl .i32 x7 none)), (8, .one (.int .i64 x8)), (9, .one (.int .i64 x9)), (10, .one (.bool (decide (x9 < x8))))], [103, 104]⟩) := by
  kernel_rfl
theorem ex37_4_0 (n : Nat) (x0 : List Int) (x3 : List (List Int)) (x4 : List Int) (x7 : List Int) (x8 : Int) (x9 : Int) (x10 : Bool) : (blockK 0 (seqK (evCode E37 n (cdAt Go.Proofs.Tryd.f26 [1, 1, 1, 1])) (retK Go.Proofs.Tryd.f26.results.toList))) (.exit 0) ⟨[(0, .one (.sl .i32 x0 none)), (3, .one (.sl .rs x3 (some 103))), (4, .one (.sl .i32 x4 (some 104))), (7, .one (.sl .i32 x7 none)), (8, .one (.int .i64 x8)), (9, .one (.int .i64 x9)), (10, .one (.bool x10))], [103, 104]⟩ =
    bif room (List.length x3 + 1) 24 then (some (.one (.sl .rs (x3 ++ [x4]) (some 1)))) else none := by
  kernel_rfl

/- pergola/pergolaref01.Lines -/
def dr39 : Nat → List Nat := fun r => match r with
  | 0 => [2]
  | 2 => [8, 9]
  | 4 => [10, 11, 12]
  | 5 => [14, 15]
  | 6 => [13, 16, 17]
  | 7 => [18, 19, 20, 21]
  | 8 => [22, 23, 24, 25, 26, 27, 28]
  | 9 => [29, 30, 31, 32, 33, 34, 35, 36, 37, 38, 39, 40, 41, 42, 43, 44, 45, 46, 47, 48]
  | 10 => [49, 50, 51]
  | 11 => [22, 49, 52, 53, 54, 55, 56, 57, 58]
  | 12 => [6, 59, 60, 61, 62, 63, 64, 65, 66, 67]
  | 13 => [7, 68, 69, 70, 71]
  | 14 => [0, 3, 4, 5, 13, 72]
  | _ => []
def T39 : T6 := fun f ls => match f with
  | 61 => S55 ls
  | _ => none
def cn39 : FuncId → Option Nat := fun f => match f with

  | _ => none
def E39 : Env Ty6 den6 := mk6 T39 cn39 dr39 73
def st39_4 (x0 : List Int) (x3 : List (List Int)) (x4 : List Int) (x5 : Int) : S6 := ⟨[(0, .one (.sl .i32 x0 none)), (3, .one (.sl .rs x3 (some 103))), (4, .one (.sl .i64 x4 (some 1009))), (5, .one (.int .i64 x5))], [103, 1009]⟩
theorem ev39 (n : Nat) (a0 : List Int) : evFn E39 n Go.Proofs.Tryd.f31 [.sl .i32 a0 none] =
    bif smL a0 then (evLoop (lbC E39 (cdAt Go.Proofs.Tryd.f31 [1, 1, 1, 0, 1, 0, 0]) 10004 n) n (st39_4 a0 [] (startsF a0) 0) (blockK 0 (seqK (evCode E39 n (cdAt Go.Proofs.Tryd.f31 [1, 1, 1, 1])) (retK Go.Proofs.Tryd.f31.results.toList)))) else none := by
  kernel_rfl
theorem lb39_4_eq (n : Nat) (x0 : List Int) (x3 : List (List Int)) (x4 : List Int) (x5 : Int) (K : Ex → S6 → Option E6) : lbC E39 (cdAt Go.Proofs.Tryd.f31 [1, 1, 1, 0, 1, 0, 0]) 10004 n (st39_4 x0 x3 x4 x5) K =
    bif decide (x5 < (List.length x4 : Int)) then (bif decide ((IntKind.wrap .i64 (x5 + 1)) < (List.length x4 : Int)) then (match idx x4 (IntKind.wrap .i64 (x5 + 1)) with | none => none | some y1 => (match idx x0 (IntKind.wrap .i64 (y1 - 1)) with | none => none | some y2 => (bif (y2 == 10) == true then (match idx x4 x5 with | none => none | some y3 => (bif (decide ((IntKind.wrap .i64 (y1 - 1)) > y3)) == true then (match idx x0 (IntKind.wrap .i64 ((IntKind.wrap .i64 (y1 - 1)) - 1)) with | none => none | some y4 => (bif y4 == 13 then (match idx x4 x5 with | none => none | some y5 => (bif decide (0 ≤ (IntKind.wrap .i64 ((IntKind.wrap .i64 ((IntKind.wrap .i64 (y1 - 1)) - 1)) - y5))) && room (Int.toNat (IntKind.wrap .i64 ((IntKind.wrap .i64 ((IntKind.wrap .i64 (y1 - 1)) - 1)) - y5))) 4 then (match idx x4 x5 with | none => none | some y6 => (match sub x0 y6 (IntKind.wrap .i64 ((IntKind.wrap .i64 (y1 - 1)) - 1)) with | none => none | some y7 => (bif room (0 + List.length y7) 4 then (bif room (List.length x3 + 1) 24 then (K .normal (st39_4 x0 (x3 ++ [y7]) x4 (IntKind.wrap .i64 (x5 + 1)))) else none) else none))) else none)) else (match idx x4 x5 with | none => none | some y8 => (bif decide (0 ≤ (IntKind.wrap .i64 ((IntKind.wrap .i64 (y1 - 1)) - y8))) && room (Int.toNat (IntKind.wrap .i64 ((IntKind.wrap .i64 (y1 - 1)) - y8))) 4 then (match idx x4 x5 with | none => none | some y9 => (match sub x0 y9 (IntKind.wrap .i64 (y1 - 1)) with | none => none | some y10 => (bif room (0 + List.length y10) 4 then (bif room (List.length x3 + 1) 24 then (K .normal (st39_4 x0 (x3 ++ [y10]) x4 (IntKind.wrap .i64 (x5 + 1)))) else none) else none))) else none)))) else (match idx x4 x5 with | none => none | some y11 => (bif decide (0 ≤ (IntKind.wrap .i64 ((IntKind.wrap .i64 (y1 - 1)) - y11))) && room (Int.toNat (IntKind.wrap .i64 ((IntKind.wrap .i64 (y1 - 1)) - y11))) 4 then (match idx x4 x5 with | none => none | some y12 => (match sub x0 y12 (IntKind.wrap .i64 (y1 - 1)) with | none => none | some y13 => (bif room (0 + List.length y13) 4 then (bif room (List.length x3 + 1) 24 then (K .normal (st39_4 x0 (x3 ++ [y13]) x4 (IntKind.wrap .i64 (x5 + 1)))) else none) else none))) else none)))) else (match idx x4 x5 with | none => none | some y14 => (bif decide (0 ≤ (IntKind.wrap .i64 ((IntKind.wrap .i64 (y1 - 1)) - y14))) && room (Int.toNat (IntKind.wrap .i64 ((IntKind.wrap .i64 (y1 - 1)) - y14))) 4 then (match idx x4 x5 with | none => none | some y15 => (match sub x0 y15 (IntKind.wrap .i64 (y1 - 1)) with | none => none | some y16 => (bif room (0 + List.length y16) 4 then (bif room (List.length x3 + 1) 24 then (K .normal (st39_4 x0 (x3 ++ [y16]) x4 (IntKind.wrap .i64 (x5 + 1)))) else none) else none))) else none))))) else (match idx x4 x5 with | none => none | some y17 => (bif decide (0 ≤ (IntKind.wrap .i64 ((List.length x0 : Int) - y17))) && room (Int.toNat (IntKind.wrap .i64 ((List.length x0 : Int) - y17))) 4 then (match idx x4 x5 with | none => none | some y18 => (match sub x0 y18 (List.length x0 : Int) with | none => none | some y19 => (bif room (0 + List.length y19) 4 then (bif room (List.length x3 + 1) 24 then (K .normal (st39_4 x0 (x3 ++ [y19]) x4 (IntKind.wrap .i64 (x5 + 1)))) else none) else none))) else none))) else (K (.exit 0) ⟨[(0, .one (.sl .i32 x0 none)), (3, .one (.sl .rs x3 (some 103))), (4, .one (.sl .i64 x4 (some 1009))), (5, .one (.int .i64 x5)), (13, .one (.bool (decide (x5 < (List.length x4 : Int)))))], [103, 1009]⟩) := by
  kernel_rfl
theorem ex39_4_0 (n : Nat) (x0 : List Int) (x3 : List (List Int)) (x4 : List Int) (x5 : Int) (x13 : Bool) : (blockK 0 (seqK (evCode E39 n (cdAt Go.Proofs.Tryd.f31 [1, 1, 1, 1])) (retK Go.Proofs.Tryd.f31.results.toList))) (.exit 0) ⟨[(0, .one (.sl .i32 x0 none)), (3, .one (.sl .rs x3 (some 103))), (4, .one (.sl .i64 x4 (some 1009))), (5, .one (.int .i64 x5)), (13, .one (.bool x13))], [103, 1009]⟩ =
    some (.one (.sl .rs x3 (some 1))) := by
  kernel_rfl

/- pergola/pergolaref01.Starts -/
def dr55 : Nat → List Nat := fun r => match r with
  | 0 => [2]
  | 1 => [5]
  | 3 => [6, 7, 8]
  | 4 => [10, 11, 23, 43]
  | 5 => [9, 12, 13, 14, 15, 16, 17, 18, 19, 20, 21, 22]
  | 6 => [23, 24, 25, 26, 27, 28, 29, 30, 31, 32, 33, 34, 35, 36, 37, 38, 39, 40, 41, 42]
  | 7 => [43, 44, 45, 46, 47, 48]
  | 8 => [0, 3, 4, 9, 49]
  | _ => []
def T55 : T6 := fun f ls => match f with

  | _ => none
def cn55 : FuncId → Option Nat := fun f => match f with

  | _ => none
def E55 : Env Ty6 den6 := mk6 T55 cn55 dr55 50
def st55_3 (x0 : List Int) (x3 : List Int) (x4 : Int) : S6 := ⟨[(0, .one (.sl .i32 x0 none)), (3, .one (.sl .i64 x3 (some 105))), (4, .one (.int .i64 x4))], [105]⟩
theorem ev55 (n : Nat) (a0 : List Int) : evFn E55 n Go.Proofs.Tryd.f61 [.sl .i32 a0 none] =
    evLoop (lbC E55 (cdAt Go.Proofs.Tryd.f61 [1, 1, 0, 1, 0, 0]) 10003 n) n (st55_3 a0 [0] 0) (blockK 0 (seqK (evCode E55 n (cdAt Go.Proofs.Tryd.f61 [1, 1, 1])) (retK Go.Proofs.Tryd.f61.results.toList))) := by
  kernel_rfl
theorem lb55_3_eq (n : Nat) (x0 : List Int) (x3 : List Int) (x4 : Int) (K : Ex → S6 → Option E6) : lbC E55 (cdAt Go.Proofs.Tryd.f61 [1, 1, 0, 1, 0, 0]) 10003 n (st55_3 x0 x3 x4) K =
    bif decide (x4 < (List.length x0 : Int)) then (match idx x0 x4 with | none => none | some y1 => (bif (y1 != 13) == true then (match idx x0 x4 with | none => none | some y2 => (bif y2 != 10 then (K .normal (st55_3 x0 x3 (IntKind.wrap .i64 (x4 + 1)))) else (match idx x0 x4 with | none => none | some y3 => (bif (y3 == 13) == true then (bif (decide ((IntKind.wrap .i64 (x4 + 1)) < (List.length x0 : Int))) == true then (match idx x0 (IntKind.wrap .i64 (x4 + 1)) with | none => none | some y4 => (bif y4 == 10 then (K .normal (st55_3 x0 x3 (IntKind.wrap .i64 (x4 + 1)))) else (bif room (List.length x3 + 1) 8 then (K .normal (st55_3 x0 (x3 ++ [IntKind.wrap .i64 (x4 + 1)]) (IntKind.wrap .i64 (x4 + 1)))) else none))) else (bif room (List.length x3 + 1) 8 then (K .normal (st55_3 x0 (x3 ++ [IntKind.wrap .i64 (x4 + 1)]) (IntKind.wrap .i64 (x4 + 1)))) else none)) else (bif room (List.length x3 + 1) 8 then (K .normal (st55_3 x0 (x3 ++ [IntKind.wrap .i64 (x4 + 1)]) (IntKind.wrap .i64 (x4 + 1)))) else none))))) else (match idx x0 x4 with | none => none | some y5 => (bif (y5 == 13) == true then (bif (decide ((IntKind.wrap .i64 (x4 + 1)) < (List.length x0 : Int))) == true then (match idx x0 (IntKind.wrap .i64 (x4 + 1)) with | none => none | some y6 => (bif y6 == 10 then (K .normal (st55_3 x0 x3 (IntKind.wrap .i64 (x4 + 1)))) else (bif room (List.length x3 + 1) 8 then (K .normal (st55_3 x0 (x3 ++ [IntKind.wrap .i64 (x4 + 1)]) (IntKind.wrap .i64 (x4 + 1)))) else none))) else (bif room (List.length x3 + 1) 8 then (K .normal (st55_3 x0 (x3 ++ [IntKind.wrap .i64 (x4 + 1)]) (IntKind.wrap .i64 (x4 + 1)))) else none)) else (bif room (List.length x3 + 1) 8 then (K .normal (st55_3 x0 (x3 ++ [IntKind.wrap .i64 (x4 + 1)]) (IntKind.wrap .i64 (x4 + 1)))) else none))))) else (K (.exit 0) ⟨[(0, .one (.sl .i32 x0 none)), (3, .one (.sl .i64 x3 (some 105))), (4, .one (.int .i64 x4)), (9, .one (.bool (decide (x4 < (List.length x0 : Int)))))], [105]⟩) := by
  kernel_rfl
theorem ex55_3_0 (n : Nat) (x0 : List Int) (x3 : List Int) (x4 : Int) (x9 : Bool) : (blockK 0 (seqK (evCode E55 n (cdAt Go.Proofs.Tryd.f61 [1, 1, 1])) (retK Go.Proofs.Tryd.f61.results.toList))) (.exit 0) ⟨[(0, .one (.sl .i32 x0 none)), (3, .one (.sl .i64 x3 (some 105))), (4, .one (.int .i64 x4)), (9, .one (.bool x9))], [105]⟩ =
    some (.one (.sl .i64 x3 (some 1))) := by
  kernel_rfl

/- pergola/strval.Block -/
def dr22 : Nat → List Nat := fun r => match r with
  | 0 => [2, 3]
  | 1 => [0, 11, 12, 13, 14, 15]
  | 2 => [5, 16]
  | 3 => [4, 17]
  | 4 => [17]
  | 5 => [4, 18, 19]
  | 7 => [23, 24, 25, 26]
  | 8 => [7, 27]
  | 9 => [28, 29, 30, 31]
  | 10 => [8, 28, 32, 33, 34]
  | 11 => [35]
  | 12 => [6, 10, 20, 21, 22, 23, 36, 37, 38, 39, 40]
  | 13 => [9, 41]
  | _ => []
def T22 : T6 := fun f ls => match f with
  | 22 => S33 ls
  | 26 => S37 ls
  | 38 => S36 ls
  | 39 => S12 ls
  | _ => none
def cn22 : FuncId → Option Nat := fun f => match f with

  | _ => none
def E22 : Env Ty6 den6 := mk6 T22 cn22 dr22 42
def st22_6 (x6 : List Int) (x20 : List (List Int)) (x21 : Int) (x22 : Int) : S6 := ⟨[(6, .one (.sl .i32 x6 (some 106))), (20, .one (.sl .rs x20 (some 1020))), (21, .one (.int .i64 x21)), (22, .one (.int .i64 x22))], [106, 1020]⟩
theorem ev22 (n : Nat) (a0 : List Int) : evFn E22 n Go.Proofs.Tryd.f13 [.sl .i32 a0 none] =
    bif smL a0 then (bif !((unmF a0).2) then (some (.tup [.str [], .int .i64 60])) else (bif smL ((unmF a0).1) then (bif limL (linesF ((unmF a0).1)) then (evLoop (lbC E22 (cdAt Go.Proofs.Tryd.f13 [1, 1, 1, 1, 0, 1, 0, 0]) 10006 n) n (st22_6 [] (dedentF (linesF ((unmF a0).1))) (List.length (dedentF (linesF ((unmF a0).1))) : Int) 0) (blockK 0 (seqK (evCode E22 n (cdAt Go.Proofs.Tryd.f13 [1, 1, 1, 1, 1])) (retK Go.Proofs.Tryd.f13.results.toList)))) else none) else none)) else none := by
  kernel_rfl
theorem lb22_6_eq (n : Nat) (x6 : List Int) (x20 : List (List Int)) (x21 : Int) (x22 : Int) (K : Ex → S6 → Option E6) : lbC E22 (cdAt Go.Proofs.Tryd.f13 [1, 1, 1, 1, 0, 1, 0, 0]) 10006 n (st22_6 x6 x20 x21 x22) K =
    bif decide (x22 < x21) then (match idx x20 x22 with | none => none | some y1 => (bif decide (x22 > 0) then (bif room (List.length x6 + 1) 4 then (bif room (List.length (x6 ++ [10]) + List.length y1) 4 then (K .normal (st22_6 ((x6 ++ [10]) ++ y1) x20 x21 (IntKind.wrap .i64 (x22 + 1)))) else none) else none) else (bif room (List.length x6 + List.length y1) 4 then (K .normal (st22_6 (x6 ++ y1) x20 x21 (IntKind.wrap .i64 (x22 + 1)))) else none))) else (K (.exit 0) ⟨[(6, .one (.sl .i32 x6 (some 106))), (20, .one (.sl .rs x20 (some 1020))), (21, .one (.int .i64 x21)), (22, .one (.int .i64 x22)), (23, .one (.bool (decide (x22 < x21))))], [106, 1020]⟩) := by
  kernel_rfl
theorem ex22_6_0 (n : Nat) (x6 : List Int) (x20 : List (List Int)) (x21 : Int) (x22 : Int) (x23 : Bool) : (blockK 0 (seqK (evCode E22 n (cdAt Go.Proofs.Tryd.f13 [1, 1, 1, 1, 1])) (retK Go.Proofs.Tryd.f13.results.toList))) (.exit 0) ⟨[(6, .one (.sl .i32 x6 (some 106))), (20, .one (.sl .rs x20 (some 1020))), (21, .one (.int .i64 x21)), (22, .one (.int .i64 x22)), (23, .one (.bool x23))], [106, 1020]⟩ =
    bif lim4 x6 then (some (.tup [.str ((encF x6).1), .int .i64 0])) else none := by
  kernel_rfl

/- pergola/pergolalaw06.reads -/
def dr18 : Nat → List Nat := fun r => match r with
  | 0 => [0]
  | 1 => [3, 4, 5, 6, 7]
  | 2 => [1, 2, 8, 9, 10, 11, 12]
  | 3 => [13]
  | 4 => [13, 14, 15, 16, 17, 18]
  | 5 => [1, 2, 19, 20, 21, 22, 23, 24]
  | _ => []
def T18 : T6 := fun f ls => match f with
  | 13 => S22 ls
  | 16 => S19 ls
  | 36 => S13 ls
  | _ => none
def cn18 : FuncId → Option Nat := fun f => match f with

  | _ => none
def E18 : Env Ty6 den6 := mk6 T18 cn18 dr18 25
theorem ev18 (n : Nat)  : evFn E18 n Go.Proofs.Tryd.f11 [] =
    bif room (List.length [92, 117, 48, 48, 52, 49, 92, 110, 92, 117, 68, 56, 51, 68, 92, 117, 68, 69, 48, 48]) 1 then (bif lim4 (runes6 [92, 117, 48, 48, 52, 49, 92, 110, 92, 117, 68, 56, 51, 68, 92, 117, 68, 69, 48, 48]) then (bif (!(((quotedF (runes6 [92, 117, 48, 48, 52, 49, 92, 110, 92, 117, 68, 56, 51, 68, 92, 117, 68, 69, 48, 48])).1) == [65, 10, 240, 159, 152, 128])) == false then (bif ((quotedF (runes6 [92, 117, 48, 48, 52, 49, 92, 110, 92, 117, 68, 56, 51, 68, 92, 117, 68, 69, 48, 48])).2) != 0 then (some (.one (.bool false))) else (bif room (List.length [10, 32, 32, 97, 10, 32, 32, 32, 32, 98, 10]) 1 then (bif smL (runes6 [10, 32, 32, 97, 10, 32, 32, 32, 32, 98, 10]) then (bif (((blockF (runes6 [10, 32, 32, 97, 10, 32, 32, 32, 32, 98, 10])).1) == [97, 10, 32, 32, 98]) == true then (some (.one (.bool (((blockF (runes6 [10, 32, 32, 97, 10, 32, 32, 32, 32, 98, 10])).2) == 0)))) else (some (.one (.bool false)))) else none) else none)) else (some (.one (.bool false)))) else none) else none := by
  kernel_rfl

end Go.Aev
end

section
set_option linter.unusedVariables false
namespace Go.Aev
open Go.Proofs
/- pergola/utf.Decode[string] -/
def dr220 : Nat → List Nat := fun r => match r with
  | 0 => [2, 3]
  | 1 => [0, 10]
  | 3 => [11]
  | 5 => [13, 14, 15, 16]
  | 6 => [17]
  | 7 => [8, 18, 19, 20, 21, 22, 23, 24, 25]
  | 8 => [9, 26]
  | 9 => [4, 5, 6, 7, 12, 27, 28, 29]
  | 10 => [6, 7, 18, 27, 30, 31, 32, 33]
  | 11 => [4, 5, 12, 13, 14, 34, 35, 36]
  | _ => []
def T220 : T6 := fun f ls => match f with
  | 49 => S249 ls
  | _ => none
def cn220 : FuncId → Option Nat := fun f => match f with

  | _ => none
def E220 : Env Ty6 den6 := mk6 T220 cn220 dr220 37
def st220_4 (x4 : List UInt8) (x5 : List Int) (x12 : List UInt8) (x12_1 : Nat) : S6 := ⟨[(4, .one (.str x4)), (5, .one (.sl .i32 x5 (some 105))), (12, .iter x12 x12_1)], [105]⟩
theorem ev220 (n : Nat) (a0 : List UInt8) : evFn E220 n Go.Proofs.Tryd.f20 [.str a0] =
    evLoop (lbC E220 (cdAt Go.Proofs.Tryd.f20 [1, 1, 1, 0, 1, 0, 0]) 10004 n) n (st220_4 a0 [] a0 0) (blockK 0 (seqK (evCode E220 n (cdAt Go.Proofs.Tryd.f20 [1, 1, 1, 1])) (retK Go.Proofs.Tryd.f20.results.toList))) := by
  kernel_rfl
theorem lb220_4_eq (n : Nat) (x4 : List UInt8) (x5 : List Int) (x12 : List UInt8) (x12_1 : Nat) (K : Ex → S6 → Option E6) : lbC E220 (cdAt Go.Proofs.Tryd.f20 [1, 1, 1, 0, 1, 0, 0]) 10004 n (st220_4 x4 x5 x12 x12_1) K =
    bif decide (x12_1 < List.length x12) then (bif ((Utf8.decode ⟨x12.toArray⟩ x12_1).1 : Int) == 65533 then (match sub x4 (x12_1 : Int) (List.length x4 : Int) with | none => none | some y1 => (bif true then (bif ((dgF y1).2) == 1 then (K .ret ⟨[(2, .one (.sl .i32 x5 (some 105))), (3, .one (.int .i64 (x12_1 : Int)))], [105]⟩) else (bif room (List.length x5 + 1) 4 then (K .normal (st220_4 x4 (x5 ++ [((Utf8.decode ⟨x12.toArray⟩ x12_1).1 : Int)]) x12 (x12_1 + (Utf8.decode ⟨x12.toArray⟩ x12_1).2))) else none)) else none)) else (bif room (List.length x5 + 1) 4 then (K .normal (st220_4 x4 (x5 ++ [((Utf8.decode ⟨x12.toArray⟩ x12_1).1 : Int)]) x12 (x12_1 + (Utf8.decode ⟨x12.toArray⟩ x12_1).2))) else none)) else (K (.exit 0) ⟨[(4, .one (.str x4)), (5, .one (.sl .i32 x5 (some 105))), (12, .iter x12 x12_1), (13, .tup [.bool false]), (14, .one (.bool false))], [105]⟩) := by
  kernel_rfl
theorem ex220_4_0 (n : Nat) (x4 : List UInt8) (x5 : List Int) (x12 : List UInt8) (x12_1 : Nat) : (blockK 0 (seqK (evCode E220 n (cdAt Go.Proofs.Tryd.f20 [1, 1, 1, 1])) (retK Go.Proofs.Tryd.f20.results.toList))) (.exit 0) ⟨[(4, .one (.str x4)), (5, .one (.sl .i32 x5 (some 105))), (12, .iter x12 x12_1), (13, .tup [.bool false]), (14, .one (.bool false))], [105]⟩ =
    some (.tup [.sl .i32 x5 (some 1), .int .i64 (List.length x4 : Int)]) := by
  kernel_rfl

/- pergola/pergolaref01.same -/
def dr277 : Nat → List Nat := fun r => match r with
  | 0 => [4]
  | 1 => [6, 7, 8, 9]
  | 2 => [0, 1, 10]
  | 3 => [10]
  | 4 => [11, 12, 13]
  | 5 => [15, 16, 25]
  | 6 => [14, 17, 18, 19, 20, 21, 22, 23, 24]
  | 7 => [0, 1, 5, 25]
  | 8 => [0, 1, 5, 14]
  | _ => []
def T277 : T6 := fun f ls => match f with

  | _ => none
def cn277 : FuncId → Option Nat := fun f => match f with

  | _ => none
def E277 : Env Ty6 den6 := mk6 T277 cn277 dr277 26
def st277_4 (x0 : List Int) (x1 : List Int) (x5 : Int) : S6 := ⟨[(0, .one (.sl .u8 x0 none)), (1, .one (.sl .u8 x1 none)), (5, .one (.int .i64 x5))], []⟩
theorem ev277 (n : Nat) (a0 : List Int) (a1 : List Int) : evFn E277 n Go.Proofs.Tryd.f77 [.sl .u8 a0 none, .sl .u8 a1 none] =
    bif (List.length a0 : Int) != (List.length a1 : Int) then (some (.one (.bool false))) else (evLoop (lbC E277 (cdAt Go.Proofs.Tryd.f77 [1, 1, 0, 1, 0, 0]) 10004 n) n (st277_4 a0 a1 0) (blockK 0 (seqK (evCode E277 n (cdAt Go.Proofs.Tryd.f77 [1, 1, 1])) (retK Go.Proofs.Tryd.f77.results.toList)))) := by
  kernel_rfl
theorem lb277_4_eq (n : Nat) (x0 : List Int) (x1 : List Int) (x5 : Int) (K : Ex → S6 → Option E6) : lbC E277 (cdAt Go.Proofs.Tryd.f77 [1, 1, 0, 1, 0, 0]) 10004 n (st277_4 x0 x1 x5) K =
    bif decide (x5 < (List.length x0 : Int)) then (match idx x0 x5 with | none => none | some y1 => (match idx x1 x5 with | none => none | some y2 => (bif y1 != y2 then (K .ret ⟨[(4, .one (.bool false))], []⟩) else (K .normal (st277_4 x0 x1 (IntKind.wrap .i64 (x5 + 1))))))) else (K (.exit 0) ⟨[(0, .one (.sl .u8 x0 none)), (1, .one (.sl .u8 x1 none)), (5, .one (.int .i64 x5)), (14, .one (.bool (decide (x5 < (List.length x0 : Int)))))], []⟩) := by
  kernel_rfl
theorem ex277_4_0 (n : Nat) (x0 : List Int) (x1 : List Int) (x5 : Int) (x14 : Bool) : (blockK 0 (seqK (evCode E277 n (cdAt Go.Proofs.Tryd.f77 [1, 1, 1])) (retK Go.Proofs.Tryd.f77.results.toList))) (.exit 0) ⟨[(0, .one (.sl .u8 x0 none)), (1, .one (.sl .u8 x1 none)), (5, .one (.int .i64 x5)), (14, .one (.bool x14))], []⟩ =
    some (.one (.bool true)) := by
  kernel_rfl

/- pergola/pergolaref01.number -/
def dr276 : Nat → List Nat := fun r => match r with
  | 0 => [2]
  | 1 => [6]
  | 2 => [3, 7, 8, 9, 10, 11, 12, 13, 14, 15, 16]
  | 4 => [17, 18, 19]
  | 5 => [21, 22]
  | 6 => [20, 23, 24, 25, 26, 27, 28, 29, 30, 31]
  | 7 => [0, 4, 5, 20, 32, 33]
  | _ => []
def T276 : T6 := fun f ls => match f with

  | _ => none
def cn276 : FuncId → Option Nat := fun f => match f with

  | _ => none
def E276 : Env Ty6 den6 := mk6 T276 cn276 dr276 34
def st276_4 (x0 : List Int) (x4 : Int) (x5 : Int) : S6 := ⟨[(0, .one (.sl .u8 x0 none)), (4, .one (.int .i64 x4)), (5, .one (.int .i64 x5))], []⟩
theorem ev276 (n : Nat) (a0 : List Int) : evFn E276 n Go.Proofs.Tryd.f76 [.sl .u8 a0 none] =
    match idx a0 0 with | none => none | some y1 => (match idx [0, 128, 32, 16, 8] (List.length a0 : Int) with | none => none | some y2 => (bif !decide (y2 = 0) then (evLoop (lbC E276 (cdAt Go.Proofs.Tryd.f76 [1, 1, 1, 0, 1, 0, 0]) 10004 n) n (st276_4 a0 (Int.tmod (IntKind.wrap .i64 y1) y2) 1) (blockK 0 (seqK (evCode E276 n (cdAt Go.Proofs.Tryd.f76 [1, 1, 1, 1])) (retK Go.Proofs.Tryd.f76.results.toList)))) else none)) := by
  kernel_rfl
theorem lb276_4_eq (n : Nat) (x0 : List Int) (x4 : Int) (x5 : Int) (K : Ex → S6 → Option E6) : lbC E276 (cdAt Go.Proofs.Tryd.f76 [1, 1, 1, 0, 1, 0, 0]) 10004 n (st276_4 x0 x4 x5) K =
    bif decide (x5 < (List.length x0 : Int)) then (match idx x0 x5 with | none => none | some y3 => (K .normal (st276_4 x0 (IntKind.wrap .i64 ((IntKind.wrap .i64 (x4 * 64)) + (Int.tmod (IntKind.wrap .i64 y3) 64))) (IntKind.wrap .i64 (x5 + 1))))) else (K (.exit 0) ⟨[(0, .one (.sl .u8 x0 none)), (4, .one (.int .i64 x4)), (5, .one (.int .i64 x5)), (20, .one (.bool (decide (x5 < (List.length x0 : Int)))))], []⟩) := by
  kernel_rfl
theorem ex276_4_0 (n : Nat) (x0 : List Int) (x4 : Int) (x5 : Int) (x20 : Bool) : (blockK 0 (seqK (evCode E276 n (cdAt Go.Proofs.Tryd.f76 [1, 1, 1, 1])) (retK Go.Proofs.Tryd.f76.results.toList))) (.exit 0) ⟨[(0, .one (.sl .u8 x0 none)), (4, .one (.int .i64 x4)), (5, .one (.int .i64 x5)), (20, .one (.bool x20))], []⟩ =
    some (.one (.int .i32 (IntKind.wrap .i32 x4))) := by
  kernel_rfl

/- pergola/pergolaref01.One -/
def dr254 : Nat → List Nat := fun r => match r with
  | 0 => [2, 3]
  | 2 => [7, 8, 9, 10, 11, 12, 13]
  | 3 => [5, 15, 16, 33]
  | 4 => [14, 17, 18, 19, 20]
  | 5 => [21, 22]
  | 6 => [6, 23, 24, 25, 26, 27, 28, 29, 30, 31, 32]
  | 7 => [0, 4, 5, 33, 34, 35]
  | 8 => [0, 4, 14]
  | _ => []
def T254 : T6 := fun f ls => match f with
  | 64 => S50 ls
  | 76 => S276 ls
  | 77 => S277 ls
  | _ => none
def cn254 : FuncId → Option Nat := fun f => match f with

  | _ => none
def E254 : Env Ty6 den6 := mk6 T254 cn254 dr254 36
def st254_2 (x0 : List Int) (x4 : Int) : S6 := ⟨[(0, .one (.sl .u8 x0 none)), (4, .one (.int .i64 x4))], []⟩
theorem ev254 (n : Nat) (a0 : List Int) : evFn E254 n Go.Proofs.Tryd.f54 [.sl .u8 a0 none] =
    evLoop (lbC E254 (cdAt Go.Proofs.Tryd.f54 [1, 0, 1, 0, 0]) 10002 n) n (st254_2 a0 1) (blockK 0 (seqK (evCode E254 n (cdAt Go.Proofs.Tryd.f54 [1, 1])) (retK Go.Proofs.Tryd.f54.results.toList))) := by
  kernel_rfl
theorem lb254_2_eq (n : Nat) (x0 : List Int) (x4 : Int) (K : Ex → S6 → Option E6) : lbC E254 (cdAt Go.Proofs.Tryd.f54 [1, 0, 1, 0, 0]) 10002 n (st254_2 x0 x4) K =
    bif (decide (x4 ≤ 4)) == true then (bif decide (x4 ≤ (List.length x0 : Int)) then (match sub x0 0 x4 with | none => none | some y1 => (bif isB y1 && decide (1 ≤ List.length y1) && decide (List.length y1 ≤ 4) then (bif ((List.length (putF (numF y1)) : Int) == x4) == true then (match sub x0 0 x4 with | none => none | some y2 => (bif room (List.length (putF (numF y1))) 1 && room (List.length y2) 1 then (bif eqI (putF (numF y1)) y2 then (K .ret ⟨[(2, .one (.int .i32 (numF y1))), (3, .one (.int .i64 x4))], []⟩) else (K .normal (st254_2 x0 (IntKind.wrap .i64 (x4 + 1))))) else none)) else (K .normal (st254_2 x0 (IntKind.wrap .i64 (x4 + 1))))) else none)) else (K (.exit 0) ⟨[(0, .one (.sl .u8 x0 none)), (4, .one (.int .i64 x4)), (14, .one (.bool (decide (x4 ≤ (List.length x0 : Int)))))], []⟩)) else (K (.exit 0) ⟨[(0, .one (.sl .u8 x0 none)), (4, .one (.int .i64 x4)), (14, .one (.bool false))], []⟩) := by
  kernel_rfl
theorem ex254_2_0 (n : Nat) (x0 : List Int) (x4 : Int) (x14 : Bool) : (blockK 0 (seqK (evCode E254 n (cdAt Go.Proofs.Tryd.f54 [1, 1])) (retK Go.Proofs.Tryd.f54.results.toList))) (.exit 0) ⟨[(0, .one (.sl .u8 x0 none)), (4, .one (.int .i64 x4)), (14, .one (.bool x14))], []⟩ =
    some (.tup [.int .i32 0, .int .i64 0]) := by
  kernel_rfl
theorem ex254_2_0_2 (n : Nat) (x0 : List Int) (x4 : Int) : (blockK 0 (seqK (evCode E254 n (cdAt Go.Proofs.Tryd.f54 [1, 1])) (retK Go.Proofs.Tryd.f54.results.toList))) (.exit 0) ⟨[(0, .one (.sl .u8 x0 none)), (4, .one (.int .i64 x4)), (14, .one (.bool false))], []⟩ =
    some (.tup [.int .i32 0, .int .i64 0]) := by
  kernel_rfl

/- pergola/pergolaref01.Decode -/
def dr223 : Nat → List Nat := fun r => match r with
  | 0 => [2, 3]
  | 3 => [8, 9, 10]
  | 4 => [11, 12, 13, 14, 15, 16, 17, 18]
  | 5 => [19]
  | 6 => [6, 20, 21, 22, 23, 24]
  | 7 => [7, 25, 26, 27]
  | 8 => [0, 4, 5, 6, 7, 11, 20, 28, 29]
  | _ => []
def T223 : T6 := fun f ls => match f with
  | 54 => S254 ls
  | _ => none
def cn223 : FuncId → Option Nat := fun f => match f with

  | _ => none
def E223 : Env Ty6 den6 := mk6 T223 cn223 dr223 30
def st223_3 (x0 : List Int) (x4 : List Int) (x5 : Int) : S6 := ⟨[(0, .one (.sl .u8 x0 none)), (4, .one (.sl .i32 x4 (some 104))), (5, .one (.int .i64 x5))], [104]⟩
theorem ev223 (n : Nat) (a0 : List Int) : evFn E223 n Go.Proofs.Tryd.f23 [.sl .u8 a0 none] =
    evLoop (lbC E223 (cdAt Go.Proofs.Tryd.f23 [1, 1, 1, 0, 0, 0]) 10003 n) n (st223_3 a0 [] 0) (blockK 0 (seqK (evCode E223 n (cdAt Go.Proofs.Tryd.f23 [1, 1, 1, 1])) (retK Go.Proofs.Tryd.f23.results.toList))) := by
  kernel_rfl
theorem lb223_3_eq (n : Nat) (x0 : List Int) (x4 : List Int) (x5 : Int) (K : Ex → S6 → Option E6) : lbC E223 (cdAt Go.Proofs.Tryd.f23 [1, 1, 1, 0, 0, 0]) 10003 n (st223_3 x0 x4 x5) K =
    bif decide (x5 < (List.length x0 : Int)) then (match sub x0 x5 (List.length x0 : Int) with | none => none | some y1 => (bif isB y1 && decide (1 ≤ List.length y1) && room (List.length y1) 1 then (bif ((oneF y1).2) == 0 then (K (.exit 0) ⟨[(0, .one (.sl .u8 x0 none)), (4, .one (.sl .i32 x4 (some 104))), (5, .one (.int .i64 x5)), (6, .one (.int .i32 ((oneF y1).1))), (7, .one (.int .i64 ((oneF y1).2))), (20, .one (.bool (((oneF y1).2) == 0)))], [104]⟩) else (bif room (List.length x4 + 1) 4 then (K .normal (st223_3 x0 (x4 ++ [(oneF y1).1]) (IntKind.wrap .i64 (x5 + ((oneF y1).2))))) else none)) else none)) else (K (.exit 0) ⟨[(0, .one (.sl .u8 x0 none)), (4, .one (.sl .i32 x4 (some 104))), (5, .one (.int .i64 x5)), (11, .one (.bool (decide (x5 < (List.length x0 : Int)))))], [104]⟩) := by
  kernel_rfl
theorem ex223_3_0 (n : Nat) (x0 : List Int) (x4 : List Int) (x5 : Int) (x6 : Int) (x7 : Int) (x20 : Bool) : (blockK 0 (seqK (evCode E223 n (cdAt Go.Proofs.Tryd.f23 [1, 1, 1, 1])) (retK Go.Proofs.Tryd.f23.results.toList))) (.exit 0) ⟨[(0, .one (.sl .u8 x0 none)), (4, .one (.sl .i32 x4 (some 104))), (5, .one (.int .i64 x5)), (6, .one (.int .i32 x6)), (7, .one (.int .i64 x7)), (20, .one (.bool x20))], [104]⟩ =
    some (.tup [.sl .i32 x4 (some 1), .int .i64 x5]) := by
  kernel_rfl
theorem ex223_3_0_2 (n : Nat) (x0 : List Int) (x4 : List Int) (x5 : Int) (x11 : Bool) : (blockK 0 (seqK (evCode E223 n (cdAt Go.Proofs.Tryd.f23 [1, 1, 1, 1])) (retK Go.Proofs.Tryd.f23.results.toList))) (.exit 0) ⟨[(0, .one (.sl .u8 x0 none)), (4, .one (.sl .i32 x4 (some 104))), (5, .one (.int .i64 x5)), (11, .one (.bool x11))], [104]⟩ =
    some (.tup [.sl .i32 x4 (some 1), .int .i64 x5]) := by
  kernel_rfl

/- pergola/utf.Split -/
def dr250 : Nat → List Nat := fun r => match r with
  | 0 => [2, 3, 4]
  | 1 => [5, 6, 7, 8, 9]
  | 2 => [0, 10]
  | 3 => [10, 11, 12]
  | 4 => [0, 13, 14, 15, 16, 17, 18]
  | _ => []
def T250 : T6 := fun f ls => match f with

  | _ => none
def cn250 : FuncId → Option Nat := fun f => match f with

  | _ => none
def E250 : Env Ty6 den6 := mk6 T250 cn250 dr250 19
theorem ev250 (n : Nat) (a0 : Int) : evFn E250 n Go.Proofs.Tryd.f50 [.int .i32 a0] =
    bif (decide (a0 < 65536)) == false then (bif decide (a0 > 1114111) then (some (.tup [.int .i32 0, .int .i32 0, .bool false])) else (some (.tup [.int .i32 (IntKind.wrap .i32 (55296 + ((IntKind.wrap .i32 (a0 - 65536)) / 2 ^ (Int.toNat 10)))), .int .i32 (IntKind.wrap .i32 (56320 + (bits .and .i32 (IntKind.wrap .i32 (a0 - 65536)) 1023))), .bool true]))) else (some (.tup [.int .i32 0, .int .i32 0, .bool false])) := by
  kernel_rfl

/- pergola/pergolaref01.Split -/
def dr256 : Nat → List Nat := fun r => match r with
  | 0 => [2, 3, 4]
  | 1 => [6, 7, 8, 9, 10]
  | 2 => [0, 11]
  | 3 => [0, 11, 12, 13]
  | 4 => [5, 14, 15, 16, 17, 18, 19]
  | _ => []
def T256 : T6 := fun f ls => match f with

  | _ => none
def cn256 : FuncId → Option Nat := fun f => match f with

  | _ => none
def E256 : Env Ty6 den6 := mk6 T256 cn256 dr256 20
theorem ev256 (n : Nat) (a0 : Int) : evFn E256 n Go.Proofs.Tryd.f56 [.int .i32 a0] =
    bif (decide (a0 < 65536)) == false then (bif decide (a0 > 1114111) then (some (.tup [.int .i32 0, .int .i32 0, .bool false])) else (some (.tup [.int .i32 (IntKind.wrap .i32 (55296 + (IntKind.wrap .i32 (Int.tdiv (IntKind.wrap .i32 (a0 - 65536)) 1024)))), .int .i32 (IntKind.wrap .i32 (56320 + (Int.tmod (IntKind.wrap .i32 (a0 - 65536)) 1024))), .bool true]))) else (some (.tup [.int .i32 0, .int .i32 0, .bool false])) := by
  kernel_rfl

/- pergola/strval.code -/
def dr251 : Nat → List Nat := fun r => match r with
  | 0 => [4]
  | 1 => [6, 7, 8]
  | 3 => [9]
  | 4 => [11, 12]
  | 5 => [10, 13, 14, 15, 16, 17, 18, 19, 20, 21]
  | 6 => [0, 1, 5, 10, 22]
  | _ => []
def T251 : T6 := fun f ls => match f with

  | _ => none
def cn251 : FuncId → Option Nat := fun f => match f with

  | _ => none
def E251 : Env Ty6 den6 := mk6 T251 cn251 dr251 23
def st251_3 (x0 : List Int) (x1 : Int) (x5 : Int) : S6 := ⟨[(0, .one (.sl .i32 x0 (some 0))), (1, .one (.int .i32 x1)), (5, .one (.int .i64 x5))], [0]⟩
theorem ev251 (n : Nat) (a0 : List Int) (a1 : Int) : evFn E251 n Go.Proofs.Tryd.f51 [.sl .i32 a0 (some 0), .int .i32 a1] =
    bif room (List.length a0 + 2) 4 then (evLoop (lbC E251 (cdAt Go.Proofs.Tryd.f51 [1, 1, 0, 1, 0, 0]) 10003 n) n (st251_3 (a0 ++ [92, 117]) a1 12) (blockK 0 (seqK (evCode E251 n (cdAt Go.Proofs.Tryd.f51 [1, 1, 1])) (retK Go.Proofs.Tryd.f51.results.toList)))) else none := by
  kernel_rfl
theorem lb251_3_eq (n : Nat) (x0 : List Int) (x1 : Int) (x5 : Int) (K : Ex → S6 → Option E6) : lbC E251 (cdAt Go.Proofs.Tryd.f51 [1, 1, 0, 1, 0, 0]) 10003 n (st251_3 x0 x1 x5) K =
    bif decide (x5 ≥ 0) then (bif decide (0 ≤ x5) && decide (x5 ≤ 31) && decide (IntKind.i32 = IntKind.i32) then (match idx [48, 49, 50, 51, 52, 53, 54, 55, 56, 57, 65, 66, 67, 68, 69, 70] (bits .and .i32 (x1 / 2 ^ (Int.toNat x5)) 15) with | none => none | some y1 => (bif room (List.length x0 + 1) 4 then (K .normal (st251_3 (x0 ++ [IntKind.wrap .i32 (UInt8.toNat y1 : Int)]) x1 (IntKind.wrap .i64 (x5 - 4)))) else none)) else none) else (K (.exit 0) ⟨[(0, .one (.sl .i32 x0 (some 0))), (1, .one (.int .i32 x1)), (5, .one (.int .i64 x5)), (10, .one (.bool (decide (x5 ≥ 0))))], [0]⟩) := by
  kernel_rfl
theorem ex251_3_0 (n : Nat) (x0 : List Int) (x1 : Int) (x5 : Int) (x10 : Bool) : (blockK 0 (seqK (evCode E251 n (cdAt Go.Proofs.Tryd.f51 [1, 1, 1])) (retK Go.Proofs.Tryd.f51.results.toList))) (.exit 0) ⟨[(0, .one (.sl .i32 x0 (some 0))), (1, .one (.int .i32 x1)), (5, .one (.int .i64 x5)), (10, .one (.bool x10))], [0]⟩ =
    some (.one (.sl .i32 x0 (some 0))) := by
  kernel_rfl

/- pergola/strval.put -/
def dr221 : Nat → List Nat := fun r => match r with
  | 0 => [4]
  | 2 => [10]
  | 3 => [11]
  | 4 => [0, 1, 8, 9, 12, 13, 14, 15]
  | 5 => [9, 17]
  | 6 => [0, 1, 8, 16, 18, 19, 20]
  | 7 => [16, 22]
  | 8 => [0, 1, 8, 21, 23, 24, 25]
  | 9 => [21, 27]
  | 10 => [0, 1, 8, 26, 28, 29, 30]
  | 11 => [26, 32]
  | 12 => [0, 1, 8, 31, 33, 34, 35]
  | 13 => [8, 31, 37]
  | 14 => [0, 1, 36, 38, 39, 40]
  | 15 => [36, 41, 42, 43, 44, 45, 46]
  | 16 => [7]
  | 17 => [0, 1, 5, 6, 47, 48, 49, 50, 51, 52]
  | 18 => [5, 6, 47, 53, 54, 55, 56, 57]
  | 19 => [0, 1, 58, 59, 60, 61]
  | 20 => [0, 1, 58, 62, 63, 64, 65]
  | _ => []
def T221 : T6 := fun f ls => match f with
  | 50 => S250 ls
  | 51 => S251 ls
  | _ => none
def cn221 : FuncId → Option Nat := fun f => match f with
  | 51 => some 0
  | _ => none
def E221 : Env Ty6 den6 := mk6 T221 cn221 dr221 66
theorem ev221 (n : Nat) (a0 : List Int) (a1 : Int) : evFn E221 n Go.Proofs.Tryd.f21 [.sl .i32 a0 (some 0), .int .i32 a1] =
    bif a1 == 34 then (bif a1 == 34 then (bif room (List.length a0 + 2) 4 then (some (.one (.sl .i32 (a0 ++ [92, a1]) (some 0)))) else none) else (bif a1 == 8 then (bif room (List.length a0 + 2) 4 then (some (.one (.sl .i32 (a0 ++ [92, 98]) (some 0)))) else none) else (bif a1 == 9 then (bif room (List.length a0 + 2) 4 then (some (.one (.sl .i32 (a0 ++ [92, 116]) (some 0)))) else none) else (bif a1 == 10 then (bif room (List.length a0 + 2) 4 then (some (.one (.sl .i32 (a0 ++ [92, 110]) (some 0)))) else none) else (bif a1 == 12 then (bif room (List.length a0 + 2) 4 then (some (.one (.sl .i32 (a0 ++ [92, 102]) (some 0)))) else none) else (bif a1 == 13 then (bif room (List.length a0 + 2) 4 then (some (.one (.sl .i32 (a0 ++ [92, 114]) (some 0)))) else none) else (bif (splitF a1).2.2 then (bif room (List.length a0 + 6) 4 && decide (0 ≤ ((splitF a1).1)) && decide (((splitF a1).1) ≤ 65535) then (bif room (List.length (catI a0 (codeF ((splitF a1).1))) + 6) 4 && decide (0 ≤ ((splitF a1).2.1)) && decide (((splitF a1).2.1) ≤ 65535) then (some (.one (.sl .i32 (catI (catI a0 (codeF ((splitF a1).1))) (codeF ((splitF a1).2.1))) (some 0)))) else none) else none) else (bif (decide (a1 < 32)) == false then (bif a1 == 127 then (bif room (List.length a0 + 6) 4 && decide (0 ≤ a1) && decide (a1 ≤ 65535) then (some (.one (.sl .i32 (catI a0 (codeF a1)) (some 0)))) else none) else (bif room (List.length a0 + 1) 4 then (some (.one (.sl .i32 (a0 ++ [a1]) (some 0)))) else none)) else (bif room (List.length a0 + 6) 4 && decide (0 ≤ a1) && decide (a1 ≤ 65535) then (some (.one (.sl .i32 (catI a0 (codeF a1)) (some 0)))) else none))))))))) else (bif a1 == 92 then (bif room (List.length a0 + 2) 4 then (some (.one (.sl .i32 (a0 ++ [92, a1]) (some 0)))) else none) else (bif a1 == 8 then (bif room (List.length a0 + 2) 4 then (some (.one (.sl .i32 (a0 ++ [92, 98]) (some 0)))) else none) else (bif a1 == 9 then (bif room (List.length a0 + 2) 4 then (some (.one (.sl .i32 (a0 ++ [92, 116]) (some 0)))) else none) else (bif a1 == 10 then (bif room (List.length a0 + 2) 4 then (some (.one (.sl .i32 (a0 ++ [92, 110]) (some 0)))) else none) else (bif a1 == 12 then (bif room (List.length a0 + 2) 4 then (some (.one (.sl .i32 (a0 ++ [92, 102]) (some 0)))) else none) else (bif a1 == 13 then (bif room (List.length a0 + 2) 4 then (some (.one (.sl .i32 (a0 ++ [92, 114]) (some 0)))) else none) else (bif (splitF a1).2.2 then (bif room (List.length a0 + 6) 4 && decide (0 ≤ ((splitF a1).1)) && decide (((splitF a1).1) ≤ 65535) then (bif room (List.length (catI a0 (codeF ((splitF a1).1))) + 6) 4 && decide (0 ≤ ((splitF a1).2.1)) && decide (((splitF a1).2.1) ≤ 65535) then (some (.one (.sl .i32 (catI (catI a0 (codeF ((splitF a1).1))) (codeF ((splitF a1).2.1))) (some 0)))) else none) else none) else (bif (decide (a1 < 32)) == false then (bif a1 == 127 then (bif room (List.length a0 + 6) 4 && decide (0 ≤ a1) && decide (a1 ≤ 65535) then (some (.one (.sl .i32 (catI a0 (codeF a1)) (some 0)))) else none) else (bif room (List.length a0 + 1) 4 then (some (.one (.sl .i32 (a0 ++ [a1]) (some 0)))) else none)) else (bif room (List.length a0 + 6) 4 && decide (0 ≤ a1) && decide (a1 ≤ 65535) then (some (.one (.sl .i32 (catI a0 (codeF a1)) (some 0)))) else none))))))))) := by
  kernel_rfl

/- pergola/pergolaref06.hex4 -/
def dr255 : Nat → List Nat := fun r => match r with
  | 0 => [2]
  | 4 => [7]
  | 5 => [9, 10]
  | 6 => [8, 11, 12, 13, 14, 15]
  | 7 => [6, 16, 17, 18, 19, 20, 21, 22]
  | 8 => [0, 3, 4, 5, 8, 23]
  | _ => []
def T255 : T6 := fun f ls => match f with

  | _ => none
def cn255 : FuncId → Option Nat := fun f => match f with

  | _ => none
def E255 : Env Ty6 den6 := mk6 T255 cn255 dr255 24
def st255_4 (x0 : Int) (x3 : List UInt8) (x4 : List UInt8) (x5 : Int) : S6 := ⟨[(0, .one (.int .i32 x0)), (3, .one (.str x3)), (4, .one (.str x4)), (5, .one (.int .i64 x5))], []⟩
theorem ev255 (n : Nat) (a0 : Int) : evFn E255 n Go.Proofs.Tryd.f55 [.int .i32 a0] =
    evLoop (lbC E255 (cdAt Go.Proofs.Tryd.f55 [1, 1, 1, 0, 1, 0, 0]) 10004 n) n (st255_4 a0 [48, 49, 50, 51, 52, 53, 54, 55, 56, 57, 65, 66, 67, 68, 69, 70] [92, 117] 12) (blockK 0 (seqK (evCode E255 n (cdAt Go.Proofs.Tryd.f55 [1, 1, 1, 1])) (retK Go.Proofs.Tryd.f55.results.toList))) := by
  kernel_rfl
theorem lb255_4_eq (n : Nat) (x0 : Int) (x3 : List UInt8) (x4 : List UInt8) (x5 : Int) (K : Ex → S6 → Option E6) : lbC E255 (cdAt Go.Proofs.Tryd.f55 [1, 1, 1, 0, 1, 0, 0]) 10004 n (st255_4 x0 x3 x4 x5) K =
    bif decide (x5 ≥ 0) then (bif decide (0 ≤ x5) && decide (x5 ≤ 31) && decide (IntKind.i32 = IntKind.i32) then (match sub x3 (bits .and .i64 (IntKind.wrap .i64 (x0 / 2 ^ (Int.toNat x5))) 15) (IntKind.wrap .i64 ((bits .and .i64 (IntKind.wrap .i64 (x0 / 2 ^ (Int.toNat x5))) 15) + 1)) with | none => none | some y1 => (bif decide (List.length x4 + List.length y1 ≤ 9223372036854775807) then (K .normal (st255_4 x0 x3 (x4 ++ y1) (IntKind.wrap .i64 (x5 - 4)))) else none)) else none) else (K (.exit 0) ⟨[(0, .one (.int .i32 x0)), (3, .one (.str x3)), (4, .one (.str x4)), (5, .one (.int .i64 x5)), (8, .one (.bool (decide (x5 ≥ 0))))], []⟩) := by
  kernel_rfl
theorem ex255_4_0 (n : Nat) (x0 : Int) (x3 : List UInt8) (x4 : List UInt8) (x5 : Int) (x8 : Bool) : (blockK 0 (seqK (evCode E255 n (cdAt Go.Proofs.Tryd.f55 [1, 1, 1, 1])) (retK Go.Proofs.Tryd.f55.results.toList))) (.exit 0) ⟨[(0, .one (.int .i32 x0)), (3, .one (.str x3)), (4, .one (.str x4)), (5, .one (.int .i64 x5)), (8, .one (.bool x8))], []⟩ =
    some (.one (.str x4)) := by
  kernel_rfl

/- pergola/pergolaref06.written -/
def dr224 : Nat → List Nat := fun r => match r with
  | 0 => [2]
  | 4 => [11, 12, 13]
  | 5 => [15, 16, 22]
  | 6 => [14, 17, 18, 19, 20, 21]
  | 7 => [0, 3, 4, 5, 22, 23, 24, 25, 26, 27, 28]
  | 8 => [3, 4, 5, 14, 29, 30, 31, 32, 33]
  | 9 => [0, 34, 35, 36]
  | 10 => [34, 37, 38, 39, 40, 41, 42]
  | 11 => [8]
  | 12 => [0, 6, 7, 43, 44, 45, 46, 47, 48]
  | 13 => [0, 6, 7, 10, 43, 49, 50, 51, 52, 53, 54]
  | 14 => [9, 55]
  | _ => []
def T224 : T6 := fun f ls => match f with
  | 35 => S35 ls
  | 55 => S255 ls
  | 56 => S256 ls
  | _ => none
def cn224 : FuncId → Option Nat := fun f => match f with

  | _ => none
def E224 : Env Ty6 den6 := mk6 T224 cn224 dr224 56
def st224_4 (x0 : Int) (x3 : List UInt8) (x4 : List UInt8) (x5 : Int) : S6 := ⟨[(0, .one (.int .i32 x0)), (3, .one (.str x3)), (4, .one (.str x4)), (5, .one (.int .i64 x5))], []⟩
theorem ev224 (n : Nat) (a0 : Int) : evFn E224 n Go.Proofs.Tryd.f24 [.int .i32 a0] =
    evLoop (lbC E224 (cdAt Go.Proofs.Tryd.f24 [1, 1, 1, 0, 1, 0, 0]) 10004 n) n (st224_4 a0 [34, 92, 98, 102, 110, 114, 116] [34, 92, 8, 12, 10, 13, 9] 0) (blockK 0 (seqK (evCode E224 n (cdAt Go.Proofs.Tryd.f24 [1, 1, 1, 1])) (retK Go.Proofs.Tryd.f24.results.toList))) := by
  kernel_rfl
theorem lb224_4_eq (n : Nat) (x0 : Int) (x3 : List UInt8) (x4 : List UInt8) (x5 : Int) (K : Ex → S6 → Option E6) : lbC E224 (cdAt Go.Proofs.Tryd.f24 [1, 1, 1, 0, 1, 0, 0]) 10004 n (st224_4 x0 x3 x4 x5) K =
    bif decide (x5 < (List.length x4 : Int)) then (match idx x4 x5 with | none => none | some y1 => (bif (IntKind.wrap .i32 (UInt8.toNat y1 : Int)) == x0 then (match sub x3 x5 (IntKind.wrap .i64 (x5 + 1)) with | none => none | some y2 => (bif decide (List.length [92] + List.length y2 ≤ 9223372036854775807) then (K .ret ⟨[(2, .one (.str ([92] ++ y2)))], []⟩) else none)) else (K .normal (st224_4 x0 x3 x4 (IntKind.wrap .i64 (x5 + 1)))))) else (K (.exit 0) ⟨[(0, .one (.int .i32 x0)), (3, .one (.str x3)), (4, .one (.str x4)), (5, .one (.int .i64 x5)), (14, .one (.bool (decide (x5 < (List.length x4 : Int)))))], []⟩) := by
  kernel_rfl
theorem ex224_4_0 (n : Nat) (x0 : Int) (x3 : List UInt8) (x4 : List UInt8) (x5 : Int) (x14 : Bool) : (blockK 0 (seqK (evCode E224 n (cdAt Go.Proofs.Tryd.f24 [1, 1, 1, 1])) (retK Go.Proofs.Tryd.f24.results.toList))) (.exit 0) ⟨[(0, .one (.int .i32 x0)), (3, .one (.str x3)), (4, .one (.str x4)), (5, .one (.int .i64 x5)), (14, .one (.bool x14))], []⟩ =
    bif (decide (x0 < 32)) == false then (bif x0 == 127 then (bif decide (0 ≤ x0) && decide (x0 ≤ 65535) then (some (.one (.str (encB (codeF x0))))) else none) else (bif (splitF x0).2.2 then (bif decide (0 ≤ ((splitF x0).1)) && decide (((splitF x0).1) ≤ 65535) then (bif decide (0 ≤ ((splitF x0).2.1)) && decide (((splitF x0).2.1) ≤ 65535) then (bif decide (List.length (encB (codeF ((splitF x0).1))) + List.length (encB (codeF ((splitF x0).2.1))) ≤ 9223372036854775807) then (some (.one (.str ((encB (codeF ((splitF x0).1))) ++ (encB (codeF ((splitF x0).2.1))))))) else none) else none) else none) else (bif lim4 [x0] then (some (.one (.str ((encF [x0]).1)))) else none))) else (bif decide (0 ≤ x0) && decide (x0 ≤ 65535) then (some (.one (.str (encB (codeF x0))))) else none) := by
  kernel_rfl

/- pergola/strval.QuoteText -/
def dr207 : Nat → List Nat := fun r => match r with
  | 0 => [2, 3]
  | 1 => [11, 12, 13, 14, 15]
  | 2 => [0, 5, 16, 17, 18]
  | 3 => [4, 19]
  | 4 => [19, 20]
  | 5 => [4]
  | 7 => [24, 25, 26]
  | 8 => [8, 27, 28, 29]
  | 9 => [30]
  | 10 => [6, 10, 21, 22, 23, 24, 31, 32, 33, 34, 35, 36, 37]
  | 11 => [9, 38]
  | _ => []
def T207 : T6 := fun f ls => match f with
  | 20 => S220 ls
  | 21 => S221 ls
  | 22 => S33 ls
  | _ => none
def cn207 : FuncId → Option Nat := fun f => match f with
  | 21 => some 0
  | _ => none
def E207 : Env Ty6 den6 := mk6 T207 cn207 dr207 39
def st207_6 (x6 : List Int) (x21 : List Int) (x22 : Int) (x23 : Int) : S6 := ⟨[(6, .one (.sl .i32 x6 (some 120))), (21, .one (.sl .i32 x21 (some 1013))), (22, .one (.int .i64 x22)), (23, .one (.int .i64 x23))], [120, 1013]⟩
theorem ev207 (n : Nat) (a0 : List UInt8) : evFn E207 n Go.Proofs.Tryd.f7 [.str a0] =
    bif smS a0 then (bif decide ((((decF a0).2 : Nat) : Int) < (List.length a0 : Int)) then (some (.tup [.str [], .int .i64 1])) else (evLoop (lbC E207 (cdAt Go.Proofs.Tryd.f7 [1, 1, 1, 1, 0, 1, 0, 0]) 10006 n) n (st207_6 [34] ((decF a0).1) (List.length ((decF a0).1) : Int) 0) (blockK 0 (seqK (evCode E207 n (cdAt Go.Proofs.Tryd.f7 [1, 1, 1, 1, 1])) (retK Go.Proofs.Tryd.f7.results.toList))))) else none := by
  kernel_rfl
theorem lb207_6_eq (n : Nat) (x6 : List Int) (x21 : List Int) (x22 : Int) (x23 : Int) (K : Ex → S6 → Option E6) : lbC E207 (cdAt Go.Proofs.Tryd.f7 [1, 1, 1, 1, 0, 1, 0, 0]) 10006 n (st207_6 x6 x21 x22 x23) K =
    bif decide (x23 < x22) then (match idx x21 x23 with | none => none | some y1 => (bif room (List.length x6 + 12) 4 && validF y1 then (K .normal (st207_6 (catI x6 (wrF y1)) x21 x22 (IntKind.wrap .i64 (x23 + 1)))) else none)) else (K (.exit 0) ⟨[(6, .one (.sl .i32 x6 (some 120))), (21, .one (.sl .i32 x21 (some 1013))), (22, .one (.int .i64 x22)), (23, .one (.int .i64 x23)), (24, .one (.bool (decide (x23 < x22))))], [120, 1013]⟩) := by
  kernel_rfl
theorem ex207_6_0 (n : Nat) (x6 : List Int) (x21 : List Int) (x22 : Int) (x23 : Int) (x24 : Bool) : (blockK 0 (seqK (evCode E207 n (cdAt Go.Proofs.Tryd.f7 [1, 1, 1, 1, 1])) (retK Go.Proofs.Tryd.f7.results.toList))) (.exit 0) ⟨[(6, .one (.sl .i32 x6 (some 120))), (21, .one (.sl .i32 x21 (some 1013))), (22, .one (.int .i64 x22)), (23, .one (.int .i64 x23)), (24, .one (.bool x24))], [120, 1013]⟩ =
    bif room (List.length x6 + 1) 4 then (bif lim4 (x6 ++ [34]) then (some (.tup [.str ((encF (x6 ++ [34])).1), .int .i64 0])) else none) else none := by
  kernel_rfl

/- pergola/pergolaref06.QuoteText -/
def dr208 : Nat → List Nat := fun r => match r with
  | 0 => [2, 3]
  | 1 => [9, 10, 11, 12, 13, 14]
  | 2 => [0, 5, 15, 16, 17]
  | 3 => [4, 18]
  | 4 => [18]
  | 6 => [19, 20, 21]
  | 7 => [23, 24]
  | 8 => [22, 25, 26, 27, 28, 29]
  | 9 => [8, 30, 31, 32]
  | 10 => [4, 6, 7, 22, 33, 34]
  | _ => []
def T208 : T6 := fun f ls => match f with
  | 23 => S223 ls
  | 24 => S224 ls
  | _ => none
def cn208 : FuncId → Option Nat := fun f => match f with

  | _ => none
def E208 : Env Ty6 den6 := mk6 T208 cn208 dr208 35
def st208_6 (x4 : List Int) (x6 : List UInt8) (x7 : Int) : S6 := ⟨[(4, .one (.sl .i32 x4 (some 1012))), (6, .one (.str x6)), (7, .one (.int .i64 x7))], [1012]⟩
theorem ev208 (n : Nat) (a0 : List UInt8) : evFn E208 n Go.Proofs.Tryd.f8 [.str a0] =
    bif room (List.length a0) 1 then (bif isB (List.map (fun (c : UInt8) => (c.toNat : Int)) a0) && smL (List.map (fun (c : UInt8) => (c.toNat : Int)) a0) then (bif (((decF (toB (List.map (fun (c : UInt8) => (c.toNat : Int)) a0))).2 : Nat) : Int) != (List.length a0 : Int) then (some (.tup [.str [], .int .i64 1])) else (evLoop (lbC E208 (cdAt Go.Proofs.Tryd.f8 [1, 1, 1, 1, 0, 1, 0, 0]) 10006 n) n (st208_6 ((decF (toB (List.map (fun (c : UInt8) => (c.toNat : Int)) a0))).1) [34] 0) (blockK 0 (seqK (evCode E208 n (cdAt Go.Proofs.Tryd.f8 [1, 1, 1, 1, 1])) (retK Go.Proofs.Tryd.f8.results.toList))))) else none) else none := by
  kernel_rfl
theorem lb208_6_eq (n : Nat) (x4 : List Int) (x6 : List UInt8) (x7 : Int) (K : Ex → S6 → Option E6) : lbC E208 (cdAt Go.Proofs.Tryd.f8 [1, 1, 1, 1, 0, 1, 0, 0]) 10006 n (st208_6 x4 x6 x7) K =
    bif decide (x7 < (List.length x4 : Int)) then (match idx x4 x7 with | none => none | some y1 => (bif validF y1 then (bif decide (List.length x6 + List.length (encB (wrF y1)) ≤ 9223372036854775807) then (K .normal (st208_6 x4 (x6 ++ (encB (wrF y1))) (IntKind.wrap .i64 (x7 + 1)))) else none) else none)) else (K (.exit 0) ⟨[(4, .one (.sl .i32 x4 (some 1012))), (6, .one (.str x6)), (7, .one (.int .i64 x7)), (22, .one (.bool (decide (x7 < (List.length x4 : Int)))))], [1012]⟩) := by
  kernel_rfl
theorem ex208_6_0 (n : Nat) (x4 : List Int) (x6 : List UInt8) (x7 : Int) (x22 : Bool) : (blockK 0 (seqK (evCode E208 n (cdAt Go.Proofs.Tryd.f8 [1, 1, 1, 1, 1])) (retK Go.Proofs.Tryd.f8.results.toList))) (.exit 0) ⟨[(4, .one (.sl .i32 x4 (some 1012))), (6, .one (.str x6)), (7, .one (.int .i64 x7)), (22, .one (.bool x22))], [1012]⟩ =
    bif decide (List.length x6 + List.length [34] ≤ 9223372036854775807) then (some (.tup [.str (x6 ++ [34]), .int .i64 0])) else none := by
  kernel_rfl

end Go.Aev
end
