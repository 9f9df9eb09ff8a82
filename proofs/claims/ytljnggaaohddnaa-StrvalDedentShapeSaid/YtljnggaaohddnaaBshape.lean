/- Proved here: lemmas of an evaluator over the model's code that the claim's text uses (G3 P7 P8 P9 P10). Conditions: those that each lemma states. -/
import Derived.Test.YtljnggaaohddnaaBevE
import Derived.Test.YtljnggaaohddnaaBdedB
section
set_option linter.unusedVariables false
namespace Go.Aev
open Go.Proofs
/- pergola/pergolalaw06.StrvalDedentShape -/
def dr6 : Nat → List Nat := fun r => match r with
  | 0 => [2]
  | 1 => [13, 14, 15, 16, 17]
  | 2 => [3, 18, 19, 20, 21, 22]
  | 3 => [0, 23]
  | 4 => [23, 24, 25, 26]
  | 5 => [27, 28]
  | 6 => [29, 30, 31, 32, 33, 34, 35, 36, 37, 38, 39, 40, 41, 42, 43]
  | 7 => [44, 45, 46]
  | 8 => [47, 48, 49, 50, 51, 52, 53, 54, 55, 56, 57, 58, 59, 60, 61, 62, 63]
  | 9 => [64, 65, 66]
  | 10 => [64, 67, 68, 69, 70, 71]
  | 11 => [0, 3, 4, 5, 72]
  | 12 => [72]
  | 14 => [73]
  | 15 => [74, 75]
  | 16 => [9, 10, 77, 78, 117, 129]
  | 17 => [76, 79, 80, 81, 82, 83, 84, 85, 86, 87, 88, 89, 90, 91]
  | 18 => [92, 93, 94, 95, 96, 97, 98, 99, 100, 101, 102, 103, 104, 105, 106, 107, 108, 109, 110, 111, 112]
  | 19 => [0, 3, 4, 5, 6, 7, 8, 9, 113]
  | 20 => [113, 114]
  | 21 => [9, 115, 116]
  | 22 => [0, 3, 4, 5, 6, 7, 8, 117]
  | 23 => [115, 118, 119, 120, 121, 122]
  | 24 => [123, 124, 125, 126, 127, 128]
  | 25 => [129, 130, 131, 132, 133, 134, 135, 136, 137, 138, 139, 140]
  | 26 => [0, 3, 4, 5, 6, 7, 8, 9, 10, 141]
  | 27 => [6, 141, 142]
  | 28 => [143]
  | 29 => [143, 144]
  | 30 => [9, 10, 145, 146, 147, 148, 149, 150]
  | 31 => [7, 8, 76, 151, 152, 153, 154, 155]
  | 32 => [0, 3, 4, 5, 6, 156, 157, 158]
  | 33 => [156, 159, 160]
  | 34 => [161, 162]
  | 35 => [164, 165, 187]
  | 36 => [163, 166, 167, 168, 169, 170, 171, 172, 173, 174, 175, 176, 177, 178]
  | 37 => [12, 179, 180, 181, 182, 183, 184, 185, 186]
  | 38 => [0, 3, 4, 5, 6, 11, 187]
  | 39 => [0, 3, 4, 5, 6, 11, 163]
  | 10008 => [44]
  | _ => []
def T06 : T6 := fun f ls => match f with
  | 12 => S12 ls
  | 13 => S13 ls
  | 14 => S14 ls
  | 15 => S15 ls
  | 17 => S17 ls
  | _ => none
def cn6 : FuncId → Option Nat := fun f => match f with

  | _ => none
def E06 : Env Ty6 den6 := mk6 T06 cn6 dr6 188
def st6_6 (x0 : List (List Int)) (x3 : List (List Int)) (x4 : Int) (x5 : Int) : S6 := ⟨[(0, .one (.sl .rs x0 none)), (3, .one (.sl .rs x3 (some 1026))), (4, .one (.int .i64 x4)), (5, .one (.int .i64 x5))], [1026]⟩
def st6_8 (x0 : List (List Int)) (x3 : List (List Int)) (x4 : Int) (x5 : Int) : S6 := ⟨[(0, .one (.sl .rs x0 none)), (3, .one (.sl .rs x3 (some 1026))), (4, .one (.int .i64 x4)), (5, .one (.int .i64 x5))], [1026]⟩
def st6_15 (x0 : List (List Int)) (x3 : List (List Int)) (x4 : Int) (x5 : Int) (x6 : Int) (x7 : Bool) (x8 : Int) : S6 := ⟨[(0, .one (.sl .rs x0 none)), (3, .one (.sl .rs x3 (some 1026))), (4, .one (.int .i64 x4)), (5, .one (.int .i64 x5)), (6, .one (.int .i64 x6)), (7, .one (.bool x7)), (8, .one (.int .i64 x8))], [1026]⟩
def st6_34 (x0 : List (List Int)) (x3 : List (List Int)) (x4 : Int) (x5 : Int) (x6 : Int) (x11 : Int) : S6 := ⟨[(0, .one (.sl .rs x0 none)), (3, .one (.sl .rs x3 (some 1026))), (4, .one (.int .i64 x4)), (5, .one (.int .i64 x5)), (6, .one (.int .i64 x6)), (11, .one (.int .i64 x11))], [1026]⟩
theorem ev6 (n : Nat) (a0 : List (List Int)) : evFn E06 n Go.Proofs.Try.f6 [.sl .rs a0 none] =
    bif room (List.length [32, 97]) 1 then (bif room (List.length [32, 32, 98]) 1 then (bif room (List.length [32]) 1 then (bif limL [runes6 [32, 97], [], runes6 [32, 32, 98], runes6 [32]] then (bif room (List.length [32, 97]) 1 then (bif room (List.length [98]) 1 then (bif limL (dedentF [runes6 [32, 97], [], runes6 [32, 32, 98], runes6 [32]]) && limL [runes6 [32, 97], [], runes6 [98]] then (bif !(sameF (dedentF [runes6 [32, 97], [], runes6 [32, 32, 98], runes6 [32]]) [runes6 [32, 97], [], runes6 [98]]) then (some (.one (.bool false))) else (bif limL a0 then (bif limL a0 then (evLoop (lbC E06 (cdAt Go.Proofs.Try.f6 [1, 1, 1, 1, 1, 0, 0, 0]) 10006 n) n (st6_6 a0 (dedentF a0) 0 (List.length a0 : Int)) (blockK 0 (seqK (evCode E06 n (cdAt Go.Proofs.Try.f6 [1, 1, 1, 1, 1, 1])) (retK Go.Proofs.Try.f6.results.toList)))) else none) else none)) else none) else none) else none) else none) else none) else none) else none := by
  kernel_rfl
theorem lb6_6_eq (n : Nat) (x0 : List (List Int)) (x3 : List (List Int)) (x4 : Int) (x5 : Int) (K : Ex → S6 → Option E6) : lbC E06 (cdAt Go.Proofs.Try.f6 [1, 1, 1, 1, 1, 0, 0, 0]) 10006 n (st6_6 x0 x3 x4 x5) K =
    bif (decide (x4 < x5)) == true then (match idx x0 x4 with | none => none | some y1 => (bif lim4 y1 then (match idx x0 x4 with | none => none | some y2 => (bif (indentF y1) == (List.length y2 : Int) then (K .normal (st6_6 x0 x3 (IntKind.wrap .i64 (x4 + 1)) x5)) else (K (.exit 0) ⟨[(0, .one (.sl .rs x0 none)), (3, .one (.sl .rs x3 (some 1026))), (4, .one (.int .i64 x4)), (5, .one (.int .i64 x5)), (44, .one (.bool ((indentF y1) == (List.length y2 : Int))))], [1026]⟩))) else none)) else (K (.exit 0) ⟨[(0, .one (.sl .rs x0 none)), (3, .one (.sl .rs x3 (some 1026))), (4, .one (.int .i64 x4)), (5, .one (.int .i64 x5)), (44, .one (.bool false))], [1026]⟩) := by
  kernel_rfl
theorem ex6_6_0 (n : Nat) (x0 : List (List Int)) (x3 : List (List Int)) (x4 : Int) (x5 : Int) (x44 : Bool) : (blockK 0 (seqK (evCode E06 n (cdAt Go.Proofs.Try.f6 [1, 1, 1, 1, 1, 1])) (retK Go.Proofs.Try.f6.results.toList))) (.exit 0) ⟨[(0, .one (.sl .rs x0 none)), (3, .one (.sl .rs x3 (some 1026))), (4, .one (.int .i64 x4)), (5, .one (.int .i64 x5)), (44, .one (.bool x44))], [1026]⟩ =
    evLoop (lbC E06 (cdAt Go.Proofs.Try.f6 [1, 1, 1, 1, 1, 1, 0, 0, 0]) 10008 n) n (st6_8 x0 x3 x4 x5) (blockK 2 (seqK (evCode E06 n (cdAt Go.Proofs.Try.f6 [1, 1, 1, 1, 1, 1, 1])) (retK Go.Proofs.Try.f6.results.toList))) := by
  kernel_rfl
theorem ex6_6_0_2 (n : Nat) (x0 : List (List Int)) (x3 : List (List Int)) (x4 : Int) (x5 : Int) : (blockK 0 (seqK (evCode E06 n (cdAt Go.Proofs.Try.f6 [1, 1, 1, 1, 1, 1])) (retK Go.Proofs.Try.f6.results.toList))) (.exit 0) ⟨[(0, .one (.sl .rs x0 none)), (3, .one (.sl .rs x3 (some 1026))), (4, .one (.int .i64 x4)), (5, .one (.int .i64 x5)), (44, .one (.bool false))], [1026]⟩ =
    evLoop (lbC E06 (cdAt Go.Proofs.Try.f6 [1, 1, 1, 1, 1, 1, 0, 0, 0]) 10008 n) n (st6_8 x0 x3 x4 x5) (blockK 2 (seqK (evCode E06 n (cdAt Go.Proofs.Try.f6 [1, 1, 1, 1, 1, 1, 1])) (retK Go.Proofs.Try.f6.results.toList))) := by
  kernel_rfl
theorem lb6_8_eq (n : Nat) (x0 : List (List Int)) (x3 : List (List Int)) (x4 : Int) (x5 : Int) (K : Ex → S6 → Option E6) : lbC E06 (cdAt Go.Proofs.Try.f6 [1, 1, 1, 1, 1, 1, 0, 0, 0]) 10008 n (st6_8 x0 x3 x4 x5) K =
    bif (decide (x5 > x4)) == true then (match idx x0 (IntKind.wrap .i64 (x5 - 1)) with | none => none | some y3 => (bif lim4 y3 then (match idx x0 (IntKind.wrap .i64 (x5 - 1)) with | none => none | some y4 => (bif (indentF y3) == (List.length y4 : Int) then (K .normal (st6_8 x0 x3 x4 (IntKind.wrap .i64 (x5 - 1)))) else (K (.exit 2) ⟨[(0, .one (.sl .rs x0 none)), (3, .one (.sl .rs x3 (some 1026))), (4, .one (.int .i64 x4)), (5, .one (.int .i64 x5)), (64, .one (.bool ((indentF y3) == (List.length y4 : Int))))], [1026]⟩))) else none)) else (K (.exit 2) ⟨[(0, .one (.sl .rs x0 none)), (3, .one (.sl .rs x3 (some 1026))), (4, .one (.int .i64 x4)), (5, .one (.int .i64 x5)), (64, .one (.bool false))], [1026]⟩) := by
  kernel_rfl
theorem ex6_8_2 (n : Nat) (x0 : List (List Int)) (x3 : List (List Int)) (x4 : Int) (x5 : Int) (x64 : Bool) : (blockK 2 (seqK (evCode E06 n (cdAt Go.Proofs.Try.f6 [1, 1, 1, 1, 1, 1, 1])) (retK Go.Proofs.Try.f6.results.toList))) (.exit 2) ⟨[(0, .one (.sl .rs x0 none)), (3, .one (.sl .rs x3 (some 1026))), (4, .one (.int .i64 x4)), (5, .one (.int .i64 x5)), (64, .one (.bool x64))], [1026]⟩ =
    bif (List.length x3 : Int) != (IntKind.wrap .i64 (x5 - x4)) then (some (.one (.bool false))) else (evLoop (lbC E06 (cdAt Go.Proofs.Try.f6 [1, 1, 1, 1, 1, 1, 1, 1, 1, 1, 0, 1, 0, 0]) 10015 n) n (st6_15 x0 x3 x4 x5 (-1) true x4) (blockK 4 (seqK (evCode E06 n (cdAt Go.Proofs.Try.f6 [1, 1, 1, 1, 1, 1, 1, 1, 1, 1, 1])) (retK Go.Proofs.Try.f6.results.toList)))) := by
  kernel_rfl
theorem ex6_8_2_2 (n : Nat) (x0 : List (List Int)) (x3 : List (List Int)) (x4 : Int) (x5 : Int) : (blockK 2 (seqK (evCode E06 n (cdAt Go.Proofs.Try.f6 [1, 1, 1, 1, 1, 1, 1])) (retK Go.Proofs.Try.f6.results.toList))) (.exit 2) ⟨[(0, .one (.sl .rs x0 none)), (3, .one (.sl .rs x3 (some 1026))), (4, .one (.int .i64 x4)), (5, .one (.int .i64 x5)), (64, .one (.bool false))], [1026]⟩ =
    bif (List.length x3 : Int) != (IntKind.wrap .i64 (x5 - x4)) then (some (.one (.bool false))) else (evLoop (lbC E06 (cdAt Go.Proofs.Try.f6 [1, 1, 1, 1, 1, 1, 1, 1, 1, 1, 0, 1, 0, 0]) 10015 n) n (st6_15 x0 x3 x4 x5 (-1) true x4) (blockK 4 (seqK (evCode E06 n (cdAt Go.Proofs.Try.f6 [1, 1, 1, 1, 1, 1, 1, 1, 1, 1, 1])) (retK Go.Proofs.Try.f6.results.toList)))) := by
  kernel_rfl
theorem lb6_15_eq (n : Nat) (x0 : List (List Int)) (x3 : List (List Int)) (x4 : Int) (x5 : Int) (x6 : Int) (x7 : Bool) (x8 : Int) (K : Ex → S6 → Option E6) : lbC E06 (cdAt Go.Proofs.Try.f6 [1, 1, 1, 1, 1, 1, 1, 1, 1, 1, 0, 1, 0, 0]) 10015 n (st6_15 x0 x3 x4 x5 x6 x7 x8) K =
    bif decide (x8 < x5) then (match idx x0 x8 with | none => none | some y5 => (match idx x3 (IntKind.wrap .i64 (x8 - x4)) with | none => none | some y6 => (bif (decide ((IntKind.wrap .i64 ((List.length y5 : Int) - (List.length y6 : Int))) < 0)) == false then (match sub x3 (IntKind.wrap .i64 (x8 - x4)) (IntKind.wrap .i64 ((IntKind.wrap .i64 (x8 - x4)) + 1)) with | none => none | some y7 => (match idx x0 x8 with | none => none | some y8 => (match sub y8 (IntKind.wrap .i64 ((List.length y5 : Int) - (List.length y6 : Int))) (List.length y8 : Int) with | none => none | some y9 => (bif limL y7 && limL [y9] then (bif !(sameF y7 [y9]) then (K .ret ⟨[(2, .one (.bool false))], []⟩) else (bif x8 == 0 then (bif (IntKind.wrap .i64 ((List.length y5 : Int) - (List.length y6 : Int))) != 0 then (K .ret ⟨[(2, .one (.bool false))], []⟩) else (K .normal (st6_15 x0 x3 x4 x5 x6 x7 (IntKind.wrap .i64 (x8 + 1))))) else (match idx x0 x8 with | none => none | some y10 => (bif lim4 y10 then (match idx x0 x8 with | none => none | some y11 => (bif decide ((indentF y10) < (List.length y11 : Int)) then (bif (decide ((IntKind.wrap .i64 ((List.length y5 : Int) - (List.length y6 : Int))) > (indentF y10))) == false then (bif (decide (x6 ≥ 0)) == true then (bif (IntKind.wrap .i64 ((List.length y5 : Int) - (List.length y6 : Int))) != x6 then (K .ret ⟨[(2, .one (.bool false))], []⟩) else (bif decide (x6 < 0) then (K .normal (st6_15 x0 x3 x4 x5 (IntKind.wrap .i64 ((List.length y5 : Int) - (List.length y6 : Int))) ((IntKind.wrap .i64 ((List.length y5 : Int) - (List.length y6 : Int))) == (indentF y10)) (IntKind.wrap .i64 (x8 + 1)))) else (bif x7 == false then (K .normal (st6_15 x0 x3 x4 x5 (IntKind.wrap .i64 ((List.length y5 : Int) - (List.length y6 : Int))) ((IntKind.wrap .i64 ((List.length y5 : Int) - (List.length y6 : Int))) == (indentF y10)) (IntKind.wrap .i64 (x8 + 1)))) else (K .normal (st6_15 x0 x3 x4 x5 (IntKind.wrap .i64 ((List.length y5 : Int) - (List.length y6 : Int))) true (IntKind.wrap .i64 (x8 + 1))))))) else (bif decide (x6 < 0) then (K .normal (st6_15 x0 x3 x4 x5 (IntKind.wrap .i64 ((List.length y5 : Int) - (List.length y6 : Int))) ((IntKind.wrap .i64 ((List.length y5 : Int) - (List.length y6 : Int))) == (indentF y10)) (IntKind.wrap .i64 (x8 + 1)))) else (bif x7 == false then (K .normal (st6_15 x0 x3 x4 x5 (IntKind.wrap .i64 ((List.length y5 : Int) - (List.length y6 : Int))) ((IntKind.wrap .i64 ((List.length y5 : Int) - (List.length y6 : Int))) == (indentF y10)) (IntKind.wrap .i64 (x8 + 1)))) else (K .normal (st6_15 x0 x3 x4 x5 (IntKind.wrap .i64 ((List.length y5 : Int) - (List.length y6 : Int))) true (IntKind.wrap .i64 (x8 + 1))))))) else (K .ret ⟨[(2, .one (.bool false))], []⟩)) else (K .normal (st6_15 x0 x3 x4 x5 x6 x7 (IntKind.wrap .i64 (x8 + 1)))))) else none)))) else none)))) else (K .ret ⟨[(2, .one (.bool false))], []⟩)))) else (K (.exit 4) ⟨[(0, .one (.sl .rs x0 none)), (3, .one (.sl .rs x3 (some 1026))), (4, .one (.int .i64 x4)), (5, .one (.int .i64 x5)), (6, .one (.int .i64 x6)), (7, .one (.bool x7)), (8, .one (.int .i64 x8)), (76, .one (.bool (decide (x8 < x5))))], [1026]⟩) := by
  kernel_rfl
theorem ex6_15_4 (n : Nat) (x0 : List (List Int)) (x3 : List (List Int)) (x4 : Int) (x5 : Int) (x6 : Int) (x7 : Bool) (x8 : Int) (x76 : Bool) : (blockK 4 (seqK (evCode E06 n (cdAt Go.Proofs.Try.f6 [1, 1, 1, 1, 1, 1, 1, 1, 1, 1, 1])) (retK Go.Proofs.Try.f6.results.toList))) (.exit 4) ⟨[(0, .one (.sl .rs x0 none)), (3, .one (.sl .rs x3 (some 1026))), (4, .one (.int .i64 x4)), (5, .one (.int .i64 x5)), (6, .one (.int .i64 x6)), (7, .one (.bool x7)), (8, .one (.int .i64 x8)), (76, .one (.bool x76))], [1026]⟩ =
    bif (decide (x6 < 0)) == false then (bif !x7 then (some (.one (.bool (decide (x6 < 0))))) else (evLoop (lbC E06 (cdAt Go.Proofs.Try.f6 [1, 1, 1, 1, 1, 1, 1, 1, 1, 1, 1, 1, 0, 1, 0, 0]) 10034 n) n (st6_34 x0 x3 x4 x5 x6 (if 1 > x4 then 1 else x4)) (blockK 6 (seqK (evCode E06 n (cdAt Go.Proofs.Try.f6 [1, 1, 1, 1, 1, 1, 1, 1, 1, 1, 1, 1, 1])) (retK Go.Proofs.Try.f6.results.toList))))) else (some (.one (.bool (decide (x6 < 0))))) := by
  kernel_rfl
theorem lb6_34_eq (n : Nat) (x0 : List (List Int)) (x3 : List (List Int)) (x4 : Int) (x5 : Int) (x6 : Int) (x11 : Int) (K : Ex → S6 → Option E6) : lbC E06 (cdAt Go.Proofs.Try.f6 [1, 1, 1, 1, 1, 1, 1, 1, 1, 1, 1, 1, 0, 1, 0, 0]) 10034 n (st6_34 x0 x3 x4 x5 x6 x11) K =
    bif decide (x11 < x5) then (match idx x0 x11 with | none => none | some y12 => (match idx x3 (IntKind.wrap .i64 (x11 - x4)) with | none => none | some y13 => (match idx x0 x11 with | none => none | some y14 => (bif (IntKind.wrap .i64 ((List.length y12 : Int) - (List.length y13 : Int))) != (if (List.length y14 : Int) < x6 then (List.length y14 : Int) else x6) then (K .ret ⟨[(2, .one (.bool false))], []⟩) else (K .normal (st6_34 x0 x3 x4 x5 x6 (IntKind.wrap .i64 (x11 + 1)))))))) else (K (.exit 6) ⟨[(0, .one (.sl .rs x0 none)), (3, .one (.sl .rs x3 (some 1026))), (4, .one (.int .i64 x4)), (5, .one (.int .i64 x5)), (6, .one (.int .i64 x6)), (11, .one (.int .i64 x11)), (163, .one (.bool (decide (x11 < x5))))], [1026]⟩) := by
  kernel_rfl
theorem ex6_34_6 (n : Nat) (x0 : List (List Int)) (x3 : List (List Int)) (x4 : Int) (x5 : Int) (x6 : Int) (x11 : Int) (x163 : Bool) : (blockK 6 (seqK (evCode E06 n (cdAt Go.Proofs.Try.f6 [1, 1, 1, 1, 1, 1, 1, 1, 1, 1, 1, 1, 1])) (retK Go.Proofs.Try.f6.results.toList))) (.exit 6) ⟨[(0, .one (.sl .rs x0 none)), (3, .one (.sl .rs x3 (some 1026))), (4, .one (.int .i64 x4)), (5, .one (.int .i64 x5)), (6, .one (.int .i64 x6)), (11, .one (.int .i64 x11)), (163, .one (.bool x163))], [1026]⟩ =
    some (.one (.bool true)) := by
  kernel_rfl

end Go.Aev
end

section
set_option linter.unusedVariables false
namespace Go.Aev
open Go.Proofs

section
variable {α : Type} (p : α → Bool)
theorem tw_get : ∀ {l : List α} {j : Nat} (h : j < tw p l), p (l[j]'(Nat.lt_of_lt_of_le h (tw_le p l))) = true
  | [], j, h => by simp [tw] at h
  | x :: l, j, h => by
    rw [tw_cons] at h
    cases hx : p x with
    | false => rw [hx] at h; simp at h
    | true =>
      rw [hx] at h
      simp only [if_true] at h
      cases j with
      | zero => exact hx
      | succ j => exact tw_get (l := l) (j := j) (by omega)
theorem rt_get : ∀ (n : Nat) {l : List α} (_ : n ≤ l.length) {j : Nat} (_ : rt p (l.take n) ≤ j) (h2 : j < n), p (l[j]'(by omega)) = true
  | 0, l, _, j, _, h2 => by omega
  | n + 1, l, hn, j, h1, h2 => by
    rw [rt_take p (show n < l.length by omega)] at h1
    split at h1
    · rename_i hp
      by_cases hj : j = n
      · subst hj; exact hp
      · exact rt_get n (by omega) h1 (by omega)
    · omega
end

theorem wrapSub {i j : Nat} (h : j ≤ i) (h2 : i < 9223372036854775807) : IntKind.wrap .i64 ((i : Int) - (j : Int)) = ((i - j : Nat) : Int) := by
  rw [wrap64 (by omega) (by omega)]; omega

theorem leastF_attained : ∀ (ls : List (List Int)) (m : Int), leastF m ls = m ∨ ∃ l ∈ ls, blankF l = false ∧ indentF l = leastF m ls
  | [], m => .inl rfl
  | x :: ls, m => by
    rw [leastF_cons]
    generalize hm : (if !blankF x && (decide (m < 0) || decide (indentF x < m)) then indentF x else m) = m'
    rcases leastF_attained ls m' with h | ⟨l, hl, h1, h2⟩
    · rw [h]
      split at hm
      · rename_i hc
        right
        simp only [Bool.and_eq_true, Bool.not_eq_true'] at hc
        exact ⟨x, by simp, hc.1, hm⟩
      · left; exact hm.symm
    · exact .inr ⟨l, by simp [hl], h1, h2⟩

/-- What the law knows of Dedent's answer. -/
structure Got (ls : List (List Int)) (f t c : Nat) : Prop where
  hf : f = tw blankF ls
  ht : t = rt blankF (ls.drop f)
  hc : c = (commonF ls).toNat
  le : f + t ≤ ls.length
  len : (dedentF ls).length = t
  get : ∀ i (h1 : f ≤ i) (h2 : i < f + t), (dedentF ls)[i - f]? = some (if 0 < i then (ls[i]'(by omega)).drop c else ls[i]'(by omega))
  first : ∀ i (h : i < f), blankF (ls[i]'(by omega)) = true
  last : ∀ i (h1 : f + t ≤ i) (h2 : i < ls.length), blankF ls[i] = true
  low : ∀ i (h1 : 0 < i) (h2 : i < ls.length), blankF ls[i] = false → c ≤ indentN ls[i]
  met : (∃ i, ∃ h : i < ls.length, 0 < i ∧ blankF ls[i] = false) → ∃ i, ∃ h : i < ls.length, 0 < i ∧ blankF ls[i] = false ∧ indentN ls[i] = c

theorem got_of (ls : List (List Int)) : ∃ f t c, Got ls f t c := by
  refine ⟨tw blankF ls, rt blankF (ls.drop (tw blankF ls)), (commonF ls).toNat, ?_⟩
  have h1 : dedentF ls = ((cutF ls).drop (tw blankF ls)).take (rt blankF (ls.drop (tw blankF ls))) := (trim_eq (cut_blank ls)).symm
  have hf := tw_le blankF ls
  have ht := rt_le blankF (ls.drop (tw blankF ls))
  rw [List.length_drop] at ht
  have hlc : (cutF ls).length = ls.length := by rw [cutF_eq, cutC_length]
  have hs := leastF_spec (ls.drop 1) (-1)
  have hcm : ∀ l ∈ ls.drop 1, blankF l = false → commonF ls = leastF (-1) (ls.drop 1) := by
    intro l hl hb
    have := hs.2 l hl hb
    unfold commonF
    dsimp only
    rw [if_neg (by omega)]
  have hmem : ∀ i (h1 : 0 < i) (h2 : i < ls.length), ls[i] ∈ ls.drop 1 := by
    intro i h1 h2
    have : (ls.drop 1)[i - 1]? = some ls[i] := by
      rw [List.getElem?_drop]
      have e : 1 + (i - 1) = i := by omega
      rw [e, List.getElem?_eq_getElem h2]
    exact List.mem_of_getElem? this
  have hget : ∀ i (hi1 : tw blankF ls ≤ i) (hi2 : i < tw blankF ls + rt blankF (ls.drop (tw blankF ls))) (hil : i < ls.length), (dedentF ls)[i - tw blankF ls]? = some (if 0 < i then ls[i].drop (commonF ls).toNat else ls[i]) := by
    intro i hi1 hi2 hil
    rw [h1, List.getElem?_take, if_pos (by omega), List.getElem?_drop]
    have e : tw blankF ls + (i - tw blankF ls) = i := by omega
    rw [e, List.getElem?_eq_getElem (by rw [hlc]; exact hil)]
    have h2 : cutF ls = cutC (commonF ls) ls := rfl
    simp only [h2]
    rw [cutC_get hil]
  refine ⟨rfl, rfl, rfl, by omega, ?_, ?_, ?_, ?_, ?_, ?_⟩
  · rw [h1, List.length_take, List.length_drop, hlc]; omega
  · exact fun i hi1 hi2 => hget i hi1 hi2 _
  · intro i hi; exact tw_get blankF hi
  · intro i hi1 hi2
    have h2 := rt_get blankF (ls.drop (tw blankF ls)).length (Nat.le_refl _) (j := i - tw blankF ls) (by rw [List.take_of_length_le (Nat.le_refl _)]; omega) (by rw [List.length_drop]; omega)
    rw [List.getElem_drop] at h2
    have e : tw blankF ls + (i - tw blankF ls) = i := by omega
    simpa [e] using h2
  · intro i hi1 hi2 hb
    have h2 := hs.2 _ (hmem i hi1 hi2) hb
    rw [hcm _ (hmem i hi1 hi2) hb]
    unfold indentF at h2
    omega
  · rintro ⟨i, hi, h0, hb⟩
    have hge := hs.2 _ (hmem i h0 hi) hb
    rcases leastF_attained (ls.drop 1) (-1) with h2 | ⟨l, hl, hlb, hle⟩
    · omega
    · obtain ⟨j, hj, rfl⟩ := List.getElem_of_mem hl
      rw [List.length_drop] at hj
      have e : (ls.drop 1)[j]'(by rw [List.length_drop]; exact hj) = ls[j + 1]'(by omega) := by
        rw [List.getElem_drop]; congr 1; omega
      rw [e] at hlb hle
      refine ⟨j + 1, by omega, by omega, hlb, ?_⟩
      rw [hcm _ (hmem i h0 hi) hb]
      unfold indentF at hle
      omega
end Go.Aev
end

section
set_option linter.unusedVariables false
namespace Go.Aev
open Go.Proofs

/-- How many characters are gone from line i. -/
def gone (ls : List (List Int)) (c i : Nat) : Nat := if 0 < i then min c (ls.getD i []).length else 0

structure At (ls : List (List Int)) (f c i : Nat) (y D : List Int) (k : Nat) : Prop where
  idx1 : idx ls (i : Int) = some y
  idx2 : idx (dedentF ls) ((i - f : Nat) : Int) = some D
  sub1 : sub (dedentF ls) ((i - f : Nat) : Int) ((i - f + 1 : Nat) : Int) = some [D]
  sub2 : sub y (k : Int) (y.length : Int) = some D
  sub : IntKind.wrap .i64 ((i : Int) - (f : Int)) = ((i - f : Nat) : Int)
  suc : IntKind.wrap .i64 (((i - f : Nat) : Int) + 1) = ((i - f + 1 : Nat) : Int)
  next : IntKind.wrap .i64 ((i : Int) + 1) = ((i + 1 : Nat) : Int)
  gone : IntKind.wrap .i64 ((y.length : Int) - (D.length : Int)) = (k : Int)
  l1 : limL [D] = true
  l2 : lim4 y = true
  k : k = if 0 < i then min c y.length else 0

theorem at_of {ls : List (List Int)} (hl : limL ls = true) {f t c : Nat} (G : Got ls f t c) {i : Nat} (h1 : f ≤ i) (h2 : i < f + t) :
    ∃ D k, At ls f c i (ls[i]'(by have := G.le; omega)) D k := by
  have hle := G.le
  have hil : i < ls.length := by omega
  have hlen := limL_len hl
  have hy := limL_mem hl (List.getElem_mem hil)
  have hy4 := lim4_iff.1 hy
  have hg := G.get i h1 h2
  have hgl := G.len
  refine ⟨if 0 < i then ls[i].drop c else ls[i], if 0 < i then min c ls[i].length else 0, idx_lt hil, ?_, ?_, ?_, wrapSub h1 (by omega), wrapSucc (by omega), wrapSucc (by omega), ?_, ?_, hy, rfl⟩
  · rw [idx_nat, hg]
  · rw [sub_nat (by omega) (by omega)]
    have e : i - f + 1 - (i - f) = 1 := by omega
    rw [e]
    have hlt : i - f < (dedentF ls).length := by omega
    rw [List.getElem?_eq_getElem hlt] at hg
    rw [List.drop_eq_getElem_cons hlt, List.take_succ_cons, List.take_zero]
    simp only [Option.some.injEq] at hg
    rw [hg]
  · by_cases h0 : 0 < i
    · simp only [if_pos h0]
      rw [sub_from (Nat.min_le_right _ _)]
      congr 1
      rcases Nat.le_total c ls[i].length with h | h
      · rw [Nat.min_eq_left h]
      · rw [Nat.min_eq_right h, List.drop_eq_nil_of_le h, List.drop_eq_nil_of_le (Nat.le_refl _)]
    · simp only [if_neg h0]; exact sub_all
  · by_cases h0 : 0 < i
    · simp only [if_pos h0, List.length_drop]
      rw [wrap64 (by omega) (by omega)]
      omega
    · simp only [if_neg h0]
      rw [wrap64 (by omega) (by omega)]
      omega
  · have : lim4 (if 0 < i then ls[i].drop c else ls[i]) = true := by
      split
      · rw [lim4_iff, List.length_drop]; omega
      · exact hy
    unfold limL
    simp [this, room]

theorem shape_last (ls : List (List Int)) (hl : limL ls = true) {f t c : Nat} (G : Got ls f t c) (n : Nat) (hn : ls.length < n) (i0 : Nat) (hi0 : f ≤ i0 ∧ 0 < i0) (hi1 : i0 ≤ f + t + 1) :
    evLoop (lbC E06 (cdAt Try.f6 [1, 1, 1, 1, 1, 1, 1, 1, 1, 1, 1, 1, 0, 1, 0, 0]) 10034 n) n (st6_34 ls (dedentF ls) f ((f + t : Nat) : Int) c i0) (blockK 6 (seqK (evCode E06 n (cdAt Try.f6 [1, 1, 1, 1, 1, 1, 1, 1, 1, 1, 1, 1, 1])) (retK Try.f6.results.toList))) = some (.one (.bool true)) := by
  have hlen := limL_len hl
  have hle := G.le
  refine (loop_rule (fun i : Nat => st6_34 ls (dedentF ls) f ((f + t : Nat) : Int) c i) (fun i => f ≤ i ∧ 0 < i) (fun i => f + t - i) (fun _ => (some (.one (.bool true)) : Option E6)) ?_ n i0 hi0 (by omega))
  rintro i ⟨h1, h0⟩ K hke hkr hnx
  rw [lb6_34_eq]
  simp only [bT, bF, Bool.cond_decide]
  by_cases h : i < f + t
  · obtain ⟨D, k, A⟩ := at_of hl G h1 h
    rw [if_pos (by omega)]
    simp only [A.idx1, A.sub, A.idx2, A.gone, A.next]
    have hk := A.k
    rw [if_pos h0] at hk
    have hc : (if ((ls[i]'(by omega)).length : Int) < (c : Int) then ((ls[i]'(by omega)).length : Int) else (c : Int)) = (k : Int) := by
      split <;> omega
    rw [hc]
    simp only [bne_self_eq_false, cond_false]
    exact hnx (i + 1) ⟨by omega, by omega⟩ (by omega)
  · rw [if_neg (by omega), hke, ex6_34_6]
end Go.Aev
end

section
set_option linter.unusedVariables false
namespace Go.Aev
open Go.Proofs

theorem shape_main (ls : List (List Int)) (hl : limL ls = true) {f t c : Nat} (G : Got ls f t c) (n : Nat) (hn : ls.length + 1 < n) :
    evLoop (lbC E06 (cdAt Try.f6 [1, 1, 1, 1, 1, 1, 1, 1, 1, 1, 0, 1, 0, 0]) 10015 n) n (st6_15 ls (dedentF ls) f ((f + t : Nat) : Int) (-1) true f) (blockK 4 (seqK (evCode E06 n (cdAt Try.f6 [1, 1, 1, 1, 1, 1, 1, 1, 1, 1, 1])) (retK Try.f6.results.toList))) = some (.one (.bool true)) := by
  have hlen := limL_len hl
  have hle := G.le
  refine (loop_rule (fun x : Int × Bool × Nat => st6_15 ls (dedentF ls) f ((f + t : Nat) : Int) x.1 x.2.1 x.2.2)
    (fun x => f ≤ x.2.2 ∧ x.2.2 ≤ f + t ∧ ((x.1 = -1 ∧ x.2.1 = true ∧ ∀ j (h : j < ls.length), 0 < j → j < x.2.2 → blankF ls[j] = true) ∨ (x.1 = (c : Int) ∧ (x.2.1 = true ∨ ∃ j, ∃ h : j < ls.length, x.2.2 ≤ j ∧ j < f + t ∧ 0 < j ∧ blankF ls[j] = false ∧ indentN ls[j] = c))))
    (fun x => f + t - x.2.2) (fun _ => (some (.one (.bool true)) : Option E6)) ?_ n (-1, true, f) ⟨Nat.le_refl _, by simp, .inl ⟨rfl, rfl, fun j h _ hj => G.first j hj⟩⟩ (by dsimp only; omega))
  rintro ⟨cut, tch, i⟩ ⟨h1, h2, hinv⟩ K hke hkr hnx
  dsimp only at h1 h2 hinv hnx ⊢
  rw [lb6_15_eq]
  simp only [bT, bF, Bool.cond_decide]
  by_cases h : i < f + t
  · obtain ⟨D, k, A⟩ := at_of hl G h1 h
    have hil : i < ls.length := by omega
    rw [if_pos (by omega)]
    have hneg : decide ((k : Int) < 0) = false := by simp
    have hsame : sameF [D] [D] = true := by simp [sameF]
    simp only [A.idx1, A.sub, A.idx2, A.gone, A.next, A.suc, A.sub1, A.sub2, A.l1, A.l2, hsame, Bool.and_self, Bool.not_true, cond_false, cond_true]
    have hk := A.k
    by_cases h0 : i = 0
    · subst h0
      simp only [Nat.lt_irrefl, if_false] at hk
      subst hk
      refine (hnx (cut, tch, 0 + 1) ⟨by dsimp only; omega, by dsimp only; omega, ?_⟩ (by dsimp only; omega))
      rcases hinv with ⟨a, b, _⟩ | ⟨a, b⟩
      · exact .inl ⟨a, b, fun j hj h3 h4 => by dsimp only at h4; omega⟩
      · refine .inr ⟨a, b.imp id ?_⟩
        rintro ⟨j, hj, h3, h4, h5, h6⟩
        exact ⟨j, hj, by dsimp only; omega, h4, h5, h6⟩
    · have hi0 : ((i : Int) == 0) = false := by simp; omega
      rw [if_pos (by omega)] at hk
      simp only [hneg, Bool.not_false, cond_true, hi0, cond_false]
      have hb := blank_lt ls[i]
      cases hbl : blankF ls[i] with
      | true =>
        rw [hbl] at hb
        simp only [Bool.not_true, decide_eq_false_iff_not] at hb
        rw [if_neg hb]
        refine hnx (cut, tch, i + 1) ⟨by dsimp only; omega, by dsimp only; omega, ?_⟩ (by dsimp only; omega)
        rcases hinv with ⟨a, b, d⟩ | ⟨a, b⟩
        · refine .inl ⟨a, b, fun j hj h3 h4 => ?_⟩
          dsimp only at h4
          by_cases hji : j = i
          · subst hji; exact hbl
          · exact d j hj h3 (by omega)
        · refine .inr ⟨a, b.imp id ?_⟩
          rintro ⟨j, hj, h3, h4, h5, h6, h7⟩
          have hji : j ≠ i := fun e => by subst e; rw [hbl] at h6; cases h6
          exact ⟨j, hj, by dsimp only; omega, h4, h5, h6, h7⟩
      | false =>
        rw [hbl] at hb
        simp only [Bool.not_false, decide_eq_true_iff] at hb
        rw [if_pos hb]
        have hlow := G.low i (by omega) hil hbl
        have hile := indentN_le ls[i]
        have hkc : k = c := by omega
        subst hkc
        have hgt : decide ((k : Int) > indentF ls[i]) = false := by
          rw [decide_eq_false_iff_not]; unfold indentF; omega
        rw [hgt, Bool.not_false, cond_true]
        have hstep : ∀ tch' : Bool, (tch' = true ∨ ∃ j, ∃ h : j < ls.length, i + 1 ≤ j ∧ j < f + t ∧ 0 < j ∧ blankF ls[j] = false ∧ indentN ls[j] = k) →
            K .normal (st6_15 ls (dedentF ls) f ((f + t : Nat) : Int) k tch' ((i + 1 : Nat) : Int)) = some (.one (.bool true)) := fun tch' ht =>
          hnx (k, tch', i + 1) ⟨by dsimp only; omega, by dsimp only; omega, .inr ⟨rfl, ht⟩⟩ (by dsimp only; omega)
        have heq : ((k : Int) == indentF ls[i]) = decide (k = indentN ls[i]) := by
          unfold indentF
          by_cases e : k = indentN ls[i]
          · simp [← e]
          · simp [e]; omega
        rcases hinv with ⟨a, b, d⟩ | ⟨a, b⟩
        · subst a
          subst b
          rw [if_neg (by omega), if_pos (by omega), heq]
          refine hstep _ ?_
          by_cases e : k = indentN ls[i]
          · left; simp [e]
          · right
            obtain ⟨j, hj, h3, h4, h5⟩ := G.met ⟨i, hil, by omega, hbl⟩
            have h6 : ¬ j < i := fun hji => by rw [d j hj h3 hji] at h4; cases h4
            have h7 : j ≠ i := fun e2 => by subst e2; exact e h5.symm
            have h8 : j < f + t := by
              rcases Nat.lt_or_ge j (f + t) with h9 | h9
              · exact h9
              · rw [G.last j h9 hj] at h4; cases h4
            exact ⟨j, hj, by omega, h8, h3, h4, h5⟩
        · subst a
          have hbne : ((k : Int) != (k : Int)) = false := by simp
          rw [if_pos (by omega), hbne, cond_false, if_neg (by omega), heq]
          cases tch with
          | true => exact hstep true (.inl rfl)
          | false =>
            simp only [Bool.not_false, cond_true]
            refine hstep _ ?_
            by_cases e : k = indentN ls[i]
            · left; simp [e]
            · right
              rcases b with b | ⟨j, hj, h3, h4, h5, h6, h7⟩
              · cases b
              · have h8 : j ≠ i := fun e2 => by subst e2; exact e h7.symm
                exact ⟨j, hj, by omega, h4, h5, h6, h7⟩
  · rw [if_neg (by omega), hke, ex6_15_4]
    simp only [bF, Bool.cond_decide]
    rcases hinv with ⟨a, b, d⟩ | ⟨a, b⟩
    · subst a
      rfl
    · subst a
      have hneg : decide ((c : Int) < 0) = false := by simp
      rw [hneg]
      have htch : tch = true := by
        rcases b with b | ⟨j, hj, h3, h4, _⟩
        · exact b
        · omega
      subst htch
      simp only [Bool.not_false, Bool.not_true, cond_true, cond_false]
      have hmax : (if (1 : Int) > (f : Int) then (1 : Int) else (f : Int)) = ((max 1 f : Nat) : Int) := by split <;> omega
      rw [hmax]
      exact shape_last ls hl G n (by omega) (max 1 f) ⟨by omega, by omega⟩ (by omega)

theorem shape_behind (ls : List (List Int)) (hl : limL ls = true) {f t c : Nat} (G : Got ls f t c) (n : Nat) (hn : ls.length + 1 < n) :
    evLoop (lbC E06 (cdAt Try.f6 [1, 1, 1, 1, 1, 1, 0, 0, 0]) 10008 n) n (st6_8 ls (dedentF ls) f (ls.length : Int)) (blockK 2 (seqK (evCode E06 n (cdAt Try.f6 [1, 1, 1, 1, 1, 1, 1])) (retK Try.f6.results.toList))) = some (.one (.bool true)) := by
  have hlen := limL_len hl
  have hle := G.le
  have hend : ∀ b : Int, b = ((f + t : Nat) : Int) → (bif ((dedentF ls).length : Int) != (IntKind.wrap .i64 (b - (f : Int))) then (some (.one (.bool false))) else (evLoop (lbC E06 (cdAt Go.Proofs.Try.f6 [1, 1, 1, 1, 1, 1, 1, 1, 1, 1, 0, 1, 0, 0]) 10015 n) n (st6_15 ls (dedentF ls) f b (-1) true f) (blockK 4 (seqK (evCode E06 n (cdAt Go.Proofs.Try.f6 [1, 1, 1, 1, 1, 1, 1, 1, 1, 1, 1])) (retK Go.Proofs.Try.f6.results.toList))))) = some (.one (.bool true)) := by
    rintro b rfl
    rw [wrapSub (by omega) (by omega), G.len]
    have e : f + t - f = t := by omega
    rw [e, bne_self_eq_false, cond_false]
    exact shape_main ls hl G n hn
  have e0 : (ls.length : Int) = ((f + (ls.length - f) : Nat) : Int) := by omega
  rw [e0]
  have ht := G.ht
  refine (loop_rule (fun b : Nat => st6_8 ls (dedentF ls) f ((f + b : Nat) : Int)) (fun b => f + b ≤ ls.length ∧ rt blankF ((ls.drop f).take b) = t) (fun b => b) (fun _ => (some (.one (.bool true)) : Option E6)) ?_ n (ls.length - f) ⟨by omega, by rw [List.take_of_length_le (by simp)]; exact ht.symm⟩ (by omega))
  rintro b ⟨hb, hrt⟩ K hke hkr hnx
  rw [lb6_8_eq]
  simp only [bT, Bool.cond_decide]
  cases b with
  | zero =>
    rw [if_neg (by omega), hke, ex6_8_2_2]
    refine hend _ ?_
    simp [rt] at hrt
    omega
  | succ b =>
    rw [if_pos (by omega)]
    have e : ((f + (b + 1) : Nat) : Int) = ((f + b + 1 : Nat) : Int) := by omega
    have hlt : f + b < ls.length := by omega
    have hlt2 : b < (ls.drop f).length := by simp; omega
    rw [e, wrapPred (by omega), idx_lt hlt]
    dsimp only
    rw [limL_mem hl (List.getElem_mem hlt), cond_true, blank_eq]
    rw [rt_take blankF hlt2] at hrt
    have hg : (ls.drop f)[b] = ls[f + b] := by simp
    rw [hg] at hrt
    cases hbl : blankF ls[f + b] with
    | true =>
      rw [hbl] at hrt
      simp only [cond_true, if_true] at hrt ⊢
      exact hnx b ⟨by omega, hrt⟩ (by omega)
    | false =>
      rw [hbl] at hrt
      simp only [cond_false, Bool.false_eq_true, if_false] at hrt ⊢
      rw [hke, ex6_8_2]
      exact hend _ (by omega)

theorem shape_first (ls : List (List Int)) (hl : limL ls = true) {f t c : Nat} (G : Got ls f t c) (n : Nat) (hn : ls.length + 1 < n) :
    evLoop (lbC E06 (cdAt Try.f6 [1, 1, 1, 1, 1, 0, 0, 0]) 10006 n) n (st6_6 ls (dedentF ls) 0 (ls.length : Int)) (blockK 0 (seqK (evCode E06 n (cdAt Try.f6 [1, 1, 1, 1, 1, 1])) (retK Try.f6.results.toList))) = some (.one (.bool true)) := by
  have hlen := limL_len hl
  refine (loop_rule (fun i : Nat => st6_6 ls (dedentF ls) i (ls.length : Int)) (fun i => i ≤ ls.length ∧ i + tw blankF (ls.drop i) = f) (fun i => ls.length - i) (fun _ => (some (.one (.bool true)) : Option E6)) ?_ n 0 ⟨Nat.zero_le _, by simp [G.hf]⟩ (by omega))
  rintro i ⟨hi, hf⟩ K hke hkr hnx
  rw [lb6_6_eq]
  simp only [bT, Bool.cond_decide]
  by_cases h : i < ls.length
  · rw [if_pos (by omega), idx_lt h]
    dsimp only
    rw [limL_mem hl (List.getElem_mem h), cond_true, blank_eq]
    rw [tw_at blankF h] at hf
    cases hb : blankF ls[i] with
    | true =>
      rw [hb] at hf
      simp only [cond_true, if_true] at hf ⊢
      rw [wrapSucc (by omega)]
      exact hnx (i + 1) ⟨by omega, hf⟩ (by omega)
    | false =>
      rw [hb] at hf
      simp only [cond_false, Bool.false_eq_true, if_false] at hf ⊢
      rw [hke, ex6_6_0, hf]
      exact shape_behind ls hl G n hn
  · rw [if_neg (by omega), hke, ex6_6_0_2]
    have h2 : tw blankF (ls.drop i) = 0 := by rw [List.drop_eq_nil_of_le (by omega)]; rfl
    rw [h2, Nat.add_zero] at hf
    rw [hf]
    exact shape_behind ls hl G n hn

theorem shape_law (ls : List (List Int)) (hl : limL ls = true) (n : Nat) (hn : ls.length + 1 < n) : evFn E06 n Try.f6 [.sl .rs ls none] = some (.one (.bool true)) := by
  obtain ⟨f, t, c, G⟩ := got_of ls
  rw [ev6, shape_first ls hl G n hn]
  have r1 : runes6 [32, 97] = [32, 97] := by decide +kernel
  have r2 : runes6 [32, 32, 98] = [32, 32, 98] := by decide +kernel
  have r3 : runes6 [32] = [32] := by decide +kernel
  have r4 : runes6 [98] = [98] := by decide +kernel
  rw [r1, r2, r3, r4, hl]
  have g1 : dedentF [[32, 97], [], [32, 32, 98], [32]] = [[32, 97], [], [98]] := by decide +kernel
  rw [g1]
  rfl
end Go.Aev
end

section
set_option linter.unusedVariables false
namespace Go.Aev
open Go.Proofs
theorem snd6 : Sound Try.prog U6 6 (opt S06) := by
  refine sound_of_ev (E := E06) ⟨u6_ok, tb6_ok, fun g ls r h => ?_⟩ Try.func6 rfl Try.call6 (fun ls r h => ?_)
  · change T06 g ls = some (true, r) at h
    unfold T06 at h
    split at h
    · exact of_sound snd12 h
    · exact of_sound snd13 h
    · exact of_sound snd14 h
    · exact of_sound snd15 h
    · exact of_sound snd17 h
    · cases h
  · obtain ⟨e, h1, h2⟩ := opt_some h
    unfold S06 at h1
    split at h1
    · rename_i a0
      simp only [Option.some.injEq, Prod.mk.injEq] at h1
      obtain ⟨hg, rfl⟩ := h1
      subst h2
      exact ⟨List.length a0 + 1 + 1, shape_law a0 hg _ (Nat.lt_succ_self _)⟩
    · cases h1

end Go.Aev
end
