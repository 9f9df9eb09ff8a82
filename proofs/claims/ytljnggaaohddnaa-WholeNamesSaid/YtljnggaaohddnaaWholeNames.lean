/- Proved here: WholeNamesSaid (theorem wholeNames.proved). Conditions: none (the law has no argument). -/
import Derived.Test.YtljnggaaohddnaaWevE
import Derived.WalkKit
import Derived.ProofKit
import Derived.OpenShut
import Derived.Deep.Matrix
import Derived.SizedLaws
import Derived.Carry
import Derived.Test.YtljnggaaohddnaaRows
section
set_option linter.unusedVariables false
namespace Go.Aev
open Go.Proofs Go.RowKit
/-- Nothing is leant on. -/
def IT : Inv := fun _ _ => True
theorem run_opt {E : Env TyW denW} {n : Nat} {f : Func} {ls : List LW} {r : EW} (h : run E n f ls = some (true, r)) : evFn E n f ls = some r := by
  unfold run at h
  split at h
  · rename_i x hx
    simp only [Option.some.injEq, Prod.mk.injEq, true_and] at h
    rw [hx, h]
  · cases h
theorem inline {f : FuncId} {fn : Func} (nt n : Nat) (hf : Try.prog.funcs[f]? = some fn) (hnt : nt = fn.ntmps) (hc : ∀ args w, (callFunc f args).run Try.prog w = .ok (.enter f args) w) : Sound Try.prog UW IT f (evFn (EW0 nt) n fn) :=
  sound_of_ev (E := EW0 nt) ⟨uw_ok, tbW_ok, fun g ls r h => (by cases h), fun _ _ _ _ _ _ => trivial⟩ hf hnt hc fun ls r h => ⟨n, h⟩
theorem snd11 : Sound Try.prog UW IT 11 (evFn (EW11 Try.f24 Try.f25 Try.f26) 100 Try.f11) := by
  refine sound_of_ev (E := (EW11 Try.f24 Try.f25 Try.f26)) ⟨uw_ok, tbW_ok, fun g ls r h => ?_, fun _ _ _ _ _ _ => trivial⟩ Try.func11 rfl Try.call11 fun ls r h => ⟨100, h⟩
  have h1 : TW11 Try.f24 Try.f25 Try.f26 g ls = some (true, r) := h
  unfold TW11 at h1
  split at h1
  · exact ⟨Try.call24, (inline 45 9 Try.func24 rfl Try.call24).ok ls r (run_opt h1)⟩
  · exact ⟨Try.call25, (inline 43 9 Try.func25 rfl Try.call25).ok ls r (run_opt h1)⟩
  · exact ⟨Try.call26, (inline 58 9 Try.func26 rfl Try.call26).ok ls r (run_opt h1)⟩
  · cases h1
theorem names_true : evFn (EW11 Try.f24 Try.f25 Try.f26) 100 Try.f11 [] = some (.one (.bool true)) := by kernel_rfl
def wm0 (W : World) (b : Nat) : Nat := match W.heap[b]? with | some (.cells c _ _) => c.size | _ => 0
theorem wm0_zero (W : World) (b : Nat) (h : W.heap.size ≤ b) : wm0 W b = 0 := by
  unfold wm0; rw [Array.getElem?_eq_none h]
end Go.Aev
namespace Go.Proofs.Ytljnggaaohddnaa.wholeNames
open Go.ChangeShapes Go.WideShapes Go.ChangeAt Go.RowKit Go.Aev

theorem own : ownKnob Try.prog.godebug = none := by kernel_rfl

/-- The function answers true, and leaves the old memory as it was. -/
theorem walk (W : World) : Calls Try.prog 11 #[] W fun e w' => e = .returned (.bool true) ∧ Below W.heap.size W w' := by
  have := snd11.ok [] (.one (.bool true)) names_true W ⟨wm0 W, fun _ => .int .i64 0, fun _ => 0, fun _ => 0⟩ [] trivial (wm0_zero W) trivial (fun e => by cases e) (fun lf hlf d hd => by cases hlf)
  refine this.mono fun e w' ⟨v, g', he, hp⟩ => ?_
  have hv : v = .bool true := CRep.bool_inv hp.rep.1
  subst hv
  exact ⟨he, hp.os, hp.tape, hp.output, hp.size, fun b hb => (hp.frame b hb (fun e => by cases e)).1⟩

set_option maxRecDepth 100000 in
theorem lifted (os : Os) (started : os.Started) (H : Type) (enc : TypeId × Value → H) :
    ReturnsInHanded {} Try.checked os 11 .any (Rows.wholeNamesSpec.pre6 enc Try.prog Try.f11 Rows.wholeNamesRow.domain false) (Rows.wholeNamesSpec.post enc Try.prog Try.f11 false true false false) := by
  refine returnsInHanded_of_change (C := Try.checked) own started (by kernel_rfl) Try.func11
    (ChangeSpec.witness6 (enc := enc) (C := Try.checked) false ⟨#[], #[], []⟩ 8 (by kernel_rfl) (by kernel_rfl) (by kernel_rfl) (by kernel_rfl)) ?_
  intro W base args ds gs before hval0 hW hcnd _
  have hval : ∀ (j : Nat) t v, Try.f11.params[j]? = some t → args[j]? = some v → Value.okWide Try.prog W .any base t v := hval0
  have hW' := hW
  obtain ⟨p, q, hA0, hV, rfl, hfz, hnd⟩ := hW
  have hA : DataW.TrodAll enc Try.prog W 0 (fun _ => true) true Try.f11.params.toList args.toList ds p := hA0
  rw [Try.params11] at hA hval
  obtain ⟨rfl, rfl, rfl⟩ := trodAll_none hA
  obtain ⟨rfl, rfl⟩ := trodVars_none hV
  clear hA0 hval0
  refine (walk W).mono fun e W' ⟨he, hb⟩ => ?_
  subst he
  refine ⟨_, rfl, [], [], [] ++ [], [], [], [], hW', ?_, ?_, ?_, hb.frame _, fun h => by cases h⟩
  · exact trodAll_cons_mk (shut_bool Try.underlying4 _) trodAll_mk0
  · exact trodAll_mk0
  · exact rfl

theorem over : Rows.wholeNamesRow.holds Try.pinned (OpenSpec.ofChange Rows.wholeNamesSpec) :=
  OpenClaim.holds_of_wide 11 Try.f11 rfl rfl rfl rfl rfl rfl rfl ⟨rfl, rfl, rfl, rfl, rfl⟩ rfl rfl rfl rfl rfl (by kernel_rfl) Try.func11 (by kernel_rfl)
    (of_decide_eq_true (by kernel_rfl)) (by unfold Func.isWrapper; first | (rw [if_pos (by decide +kernel)]; kernel_rfl) | (rw [if_neg (by decide +kernel)]; exact ⟨rfl, rfl⟩))
    (fun os started H enc _ => lifted os started H enc)

/-- The statement. -/
theorem proved : Rows.WholeNamesSaid :=
  over
#print axioms proved
end Go.Proofs.Ytljnggaaohddnaa.wholeNames
end
