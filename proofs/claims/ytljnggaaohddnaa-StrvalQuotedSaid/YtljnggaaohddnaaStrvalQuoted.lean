/- THE LAW StrvalQuoted (the value or refusal of every inside of a quoted string is the document's) returns true, on every schedule and in whatever memory. Conditions: none beyond the form's own reach. -/
import Derived.Test.YtljnggaaohddnaaCtop
import Derived.Test.YtljnggaaohddnaaCbB
import Derived.Test.YtljnggaaohddnaaRows
section
set_option linter.unusedVariables false
namespace Go.Proofs.Ytljnggaaohddnaa.strvalQuoted
open Go.ChangeShapes Go.WideShapes Go.ChangeAt Go.RowKit Go.Aev

theorem own : ownKnob Try.prog.godebug = none := by kernel_rfl

/-- The function answers true, and leaves the old memory as it was. -/
theorem walk {H : Type} {enc : TypeId × Value → H} (W : World) {a0 : Option Addr} {l0 c0 : Nat} {d : DataW H} {ps : List MemPlace}
    (h : DataW.Trod enc Try.prog W 0 (fun _ => true) true 23 (.slice a0 l0 c0) d ps) (hs : ∀ n ∈ d.weights Try.prog 23, n ≤ reachBytes) :
    Calls Try.prog 7 #[.slice a0 l0 c0] W fun e w' => e = .returned (.bool true) ∧ Below W.heap.size W w' := by
  obtain ⟨l, hrep, hl⟩ := rows_open h hs
  have hc := snd7.ok [.sl .rs l none] (.one (.bool true)) (by unfold opt; simp only [S7, hl])
  have := hc W ⟨wm0 W, fun _ => .int .i64 0, fun _ => 0, fun _ => 0⟩ [.slice a0 l0 c0] (wm0_zero W) ⟨⟨hrep, fun _ _ _ e => by cases e⟩, trivial⟩ (fun e => by cases e) (fun lf hlf d hd => by
    rcases List.mem_singleton.1 hlf with rfl
    cases hd)
  refine this.mono fun e w' ⟨v, g', he, hp⟩ => ?_
  have hv : v = .bool true := CRep.bool_inv hp.rep.1
  subst hv
  exact ⟨he, below_of_post hp⟩

set_option maxRecDepth 100000 in
theorem lifted (os : Os) (started : os.Started) (H : Type) (enc : TypeId × Value → H) :
    ReturnsInHanded {} Try.checked os 7 .any (Rows.strvalQuotedSpec.pre6 enc Try.prog Try.f7 Rows.strvalQuotedRow.domain false) (Rows.strvalQuotedSpec.post enc Try.prog Try.f7 false true false false) := by
  refine returnsInHanded_of_change_sized (C := Try.checked) own started (by kernel_rfl) Try.func7
    (ChangeSpec.witness6 (enc := enc) (C := Try.checked) false ⟨#[], #[.slice none 0 0], []⟩ 8 (by kernel_rfl) (by kernel_rfl) (by kernel_rfl) (by kernel_rfl)) ?_
  intro W base args ds gs before hval0 hW hcnd hz _
  have hval : ∀ (j : Nat) t v, Try.f7.params[j]? = some t → args[j]? = some v → Value.okWide Try.prog W .any base t v := hval0
  have hW' := hW
  obtain ⟨p, q, hA0, hV, rfl, hfz, hnd⟩ := hW
  have hA : DataW.TrodAll enc Try.prog W 0 (fun _ => true) true Try.f7.params.toList args.toList ds p := hA0
  rw [Try.params7] at hA hval
  obtain ⟨v0, d0, hargs, rfl, h0⟩ := trodAll_one hA
  obtain ⟨rfl, rfl⟩ := trodVars_none hV
  have hargs' : args = #[v0] := by
    cases args
    simp_all
  subst hargs'
  obtain ⟨a0, len, cap, rfl⟩ := okWide_slice Try.underlying23 (hval 0 23 v0 rfl rfl)
  have hs : ∀ n ∈ d0.weights Try.prog 23, n ≤ reachBytes := fun n hn => by
    have := List.all_eq_true.1 hz n (DataW.weights_mem_each (j := 0) (t := 23) (d := d0) (by rw [Try.params7]; rfl) rfl n hn)
    simpa using this
  have hlt : ∀ x ∈ p, x.block < W.heap.size := fun x hx => hW'.lt x (by simp [hx])
  refine (walk W h0 hs).mono fun e W' ⟨he, hb⟩ => ?_
  subst he
  refine ⟨_, rfl, [d0], [], p ++ [], [], p, [], hW', ?_, ?_, ?_, hb.frame _, fun h => by cases h⟩
  · exact trodAll_cons_mk (shut_bool Try.underlying4 _) trodAll_mk0
  · have : DataW.TrodAll enc Try.prog W' 0 (fun b => decide (b < W.heap.size)) true [23] [.slice a0 len cap] [d0] p :=
      trodAll_mk1 (Below.trod laidOut6 (by kernel_rfl) (of_decide_eq_true (by kernel_rfl)) h0 hb hlt)
    exact this
  · exact rfl

theorem over : Rows.strvalQuotedRow.holds Try.pinned (OpenSpec.ofChange Rows.strvalQuotedSpec) :=
  OpenClaim.holds_of_wide 7 Try.f7 rfl rfl rfl rfl rfl rfl rfl ⟨rfl, rfl, rfl, rfl, rfl⟩ rfl rfl rfl rfl rfl (by kernel_rfl) Try.func7 (by kernel_rfl)
    (of_decide_eq_true (by kernel_rfl)) (by unfold Func.isWrapper; first | (rw [if_pos (by decide +kernel)]; kernel_rfl) | (rw [if_neg (by decide +kernel)]; exact ⟨rfl, rfl⟩))
    (fun os started H enc _ => lifted os started H enc)

/-- The statement. -/
theorem proved : Rows.StrvalQuotedSaid :=
  over
#print axioms proved
end Go.Proofs.Ytljnggaaohddnaa.strvalQuoted
end
