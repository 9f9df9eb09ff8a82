/- THE LAW StrvalBlock (the value or refusal of every inside of a block string is the document's) returns true, on every schedule and in whatever memory. Conditions: the argument is of bulk at most 1048576. -/
import Derived.Test.YtljnggaaohddnaaCtopu
import Derived.JoinedCond
import Derived.Test.YtljnggaaohddnaaRows
section
set_option linter.unusedVariables false
namespace Go.Proofs.Ytljnggaaohddnaa.strvalBlock
open Go.ChangeShapes Go.WideShapes Go.ChangeAt Go.RowKit Go.Aev

theorem own : ownKnob Try.prog.godebug = none := by kernel_rfl

/-- The function answers true, and leaves the old memory as it was. -/
theorem walk {H : Type} {enc : TypeId × Value → H} (W : World) {a0 : Option Addr} {l0 c0 : Nat} {d : DataW H} {ps : List MemPlace}
    (h : DataW.Trod enc Try.prog W 0 (fun _ => true) true 23 (.slice a0 l0 c0) d ps) (hk : Rows.uptoBulk d ≤ 1048576) :
    Calls Try.prog 8 #[.slice a0 l0 c0] W fun e w' => e = .returned (.bool true) ∧ Below W.heap.size W w' := by
  obtain ⟨l, hrep, hl1, hl2⟩ := rows_openU h
  have hl : smLL l = true := smLL_iff.2 ⟨by omega, fun x hx => smL_iff.2 (by have := hl2 x hx; omega)⟩
  have hc := snd8.ok [.sl .rs l none] (.one (.bool true)) (by unfold opt; simp only [S8, hl])
  have := hc W ⟨wm0 W, fun _ => .int .i64 0, fun _ => 0, fun _ => 0⟩ [.slice a0 l0 c0] (wm0_zero W) ⟨⟨hrep, fun _ _ _ e => by cases e⟩, trivial⟩ (fun e => by cases e) (fun lf hlf d hd => by
    rcases List.mem_singleton.1 hlf with rfl
    cases hd)
  refine this.mono fun e w' ⟨v, g', he, hp⟩ => ?_
  have hv : v = .bool true := CRep.bool_inv hp.rep.1
  subst hv
  exact ⟨he, below_of_post hp⟩

set_option maxRecDepth 100000 in
theorem lifted (os : Os) (started : os.Started) (H : Type) (enc : TypeId × Value → H) (F : Stop.Interp) :
    ReturnsInHanded {} Try.checked os 8 .any ((Rows.OpenSpec.upto Rows.strvalBlockSpec).pre6 enc Try.prog Try.f8 Rows.strvalBlockUptoRow.domain false) (((Rows.OpenSpec.upto Rows.strvalBlockSpec).at F).post enc Try.prog Try.f8 false true false false) := by
  refine returnsInHanded_of_cond (C := Try.checked) (s := Rows.OpenSpec.upto Rows.strvalBlockSpec) (k := Rows.uptoSmall) rfl own started (by kernel_rfl) Try.func8
    (OpenSpec.witness (enc := enc) (C := Try.checked) (s := Rows.OpenSpec.upto Rows.strvalBlockSpec) (k := Rows.uptoSmall) rfl false ⟨#[], #[.slice none 0 0], []⟩ 8 (by kernel_rfl) (by kernel_rfl) (by kernel_rfl)
      (x := ([.nil], [], [])) (by kernel_rfl) rfl (by kernel_rfl)) ?_
  intro W base args ds gs before hval0 hW _ hk _
  have hval : ∀ (j : Nat) t v, Try.f8.params[j]? = some t → args[j]? = some v → Value.okWide Try.prog W .any base t v := hval0
  have hW' := hW
  obtain ⟨p, q, hA0, hV, rfl, hfz, hnd⟩ := hW
  have hA : DataW.TrodAll enc Try.prog W 0 (fun _ => true) true Try.f8.params.toList args.toList ds p := hA0
  rw [Try.params8] at hA hval
  obtain ⟨v0, d0, hargs, rfl, h0⟩ := trodAll_one hA
  obtain ⟨rfl, rfl⟩ := trodVars_none hV
  have hargs' : args = #[v0] := by
    cases args
    simp_all
  subst hargs'
  obtain ⟨a0, len, cap, rfl⟩ := okWide_slice Try.underlying23 (hval 0 23 v0 rfl rfl)
  have hs : Rows.uptoBulk d0 ≤ 1048576 := Nat.le_trans (bulk_part (l := [d0] ++ []) (by simp)) (bulk_bound hk)
  have hlt : ∀ x ∈ p, x.block < W.heap.size := fun x hx => hW'.lt x (by simp [hx])
  refine (walk W h0 hs).mono fun e W' ⟨he, hb⟩ => ?_
  subst he
  refine ⟨_, rfl, [d0], [], p ++ [], [], p, [], hW', ?_, ?_, ?_, hb.frame _, fun h => by cases h⟩
  · exact trodAll_cons_mk (shut_bool Try.underlying4 _) trodAll_mk0
  · have : DataW.TrodAll enc Try.prog W' 0 (fun b => decide (b < W.heap.size)) true [23] [.slice a0 len cap] [d0] p :=
      trodAll_mk1 (Below.trod laidOut6 (by kernel_rfl) (of_decide_eq_true (by kernel_rfl)) h0 hb hlt)
    exact this
  · exact rfl

theorem over : Rows.strvalBlockUptoRow.holds Try.pinned (Rows.OpenSpec.upto Rows.strvalBlockSpec) :=
  OpenClaim.holds_of_cond 8 Try.f8 rfl rfl rfl rfl rfl rfl rfl ⟨rfl, rfl, rfl, rfl, rfl⟩ rfl rfl rfl rfl rfl (by kernel_rfl) Try.func8 (by kernel_rfl)
    (of_decide_eq_true (by kernel_rfl)) (by unfold Func.isWrapper; first | (rw [if_pos (by decide +kernel)]; kernel_rfl) | (rw [if_neg (by decide +kernel)]; exact ⟨rfl, rfl⟩))
    (fun os started H enc _ F => lifted os started H enc F)

/-- The statement. -/
theorem proved : Rows.StrvalBlockUptoSaid :=
  over
#print axioms proved
end Go.Proofs.Ytljnggaaohddnaa.strvalBlock
end
