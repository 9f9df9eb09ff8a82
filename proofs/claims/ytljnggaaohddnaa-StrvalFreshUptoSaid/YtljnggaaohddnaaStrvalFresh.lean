/- Proved here: StrvalFreshUptoSaid (theorem strvalFresh.proved). Conditions: those that the given statement itself bears (what it reads is of bulk at most 1048576). -/
import Derived.Test.YtljnggaaohddnaaFtop
import Derived.JoinedCond
import Derived.Test.YtljnggaaohddnaaRows
section
set_option linter.unusedVariables false
namespace Go.Proofs.Ytljnggaaohddnaa.strvalFresh
open Go.ChangeShapes Go.WideShapes Go.ChangeAt Go.RowKit Go.Aev

theorem own : ownKnob Try.prog.godebug = none := by kernel_rfl

/-- The function answers true, and leaves the old memory as it was. -/
theorem walk {H : Type} {enc : TypeId × Value → H} (W : World) {a0 : Option Addr} {l0 c0 : Nat} {a1 : Option Addr} {l1 c1 : Nat} {d d' : DataW H} {ps ps' : List MemPlace}
    (h : DataW.Trod enc Try.prog W 0 (fun _ => true) true 23 (.slice a0 l0 c0) d ps) (h' : DataW.Trod enc Try.prog W 0 (fun _ => true) true 25 (.slice a1 l1 c1) d' ps') (hk : Rows.uptoBulk d ≤ 1048576) (hk' : Rows.uptoBulk d' ≤ 1048576) :
    Calls Try.prog 10 #[.slice a0 l0 c0, .slice a1 l1 c1] W fun e w' => e = .returned (.bool true) ∧ Below W.heap.size W w' := by
  obtain ⟨l, hrep, hl1, hl2⟩ := rows_openU h
  obtain ⟨m, hrep', hm1⟩ := ints_openU h'
  refine (walk10 ⟨by omega, fun x hx => by have := hl2 x hx; omega⟩ (by omega) hrep hrep').mono fun e w' ⟨he, k⟩ => ⟨he, k.os, k.tape, k.output, k.size, fun b hb => k.heap b hb fun h => h⟩

set_option maxRecDepth 100000 in
theorem lifted (os : Os) (started : os.Started) (H : Type) (enc : TypeId × Value → H) (F : Stop.Interp) :
    ReturnsInHanded {} Try.checked os 10 .any ((Rows.OpenSpec.upto Rows.strvalFreshSpec).pre6 enc Try.prog Try.f10 Rows.strvalFreshUptoRow.domain false) (((Rows.OpenSpec.upto Rows.strvalFreshSpec).at F).post enc Try.prog Try.f10 false true false false) := by
  refine returnsInHanded_of_cond (C := Try.checked) (s := Rows.OpenSpec.upto Rows.strvalFreshSpec) (k := Rows.uptoSmall) rfl own started (by kernel_rfl) Try.func10
    (OpenSpec.witness (enc := enc) (C := Try.checked) (s := Rows.OpenSpec.upto Rows.strvalFreshSpec) (k := Rows.uptoSmall) rfl false ⟨#[], #[.slice none 0 0, .slice none 0 0], []⟩ 8 (by kernel_rfl) (by kernel_rfl) (by kernel_rfl)
      (x := ([.nil, .nil], [], [])) (by kernel_rfl) rfl (by kernel_rfl)) ?_
  intro W base args ds gs before hval0 hW _ hk _
  have hval : ∀ (j : Nat) t v, Try.f10.params[j]? = some t → args[j]? = some v → Value.okWide Try.prog W .any base t v := hval0
  have hW' := hW
  obtain ⟨p, q, hA0, hV, rfl, hfz, hnd⟩ := hW
  have hA : DataW.TrodAll enc Try.prog W 0 (fun _ => true) true Try.f10.params.toList args.toList ds p := hA0
  rw [Try.params10] at hA hval
  obtain ⟨v0, vs0, d0, ds0, p0, q0, hargs, rfl, rfl, h0, r0⟩ := trodAll_cons hA
  obtain ⟨v1, vs1, d1, ds1, p1, q1, hargs1, rfl, rfl, h1, r1⟩ := trodAll_cons r0
  obtain ⟨rfl, rfl, rfl⟩ := trodAll_nil r1
  obtain ⟨rfl, rfl⟩ := trodVars_none hV
  have hargs' : args = #[v0, v1] := by
    cases args
    simp_all
  subst hargs'
  obtain ⟨a0, len, cap, rfl⟩ := okWide_slice Try.underlying23 (hval 0 23 v0 rfl rfl)
  obtain ⟨a1, len1, cap1, rfl⟩ := okWide_slice Try.underlying25 (hval 1 25 v1 rfl rfl)
  have hb := bulk_bound hk
  have hs : Rows.uptoBulk d0 ≤ 1048576 := Nat.le_trans (bulk_part (by simp)) hb
  have hs1 : Rows.uptoBulk d1 ≤ 1048576 := Nat.le_trans (bulk_part (by simp)) hb
  have hlt0 : ∀ x ∈ p0, x.block < W.heap.size := fun x hx => hW'.lt x (by simp [hx])
  have hlt1 : ∀ x ∈ p1, x.block < W.heap.size := fun x hx => hW'.lt x (by simp [hx])
  refine (walk W h0 h1 hs hs1).mono fun e W' ⟨he, hb⟩ => ?_
  subst he
  refine ⟨_, rfl, [d0, d1], [], (p0 ++ (p1 ++ [])) ++ [], [], p0 ++ (p1 ++ []), [], hW', ?_, ?_, ?_, hb.frame _, fun h => by cases h⟩
  · exact trodAll_cons_mk (shut_bool Try.underlying4 _) trodAll_mk0
  · have : DataW.TrodAll enc Try.prog W' 0 (fun b => decide (b < W.heap.size)) true [23, 25] [.slice a0 len cap, .slice a1 len1 cap1] [d0, d1] (p0 ++ (p1 ++ [])) :=
      trodAll_cons_mk (Below.trod laidOut6 (by kernel_rfl) (of_decide_eq_true (by kernel_rfl)) h0 hb hlt0) (trodAll_cons_mk (Below.trod laidOut6 (by kernel_rfl) (of_decide_eq_true (by kernel_rfl)) h1 hb hlt1) trodAll_mk0)
    exact this
  · exact rfl

theorem over : Rows.strvalFreshUptoRow.holds Try.pinned (Rows.OpenSpec.upto Rows.strvalFreshSpec) :=
  OpenClaim.holds_of_cond 10 Try.f10 rfl rfl rfl rfl rfl rfl rfl ⟨rfl, rfl, rfl, rfl, rfl⟩ rfl rfl rfl rfl rfl (by kernel_rfl) Try.func10 (by kernel_rfl)
    (of_decide_eq_true (by kernel_rfl)) (by unfold Func.isWrapper; first | (rw [if_pos (by decide +kernel)]; kernel_rfl) | (rw [if_neg (by decide +kernel)]; exact ⟨rfl, rfl⟩))
    (fun os started H enc _ F => lifted os started H enc F)

/-- The statement. -/
theorem proved : Rows.StrvalFreshUptoSaid :=
  over
#print axioms proved
end Go.Proofs.Ytljnggaaohddnaa.strvalFresh
end
