/- Proved here: StrvalBlockBackUptoCardSaid (theorem strvalBlockBack.card). Conditions: the statement's own alone. -/
import Derived.Test.YtemaknoadiaieaaDoorBtop
import Derived.Test.YtemaknoadiaieaaDoorBpF
import Derived.Test.YtemaknoadiaieaaDoorCards
import Derived.Test.YtemaknoadiaieaaDoorTie
section
set_option linter.unusedVariables false
namespace Go.Proofs.YtemaknoadiaieaaDoor.strvalBlockBack
open Go.ChangeShapes Go.ChangeMaps Go.WideShapes Go.ChangeAt Go.RowKit Go.Aev

theorem own : ownKnob Tryd.prog.godebug = none := by kernel_rfl

/-- The function answers true, and leaves the old memory as it was. -/
theorem walk {H : Type} {enc : TypeId × Value → H} (W : World) (s : ByteArray) {a1 : Option Addr} {l1 c1 : Nat} {d' : DataW H} {ps' : List MemPlace} (hI : IB W (wm0 W)) (hs : s.data.toList.length ≤ 1048576)
    (h' : DataW.Trod enc Tryd.prog W 0 (fun _ => true) true 28 (.slice a1 l1 c1) d' ps') (hk' : Rows.uptoBulk d' ≤ 1048576) :
    Calls Tryd.prog 4 #[.string s, .slice a1 l1 c1] W fun e w' => e = .returned (.bool true) ∧ Below W.heap.size W w' := by
  obtain ⟨m, hrep', hm1⟩ := ints_openU h'
  have hl : smS1 s.data.toList = true := by simpa [smS1] using hs
  have hm : smL1 m = true := by
    have : m.length ≤ 1048576 := Nat.le_trans hm1 hk'
    simpa [smL1] using this
  have hc := snd204.ok [.str s.data.toList, .sl .i32 m none] (.one (.bool true)) (by unfold opt; simp only [S204, hl, hm, Bool.and_self])
  have := hc W ⟨wm0 W, fun _ => .int .i64 0, fun _ => 0, fun _ => 0⟩ [.string s, .slice a1 l1 c1] hI (wm0_zero W) ⟨⟨.str _, fun _ _ _ e => by cases e⟩, ⟨hrep', fun _ _ _ e => by cases e⟩, trivial⟩ (fun e => by cases e) (fun lf hlf d hd => by
    rcases List.mem_cons.1 hlf with rfl | hlf
    · cases hd
    · rcases List.mem_singleton.1 hlf with rfl
      cases hd)
  refine this.mono fun e w' ⟨v, g', he, hp⟩ => ?_
  have hv : v = .bool true := CRep.bool_inv hp.rep.1
  subst hv
  exact ⟨he, below_of_post hp⟩

set_option maxRecDepth 100000 in
theorem contract (H : Type) (enc : TypeId × Value → H) (W : World) (base : Nat) (args : Array Value) (ds gs : List (DataW H)) (before : List MemPlace)
    (hval0 : ∀ (j : Nat) t v, Tryd.f4.params[j]? = some t → args[j]? = some v → Value.okWide Tryd.prog W .any base t v)
    (hW : DataW.Whole enc Tryd.prog Tryd.f4.params.toList Rows.strvalBlockBackSpec.vars false W args.toList ds gs before) (hL : laidMetH Tryd.prog Rows.strvalBlockBackUptoRow.laid W) (hk : Rows.uptoSmall H (ds ++ gs) = true) :
    Calls Tryd.prog 4 args W fun e W' => ∃ v, e = .returned v ∧ Rows.strvalBlockBackSpec.post enc Tryd.prog Tryd.f4 false true false false W args v W' := by
  have hval : ∀ (j : Nat) t v, Tryd.f4.params[j]? = some t → args[j]? = some v → Value.okWide Tryd.prog W .any base t v := hval0
  have hW' := hW
  obtain ⟨p, q, hA0, hV, rfl, hfz, hnd⟩ := hW
  have hA : DataW.TrodAll enc Tryd.prog W 0 (fun _ => true) true Tryd.f4.params.toList args.toList ds p := hA0
  rw [Tryd.params4] at hA hval
  obtain ⟨v0, vs0, d0, ds0, p0, q0, hargs, rfl, rfl, h0, r0⟩ := trodAll_cons hA
  obtain ⟨v1, vs1, d1, ds1, p1, q1, hargs1, rfl, rfl, h1, r1⟩ := trodAll_cons r0
  obtain ⟨rfl, rfl, rfl⟩ := trodAll_nil r1
  obtain ⟨rfl, rfl⟩ := trodVars_none hV
  have hargs' : args = #[v0, v1] := by
    cases args
    simp_all
  subst hargs'
  obtain ⟨s, rfl, rfl, rfl, hsz⟩ := open_string Tryd.underlying9 (hval 0 9 v0 rfl rfl) h0
  obtain ⟨a1, len1, cap1, rfl⟩ := okWide_slice Tryd.underlying28 (hval 1 28 v1 rfl rfl)
  have hb := bulk_bound hk
  have hs : Rows.uptoBulk (DataW.lit (.string s.data.toList) : DataW H) ≤ 1048576 := Nat.le_trans (bulk_part (by simp)) hb
  have hs1 : Rows.uptoBulk d1 ≤ 1048576 := Nat.le_trans (bulk_part (by simp)) hb
  simp only [Rows.uptoBulk] at hs
  have hlt1 : ∀ x ∈ p1, x.block < W.heap.size := fun x hx => hW'.lt x (by simp [hx])
  refine (walk W s (ib_of_laid hL) (by omega) h1 hs1).mono fun e W' ⟨he, hb⟩ => ?_
  subst he
  refine ⟨_, rfl, [.lit (.string s.data.toList), d1], [], ([] ++ (p1 ++ [])) ++ [], [], [] ++ (p1 ++ []), [], hW', ?_, ?_, ?_, hb.frame _, fun h => by cases h⟩
  · exact trodAll_cons_mk (shut_bool Tryd.underlying4 _) trodAll_mk0
  · have : DataW.TrodAll enc Tryd.prog W' 0 (fun b => decide (b < W.heap.size)) true [9, 28] [.string s, .slice a1 len1 cap1] [.lit (.string s.data.toList), d1] ([] ++ (p1 ++ [])) :=
      trodAll_cons_mk (shut_string Tryd.underlying9 hsz) (trodAll_cons_mk (Below.trod laidOutD (by kernel_rfl) (of_decide_eq_true (by kernel_rfl)) h1 hb hlt1) trodAll_mk0)
    exact this
  · exact rfl

theorem reads (os : Os) {H : Type} (enc : TypeId × Value → H) : ∃ places, DataW.whole enc Tryd.prog ((layTabs (World.holding Tryd.prog os ⟨#[], #[], []⟩)).forCall (fun _ _ => 0) ⟨#[], #[.string ⟨#[]⟩, .slice none 0 0], []⟩).memory Tryd.f4.params.toList Rows.strvalBlockBackSpec.vars false #[Value.string ⟨#[]⟩, Value.slice none 0 0].toList 8 = some ([.lit (.string []), .nil], [], places) :=
  ⟨[], by kernel_rfl⟩

set_option maxRecDepth 100000 in
theorem lifted (os : Os) (started : os.Started) (H : Type) (enc : TypeId × Value → H) (F : Stop.Interp) :
    ReturnsInHanded {} Tryd.checked os 4 .any ((Rows.OpenSpec.upto Rows.strvalBlockBackSpec).preRow enc Tryd.prog Tryd.f4 Rows.strvalBlockBackUptoRow.domain false Rows.strvalBlockBackUptoRow.laid) (((Rows.OpenSpec.upto Rows.strvalBlockBackSpec).at F).post enc Tryd.prog Tryd.f4 false true false false) := by
  obtain ⟨places, hx⟩ := reads os enc
  refine returnsInHanded_of_row (C := Tryd.checked) (s := Rows.OpenSpec.upto Rows.strvalBlockBackSpec) own started (by kernel_rfl) Tryd.func4
    (witness_row_at (enc := enc) (C := Tryd.checked) false (layTabs (World.holding Tryd.prog os ⟨#[], #[], []⟩)) #[.string ⟨#[]⟩, .slice none 0 0] rfl (by kernel_rfl) (by kernel_rfl) (by kernel_rfl)
      (OpenSpec.preRow_of_cond 8 hx (by kernel_rfl) (fun k hk => by cases hk; kernel_rfl) (by kernel_rfl) (laid_met os _))) ?_
  intro W base args ds gs before hval hW _ hcond _ hL _ _
  exact contract H enc W base args ds gs before hval hW hL (hcond _ rfl)

theorem saidUpto : Rows.StrvalBlockBackUptoSaid :=
  OpenClaim.holds_of_cond 4 Tryd.f4 rfl rfl rfl rfl rfl rfl rfl ⟨rfl, rfl, rfl, rfl, rfl⟩ rfl rfl rfl rfl rfl (by kernel_rfl) Tryd.func4 (by kernel_rfl)
    (of_decide_eq_true (by kernel_rfl)) (by unfold Func.isWrapper; first | (rw [if_pos (by decide +kernel)]; kernel_rfl) | (rw [if_neg (by decide +kernel)]; exact ⟨rfl, rfl⟩))
    (fun os started H enc _ F => by rw [OpenClaim.pre_eq_preRow]; exact lifted os started H enc F)

theorem plain (f : FuncId) (fn : Func) (hf : Tryd.pinned.checked.prog.funcNamed "pergola/pergolalaw06.StrvalBlockBack" = some f) (hfn : Tryd.pinned.checked.prog.funcs[f]? = some fn) :
    false = Tryd.pinned.checked.prog.looks [] ∧ ∀ (j : Nat) t, fn.params[j]? = some t → Tryd.pinned.checked.prog.wantsStandIn t = false := by
  obtain rfl : f = 4 := Option.some.inj ((show Tryd.prog.funcNamed "pergola/pergolalaw06.StrvalBlockBack" = some 4 by kernel_rfl).symm.trans hf) |>.symm
  obtain rfl : fn = Tryd.f4 := (Option.some.inj (Tryd.func4.symm.trans hfn)).symm
  refine ⟨by kernel_rfl, fun j t ht => ?_⟩
  rw [Tryd.params4] at ht
  obtain h | h : t = 9 ∨ t = 28 := by simpa using Array.mem_of_getElem? ht
  · subst h; exact (show Tryd.prog.wantsStandIn 9 = false by kernel_rfl)
  · subst h; exact (show Tryd.prog.wantsStandIn 28 = false by kernel_rfl)

/-- The card. -/
theorem card : Rows.StrvalBlockBackUptoCardSaid :=
  Claim7.holds_tied_plain_at .later [] _ _ _ _ saidUpto (fun _ h => by cases h) (by kernel_rfl) (fun _ h => by cases h) strvalBlockBackUpto_row_tie rfl ⟨rfl, rfl⟩ (by kernel_rfl) rfl plain (by kernel_rfl)
#print axioms card
end Go.Proofs.YtemaknoadiaieaaDoor.strvalBlockBack
end
