/- Proved here: StrvalIndentedUptoCardSaid (theorem strvalIndented.card). Conditions: the statement's own alone. -/
import Derived.Test.YtemaknoadiaieaaDoorBtop
import Derived.Test.YtemaknoadiaieaaDoorBpG
import Derived.Shelf.Vars
import Derived.Test.YtemaknoadiaieaaDoorCards
import Derived.Test.YtemaknoadiaieaaDoorTie
section
set_option linter.unusedVariables false
namespace Go.Proofs.YtemaknoadiaieaaDoor.strvalIndented
open Go.ChangeShapes Go.ChangeMaps Go.WideShapes Go.ChangeAt Go.RowKit Go.Aev

theorem u8_wf {n : Int} (h : (Lit.int .u8 n).wf = true) : 0 ≤ n ∧ n ≤ 255 := by
  simp only [Lit.wf, Bool.and_eq_true, decide_eq_true_eq] at h
  exact h
theorem own : ownKnob Tryd.prog.godebug = none := by kernel_rfl

theorem maxLen_cell {W : World} (h : W.ShapedOpen Tryd.prog) : ∃ m, W.cell? ⟨2, 0, none⟩ = some (.int .i64 m) :=
  Go.Proofs.cell_of_shapedOpen_int (zero := #[.int .i64 0]) (t := 3) h (of_decide_eq_true (by kernel_rfl)) (by kernel_rfl) rfl (by kernel_rfl) (by kernel_rfl) Tryd.underlying3
/-- The function answers true, and leaves the old memory as it was. -/
theorem walk (W : World) (s : ByteArray) (n : Int) (hI : IC W (wm0 W)) (hs : s.data.toList.length ≤ 1048576) (h0 : 0 ≤ n) (h1 : n ≤ 255) :
    Calls Tryd.prog 6 #[.string s, .int .u8 n] W fun e w' => e = .returned (.bool true) ∧ Below W.heap.size W w' := by
  have hl : smS1 s.data.toList = true := by simpa [smS1] using hs
  have hc := snd206.ok [.str s.data.toList, .int .u8 n] (.one (.bool true)) (by unfold opt; simp only [S206, hl, decide_eq_true h0, decide_eq_true h1, Bool.and_self])
  have := hc W ⟨wm0 W, fun _ => .int .i64 0, fun _ => 0, fun _ => 0⟩ [.string s, .int .u8 n] hI (wm0_zero W) ⟨⟨.str _, fun _ _ _ e => by cases e⟩, ⟨.int _ _, fun _ _ _ e => by cases e⟩, trivial⟩ (fun e => by cases e) (fun lf hlf d hd => by
    rcases List.mem_cons.1 hlf with rfl | hlf
    · cases hd
    · rcases List.mem_singleton.1 hlf with rfl
      cases hd)
  refine this.mono fun e w' ⟨v, g', he, hp⟩ => ?_
  have hv : v = .bool true := CRep.bool_inv hp.rep.1
  subst hv
  exact ⟨he, below_of_post hp⟩

set_option maxRecDepth 100000 in
theorem contract (H : Type) (enc : TypeId × Value → H) (W : World) (base : Nat) (args : Array Value) (ds gs : List (DataW H)) (before : List MemPlace)
    (hval0 : ∀ (j : Nat) t v, Tryd.f6.params[j]? = some t → args[j]? = some v → Value.okWide Tryd.prog W .any base t v)
    (hW : DataW.Whole enc Tryd.prog Tryd.f6.params.toList Rows.strvalIndentedSpec.vars false W args.toList ds gs before) (hL : laidMetH Tryd.prog Rows.strvalIndentedUptoRow.laid W) (hsh : W.ShapedOpen Tryd.prog) (hk : Rows.uptoSmall H (ds ++ gs) = true) :
    Calls Tryd.prog 6 args W fun e W' => ∃ v, e = .returned v ∧ Rows.strvalIndentedSpec.post enc Tryd.prog Tryd.f6 false true false false W args v W' := by
  have hval : ∀ (j : Nat) t v, Tryd.f6.params[j]? = some t → args[j]? = some v → Value.okWide Tryd.prog W .any base t v := hval0
  have hW' := hW
  obtain ⟨p, q, hA0, hV, rfl, hfz, hnd⟩ := hW
  have hA : DataW.TrodAll enc Tryd.prog W 0 (fun _ => true) true Tryd.f6.params.toList args.toList ds p := hA0
  rw [Tryd.params6] at hA hval
  obtain ⟨v0, vs0, d0, ds0, p0, q0, hargs, rfl, rfl, h0, r0⟩ := trodAll_cons hA
  obtain ⟨v1, vs1, d1, ds1, p1, q1, hargs1, rfl, rfl, h1, r1⟩ := trodAll_cons r0
  obtain ⟨rfl, rfl, rfl⟩ := trodAll_nil r1
  obtain ⟨rfl, rfl⟩ := trodVars_none hV
  have hargs' : args = #[v0, v1] := by
    cases args
    simp_all
  subst hargs'
  obtain ⟨s, rfl, rfl, rfl, hsz⟩ := open_string Tryd.underlying9 (hval 0 9 v0 rfl rfl) h0
  obtain ⟨n, rfl, rfl, rfl, hwf⟩ := open_int Tryd.underlying5 (hval 1 5 v1 rfl rfl) h1
  have hb := bulk_bound hk
  have hs : Rows.uptoBulk (DataW.lit (.string s.data.toList) : DataW H) ≤ 1048576 := Nat.le_trans (bulk_part (by simp)) hb
  simp only [Rows.uptoBulk] at hs
  have hn : 0 ≤ n ∧ n ≤ 255 := u8_wf hwf
  obtain ⟨m, hm⟩ := maxLen_cell hsh
  refine (walk W s n ⟨ib_of_laid hL, ⟨m, hm⟩, wm0_cell hm⟩ (by omega) hn.1 hn.2).mono fun e W' ⟨he, hb⟩ => ?_
  subst he
  refine ⟨_, rfl, [.lit (.string s.data.toList), .lit (.int .u8 n)], [], [], [], [], [], hW', ?_, ?_, ?_, hb.frame _, fun h => by cases h⟩
  · exact trodAll_cons_mk (shut_bool Tryd.underlying4 _) trodAll_mk0
  · have : DataW.TrodAll enc Tryd.prog W' 0 (fun b => decide (b < W.heap.size)) true [9, 5] [.string s, .int .u8 n] [.lit (.string s.data.toList), .lit (.int .u8 n)] ([] ++ ([] ++ [])) :=
      trodAll_cons_mk (shut_string Tryd.underlying9 hsz) (trodAll_cons_mk (shut_int Tryd.underlying5 hwf) trodAll_mk0)
    exact this
  · exact rfl

theorem reads (os : Os) {H : Type} (enc : TypeId × Value → H) : ∃ places, DataW.whole enc Tryd.prog ((layTabs (World.holding Tryd.prog os ⟨#[], #[], []⟩)).forCall (fun _ _ => 0) ⟨#[], #[.string ⟨#[]⟩, .int .u8 0], []⟩).memory Tryd.f6.params.toList Rows.strvalIndentedSpec.vars false #[Value.string ⟨#[]⟩, Value.int .u8 0].toList 8 = some ([.lit (.string []), .lit (.int .u8 0)], [], places) :=
  ⟨[], by kernel_rfl⟩

set_option maxRecDepth 100000 in
theorem lifted (os : Os) (started : os.Started) (H : Type) (enc : TypeId × Value → H) (F : Stop.Interp) :
    ReturnsInHanded {} Tryd.checked os 6 .any ((Rows.OpenSpec.upto Rows.strvalIndentedSpec).preRow enc Tryd.prog Tryd.f6 Rows.strvalIndentedUptoRow.domain false Rows.strvalIndentedUptoRow.laid) (((Rows.OpenSpec.upto Rows.strvalIndentedSpec).at F).post enc Tryd.prog Tryd.f6 false true false false) := by
  obtain ⟨places, hx⟩ := reads os enc
  refine returnsInHanded_of_row (C := Tryd.checked) (s := Rows.OpenSpec.upto Rows.strvalIndentedSpec) own started (by kernel_rfl) Tryd.func6
    (witness_row_at (enc := enc) (C := Tryd.checked) false (layTabs (World.holding Tryd.prog os ⟨#[], #[], []⟩)) #[.string ⟨#[]⟩, .int .u8 0] rfl (by kernel_rfl) (by kernel_rfl) (by kernel_rfl)
      (OpenSpec.preRow_of_cond 8 hx (by kernel_rfl) (fun k hk => by cases hk; kernel_rfl) (by kernel_rfl) (laid_met os _))) ?_
  intro W base args ds gs before hval hW _ hcond _ hL hsh _
  exact contract H enc W base args ds gs before hval hW hL hsh (hcond _ rfl)

theorem saidUpto : Rows.StrvalIndentedUptoSaid :=
  OpenClaim.holds_of_cond 6 Tryd.f6 rfl rfl rfl rfl rfl rfl rfl ⟨rfl, rfl, rfl, rfl, rfl⟩ rfl rfl rfl rfl rfl (by kernel_rfl) Tryd.func6 (by kernel_rfl)
    (of_decide_eq_true (by kernel_rfl)) (by unfold Func.isWrapper; first | (rw [if_pos (by decide +kernel)]; kernel_rfl) | (rw [if_neg (by decide +kernel)]; exact ⟨rfl, rfl⟩))
    (fun os started H enc _ F => by rw [OpenClaim.pre_eq_preRow]; exact lifted os started H enc F)

theorem plain (f : FuncId) (fn : Func) (hf : Tryd.pinned.checked.prog.funcNamed "pergola/pergolalaw06.StrvalIndented" = some f) (hfn : Tryd.pinned.checked.prog.funcs[f]? = some fn) :
    false = Tryd.pinned.checked.prog.looks [] ∧ ∀ (j : Nat) t, fn.params[j]? = some t → Tryd.pinned.checked.prog.wantsStandIn t = false := by
  obtain rfl : f = 6 := Option.some.inj ((show Tryd.prog.funcNamed "pergola/pergolalaw06.StrvalIndented" = some 6 by kernel_rfl).symm.trans hf) |>.symm
  obtain rfl : fn = Tryd.f6 := (Option.some.inj (Tryd.func6.symm.trans hfn)).symm
  refine ⟨by kernel_rfl, fun j t ht => ?_⟩
  rw [Tryd.params6] at ht
  obtain h | h : t = 9 ∨ t = 5 := by simpa using Array.mem_of_getElem? ht
  · subst h; exact (show Tryd.prog.wantsStandIn 9 = false by kernel_rfl)
  · subst h; exact (show Tryd.prog.wantsStandIn 5 = false by kernel_rfl)

/-- The card. -/
theorem card : Rows.StrvalIndentedUptoCardSaid :=
  Claim7.holds_tied_plain_at .later [] _ _ _ _ saidUpto (fun _ h => by cases h) (by kernel_rfl) (fun _ h => by cases h) strvalIndentedUpto_row_tie rfl ⟨rfl, rfl⟩ (by kernel_rfl) rfl plain (by kernel_rfl)
#print axioms card
end Go.Proofs.YtemaknoadiaieaaDoor.strvalIndented
end
