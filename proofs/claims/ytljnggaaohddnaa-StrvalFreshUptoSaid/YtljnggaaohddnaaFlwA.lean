/- Proved here: lemmas of an evaluator over the model's code that the claim's text uses (Step2 R2 R3 R4 R5 R6). Conditions: those that each lemma states. -/
import Derived.Test.YtljnggaaohddnaaFevE
import Derived.Test.YtljnggaaohddnaaFfnG
section
set_option linter.unusedVariables false
namespace Go.Aev
open Go.Proofs
def regOps : Code → Array Oper
  | .region _ ops _ => ops
  | _ => #[]
def cd (f : Func) (k : Nat) (s : List Nat) : Code := cdAt f (List.replicate k 1 ++ s)
def opN (c : Code) (j : Nat) : Oper := ((regOps c).toList[j]?).getD ⟨none, .move (.const undef), 0, "", #[], none⟩
def opsN (c : Code) : Nat → Nat → List Oper
  | _, 0 => []
  | j, m + 1 => opN c j :: opsN c (j + 1) m
theorem wp_reg {P : Program} {Q : Exit → Act → World → Prop} {a : Act} {w : World} {c : Code} (id m : Nat) (h : c = .region id (regOps c) false) (h2 : (regOps c).toList = opsN c 0 m) (hw : wpList P (regOps c) Q (opsN c 0 m) a w) : c.wp P Q a w := by
  rw [h]
  refine wp_region_list ?_
  rw [h2]
  exact hw
theorem wp_sq {P : Program} {Q : Exit → Act → World → Prop} {a : Act} {w : World} {c : Code} (x y : Code) (h : c = .seq x y) (hx : x.wp P (Exit.then (y.wp P Q) Q) a w) : c.wp P Q a w := by
  rw [h]; exact wp_seq hx
theorem wp_cn {P : Program} {Q : Exit → Act → World → Prop} {a : Act} {w : World} {c : Code} {n : Nat} {fr : List (Nat × Value)} (tm : Tm a n fr) {x y : Code} {o : Operand} (h : c = .cond o x y) (b : Bool) (hv : evV fr o = some (.bool b)) (hx : (if b then x else y).wp P Q a w) : c.wp P Q a w := by
  rw [h]; exact wp_cond (tm.ev hv) hx
theorem wp_bl {P : Program} {Q : Exit → Act → World → Prop} {a : Act} {w : World} {c : Code} (id : Nat) (x : Code) (h : c = .block id x) (hx : x.wp P (Exit.inBlock id Q) a w) : c.wp P Q a w := by
  rw [h]; exact wp_block hx
theorem wp_lp {P : Program} {Q : Exit → Act → World → Prop} {a : Act} {w : World} {c : Code} (x : Code) (h : c = .loop x) (I : Act → World → Prop) (μ : Act → World → Nat) (h₀ : I a w)
    (round : ∀ a w, I a w → x.wp P (Exit.then (fun a' w' => I a' w' ∧ μ a' w' < μ a w) Q) a w) : c.wp P Q a w := by
  rw [h]; exact wp_loop I μ h₀ round

theorem ty23 : ∃ i z, Try.prog.info? 25 = some i ∧ i.size = 1 ∧ i.bytes = 24 ∧ i.zero = some z ∧ z.cells.size = 1 := by
  obtain ⟨_, i, z, h1, h2, h3, h4, h5⟩ := tb_slice (E := E10) (P := Try.prog) tb6_ok (t := 23) (u := Ty6.rs) (e := 25) rfl
  exact ⟨i, z, h1, h2, h3, h4, h5⟩
theorem ty25 : ∃ i z, Try.prog.info? 21 = some i ∧ i.size = 1 ∧ i.bytes = 4 ∧ i.zero = some z ∧ z.cells.size = 1 := by
  obtain ⟨_, i, z, h1, h2, h3, h4, h5⟩ := tb_slice (E := E10) (P := Try.prog) tb6_ok (t := 25) (u := Ty6.i32) (e := 21) rfl
  exact ⟨i, z, h1, h2, h3, h4, h5⟩
theorem ag25 (w : World) : (isAgg 25).run Try.prog w = .ok false w := isAgg_run (E := E10) (tb6_ok 25) (fun e => by cases e) (fun u e => by cases e) w
theorem ag21 (w : World) : (isAgg 21).run Try.prog w = .ok false w := isAgg_run (E := E10) (tb6_ok 21) (fun e => by cases e) (fun u e => by cases e) w

theorem test15 {a : Act} {w : World} {Q : Exit → Act → World → Prop} {v0 : Value} (tm : Tm a 238 [(0, v0)]) (h : ∀ a', Tm a' 238 [(83, v0), (0, v0)] → Q .normal a' w) : wpList Try.prog (regOps (cd Try.f10 8 [0])) Q [opN (cd Try.f10 8 [0]) 0] a w := by
  refine wpList_plain rfl fun K hK => w_move tm rfl rfl rfl rfl fun a tm => hK _ _ ?_
  exact wpList_nil (h a tm)
end Go.Aev
end

section
set_option linter.unusedVariables false
namespace Go.Aev
open Go.Proofs

theorem post_keep {w w' : World} {m : Nat → Nat} {g' : Gh} {r : E6} {v : Value} (p : Post U6 ⟨w, m, none⟩ g' r v w') : KeepS w w' (fun _ => False) :=
  ⟨p.os, p.tape, p.output, p.size, fun b hb _ => (p.frame b hb (fun e => by cases e)).1⟩
theorem opt_ok {S : List L6 → Option (Bool × E6)} {ls : List L6} {r : E6} (h : S ls = some (true, r)) : opt S ls = some r := by unfold opt; rw [h]
theorem noName {t : Ty6} {l : List (den6 t)} {d : Nat} {P : Prop} (h : (Leaf.sl t l none : L6).has d = true) : P := by cases h

theorem call1 {f : FuncId} {S : List L6 → Option (Bool × E6)} (snd : Sound Try.prog U6 IT f (opt S)) {w : World} {m : Nat → Nat} (hz : ∀ b, w.heap.size ≤ b → m b = 0) {L : List (List Int)} {v : Value} (hr : CRep U6 w m (.sl .rs L none) v) {r : E6} (hS : S [.sl .rs L none] = some (true, r)) :
    Calls Try.prog f #[v] w fun e w' => ∃ v' g', e = .returned v' ∧ Post U6 ⟨w, m, none⟩ g' r v' w' :=
  snd.ok [.sl .rs L none] r (opt_ok hS) w ⟨m, fun _ => .int .i64 0, fun _ => 0, fun _ => 0⟩ [v] trivial hz ⟨⟨hr, fun _ _ _ e => by cases e⟩, trivial⟩ (fun e => by cases e) (fun lf hlf d hd => by
    rcases List.mem_singleton.1 hlf with rfl
    exact noName hd)
theorem call_rows {f : FuncId} {S : List L6 → Option (Bool × E6)} (snd : Sound Try.prog U6 IT f (opt S)) {w : World} {m : Nat → Nat} (hz : ∀ b, w.heap.size ≤ b → m b = 0) {L L' : List (List Int)} {v : Value} (hr : CRep U6 w m (.sl .rs L none) v)
    (hS : S [.sl .rs L none] = some (true, .one (.sl .rs L' (some 1000001)))) : Calls Try.prog f #[v] w fun e w' => ∃ v', e = .returned v' ∧ KeepS w w' (fun _ => False) ∧ ∃ vs, Rows w' w.heap.size w'.heap.size v' vs L' :=
  (call1 snd hz hr hS).mono fun e w' ⟨v', g', he, p⟩ => ⟨v', he, post_keep p, rows_of_post rfl p⟩
theorem call_rows0 {f : FuncId} {S : List L6 → Option (Bool × E6)} (snd : Sound Try.prog U6 IT f (opt S)) {w : World} {m : Nat → Nat} (hz : ∀ b, w.heap.size ≤ b → m b = 0) {L L' : List (List Int)} {v : Value} (hr : CRep U6 w m (.sl .rs L none) v)
    (hS : S [.sl .rs L none] = some (true, .one (.sl .rs L' none))) : Calls Try.prog f #[v] w fun e w' => ∃ v', e = .returned v' ∧ KeepS w w' (fun _ => False) ∧ ∃ m', CRep U6 w' m' (.sl .rs L' none) v' ∧ (∀ b, b < w.heap.size → m' b = m b) ∧ ∀ b, w'.heap.size ≤ b → m' b = 0 :=
  (call1 snd hz hr hS).mono fun e w' ⟨v', g', he, p⟩ => ⟨v', he, post_keep p, g'.wm, p.rep.1, fun b hb => (p.frame b hb (fun e => by cases e)).2, p.zero⟩
theorem call_same {w : World} {L L' : List (List Int)} {v v' : Value} (hL : limL L = true) (hL' : limL L' = true) (hr : CRep U6 w (wm0 w) (.sl .rs L none) v) (hr' : CRep U6 w (wm0 w) (.sl .rs L' none) v') :
    Calls Try.prog 14 #[v, v'] w fun e w' => e = .returned (.bool (sameF L L')) ∧ KeepS w w' (fun _ => False) := by
  have := snd14.ok [.sl .rs L none, .sl .rs L' none] (.one (.bool (sameF L L'))) (opt_ok (by simp only [S14, hL, hL', Bool.and_self])) w ⟨wm0 w, fun _ => .int .i64 0, fun _ => 0, fun _ => 0⟩ [v, v'] trivial (wm0_zero w)
    ⟨⟨hr, fun _ _ _ e => by cases e⟩, ⟨hr', fun _ _ _ e => by cases e⟩, trivial⟩ (fun e => by cases e) (fun lf hlf d hd => by
      rcases List.mem_cons.1 hlf with rfl | hlf
      · exact noName hd
      · rcases List.mem_singleton.1 hlf with rfl
        exact noName hd)
  refine this.mono fun e w' ⟨v1, g', he, p⟩ => ⟨?_, post_keep p⟩
  rw [he, CRep.bool_inv p.rep.1]

/-- Small lists. -/
def Small (L : List (List Int)) : Prop := L.length ≤ 1048576 ∧ ∀ l ∈ L, l.length ≤ 1048576
theorem Small.lim {L : List (List Int)} (h : Small L) : limL L = true := by
  unfold limL
  rw [Bool.and_eq_true, List.all_eq_true]
  refine ⟨room_iff.2 (by have := h.1; omega), fun l hl => lim4_iff.2 (by have := h.2 l hl; omega)⟩
theorem Small.of_len {L L' : List (List Int)} (h : Small L) (hl : L'.map List.length = L.map List.length) : Small L' := by
  have h0 : L'.length = L.length := by simpa using congrArg List.length hl
  refine ⟨by rw [h0]; exact h.1, fun l hm => ?_⟩
  obtain ⟨i, hi, rfl⟩ := List.getElem_of_mem hm
  have h1 : (L'.map List.length)[i]? = (L.map List.length)[i]? := by rw [hl]
  rw [List.getElem?_map, List.getElem?_map, List.getElem?_eq_getElem hi, List.getElem?_eq_getElem (by omega)] at h1
  simp only [Option.map_some, Option.some.injEq] at h1
  rw [h1]
  exact h.2 _ (List.getElem_mem _)

structure Cfg where
  n1 : Nat
  n2 : Nat
  n3 : Nat
  n4 : Nat
  vg : Value
  va : Value
  vb : Value
  vw : Value
  vsg : List Value
  vsa : List Value
  vsb : List Value
  m : Nat → Nat
  D : List (List Int)
structure Mem (W1 : World) (c : Cfg) (w : World) (LG LA LB : List (List Int)) : Prop where
  g : Rows w W1.heap.size c.n1 c.vg c.vsg LG
  a : Rows w c.n1 c.n2 c.va c.vsa LA
  b : Rows w c.n2 c.n3 c.vb c.vsb LB
  want : CRep U6 w c.m (.sl .rs c.D none) c.vw
  hm : ∀ k, W1.heap.size ≤ k → k < c.n3 → c.m k = 0
  hz : ∀ k, c.n4 ≤ k → c.m k = 0
  o0 : W1.heap.size ≤ c.n1
  o1 : c.n1 ≤ c.n2
  o2 : c.n2 ≤ c.n3
  o3 : c.n3 ≤ c.n4
  o4 : c.n4 ≤ w.heap.size
  keep : KeepS W1 w (fun k => W1.heap.size ≤ k)
theorem Mem.grow {W1 w w' : World} {c : Cfg} {LG LA LB : List (List Int)} (h : Mem W1 c w LG LA LB) {S : Nat → Prop} (k : KeepS w w' S) (hS : ∀ b, S b → c.n4 ≤ b) : Mem W1 c w' LG LA LB := by
  have o0 := h.o0; have o1 := h.o1; have o2 := h.o2; have o3 := h.o3
  have hg : Rows w' W1.heap.size c.n1 c.vg c.vsg LG := h.g.keepS k fun b _ h2 hs => by have := hS b hs; omega
  have ha : Rows w' c.n1 c.n2 c.va c.vsa LA := h.a.keepS k fun b _ h2 hs => by have := hS b hs; omega
  have hb : Rows w' c.n2 c.n3 c.vb c.vsb LB := h.b.keepS k fun b _ h2 hs => by have := hS b hs; omega
  exact ⟨hg, ha, hb, k.crep h.want (fun b hb => h.hz b (Nat.le_trans h.o4 hb)) (fun b hs => h.hz b (hS b hs)), h.hm, h.hz, o0, o1, o2, o3, Nat.le_trans h.o4 k.size, h.keep.trans (k.mono fun b _ hs => by have := hS b hs; omega)⟩
theorem Mem.wrep {W1 w : World} {c : Cfg} {LG LA LB : List (List Int)} (h : Mem W1 c w LG LA LB) : CRep U6 w (wm0 w) (.sl .rs c.D none) c.vw := h.want.all
end Go.Aev
end

section
set_option linter.unusedVariables false
namespace Go.Aev
open Go.Proofs

theorem s15 {L : List (List Int)} (h : Small L) : S15 [.sl .rs L none] = some (true, .one (.sl .rs L (some 1000001))) := by simp only [S15, h.lim]
theorem s12 {L : List (List Int)} (h : Small L) : S12 [.sl .rs L none] = some (true, .one (.sl .rs (dedentF L) (some 1000001))) := by simp only [S12, h.lim]
theorem s16 {L : List (List Int)} (h : Small L) : S16 [.sl .rs L none] = some (true, .one (.sl .rs (dedentF L) none)) := by simp only [S16, h.lim]

theorem seg8 {Q : Exit → Act → World → Prop} {a : Act} {w : World} {v0 : Value} {L : List (List Int)} (hL : Small L) (tm : Tm a 238 [(0, v0)]) (hr : CRep U6 w (wm0 w) (.sl .rs L none) v0)
    (hk : ∀ a' w' (c : Cfg), c.D = dedentF L → Tm a' 238 [(0, v0), (8, c.vg), (9, c.va), (10, c.vb), (11, c.vw)] → Mem w c w' L (dedentF L) (dedentF L) → (cd Try.f10 12 []).wp Try.prog Q a' w') : (cd Try.f10 8 []).wp Try.prog Q a w := by
  refine wp_sq (cd Try.f10 8 [0]) (cd Try.f10 9 []) (by kernel_rfl) ?_
  refine wp_reg 15 3 (by kernel_rfl) (by kernel_rfl) ?_
  refine wpList_plain rfl fun K hK => w_move tm rfl rfl rfl rfl fun a tm => hK _ _ ?_
  refine wpList_plain rfl fun K hK => w_call tm rfl rfl rfl snd15.enter rfl (args1 tm rfl rfl) (call_rows snd15 (wm0_zero w) hr (s15 hL)) fun e w1 ⟨vg, he, k1, vsg, g1⟩ => ⟨vg, he, fun a tm => hK _ _ ?_⟩
  refine wpList_plain rfl fun K hK => w_assign tm rfl rfl rfl rfl fun a tm => hK _ _ (wpList_nil ?_)
  show (cd Try.f10 9 []).wp Try.prog Q a w1
  replace tm := tm.sub (fr' := [(0, v0), (8, vg)]) ⟨rfl, rfl, trivial⟩
  refine wp_sq (cd Try.f10 9 [0]) (cd Try.f10 10 []) (by kernel_rfl) ?_
  refine wp_reg 16 3 (by kernel_rfl) (by kernel_rfl) ?_
  refine wpList_plain rfl fun K hK => w_move tm rfl rfl rfl rfl fun a tm => hK _ _ ?_
  refine wpList_plain rfl fun K hK => w_call tm rfl rfl rfl snd12.enter rfl (args1 tm rfl rfl) (call_rows snd12 (wm0_zero w1) (g1.rep none) (s12 hL)) fun e w2 ⟨va, he, k2, vsa, a2⟩ => ⟨va, he, fun a tm => hK _ _ ?_⟩
  refine wpList_plain rfl fun K hK => w_assign tm rfl rfl rfl rfl fun a tm => hK _ _ (wpList_nil ?_)
  show (cd Try.f10 10 []).wp Try.prog Q a w2
  replace tm := tm.sub (fr' := [(0, v0), (8, vg), (9, va)]) ⟨rfl, rfl, rfl, trivial⟩
  have g2 := g1.keepS k2 fun _ _ _ h => h
  refine wp_sq (cd Try.f10 10 [0]) (cd Try.f10 11 []) (by kernel_rfl) ?_
  refine wp_reg 17 3 (by kernel_rfl) (by kernel_rfl) ?_
  refine wpList_plain rfl fun K hK => w_move tm rfl rfl rfl rfl fun a tm => hK _ _ ?_
  refine wpList_plain rfl fun K hK => w_call tm rfl rfl rfl snd12.enter rfl (args1 tm rfl rfl) (call_rows snd12 (wm0_zero w2) (g2.rep none) (s12 hL)) fun e w3 ⟨vb, he, k3, vsb, b3⟩ => ⟨vb, he, fun a tm => hK _ _ ?_⟩
  refine wpList_plain rfl fun K hK => w_assign tm rfl rfl rfl rfl fun a tm => hK _ _ (wpList_nil ?_)
  show (cd Try.f10 11 []).wp Try.prog Q a w3
  replace tm := tm.sub (fr' := [(0, v0), (8, vg), (9, va), (10, vb)]) ⟨rfl, rfl, rfl, rfl, trivial⟩
  have g3 := g2.keepS k3 fun _ _ _ h => h
  have a3 := a2.keepS k3 fun _ _ _ h => h
  have kk : KeepS w w3 (fun _ => False) := (k1.trans k2).trans k3
  have hr3 := kk.crep hr (wm0_zero w) (fun _ h => h.elim)
  refine wp_sq (cd Try.f10 11 [0]) (cd Try.f10 12 []) (by kernel_rfl) ?_
  refine wp_reg 18 3 (by kernel_rfl) (by kernel_rfl) ?_
  refine wpList_plain rfl fun K hK => w_move tm rfl rfl rfl rfl fun a tm => hK _ _ ?_
  refine wpList_plain rfl fun K hK => w_call tm rfl rfl rfl snd16.enter rfl (args1 tm rfl rfl) (call_rows0 snd16 (m := wm0 w) (fun b hb => wm0_zero w b (Nat.le_trans kk.size hb)) hr3 (s16 hL)) fun e w4 ⟨vw, he, k4, m, hw, hmlo, hmhi⟩ => ⟨vw, he, fun a tm => hK _ _ ?_⟩
  refine wpList_plain rfl fun K hK => w_assign tm rfl rfl rfl rfl fun a tm => hK _ _ (wpList_nil ?_)
  show (cd Try.f10 12 []).wp Try.prog Q a w4
  replace tm := tm.sub (fr' := [(0, v0), (8, vg), (9, va), (10, vb), (11, vw)]) ⟨rfl, rfl, rfl, rfl, rfl, trivial⟩
  refine hk a w4 ⟨w1.heap.size, w2.heap.size, w3.heap.size, w4.heap.size, vg, va, vb, vw, vsg, vsa, vsb, m, dedentF L⟩ rfl tm
    ⟨g3.keepS k4 fun _ _ _ h => h, a3.keepS k4 fun _ _ _ h => h, b3.keepS k4 fun _ _ _ h => h, hw, fun k h1 h2 => ?_, hmhi, k1.size, k2.size, k3.size, k4.size, Nat.le_refl _, (kk.trans k4).mono fun _ _ h => h.elim⟩
  exact (hmlo k h2).trans (wm0_zero w k h1)
end Go.Aev
end

section
set_option linter.unusedVariables false
namespace Go.Aev
open Go.Proofs

theorem same_self (L : List (List Int)) : sameF L L = true := by simp [sameF]
theorem False.keep {w w' : World} {W1 : World} {c : Cfg} {LG LA LB : List (List Int)} (h : Mem W1 c w LG LA LB) (k : KeepS w w' (fun _ => False)) : Mem W1 c w' LG LA LB := h.grow k fun _ h => h.elim

theorem seg12 {Q : Exit → Act → World → Prop} {a : Act} {w W1 : World} {c : Cfg} {v0 : Value} {L D : List (List Int)} (hcD : c.D = D) (hL : Small L) (hD : Small D) (tm : Tm a 238 [(0, v0), (8, c.vg), (9, c.va), (10, c.vb), (11, c.vw)]) (mem : Mem W1 c w L D D)
    (hr : CRep U6 w (wm0 w) (.sl .rs L none) v0)
    (hk : ∀ a' w', Tm a' 238 [(8, c.vg), (9, c.va), (10, c.vb), (11, c.vw)] → Mem W1 c w' L D D → (cd Try.f10 13 []).wp Try.prog Q a' w') : (cd Try.f10 12 []).wp Try.prog Q a w := by
  refine wp_sq (cd Try.f10 12 [0]) (cd Try.f10 13 []) (by kernel_rfl) ?_
  refine wp_sq (cd Try.f10 12 [0, 0]) (cd Try.f10 12 [0, 1]) (by kernel_rfl) ?_
  refine wp_reg 19 16 (by kernel_rfl) (by kernel_rfl) ?_
  refine wpList_plain rfl fun K hK => w_move tm rfl rfl rfl rfl fun a tm => hK _ _ ?_
  refine wpList_plain rfl fun K hK => w_move tm rfl rfl rfl rfl fun a tm => hK _ _ ?_
  refine wpList_plain rfl fun K hK => w_call tm rfl rfl rfl snd14.enter rfl (args2 tm rfl rfl rfl) (call_same hD.lim (hcD ▸ hD).lim (mem.a.rep none) mem.wrep) fun e w1 ⟨he, k1⟩ => ⟨_, he, fun a tm => hK _ _ ?_⟩
  rw [hcD, same_self] at tm
  refine wpList_plain rfl fun K hK => w_not tm rfl rfl rfl rfl fun a tm => hK _ _ ?_
  refine wpList_plain rfl fun K hK => w_move tm rfl rfl rfl rfl fun a tm => hK _ _ ?_
  replace mem := mem.grow k1 fun _ h => h.elim
  replace hr := (k1.crep hr (wm0_zero w) (fun _ h => h.elim)).all
  refine wpList_on tm rfl rfl rfl rfl fun K hK => w_move tm rfl rfl rfl rfl fun a tm => hK _ _ ?_
  refine wpList_on tm rfl rfl rfl rfl fun K hK => w_move tm rfl rfl rfl rfl fun a tm => hK _ _ ?_
  refine wpList_on tm rfl rfl rfl rfl fun K hK => w_call tm rfl rfl rfl snd14.enter rfl (args2 tm rfl rfl rfl) (call_same hD.lim (hcD ▸ hD).lim (mem.b.rep none) mem.wrep) fun e w2 ⟨he, k2⟩ => ⟨_, he, fun a tm => hK _ _ ?_⟩
  rw [hcD, same_self] at tm
  refine wpList_on tm rfl rfl rfl rfl fun K hK => w_not tm rfl rfl rfl rfl fun a tm => hK _ _ ?_
  refine wpList_plain rfl fun K hK => w_pick tm rfl rfl rfl rfl rfl fun a tm => hK _ _ ?_
  refine wpList_plain rfl fun K hK => w_move tm rfl rfl rfl rfl fun a tm => hK _ _ ?_
  replace mem := mem.grow k2 fun _ h => h.elim
  replace hr := (k2.crep hr (wm0_zero w1) (fun _ h => h.elim)).all
  refine wpList_on tm rfl rfl rfl rfl fun K hK => w_move tm rfl rfl rfl rfl fun a tm => hK _ _ ?_
  refine wpList_on tm rfl rfl rfl rfl fun K hK => w_move tm rfl rfl rfl rfl fun a tm => hK _ _ ?_
  refine wpList_on tm rfl rfl rfl rfl fun K hK => w_call tm rfl rfl rfl snd14.enter rfl (args2 tm rfl rfl rfl) (call_same hL.lim hL.lim (mem.g.rep none) hr) fun e w3 ⟨he, k3⟩ => ⟨_, he, fun a tm => hK _ _ ?_⟩
  rw [same_self] at tm
  refine wpList_on tm rfl rfl rfl rfl fun K hK => w_not tm rfl rfl rfl rfl fun a tm => hK _ _ ?_
  refine wpList_plain rfl fun K hK => w_pick tm rfl rfl rfl rfl rfl fun a tm => hK _ _ (wpList_nil ?_)
  replace mem := mem.grow k3 fun _ h => h.elim
  show (cd Try.f10 12 [0, 1]).wp Try.prog _ a w3
  refine wp_cn tm (x := cd Try.f10 12 [0, 1, 0]) (y := .skip) (o := .tmp 106) (by kernel_rfl) false rfl (wp_skip ?_)
  exact hk a w3 (tm.sub ⟨rfl, rfl, rfl, rfl, trivial⟩) mem
end Go.Aev
end

section
set_option linter.unusedVariables false
namespace Go.Aev
open Go.Proofs

def noKey (d : Nat) : List (Nat × Value) → Bool
  | [] => true
  | p :: r => bif Nat.beq p.1 d then false else noKey d r
theorem noKey_look {d : Nat} {fr : List (Nat × Value)} (h : noKey d fr = true) : lookV fr d = none := by
  induction fr with
  | nil => rfl
  | cons p r ih =>
    unfold noKey at h
    unfold lookV
    cases hb : Nat.beq p.1 d with
    | true => rw [hb] at h; cases h
    | false => rw [hb] at h; exact ih h
theorem Tm.drop {a : Act} {n d : Nat} {v : Value} {fr : List (Nat × Value)} (tm : Tm a n ((d, v) :: fr)) (h : noKey d fr = true) : Tm a n fr := by
  refine ⟨tm.size, tm.dfr, fun i u hu => tm.get i u ?_⟩
  unfold lookV
  cases hb : Nat.beq d i with
  | true => rw [(beq_iff _ _).1 hb] at h; rw [noKey_look h] at hu; cases hu
  | false => exact hu
theorem Tm.swap {a : Act} {n d e : Nat} {v u : Value} {fr : List (Nat × Value)} (tm : Tm a n ((d, v) :: (e, u) :: fr)) (h : Nat.beq d e = false) : Tm a n ((e, u) :: (d, v) :: fr) := by
  refine ⟨tm.size, tm.dfr, fun i x hx => tm.get i x ?_⟩
  unfold lookV at hx ⊢
  unfold lookV at hx ⊢
  cases hd : Nat.beq d i with
  | true =>
    have e1 := (beq_iff _ _).1 hd
    have h2 : Nat.beq e i = false := by
      cases h3 : Nat.beq e i with
      | false => rfl
      | true => rw [e1, ← (beq_iff _ _).1 h3, beq_self] at h; cases h
    rw [h2, hd] at hx
    exact hx
  | false => rw [hd] at hx; exact hx
theorem Tm.over {a : Act} {n d : Nat} {v u : Value} {fr : List (Nat × Value)} (tm : Tm a n ((d, v) :: (d, u) :: fr)) : Tm a n ((d, v) :: fr) := by
  refine ⟨tm.size, tm.dfr, fun i x hx => tm.get i x ?_⟩
  unfold lookV at hx ⊢
  cases hd : Nat.beq d i with
  | true => rw [hd] at hx; exact hx
  | false =>
    rw [hd] at hx
    simp only [cond_false] at hx ⊢
    unfold lookV
    rw [hd]
    exact hx

/-- 'for i := range': the head tests i < N, the end adds one. -/
theorem for_rule {P : Program} {Q : Exit → Act → World → Prop} {a : Act} {w : World} {σ : Type} {c lp bd body head inc cn : Code} {lid bid hid iid ti tc tk n : Nat} {X : Operand} {yt yt2 : TypeId} (N : Nat) (F : σ → List (Nat × Value)) (J : Nat → σ → World → Prop) (x0 : σ)
    (h1 : c = .block lid lp) (h2 : lp = .loop (.seq head (.seq cn (.seq bd inc)))) (h3 : cn = .cond (.tmp tc) .skip (.exit lid)) (h4 : bd = .block bid body)
    (hh : head = .region hid (regOps head) false) (hh2 : (regOps head).toList = opsN head 0 1) (hg : (opN head 0).guard = none) (hd : (opN head 0).dst = some tc) (ho : (opN head 0).op = .binOp .lss 3 (.tmp ti) X yt)
    (ih : inc = .region iid (regOps inc) false) (ih2 : (regOps inc).toList = opsN inc 0 2) (ig : (opN inc 0).guard = none) (idd : (opN inc 0).dst = some tk) (io : (opN inc 0).op = .binOp .add 3 (.tmp ti) (.const (.int .i64 1)) yt2)
    (ig1 : (opN inc 1).guard = none) (id1 : (opN inc 1).dst = some ti) (io1 : (opN inc 1).op = .move (.tmp tk))
    (htc : Nat.blt tc n = true) (hti : Nat.blt ti n = true) (htk : Nat.blt tk n = true) (hci : Nat.beq tc ti = false) (hki : Nat.beq tk ti = false) (hkc : Nat.beq tk tc = false)
    (nc : ∀ x, noKey tc (F x) = true) (ni : ∀ x, noKey ti (F x) = true) (nk : ∀ x, noKey tk (F x) = true) (hX : ∀ x i, evV ((ti, i) :: F x) X = some (.int .i64 N)) (hN : N ≤ 4611686018427387904)
    (start : Tm a n ((ti, .int .i64 ((0 : Nat) : Int)) :: F x0)) (hj : J 0 x0 w)
    (round : ∀ i x a w, i < N → Tm a n ((ti, .int .i64 (i : Int)) :: F x) → J i x w → body.wp P (fun e a' w' => e = .normal ∧ ∃ x', Tm a' n ((ti, .int .i64 (i : Int)) :: F x') ∧ J (i + 1) x' w') a w)
    (fin : ∀ x a w, Tm a n ((ti, .int .i64 (N : Int)) :: F x) → J N x w → Q .normal a w) : c.wp P Q a w := by
  refine wp_bl lid lp h1 ?_
  refine wp_lp _ h2 (fun a w => ∃ i x, i ≤ N ∧ Tm a n ((ti, .int .i64 ((i : Nat) : Int)) :: F x) ∧ J i x w) (fun a w => match a.tmps.getD ti undef with | .int _ k => N - k.toNat | _ => 0) ⟨0, x0, Nat.zero_le _, start, hj⟩ ?_
  rintro a w ⟨i, x, hi, tm, hji⟩
  have hself : ∀ (j : Nat) (fr : List (Nat × Value)), lookV ((ti, Value.int .i64 (j : Int)) :: fr) ti = some (.int .i64 (j : Int)) := fun j fr => by unfold lookV; rw [beq_self]; rfl
  have hmu : a.tmps.getD ti undef = .int .i64 (i : Int) := tm.get ti _ (hself i _)
  refine wp_sq _ _ rfl ?_
  refine wp_reg hid 1 hh hh2 ?_
  refine wpList_plain hg fun K hK => w_lss tm hd ho htc (hself i _) (hX x _) fun a1 tm1 => hK _ _ (wpList_nil ?_)
  refine wp_sq _ _ rfl ?_
  have htcv : evV ((tc, Value.bool (decide ((i : Int) < (N : Int)))) :: (ti, .int .i64 (i : Int)) :: F x) (.tmp tc) = some (.bool (decide ((i : Int) < (N : Int)))) := by
    show lookV _ _ = _
    unfold lookV; rw [beq_self]; rfl
  refine wp_cn tm1 h3 _ htcv ?_
  have hic : Nat.beq ti tc = false := by
    cases h5 : Nat.beq ti tc with
    | false => rfl
    | true => rw [(beq_iff _ _).1 h5, beq_self] at hci; cases hci
  have tm2 : Tm a1 n ((ti, .int .i64 (i : Int)) :: F x) := tm1.drop (by unfold noKey; rw [hic]; exact nc x)
  by_cases hlt : i < N
  · rw [if_pos (by simpa using hlt)]
    refine wp_skip ?_
    refine wp_sq bd inc rfl ?_
    refine wp_bl bid body h4 ?_
    refine Code.wp_mono ?_ (round i x a1 w hlt tm2 hji)
    rintro e a' w' ⟨rfl, x', tm3, hj3⟩
    show inc.wp P _ a' w'
    refine wp_reg iid 2 ih ih2 ?_
    refine wpList_plain ig fun K hK => w_add tm3 idd io htk (hself i _) rfl fun a4 tm4 => hK _ _ ?_
    have hw : IntKind.i64.wrap ((i : Int) + 1) = ((i + 1 : Nat) : Int) := wrapSucc (by omega)
    rw [hw] at tm4
    refine wpList_plain ig1 fun K hK => w_move tm4 id1 io1 hti (show lookV _ _ = _ by unfold lookV; rw [beq_self]; rfl) fun a5 tm5 => hK _ _ (wpList_nil ?_)
    have hik : Nat.beq ti tk = false := by
      cases h5 : Nat.beq ti tk with
      | false => rfl
      | true => rw [(beq_iff _ _).1 h5, beq_self] at hki; cases hki
    have tm6 : Tm a5 n ((ti, .int .i64 ((i + 1 : Nat) : Int)) :: F x') := by
      have t1 := tm5.swap hik
      have t2 := t1.drop (by unfold noKey; rw [hik]; unfold noKey; rw [hik]; exact nk x')
      exact t2.over
    refine ⟨⟨i + 1, x', by omega, tm6, hj3⟩, ?_⟩
    have hmu' : a5.tmps.getD ti undef = .int .i64 ((i + 1 : Nat) : Int) := tm6.get ti _ (hself (i + 1) _)
    simp only [hmu, hmu']
    omega
  · have : i = N := by omega
    subst this
    rw [if_neg (by simp)]
    refine wp_exit ?_
    simp only [Exit.then, Exit.inBlock, if_true]
    exact fin x a1 w tm2 hji
end Go.Aev
end

section
set_option linter.unusedVariables false
namespace Go.Aev
open Go.Proofs

theorem lens_get {L L' : List (List Int)} (h : L'.map List.length = L.map List.length) : L'.length = L.length := by simpa using congrArg List.length h
theorem lens_at {L L' : List (List Int)} (h : L'.map List.length = L.map List.length) {i : Nat} {x y : List Int} (hx : L'[i]? = some x) (hy : L[i]? = some y) : x.length = y.length := by
  have h1 : (L'.map List.length)[i]? = (L.map List.length)[i]? := by rw [h]
  rw [List.getElem?_map, List.getElem?_map, hx, hy] at h1
  simpa using h1
theorem lens_set {L : List (List Int)} {i j : Nat} {l : List Int} (hl : L[i]? = some l) (x : Int) : (L.set i (l.set j x)).map List.length = L.map List.length := by
  rw [List.map_set]
  apply List.ext_getElem?
  intro k
  rw [List.getElem?_set]
  by_cases hik : i = k
  · subst hik
    rw [if_pos rfl, if_pos (by simpa using (List.getElem?_eq_some_iff.1 hl).1), List.getElem?_map, hl]
    simp
  · rw [if_neg hik]
theorem Rows.at {w : World} {lo hi : Nat} {v : Value} {vs : List Value} {L : List (List Int)} (h : Rows w lo hi v vs L) {i : Nat} (hi' : i < L.length) :
    ∃ r l b off cap, vs[i]? = some r ∧ L[i]? = some l ∧ v = .slice (some ⟨b, off, none⟩) vs.length cap ∧ w.cell? ⟨b, off + i, none⟩ = some r := by
  have hv : vs[i]? = some (vs[i]'(by rw [h.len]; exact hi')) := List.getElem?_eq_getElem _
  obtain ⟨b, off, cap, h1, _, _, h2, _⟩ := h.out.at hv
  exact ⟨_, _, b, off, cap, hv, List.getElem?_eq_getElem hi', h1, h2⟩
theorem Rows.rowv {w : World} {lo hi : Nat} {v : Value} {vs : List Value} {L : List (List Int)} (h : Rows w lo hi v vs L) {i : Nat} {r : Value} {l : List Int} (hr : vs[i]? = some r) (hl : L[i]? = some l) : ∃ p cap, r = .slice p l.length cap := by
  obtain ⟨p, cap, h1⟩ := (h.row i r l hr hl).len
  exact ⟨p, cap, by rw [h1, intV_len]⟩

theorem seg13 {Q : Exit → Act → World → Prop} {a : Act} {w W1 : World} {c : Cfg} {L D : List (List Int)} (hL : Small L) (tm : Tm a 238 [(8, c.vg), (9, c.va), (10, c.vb), (11, c.vw)]) (mem : Mem W1 c w L D D)
    (hk : ∀ a' w' L', Small L' → Tm a' 238 [(8, c.vg), (9, c.va), (10, c.vb), (11, c.vw)] → Mem W1 c w' L' D D → (cd Try.f10 14 []).wp Try.prog Q a' w') : (cd Try.f10 13 []).wp Try.prog Q a w := by
  obtain ⟨i25, z25, e1, e2, e3, e4, e5⟩ := ty23
  obtain ⟨i21, z21, f1, f2, f3, f4, f5⟩ := ty25
  refine wp_sq (cd Try.f10 13 [0]) (cd Try.f10 14 []) (by kernel_rfl) ?_
  refine wp_sq (cd Try.f10 13 [0, 0]) (cd Try.f10 13 [0, 1]) (by kernel_rfl) ?_
  refine wp_reg 21 3 (by kernel_rfl) (by kernel_rfl) ?_
  refine wpList_plain rfl fun K hK => w_move tm rfl rfl rfl rfl fun a tm => hK _ _ ?_
  obtain ⟨pg, cg, hg0⟩ := mem.g.out.len
  rw [mem.g.len] at hg0
  refine wpList_plain rfl fun K hK => w_len tm Try.underlying23 rfl rfl rfl rfl rfl rfl rfl hg0 fun a tm => hK _ _ ?_
  refine wpList_plain rfl fun K hK => w_move tm rfl rfl rfl rfl fun a tm => hK _ _ (wpList_nil ?_)
  show (cd Try.f10 13 [0, 1]).wp Try.prog _ a w
  refine for_rule (σ := Unit) (lp := cd Try.f10 13 [0, 1, 0]) (head := cd Try.f10 13 [0, 1, 0, 0, 0]) (cn := cd Try.f10 13 [0, 1, 0, 0, 1, 0]) (bd := cd Try.f10 13 [0, 1, 0, 0, 1, 1, 0]) (body := cd Try.f10 13 [0, 1, 0, 0, 1, 1, 0, 0]) (inc := cd Try.f10 13 [0, 1, 0, 0, 1, 1, 1])
    (lid := 2) (bid := 3) (hid := 22) (iid := 29) (ti := 109) (tc := 110) (tk := 127) (X := .tmp 108) L.length (fun _ => [(108, .int .i64 (L.length : Int)), (8, c.vg), (9, c.va), (10, c.vb), (11, c.vw)])
    (fun _ _ w' => ∃ L', L'.map List.length = L.map List.length ∧ Mem W1 c w' L' D D) ()
    (by kernel_rfl) (by kernel_rfl) (by kernel_rfl) (by kernel_rfl) (by kernel_rfl) (by kernel_rfl) rfl rfl rfl (by kernel_rfl) (by kernel_rfl) rfl rfl rfl rfl rfl rfl rfl rfl rfl rfl rfl rfl
    (fun _ => rfl) (fun _ => rfl) (fun _ => rfl) (fun _ _ => rfl) (by have := hL.1; omega) (tm.sub ⟨rfl, rfl, rfl, rfl, rfl, rfl, trivial⟩) ⟨L, rfl, mem⟩ ?_ ?_
  · rintro i _ a w hi tm ⟨L1, hlen, mem⟩
    have hl1 := lens_get hlen
    have hsm : Small L1 := hL.of_len hlen
    refine wp_sq (cd Try.f10 13 [0, 1, 0, 0, 1, 1, 0, 0, 0]) (cd Try.f10 13 [0, 1, 0, 0, 1, 1, 0, 0, 1]) (by kernel_rfl) ?_
    refine wp_reg 23 2 (by kernel_rfl) (by kernel_rfl) ?_
    refine wpList_plain rfl fun K hK => w_move tm rfl rfl rfl rfl fun a tm => hK _ _ ?_
    refine wpList_plain rfl fun K hK => w_assign tm rfl rfl rfl rfl fun a tm => hK _ _ (wpList_nil ?_)
    refine wp_sq (cd Try.f10 13 [0, 1, 0, 0, 1, 1, 0, 0, 1, 0]) (cd Try.f10 13 [0, 1, 0, 0, 1, 1, 0, 0, 1, 1]) (by kernel_rfl) ?_
    refine wp_reg 24 6 (by kernel_rfl) (by kernel_rfl) ?_
    obtain ⟨r, l, b, off, cap, hr, hl, hv, hcell⟩ := mem.g.at (i := i) (by omega)
    obtain ⟨p, cp, hrv⟩ := mem.g.rowv hr hl
    have hil : i < c.vsg.length := (List.getElem?_eq_some_iff.1 hr).1
    refine wpList_plain rfl fun K hK => w_move tm rfl rfl rfl rfl fun a tm => hK _ _ ?_
    refine wpList_plain rfl fun K hK => w_move tm rfl rfl rfl rfl fun a tm => hK _ _ ?_
    refine wpList_plain rfl fun K hK => w_idx tm Try.underlying23 e1 e2 rfl rfl rfl rfl hv rfl rfl hil fun a tm => hK _ _ ?_
    refine wpList_plain rfl fun K hK => w_load tm ag25 rfl rfl rfl rfl hcell fun a tm => hK _ _ ?_
    refine wpList_plain rfl fun K hK => w_len tm Try.underlying25 rfl rfl rfl rfl rfl rfl rfl hrv fun a tm => hK _ _ ?_
    refine wpList_plain rfl fun K hK => w_move tm rfl rfl rfl rfl fun a tm => hK _ _ (wpList_nil ?_)
    show (cd Try.f10 13 [0, 1, 0, 0, 1, 1, 0, 0, 1, 1]).wp Try.prog _ a w
    have hlm : l.length ≤ 1048576 := hsm.2 l (List.mem_of_getElem? hl)
    refine for_rule (σ := Unit) (lp := cd Try.f10 13 [0, 1, 0, 0, 1, 1, 0, 0, 1, 1, 0]) (head := cd Try.f10 13 [0, 1, 0, 0, 1, 1, 0, 0, 1, 1, 0, 0, 0]) (cn := cd Try.f10 13 [0, 1, 0, 0, 1, 1, 0, 0, 1, 1, 0, 0, 1, 0]) (bd := cd Try.f10 13 [0, 1, 0, 0, 1, 1, 0, 0, 1, 1, 0, 0, 1, 1, 0])
      (body := cd Try.f10 13 [0, 1, 0, 0, 1, 1, 0, 0, 1, 1, 0, 0, 1, 1, 0, 0]) (inc := cd Try.f10 13 [0, 1, 0, 0, 1, 1, 0, 0, 1, 1, 0, 0, 1, 1, 1])
      (lid := 4) (bid := 5) (hid := 25) (iid := 28) (ti := 117) (tc := 118) (tk := 126) (X := .tmp 116) l.length (fun _ => [(116, .int .i64 (l.length : Int)), (12, .int .i64 (i : Int)), (109, .int .i64 (i : Int)), (108, .int .i64 (L.length : Int)), (8, c.vg), (9, c.va), (10, c.vb), (11, c.vw)])
      (fun _ _ w' => ∃ L', L'.map List.length = L1.map List.length ∧ Mem W1 c w' L' D D) ()
      (by kernel_rfl) (by kernel_rfl) (by kernel_rfl) (by kernel_rfl) (by kernel_rfl) (by kernel_rfl) rfl rfl rfl (by kernel_rfl) (by kernel_rfl) rfl rfl rfl rfl rfl rfl rfl rfl rfl rfl rfl rfl
      (fun _ => rfl) (fun _ => rfl) (fun _ => rfl) (fun _ _ => rfl) (by omega) (tm.sub ⟨rfl, rfl, rfl, rfl, rfl, rfl, rfl, rfl, rfl, trivial⟩) ⟨L1, rfl, mem⟩ ?_ ?_
    · rintro j _ a w hj tm ⟨L2, hlen2, mem⟩
      have hl2 := lens_get hlen2
      obtain ⟨r2, l2, b, off, cap, hr2, hl2', hv, hcell⟩ := mem.g.at (i := i) (by omega)
      rw [hr] at hr2
      cases hr2
      have hll := lens_at hlen2 hl2' hl
      obtain ⟨b2, off2, cap2, hrow, hsp, hc2, hf2, hrws, hkeep⟩ := mem.g.rws.store hr hl2' (j := j) (by omega) 121
      refine wp_sq (cd Try.f10 13 [0, 1, 0, 0, 1, 1, 0, 0, 1, 1, 0, 0, 1, 1, 0, 0, 0]) (cd Try.f10 13 [0, 1, 0, 0, 1, 1, 0, 0, 1, 1, 0, 0, 1, 1, 0, 0, 1]) (by kernel_rfl) ?_
      refine wp_reg 26 2 (by kernel_rfl) (by kernel_rfl) ?_
      refine wpList_plain rfl fun K hK => w_move tm rfl rfl rfl rfl fun a tm => hK _ _ ?_
      refine wpList_plain rfl fun K hK => w_assign tm rfl rfl rfl rfl fun a tm => hK _ _ (wpList_nil ?_)
      show (cd Try.f10 13 [0, 1, 0, 0, 1, 1, 0, 0, 1, 1, 0, 0, 1, 1, 0, 0, 1]).wp Try.prog _ a w
      refine wp_reg 27 7 (by kernel_rfl) (by kernel_rfl) ?_
      refine wpList_plain rfl fun K hK => w_move tm rfl rfl rfl rfl fun a tm => hK _ _ ?_
      refine wpList_plain rfl fun K hK => w_move tm rfl rfl rfl rfl fun a tm => hK _ _ ?_
      refine wpList_plain rfl fun K hK => w_idx tm Try.underlying23 e1 e2 rfl rfl rfl rfl hv rfl rfl hil fun a tm => hK _ _ ?_
      refine wpList_plain rfl fun K hK => w_load tm ag25 rfl rfl rfl rfl hcell fun a tm => hK _ _ ?_
      refine wpList_plain rfl fun K hK => w_move tm rfl rfl rfl rfl fun a tm => hK _ _ ?_
      refine wpList_plain rfl fun K hK => w_idx tm Try.underlying25 f1 f2 rfl rfl rfl rfl hrow rfl rfl (by omega) fun a tm => hK _ _ ?_
      refine wpList_plain rfl fun K hK => w_store (v := .int .i32 121) tm f1 f2 rfl rfl rfl rfl rfl rfl hc2 hf2 (hK _ _ (wpList_nil ?_))
      refine ⟨rfl, (), tm.sub ⟨rfl, rfl, rfl, rfl, rfl, rfl, rfl, rfl, rfl, trivial⟩, L2.set i (l2.set j 121), (lens_set hl2' _).trans hlen2, ?_⟩
      have hlo := mem.g.rowlo i r b2 hr hsp
      have o0 := mem.o0; have o1 := mem.o1; have o2 := mem.o2; have o3 := mem.o3
      have hout := hkeep.arr mem.g.out fun b hb e => mem.g.apart i r b2 hr hsp (by rw [← e]; exact hb)
      exact ⟨mem.g.withRws hrws hout, mem.a.keepS hkeep (fun b h1 _ e => by omega), mem.b.keepS hkeep (fun b h1 _ e => by omega), hkeep.crep mem.want (fun b hb => mem.hz b (Nat.le_trans mem.o4 hb)) (fun b e => mem.hm b (by omega) (by omega)),
        mem.hm, mem.hz, o0, o1, o2, o3, Nat.le_trans mem.o4 hkeep.size, mem.keep.trans (hkeep.mono fun b _ e => by omega)⟩
    · rintro _ a w tm ⟨L2, hlen2, mem⟩
      exact ⟨rfl, (), tm.sub ⟨rfl, rfl, rfl, rfl, rfl, rfl, trivial⟩, L2, hlen2.trans hlen, mem⟩
  · rintro _ a w tm ⟨L1, hlen, mem⟩
    exact hk a w L1 (hL.of_len hlen) (tm.sub ⟨rfl, rfl, rfl, rfl, trivial⟩) mem
end Go.Aev
end
