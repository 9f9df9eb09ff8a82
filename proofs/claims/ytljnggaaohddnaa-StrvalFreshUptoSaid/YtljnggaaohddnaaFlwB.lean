/- Proved here: lemmas of an evaluator over the model's code that the claim's text uses (R7 R8 R9 R10 R11). Conditions: those that each lemma states. -/
import Derived.Test.YtljnggaaohddnaaFlwA
import Derived.WalkKit
import Derived.OpenShut
section
set_option linter.unusedVariables false
namespace Go.Aev
open Go.Proofs

theorem totL_small {L : List (List Int)} (h : Small L) : L.length ≤ 1048576 := h.1
theorem small_dedent {L : List (List Int)} (h : Small L) : Small (dedentF L) := by
  have key : ∀ x ∈ dedentF L, x.length ≤ 1048576 := fun x hx => by
    unfold dedentF trimF at hx
    have h1 : x ∈ cutF L := by
      have := List.mem_reverse.1 hx
      have := (List.dropWhile_sublist blankF).mem this
      have := List.mem_reverse.1 this
      exact (List.dropWhile_sublist blankF).mem this
    unfold cutF at h1
    rcases List.mem_append.1 h1 with h2 | h2
    · exact h.2 x (List.mem_of_mem_take h2)
    · obtain ⟨y, hy, rfl⟩ := List.mem_map.1 h2
      have := h.2 y (List.mem_of_mem_drop hy)
      rw [List.length_drop]; omega
  refine ⟨?_, key⟩
  have hlen : (dedentF L).length ≤ (cutF L).length := by
    unfold dedentF trimF
    have h1 := ((List.dropWhile_sublist blankF) : (((cutF L).dropWhile blankF).reverse.dropWhile blankF).Sublist _).length_le
    have h2 := ((List.dropWhile_sublist blankF) : ((cutF L).dropWhile blankF).Sublist _).length_le
    rw [List.length_reverse] at h1 ⊢
    omega
  have hc : (cutF L).length = L.length := by
    unfold cutF
    rw [List.length_append, List.length_map, ← List.length_append, List.take_append_drop]
  have := h.1
  omega

theorem seg14 {Q : Exit → Act → World → Prop} {a : Act} {w W1 : World} {c : Cfg} {L D : List (List Int)} (hcD : c.D = D) (hL : Small L) (hD : Small D) (tm : Tm a 238 [(8, c.vg), (9, c.va), (10, c.vb), (11, c.vw)]) (mem : Mem W1 c w L D D)
    (hk : ∀ a' w', Tm a' 238 [(9, c.va), (10, c.vb), (11, c.vw)] → Mem W1 c w' L D D → (cd Try.f10 15 []).wp Try.prog Q a' w') : (cd Try.f10 14 []).wp Try.prog Q a w := by
  refine wp_sq (cd Try.f10 14 [0]) (cd Try.f10 15 []) (by kernel_rfl) ?_
  refine wp_sq (cd Try.f10 14 [0, 0]) (cd Try.f10 14 [0, 1]) (by kernel_rfl) ?_
  refine wp_reg 30 13 (by kernel_rfl) (by kernel_rfl) ?_
  have hDL := small_dedent hL
  refine wpList_plain rfl fun K hK => w_move tm rfl rfl rfl rfl fun a tm => hK _ _ ?_
  refine wpList_plain rfl fun K hK => w_move tm rfl rfl rfl rfl fun a tm => hK _ _ ?_
  refine wpList_plain rfl fun K hK => w_call tm rfl rfl rfl snd14.enter rfl (args2 tm rfl rfl rfl) (call_same hD.lim (hcD ▸ hD).lim (mem.a.rep none) mem.wrep) fun e w1 ⟨he, k1⟩ => ⟨_, he, fun a tm => hK _ _ ?_⟩
  rw [hcD, same_self] at tm
  replace mem := mem.grow k1 fun _ h => h.elim
  refine wpList_plain rfl fun K hK => w_not tm rfl rfl rfl rfl fun a tm => hK _ _ ?_
  refine wpList_plain rfl fun K hK => w_move tm rfl rfl rfl rfl fun a tm => hK _ _ ?_
  refine wpList_on tm rfl rfl rfl rfl fun K hK => w_move tm rfl rfl rfl rfl fun a tm => hK _ _ ?_
  refine wpList_on tm rfl rfl rfl rfl fun K hK => w_call tm rfl rfl rfl snd12.enter rfl (args1 tm rfl rfl) (call_rows snd12 (wm0_zero w1) (mem.g.rep none) (s12 hL)) fun e w2 ⟨v2, he, k2, vs2, r2⟩ => ⟨v2, he, fun a tm => hK _ _ ?_⟩
  replace mem := mem.grow k2 fun _ h => h.elim
  refine wpList_on tm rfl rfl rfl rfl fun K hK => w_move tm rfl rfl rfl rfl fun a tm => hK _ _ ?_
  refine wpList_on tm rfl rfl rfl rfl fun K hK => w_call tm rfl rfl rfl snd15.enter rfl (args1 tm rfl rfl) (call_rows snd15 (wm0_zero w2) (mem.g.rep none) (s15 hL)) fun e w3 ⟨v3, he, k3, vs3, r3⟩ => ⟨v3, he, fun a tm => hK _ _ ?_⟩
  replace mem := mem.grow k3 fun _ h => h.elim
  replace r2 := r2.keepS k3 fun _ _ _ h => h
  refine wpList_on tm rfl rfl rfl rfl fun K hK => w_call tm rfl rfl rfl snd16.enter rfl (args1 tm rfl rfl) (call_rows0 snd16 (wm0_zero w3) (r3.rep none) (s16 hL)) fun e w4 ⟨v4, he, k4, m4, r4, _⟩ => ⟨v4, he, fun a tm => hK _ _ ?_⟩
  replace mem := mem.grow k4 fun _ h => h.elim
  replace r2 := r2.keepS k4 fun _ _ _ h => h
  refine wpList_on tm rfl rfl rfl rfl fun K hK => w_call tm rfl rfl rfl snd14.enter rfl (args2 tm rfl rfl rfl) (call_same hDL.lim hDL.lim (r2.rep none) r4.all) fun e w5 ⟨he, k5⟩ => ⟨_, he, fun a tm => hK _ _ ?_⟩
  rw [same_self] at tm
  replace mem := mem.grow k5 fun _ h => h.elim
  refine wpList_on tm rfl rfl rfl rfl fun K hK => w_not tm rfl rfl rfl rfl fun a tm => hK _ _ ?_
  refine wpList_plain rfl fun K hK => w_pick tm rfl rfl rfl rfl rfl fun a tm => hK _ _ (wpList_nil ?_)
  show (cd Try.f10 14 [0, 1]).wp Try.prog _ a w5
  refine wp_cn tm (x := cd Try.f10 14 [0, 1, 0]) (y := .skip) (o := .tmp 140) (by kernel_rfl) false rfl (wp_skip ?_)
  exact hk a w5 (tm.sub ⟨rfl, rfl, rfl, trivial⟩) mem

theorem run_build0 {P : Program} {w : World} {t e : TypeId} {ie : TypeInfo} (ht : P.underlying t = some (.slice e)) (hie : P.info? e = some ie) {ps : Array (Nat × Value)} (hps : ps.toList = []) :
    (Instr.buildSlice t 0 ps).run P w = .ok (.slice (some ⟨w.heap.size, 0, none⟩) 0 0) (w.alloc (.cells #[] e)) := by
  simp [Instr.buildSlice, run_underlying ht, sizeOf, typeInfo, hie, hps, Instr.fill, newRow]
  rw [show Array.range 0 = #[] from rfl, Array.map_empty]
theorem w_build0 {P : Program} {a : Act} {n : Nat} {fr : List (Nat × Value)} {w : World} {o : Oper} {K : Act → World → Prop} {Q : Exit → Act → World → Prop} (tm : Tm a n fr) {d : Nat} {t e : TypeId} {ps : Array (Nat × Operand)} {ie : TypeInfo} (ht : P.underlying t = some (.slice e)) (hie : P.info? e = some ie) (hdst : o.dst = some d) (hop : o.op = .buildSlice t 0 ps) (hps : ps = #[]) (hd : Nat.blt d n = true)
    (hk : ∀ a', Tm a' n ((d, .slice (some ⟨w.heap.size, 0, none⟩) 0 0) :: fr) → K a' (w.alloc (.cells #[] e))) : o.wp P a w K Q := by
  have hrun := run_build0 (P := P) (w := w) ht hie (ps := ps.map fun (j, x) => (j, a.eval x)) (by rw [hps]; simp)
  exact w_val tm hdst hd (by simp [execOp, hop, hrun]) hk

theorem Rows.one {w : World} {lo hi : Nat} {v : Value} {vs : List Value} {L : List (List Int)} (h : Rows w lo hi v vs L) : ∀ x ∈ vs, x.oneCell' = true := fun x hx => by
  obtain ⟨i, hi', rfl⟩ := List.getElem_of_mem hx
  have hl : i < L.length := by rw [← h.len]; exact hi'
  obtain ⟨p, cap, h1⟩ := h.rowv (List.getElem?_eq_getElem hi') (List.getElem?_eq_getElem hl)
  rw [h1]; rfl

theorem seg15 {Q : Exit → Act → World → Prop} {a : Act} {w W1 : World} {c : Cfg} {L D : List (List Int)} (hD : Small D) (tm : Tm a 238 [(9, c.va), (10, c.vb), (11, c.vw)]) (mem : Mem W1 c w L D D)
    (hk : ∀ a' w' v, Tm a' 238 [(14, v), (9, c.va), (10, c.vb), (11, c.vw)] → Mem W1 c w' L D D → Arr w' v (c.vsa ++ c.vsb) → (∀ b, spare v = some b → c.n4 ≤ b) → (cd Try.f10 16 []).wp Try.prog Q a' w') : (cd Try.f10 15 []).wp Try.prog Q a w := by
  obtain ⟨i25, z25, e1, e2, e3, e4, e5⟩ := ty23
  refine wp_sq (cd Try.f10 15 [0]) (cd Try.f10 16 []) (by kernel_rfl) ?_
  refine wp_reg 32 6 (by kernel_rfl) (by kernel_rfl) ?_
  refine wpList_plain rfl fun K hK => w_build0 tm Try.underlying23 e1 rfl rfl rfl rfl fun a tm => hK _ _ ?_
  have k0 := keep_alloc w (.cells #[] 25)
  have hx0 : Arr (w.alloc (.cells #[] 25)) (.slice (some ⟨w.heap.size, 0, none⟩) 0 0) [] := ⟨_, 0, rfl, Nat.le_refl _, .inl rfl⟩
  have mem0 := mem.grow (k0.toS (S := fun _ => False) fun b e => by cases e) fun _ h => h.elim
  have o4 := mem.o4
  generalize hw0 : w.alloc (.cells #[] 25) = w0 at *
  have hsz : w.heap.size ≤ w0.heap.size := k0.size
  generalize hs0 : w.heap.size = s0 at *
  refine wpList_plain rfl fun K hK => w_move tm rfl rfl rfl rfl fun a tm => hK _ _ ?_
  have hla : c.vsa.length ≤ 1048576 := by rw [mem.a.len]; exact hD.1
  have hlb : c.vsb.length ≤ 1048576 := by rw [mem.b.len]; exact hD.1
  obtain ⟨v1, w1, r1, a1, k1, f1, _⟩ := arr_append (P := Try.prog) (t := 23) (u := 23) (ty := 23) Try.underlying23 (.inl ⟨_, Try.underlying23⟩) e1 e2 e4 e5 hx0 mem0.a.out mem.a.one (by rw [e3, List.length_nil]; omega) (by omega)
  refine wpList_plain rfl fun K hK => w_append tm rfl rfl rfl rfl rfl rfl rfl rfl r1 fun a tm => hK _ _ ?_
  have mem1 := mem0.grow (k1.toS (S := fun _ => False) fun b e => by cases e) fun _ h => h.elim
  have hv1 : ∀ b, spare v1 = some b → s0 ≤ b := fun b hb => by
    rcases f1 with ⟨a', cap', g1, g2⟩ | ⟨b', g1, g2⟩
    · cases g1
      rw [g2] at hb
      simp [spare] at hb
    · rw [g1] at hb; cases hb; omega
  refine wpList_plain rfl fun K hK => w_move tm rfl rfl rfl rfl fun a tm => hK _ _ ?_
  rw [List.nil_append] at a1
  obtain ⟨v2, w2, r2, a2, k2, f2, _⟩ := arr_append (P := Try.prog) (t := 23) (u := 23) (ty := 23) Try.underlying23 (.inl ⟨_, Try.underlying23⟩) e1 e2 e4 e5 a1 mem1.b.out mem.b.one (by rw [e3]; omega) (by omega)
  refine wpList_plain rfl fun K hK => w_append tm rfl rfl rfl rfl rfl rfl rfl rfl r2 fun a tm => hK _ _ ?_
  refine wpList_plain rfl fun K hK => w_assign tm rfl rfl rfl rfl fun a tm => hK _ _ (wpList_nil ?_)
  have mem2 := mem1.grow (k2.toS (S := fun b => s0 ≤ b) fun b e => hv1 b e) fun b h => Nat.le_trans o4 h
  refine hk a w2 v2 (tm.sub ⟨rfl, rfl, rfl, rfl, trivial⟩) mem2 a2 fun b hb => ?_
  have hk1 := k1.size
  rcases f2 with ⟨a', cap', g1, g2⟩ | ⟨b', g1, g2⟩
  · have : spare v1 = some b := by rw [g1, ← hb, g2]; exact spare_cap
    have := hv1 b this
    omega
  · rw [g1] at hb; cases hb; omega
end Go.Aev
end

section
set_option linter.unusedVariables false
namespace Go.Aev
open Go.Proofs

structure MemA (W1 : World) (c : Cfg) (vl : Value) (w : World) (LL : List (List Int)) : Prop where
  rws : Rws w c.n1 c.n3 (c.vsa ++ c.vsb) LL
  outa : Arr w c.va c.vsa
  outb : Arr w c.vb c.vsb
  all : Arr w vl (c.vsa ++ c.vsb)
  want : CRep U6 w c.m (.sl .rs c.D none) c.vw
  keep : KeepS W1 w (fun k => W1.heap.size ≤ k)
  o4 : c.n4 ≤ w.heap.size
theorem MemA.start {W1 w : World} {c : Cfg} {L D : List (List Int)} {vl : Value} (mem : Mem W1 c w L D D) (ha : Arr w vl (c.vsa ++ c.vsb)) : MemA W1 c vl w (D ++ D) :=
  ⟨mem.a.rws.append mem.b.rws (Nat.le_refl _) mem.o1 mem.o2, mem.a.out, mem.b.out, ha, mem.want, mem.keep, mem.o4⟩
theorem row_sep {W1 w : World} {c : Cfg} {L D : List (List Int)} {vl : Value} (mem : Mem W1 c w L D D) (hvl : ∀ b, spare vl = some b → c.n4 ≤ b) {k : Nat} {r : Value} {b : Nat} (hr : (c.vsa ++ c.vsb)[k]? = some r) (hs : spare r = some b) :
    spare c.va ≠ some b ∧ spare c.vb ≠ some b ∧ spare vl ≠ some b ∧ W1.heap.size ≤ b ∧ c.m b = 0 ∧ b < c.n3 := by
  have o0 := mem.o0; have o1 := mem.o1; have o2 := mem.o2; have o3 := mem.o3
  by_cases hk : k < c.vsa.length
  · rw [List.getElem?_append_left hk] at hr
    have h1 := mem.a.rowlo k r b hr hs
    exact ⟨mem.a.apart k r b hr hs, fun e => by have := mem.b.outlo b e; omega, fun e => by have := hvl b e; omega, by omega, mem.hm b (by omega) (by omega), by omega⟩
  · rw [List.getElem?_append_right (by omega)] at hr
    have h1 := mem.b.rowlo _ r b hr hs
    exact ⟨fun e => by have := mem.a.outlo b e; omega, mem.b.apart _ r b hr hs, fun e => by have := hvl b e; omega, by omega, mem.hm b (by omega) (by omega), by omega⟩
theorem MemA.step {W1 w w' : World} {c : Cfg} {vl : Value} {LL LL' : List (List Int)} {L D : List (List Int)} {w0 : World} (mem : Mem W1 c w0 L D D) (h : MemA W1 c vl w LL) {S : Nat → Prop} (k : KeepS w w' S)
    (hS : ∀ b, S b → spare c.va ≠ some b ∧ spare c.vb ≠ some b ∧ spare vl ≠ some b ∧ W1.heap.size ≤ b ∧ c.m b = 0) (r : Rws w' c.n1 c.n3 (c.vsa ++ c.vsb) LL') : MemA W1 c vl w' LL' :=
  ⟨r, k.arr h.outa fun b e s => (hS b s).1 e, k.arr h.outb fun b e s => (hS b s).2.1 e, k.arr h.all fun b e s => (hS b s).2.2.1 e, k.crep h.want (fun b hb => mem.hz b (Nat.le_trans h.o4 hb)) (fun b s => (hS b s).2.2.2.2), h.keep.trans (k.mono fun b _ s => (hS b s).2.2.2.1), Nat.le_trans h.o4 k.size⟩

def tagV (k : Nat) : Int := IntKind.i32.wrap (IntKind.i64.wrap (-100 - (k : Int)))
def Tagged (k : Nat) (LL : List (List Int)) : Prop := ∀ k' l, k' < k → LL[k']? = some l → ∀ x ∈ l, x = tagV k'

theorem MemA.at {W1 w : World} {c : Cfg} {vl : Value} {LL : List (List Int)} (h : MemA W1 c vl w LL) {i : Nat} (hi' : i < LL.length) :
    ∃ r l b off cap, (c.vsa ++ c.vsb)[i]? = some r ∧ LL[i]? = some l ∧ vl = .slice (some ⟨b, off, none⟩) (c.vsa ++ c.vsb).length cap ∧ w.cell? ⟨b, off + i, none⟩ = some r ∧ ∃ p cp, r = .slice p l.length cp := by
  have hlen := h.rws.len
  have hv : (c.vsa ++ c.vsb)[i]? = some ((c.vsa ++ c.vsb)[i]'(by rw [hlen]; exact hi')) := List.getElem?_eq_getElem _
  obtain ⟨b, off, cap, h1, _, _, h2, _⟩ := h.all.at hv
  have hl := List.getElem?_eq_getElem hi'
  obtain ⟨p, cp, h3⟩ := (h.rws.row i _ _ hv hl).len
  rw [intV_len] at h3
  exact ⟨_, _, b, off, cap, hv, hl, h1, h2, p, cp, h3⟩

theorem seg16 {Q : Exit → Act → World → Prop} {a : Act} {w W1 : World} {c : Cfg} {L D : List (List Int)} {vl : Value} (hD : Small D) (tm : Tm a 238 [(14, vl), (9, c.va), (10, c.vb), (11, c.vw)]) (mem : Mem W1 c w L D D) (ha : Arr w vl (c.vsa ++ c.vsb)) (hvl : ∀ b, spare vl = some b → c.n4 ≤ b)
    (hk : ∀ a' w' LL, LL.map List.length = (D ++ D).map List.length → Tagged (D ++ D).length LL → Tm a' 238 [(14, vl), (9, c.va), (10, c.vb), (11, c.vw)] → MemA W1 c vl w' LL → (cd Try.f10 17 []).wp Try.prog Q a' w') : (cd Try.f10 16 []).wp Try.prog Q a w := by
  obtain ⟨i25, z25, e1, e2, e3, e4, e5⟩ := ty23
  obtain ⟨i21, z21, f1, f2, f3, f4, f5⟩ := ty25
  have st : MemA W1 c vl w (D ++ D) := .start mem ha
  have hN : (D ++ D).length ≤ 2097152 := by rw [List.length_append]; have := hD.1; omega
  refine wp_sq (cd Try.f10 16 [0]) (cd Try.f10 17 []) (by kernel_rfl) ?_
  refine wp_sq (cd Try.f10 16 [0, 0]) (cd Try.f10 16 [0, 1]) (by kernel_rfl) ?_
  refine wp_reg 33 3 (by kernel_rfl) (by kernel_rfl) ?_
  refine wpList_plain rfl fun K hK => w_move tm rfl rfl rfl rfl fun a tm => hK _ _ ?_
  obtain ⟨pg, cg, hg0⟩ := ha.len
  rw [st.rws.len] at hg0
  refine wpList_plain rfl fun K hK => w_len tm Try.underlying23 rfl rfl rfl rfl rfl rfl rfl hg0 fun a tm => hK _ _ ?_
  refine wpList_plain rfl fun K hK => w_move tm rfl rfl rfl rfl fun a tm => hK _ _ (wpList_nil ?_)
  show (cd Try.f10 16 [0, 1]).wp Try.prog _ a w
  refine for_rule (σ := Unit) (lp := cd Try.f10 16 [0, 1, 0]) (head := cd Try.f10 16 [0, 1, 0, 0, 0]) (cn := cd Try.f10 16 [0, 1, 0, 0, 1, 0]) (bd := cd Try.f10 16 [0, 1, 0, 0, 1, 1, 0]) (body := cd Try.f10 16 [0, 1, 0, 0, 1, 1, 0, 0]) (inc := cd Try.f10 16 [0, 1, 0, 0, 1, 1, 1])
    (lid := 6) (bid := 7) (hid := 34) (iid := 41) (ti := 148) (tc := 149) (tk := 165) (X := .tmp 147) (D ++ D).length (fun _ => [(147, .int .i64 ((D ++ D).length : Int)), (146, vl), (14, vl), (9, c.va), (10, c.vb), (11, c.vw)])
    (fun k _ w' => ∃ LL, LL.map List.length = (D ++ D).map List.length ∧ Tagged k LL ∧ MemA W1 c vl w' LL) ()
    (by kernel_rfl) (by kernel_rfl) (by kernel_rfl) (by kernel_rfl) (by kernel_rfl) (by kernel_rfl) rfl rfl rfl (by kernel_rfl) (by kernel_rfl) rfl rfl rfl rfl rfl rfl rfl rfl rfl rfl rfl rfl
    (fun _ => rfl) (fun _ => rfl) (fun _ => rfl) (fun _ _ => rfl) (by omega) (tm.sub ⟨rfl, rfl, rfl, rfl, rfl, rfl, rfl, trivial⟩) ⟨D ++ D, rfl, fun _ _ h => absurd h (Nat.not_lt_zero _), st⟩ ?_ ?_
  · rintro k _ a w hi tm ⟨L1, hlen, htag, st⟩
    have hl1 := lens_get hlen
    obtain ⟨r, l, b, off, cap, hr, hl, hv, hcell, p, cp, hrv⟩ := st.at (i := k) (by omega)
    have hil : k < (c.vsa ++ c.vsb).length := (List.getElem?_eq_some_iff.1 hr).1
    refine wp_sq (cd Try.f10 16 [0, 1, 0, 0, 1, 1, 0, 0, 0]) (cd Try.f10 16 [0, 1, 0, 0, 1, 1, 0, 0, 1]) (by kernel_rfl) ?_
    refine wp_reg 35 5 (by kernel_rfl) (by kernel_rfl) ?_
    refine wpList_plain rfl fun K hK => w_move tm rfl rfl rfl rfl fun a tm => hK _ _ ?_
    refine wpList_plain rfl fun K hK => w_idx tm Try.underlying23 e1 e2 rfl rfl rfl rfl hv rfl rfl hil fun a tm => hK _ _ ?_
    refine wpList_plain rfl fun K hK => w_load tm ag25 rfl rfl rfl rfl hcell fun a tm => hK _ _ ?_
    refine wpList_plain rfl fun K hK => w_assign tm rfl rfl rfl rfl fun a tm => hK _ _ ?_
    refine wpList_plain rfl fun K hK => w_assign tm rfl rfl rfl rfl fun a tm => hK _ _ (wpList_nil ?_)
    refine wp_sq (cd Try.f10 16 [0, 1, 0, 0, 1, 1, 0, 0, 1, 0]) (cd Try.f10 16 [0, 1, 0, 0, 1, 1, 0, 0, 1, 1]) (by kernel_rfl) ?_
    refine wp_reg 36 3 (by kernel_rfl) (by kernel_rfl) ?_
    refine wpList_plain rfl fun K hK => w_move tm rfl rfl rfl rfl fun a tm => hK _ _ ?_
    refine wpList_plain rfl fun K hK => w_len tm Try.underlying25 rfl rfl rfl rfl rfl rfl rfl hrv fun a tm => hK _ _ ?_
    refine wpList_plain rfl fun K hK => w_move tm rfl rfl rfl rfl fun a tm => hK _ _ (wpList_nil ?_)
    show (cd Try.f10 16 [0, 1, 0, 0, 1, 1, 0, 0, 1, 1]).wp Try.prog _ a w
    have hlm : l.length ≤ 1048576 := by
      obtain ⟨y, hy⟩ : ∃ y, (D ++ D)[k]? = some y := ⟨_, List.getElem?_eq_getElem hi⟩
      rw [lens_at hlen hl hy]
      rcases List.mem_append.1 (List.mem_of_getElem? hy) with h | h <;> exact hD.2 y h
    refine for_rule (σ := Unit) (lp := cd Try.f10 16 [0, 1, 0, 0, 1, 1, 0, 0, 1, 1, 0]) (head := cd Try.f10 16 [0, 1, 0, 0, 1, 1, 0, 0, 1, 1, 0, 0, 0]) (cn := cd Try.f10 16 [0, 1, 0, 0, 1, 1, 0, 0, 1, 1, 0, 0, 1, 0]) (bd := cd Try.f10 16 [0, 1, 0, 0, 1, 1, 0, 0, 1, 1, 0, 0, 1, 1, 0])
      (body := cd Try.f10 16 [0, 1, 0, 0, 1, 1, 0, 0, 1, 1, 0, 0, 1, 1, 0, 0]) (inc := cd Try.f10 16 [0, 1, 0, 0, 1, 1, 0, 0, 1, 1, 0, 0, 1, 1, 1])
      (lid := 8) (bid := 9) (hid := 37) (iid := 40) (ti := 155) (tc := 156) (tk := 164) (X := .tmp 154) l.length (fun _ => [(154, .int .i64 (l.length : Int)), (15, .int .i64 (k : Int)), (16, r), (148, .int .i64 (k : Int)), (147, .int .i64 ((D ++ D).length : Int)), (146, vl), (14, vl), (9, c.va), (10, c.vb), (11, c.vw)])
      (fun j _ w' => ∃ L', L'.map List.length = L1.map List.length ∧ Tagged k L' ∧ (∀ l, L'[k]? = some l → ∀ j' x, j' < j → l[j']? = some x → x = tagV k) ∧ MemA W1 c vl w' L') ()
      (by kernel_rfl) (by kernel_rfl) (by kernel_rfl) (by kernel_rfl) (by kernel_rfl) (by kernel_rfl) rfl rfl rfl (by kernel_rfl) (by kernel_rfl) rfl rfl rfl rfl rfl rfl rfl rfl rfl rfl rfl rfl
      (fun _ => rfl) (fun _ => rfl) (fun _ => rfl) (fun _ _ => rfl) (by omega) (tm.sub ⟨rfl, rfl, rfl, rfl, rfl, rfl, rfl, rfl, rfl, rfl, rfl, trivial⟩) ⟨L1, rfl, htag, fun _ _ _ _ h => absurd h (Nat.not_lt_zero _), st⟩ ?_ ?_
    · rintro j _ a w hj tm ⟨L2, hlen2, htag2, hin, st⟩
      have hl2 := lens_get hlen2
      obtain ⟨l2, hl2'⟩ : ∃ l2, L2[k]? = some l2 := ⟨_, List.getElem?_eq_getElem (by omega)⟩
      have hll := lens_at hlen2 hl2' hl
      obtain ⟨b2, off2, cap2, hrow, hsp, hc2, hf2, hrws, hkeep⟩ := st.rws.store hr hl2' (j := j) (by omega) (tagV k)
      refine wp_sq (cd Try.f10 16 [0, 1, 0, 0, 1, 1, 0, 0, 1, 1, 0, 0, 1, 1, 0, 0, 0]) (cd Try.f10 16 [0, 1, 0, 0, 1, 1, 0, 0, 1, 1, 0, 0, 1, 1, 0, 0, 1]) (by kernel_rfl) ?_
      refine wp_reg 38 2 (by kernel_rfl) (by kernel_rfl) ?_
      refine wpList_plain rfl fun K hK => w_move tm rfl rfl rfl rfl fun a tm => hK _ _ ?_
      refine wpList_plain rfl fun K hK => w_assign tm rfl rfl rfl rfl fun a tm => hK _ _ (wpList_nil ?_)
      show (cd Try.f10 16 [0, 1, 0, 0, 1, 1, 0, 0, 1, 1, 0, 0, 1, 1, 0, 0, 1]).wp Try.prog _ a w
      refine wp_reg 39 7 (by kernel_rfl) (by kernel_rfl) ?_
      refine wpList_plain rfl fun K hK => w_move tm rfl rfl rfl rfl fun a tm => hK _ _ ?_
      refine wpList_plain rfl fun K hK => w_move tm rfl rfl rfl rfl fun a tm => hK _ _ ?_
      refine wpList_plain rfl fun K hK => w_move tm rfl rfl rfl rfl fun a tm => hK _ _ ?_
      refine wpList_plain rfl fun K hK => w_sub tm rfl rfl rfl rfl rfl fun a tm => hK _ _ ?_
      refine wpList_plain rfl fun K hK => w_conv tm Try.underlying3 Try.underlying21 rfl rfl rfl rfl fun a tm => hK _ _ ?_
      refine wpList_plain rfl fun K hK => w_idx tm Try.underlying25 f1 f2 rfl rfl rfl rfl hrow rfl rfl (by omega) fun a tm => hK _ _ ?_
      refine wpList_plain rfl fun K hK => w_store (v := .int .i32 (tagV k)) tm f1 f2 rfl rfl rfl rfl rfl rfl hc2 hf2 (hK _ _ (wpList_nil ?_))
      obtain ⟨q1, q2, q3, q4, q5, _⟩ := row_sep mem hvl hr hsp
      refine ⟨rfl, (), tm.sub ⟨rfl, rfl, rfl, rfl, rfl, rfl, rfl, rfl, rfl, rfl, rfl, trivial⟩, L2.set k (l2.set j (tagV k)), (lens_set hl2' _).trans hlen2, fun k' l' hk' hl' => ?_, fun l' hl' j' x hj' hx => ?_, st.step mem hkeep (fun b e => by subst e; exact ⟨q1, q2, q3, q4, q5⟩) hrws⟩
      · rw [List.getElem?_set, if_neg (by omega)] at hl'
        exact htag2 k' l' hk' hl'
      · rw [List.getElem?_set, if_pos rfl, if_pos (List.getElem?_eq_some_iff.1 hl2').1] at hl'
        cases hl'
        rw [List.getElem?_set] at hx
        by_cases hjj : j = j'
        · rw [if_pos hjj, if_pos (by omega)] at hx
          exact (Option.some.inj hx).symm
        · rw [if_neg hjj] at hx
          exact hin l2 hl2' j' x (by omega) hx
    · rintro _ a w tm ⟨L2, hlen2, htag2, hin, st⟩
      refine ⟨rfl, (), tm.sub ⟨rfl, rfl, rfl, rfl, rfl, rfl, rfl, trivial⟩, L2, hlen2.trans hlen, fun k' l' hk' hl' => ?_, st⟩
      by_cases hkk : k' < k
      · exact htag2 k' l' hkk hl'
      · have : k' = k := by omega
        subst this
        intro x hx
        obtain ⟨j', hj', rfl⟩ := List.getElem_of_mem hx
        exact hin l' hl' j' _ (by rw [← lens_at hlen2 hl' hl]; exact hj') (List.getElem?_eq_getElem hj')
  · rintro _ a w tm ⟨L1, hlen, htag, st⟩
    exact hk a w L1 hlen htag (tm.sub ⟨rfl, rfl, rfl, rfl, trivial⟩) st
end Go.Aev
end

section
set_option linter.unusedVariables false
namespace Go.Aev
open Go.Proofs
theorem zero21 : (Try.prog.info? 21).bind (·.zero) = some (.int .i32 0) := by kernel_rfl
theorem zc64 : (Builtin.zeroCells (Value.cells (.int .i32 0)) 64).toList = List.replicate 64 (.int .i32 0) := by kernel_rfl
theorem append_make_run {P : Program} (w : World) (t u ty e : TypeId) (k : IntKind) (i : TypeInfo) (z : Value) (ht : P.underlying t = some (.slice e)) (hu : P.underlying u = some (.int k)) (hi : P.info? e = some i) (hz : i.zero = some z) (hsz : i.size = 1) 
    (base : Option Addr) (sLen sCap : Nat) (olds : List Value)
    (holds : ∀ w' : World, w'.heap = w.heap → (Builtin.firstCells i.size sLen (.slice base sLen sCap)).run P w' = .ok olds.toArray w')
    (hg : sCap < sLen + 64) (h63 : sLen + 64 ≤ 9223372036854775807) (hb : (sLen + 64) * i.bytes ≤ 140737488355328) (hb2 : 64 * i.bytes ≤ 140737488355328) :
    (Builtin.append_ #[t, u] ty #[.slice base sLen sCap, .int .i64 64]).run P w =
      .ok (.slice (some ⟨w.heap.size, 0, none⟩) (sLen + 64) (grownCap w (sLen + 64) sCap e))
        (w.drew.alloc (.cells (olds.toArray ++ Builtin.zeroCells z.cells 64 ++ Builtin.zeroCells z.cells (grownCap w (sLen + 64) sCap e - (sLen + 64))) e)) := by
  have hn : ¬ (sLen + 64 ≤ sCap) := by omega
  have h63' : ¬ (9223372036854775807 < ((sLen : Int) + (64 : Int))) := by omega
  have hfit := growslice_fits hg hb
  have h48' : ¬ (281474976710656 < Builtin.nextslicecap (sLen + 64) sCap * i.bytes) := by omega
  have hfo := holds w.drew rfl
  rw [hsz] at hfo
  have hw64 : IntKind.i64.wrap 64 = 64 := by decide
  have h48 : ¬ (281474976710656 < (64 : Int) * (i.bytes : Int)) := by omega
  simp [Builtin.append_, run_underlying ht, run_underlying hu, sizeOf, typeInfo, zeroValue, hi, hz, hn, h63', h48', Question.forced, hfo, newRow, grownCap, asInt, asIntOf, hw64, h48, hsz]
  intro h5
  exfalso
  have h6 : max (64 : Int) 0 = 64 := by decide
  rw [h6] at h5
  omega
theorem append_make_room {P : Program} (w : World) (t u ty e : TypeId) (k : IntKind) (i : TypeInfo) (z : Value) (ht : P.underlying t = some (.slice e)) (hu : P.underlying u = some (.int k)) (hi : P.info? e = some i) (hz : i.zero = some z) (hsz : i.size = 1)
    (a : Addr) (sLen sCap : Nat) (w' : World) (hb2 : 64 * i.bytes ≤ 140737488355328)
    (hst : (storeCells (a.add (sLen * i.size)) (Builtin.zeroCells z.cells 64).toList).run P w = .ok () w')
    (hg : sLen + 64 ≤ sCap) :
    (Builtin.append_ #[t, u] ty #[.slice (some a) sLen sCap, .int .i64 64]).run P w = .ok (.slice (some a) (sLen + 64) sCap) w' := by
  have hw64 : IntKind.i64.wrap 64 = 64 := by decide
  have h48 : ¬ (281474976710656 < (64 : Int) * (i.bytes : Int)) := by omega
  rw [hsz, Nat.mul_one] at hst
  simp [Builtin.append_, run_underlying ht, run_underlying hu, sizeOf, typeInfo, zeroValue, hi, hz, hg, asInt, asIntOf, hw64, h48, hsz, hst]

theorem oneS {P : Program} {w w' : World} {v : Value} {S : Nat → Prop} (h : ∀ b, S b → spare v = some b) (k : KeepS w w' S) : KeepS w w' (fun b => spare v = some b) := k.mono fun b _ hs => h b hs
theorem arr_append64 {w : World} {v : Value} {xs : List Value} (h : Arr w v xs) (hroom : xs.length ≤ 1048576) (ty : TypeId) :
    ∃ v' w', (Builtin.append_ #[25, 3] ty #[v, .int .i64 64]).run Try.prog w = .ok v' w' ∧ Arr w' v xs ∧ KeepS w w' (fun b => spare v = some b) := by
  obtain ⟨ie, z, f1, f2, f3, f4, f5⟩ := ty25
  have hz : z = .int .i32 0 := by
    have := zero21
    rw [f1] at this
    simp only [Option.bind_some] at this
    rw [f4] at this
    exact Option.some.inj this
  have hf := h.first Try.prog
  have h0 := h
  obtain ⟨a0, cap, rfl, hle, hc⟩ := h
  by_cases hgrow : cap < xs.length + 64
  · have hrun := append_make_run (P := Try.prog) w 25 3 ty 21 _ ie z Try.underlying25 Try.underlying3 f1 f4 f2 a0 xs.length cap xs (by rw [f2]; exact hf) hgrow (by omega) (by rw [f3]; omega) (by rw [f3]; omega)
    have hk := (keep_drew w (.cells (xs.toArray ++ Builtin.zeroCells z.cells 64 ++ Builtin.zeroCells z.cells (grownCap w (xs.length + 64) cap 21 - (xs.length + 64))) 21)).toS (S := fun _ => False) (fun b e => by cases e)
    exact ⟨_, _, hrun, hk.arr h0 fun _ _ h => h, hk.mono fun _ _ h => h.elim⟩
  · have hc0 : cap ≠ 0 := by omega
    obtain ⟨b, off, c, e', fz, rfl, hb, h1, h2, h3⟩ := hc.resolve_left hc0
    have hys : ∀ x ∈ List.replicate 64 (Value.int .i32 0), x.oneCell' = true := fun x hx => by rw [(List.mem_replicate.1 hx).2]; rfl
    have hyl : (List.replicate 64 (Value.int .i32 0)).length = 64 := List.length_replicate ..
    obtain ⟨s1, ⟨c', s2, s3, s4, s5⟩, s6, s7, s8, s9, s10⟩ := setCells_spec Try.prog b e' fz (List.replicate 64 (Value.int .i32 0)) (off + xs.length) w c hb (by rw [hyl]; omega) (fun j h5 h6 => h2 j (by rw [hyl] at h6; omega)) hys
    have hrun := append_make_room (P := Try.prog) w 25 3 ty 21 _ ie z Try.underlying25 Try.underlying3 f1 f4 f2 ⟨b, off, none⟩ xs.length cap (setCells w b (off + xs.length) (List.replicate 64 (Value.int .i32 0))) (by rw [f3]; omega)
      (by rw [hz, zc64, Addr.add_lit, f2, Nat.mul_one]; exact s1 ⟨b, off + xs.length, none⟩ 0 (by simp) (Nat.zero_le _)) (by omega)
    refine ⟨_, _, hrun, ⟨_, cap, rfl, hle, .inr ⟨b, off, c', e', fz, rfl, s2, by rw [s3]; exact h1, h2, fun j x hj => ?_⟩⟩, ⟨s8, s9, s10, by rw [s6]; exact Nat.le_refl _, fun k _ hk => s7 k (fun e => hk (by rw [e]; exact spare_eq hc0))⟩⟩
    have hjl := (List.getElem?_eq_some_iff.1 hj).1
    rw [s4 (off + j) (.inl (by omega))]
    exact h3 j x hj

theorem Gof.keep {w w' : World} {h0 : Nat} {r g : Value} {xs gs : List Value} (h : Gof w h0 r xs g gs) (k : KeepS w w' (fun _ => False)) : Gof w' h0 r xs g gs :=
  ⟨k.arr h.1 fun _ _ h => h, k.arr h.2.1 fun _ _ h => h, Nat.le_trans h.2.2.1 k.size, h.2.2.2⟩
theorem Rws.but {w w' : World} {lo hi h0 i : Nat} {vs : List Value} {L : List (List Int)} {r : Value} {l : List Int} (h : Rws w lo hi vs L) (k : KeepS w w' (fun b => spare r = some b ∨ h0 ≤ b)) (hr : vs[i]? = some r) (hl : L[i]? = some l) (hn : Arr w' r (intV l)) (hhi : hi ≤ h0) : Rws w' lo hi vs L := by
  refine ⟨h.len, fun j r' l' hj hl' => ?_, h.rowlo, h.dis⟩
  by_cases hij : i = j
  · subst hij
    rw [hr] at hj; rw [hl] at hl'
    cases hj; cases hl'
    exact hn
  · refine k.arr (h.row j r' l' hj hl') fun b hb hs => ?_
    rcases hs with hs | hs
    · exact h.dis i j r r' b hij hr hj hs hb
    · have := h.rowlo j r' b hj hb; omega

theorem seg17 {Q : Exit → Act → World → Prop} {a : Act} {w W1 w0 : World} {c : Cfg} {L D LL : List (List Int)} {vl : Value} (hD : Small D) (tm : Tm a 238 [(14, vl), (9, c.va), (10, c.vb), (11, c.vw)]) (mem : Mem W1 c w0 L D D) (hvl : ∀ b, spare vl = some b → c.n4 ≤ b)
    (hlen : LL.map List.length = (D ++ D).map List.length) (st : MemA W1 c vl w LL)
    (hk : ∀ a' w', Tm a' 238 [(14, vl), (9, c.va), (10, c.vb), (11, c.vw)] → MemA W1 c vl w' LL → (cd Try.f10 18 []).wp Try.prog Q a' w') : (cd Try.f10 17 []).wp Try.prog Q a w := by
  obtain ⟨i25, z25, e1, e2, e3, e4, e5⟩ := ty23
  obtain ⟨i21, z21, f1, f2, f3, f4, f5⟩ := ty25
  have hl1 := lens_get hlen
  have hN : LL.length ≤ 2097152 := by rw [hl1, List.length_append]; have := hD.1; omega
  refine wp_sq (cd Try.f10 17 [0]) (cd Try.f10 18 []) (by kernel_rfl) ?_
  refine wp_sq (cd Try.f10 17 [0, 0]) (cd Try.f10 17 [0, 1]) (by kernel_rfl) ?_
  refine wp_reg 42 3 (by kernel_rfl) (by kernel_rfl) ?_
  refine wpList_plain rfl fun K hK => w_move tm rfl rfl rfl rfl fun a tm => hK _ _ ?_
  obtain ⟨pg, cg, hg0⟩ := st.all.len
  rw [st.rws.len] at hg0
  refine wpList_plain rfl fun K hK => w_len tm Try.underlying23 rfl rfl rfl rfl rfl rfl rfl hg0 fun a tm => hK _ _ ?_
  refine wpList_plain rfl fun K hK => w_move tm rfl rfl rfl rfl fun a tm => hK _ _ (wpList_nil ?_)
  show (cd Try.f10 17 [0, 1]).wp Try.prog _ a w
  refine for_rule (σ := Unit) (lp := cd Try.f10 17 [0, 1, 0]) (head := cd Try.f10 17 [0, 1, 0, 0, 0]) (cn := cd Try.f10 17 [0, 1, 0, 0, 1, 0]) (bd := cd Try.f10 17 [0, 1, 0, 0, 1, 1, 0]) (body := cd Try.f10 17 [0, 1, 0, 0, 1, 1, 0, 0]) (inc := cd Try.f10 17 [0, 1, 0, 0, 1, 1, 1])
    (lid := 10) (bid := 11) (hid := 43) (iid := 51) (ti := 168) (tc := 169) (tk := 181) (X := .tmp 167) LL.length (fun _ => [(167, .int .i64 (LL.length : Int)), (166, vl), (14, vl), (9, c.va), (10, c.vb), (11, c.vw)])
    (fun k _ w' => MemA W1 c vl w' LL) ()
    (by kernel_rfl) (by kernel_rfl) (by kernel_rfl) (by kernel_rfl) (by kernel_rfl) (by kernel_rfl) rfl rfl rfl (by kernel_rfl) (by kernel_rfl) rfl rfl rfl rfl rfl rfl rfl rfl rfl rfl rfl rfl
    (fun _ => rfl) (fun _ => rfl) (fun _ => rfl) (fun _ _ => rfl) (by omega) (tm.sub ⟨rfl, rfl, rfl, rfl, rfl, rfl, rfl, trivial⟩) st ?_ ?_
  · rintro k _ a w hi tm st
    obtain ⟨r, l, b, off, cap, hr, hl, hv, hcell, p, cp, hrv⟩ := st.at (i := k) (by omega)
    have hil : k < (c.vsa ++ c.vsb).length := (List.getElem?_eq_some_iff.1 hr).1
    have hlm : l.length ≤ 1048576 := by
      obtain ⟨y, hy⟩ : ∃ y, (D ++ D)[k]? = some y := ⟨_, List.getElem?_eq_getElem (by omega)⟩
      rw [lens_at hlen hl hy]
      rcases List.mem_append.1 (List.mem_of_getElem? hy) with h | h <;> exact hD.2 y h
    have hrow := st.rws.row k r l hr hl
    have o0 := mem.o0; have o1 := mem.o1; have o2 := mem.o2; have o3 := mem.o3; have o4 := st.o4
    have hvlt : ∀ b, spare vl = some b → b < w.heap.size := fun b hb => st.all.lt hb
    have hr3 : ∀ b, spare r = some b → b < c.n3 := fun b hb => (row_sep mem hvl hr hb).2.2.2.2.2
    have hSr : ∀ b, spare r = some b → spare c.va ≠ some b ∧ spare c.vb ≠ some b ∧ spare vl ≠ some b ∧ W1.heap.size ≤ b ∧ c.m b = 0 := fun b hb => by
      obtain ⟨q1, q2, q3, q4, q5, _⟩ := row_sep mem hvl hr hb
      exact ⟨q1, q2, q3, q4, q5⟩
    generalize hh0 : w.heap.size = h0 at *
    have hS : ∀ b, (spare r = some b ∨ h0 ≤ b) → spare c.va ≠ some b ∧ spare c.vb ≠ some b ∧ spare vl ≠ some b ∧ W1.heap.size ≤ b ∧ c.m b = 0 := fun b hb => by
      rcases hb with hb | hb
      · exact hSr b hb
      · exact ⟨fun e => by have := mem.a.outlo b e; omega, fun e => by have := mem.b.outlo b e; omega, fun e => by have := hvlt b e; omega, by omega, mem.hz b (by omega)⟩
    refine wp_sq (cd Try.f10 17 [0, 1, 0, 0, 1, 1, 0, 0, 0]) (cd Try.f10 17 [0, 1, 0, 0, 1, 1, 0, 0, 1]) (by kernel_rfl) ?_
    refine wp_reg 44 3 (by kernel_rfl) (by kernel_rfl) ?_
    refine wpList_plain rfl fun K hK => w_idx tm Try.underlying23 e1 e2 rfl rfl rfl rfl hv rfl rfl hil fun a tm => hK _ _ ?_
    refine wpList_plain rfl fun K hK => w_load tm ag25 rfl rfl rfl rfl hcell fun a tm => hK _ _ ?_
    refine wpList_plain rfl fun K hK => w_assign tm rfl rfl rfl rfl fun a tm => hK _ _ (wpList_nil ?_)
    refine wp_sq (cd Try.f10 17 [0, 1, 0, 0, 1, 1, 0, 0, 1, 0]) (cd Try.f10 17 [0, 1, 0, 0, 1, 1, 0, 0, 1, 1]) (by kernel_rfl) ?_
    refine wp_reg 45 2 (by kernel_rfl) (by kernel_rfl) ?_
    refine wpList_plain rfl fun K hK => w_move tm rfl rfl rfl rfl fun a tm => hK _ _ ?_
    refine wpList_plain rfl fun K hK => w_assign tm rfl rfl rfl rfl fun a tm => hK _ _ (wpList_nil ?_)
    refine wp_sq (cd Try.f10 17 [0, 1, 0, 0, 1, 1, 0, 0, 1, 1, 0]) (cd Try.f10 17 [0, 1, 0, 0, 1, 1, 0, 0, 1, 1, 1]) (by kernel_rfl) ?_
    refine wp_sq (cd Try.f10 17 [0, 1, 0, 0, 1, 1, 0, 0, 1, 1, 0, 0]) (cd Try.f10 17 [0, 1, 0, 0, 1, 1, 0, 0, 1, 1, 0, 1]) (by kernel_rfl) ?_
    refine wp_reg 46 1 (by kernel_rfl) (by kernel_rfl) ?_
    refine wpList_plain rfl fun K hK => w_move tm rfl rfl rfl rfl fun a tm => hK _ _ (wpList_nil ?_)
    show (cd Try.f10 17 [0, 1, 0, 0, 1, 1, 0, 0, 1, 1, 0, 1]).wp Try.prog _ a w
    refine for_rule (σ := Value × List Value) (lp := cd Try.f10 17 [0, 1, 0, 0, 1, 1, 0, 0, 1, 1, 0, 1, 0]) (head := cd Try.f10 17 [0, 1, 0, 0, 1, 1, 0, 0, 1, 1, 0, 1, 0, 0, 0]) (cn := cd Try.f10 17 [0, 1, 0, 0, 1, 1, 0, 0, 1, 1, 0, 1, 0, 0, 1, 0]) (bd := cd Try.f10 17 [0, 1, 0, 0, 1, 1, 0, 0, 1, 1, 0, 1, 0, 0, 1, 1, 0])
      (body := cd Try.f10 17 [0, 1, 0, 0, 1, 1, 0, 0, 1, 1, 0, 1, 0, 0, 1, 1, 0, 0]) (inc := cd Try.f10 17 [0, 1, 0, 0, 1, 1, 0, 0, 1, 1, 0, 1, 0, 0, 1, 1, 1])
      (lid := 12) (bid := 13) (hid := 47) (iid := 49) (ti := 173) (tc := 174) (tk := 178) (X := .const (.int .i64 16)) 16 (fun x => [(20, x.1), (19, r), (168, .int .i64 (k : Int)), (167, .int .i64 (LL.length : Int)), (166, vl), (14, vl), (9, c.va), (10, c.vb), (11, c.vw)])
      (fun i x w' => Gof w' h0 r (intV l) x.1 x.2 ∧ x.2.length = l.length + i ∧ MemA W1 c vl w' LL) (r, intV l)
      (by kernel_rfl) (by kernel_rfl) (by kernel_rfl) (by kernel_rfl) (by kernel_rfl) (by kernel_rfl) rfl rfl rfl (by kernel_rfl) (by kernel_rfl) rfl rfl rfl rfl rfl rfl rfl rfl rfl rfl rfl rfl
      (fun _ => rfl) (fun _ => rfl) (fun _ => rfl) (fun _ _ => rfl) (by omega) (tm.sub ⟨rfl, rfl, rfl, rfl, rfl, rfl, rfl, rfl, rfl, rfl, trivial⟩) ⟨gof_start hrow (by omega), by rw [intV_len]; rfl, st⟩ ?_ ?_
    · rintro i ⟨g, gs⟩ a w hi16 tm ⟨hgof, hgl, st⟩
      dsimp only at hgof hgl tm ⊢
      refine wp_reg 48 4 (by kernel_rfl) (by kernel_rfl) ?_
      refine wpList_plain rfl fun K hK => w_move tm rfl rfl rfl rfl fun a tm => hK _ _ ?_
      refine wpList_plain rfl fun K hK => w_build1 tm Try.underlying25 f1 f2 f4 rfl rfl rfl rfl rfl rfl fun a tm => hK _ _ ?_
      have k1 := (keep_alloc w (.cells #[.int .i32 (-9)] 21)).toS (S := fun _ => False) fun b e => by cases e
      have hy : Arr (w.alloc (.cells #[.int .i32 (-9)] 21)) (.slice (some ⟨w.heap.size, 0, none⟩) 1 1) [.int .i32 (-9)] := arr_built1
      have hgof1 := hgof.keep k1
      have st1 := st.step mem k1 (fun _ h => h.elim) (st.rws.keepS k1 fun _ _ _ _ _ h => h)
      generalize hw1 : w.alloc (.cells #[.int .i32 (-9)] 21) = w1 at *
      obtain ⟨g', w2, hrun, hgof2, k2⟩ := gof_append (P := Try.prog) (t := 25) (u := 25) (ty := 25) Try.underlying25 (.inl ⟨_, Try.underlying25⟩) f1 f2 f4 f5 hgof1 (fun b hb => by have := hr3 b hb; omega) hy (fun x hx => by rcases List.mem_singleton.1 hx with rfl; rfl) (by rw [f3, hgl]; simp; omega) (by omega)
      refine wpList_plain rfl fun K hK => w_append tm rfl rfl rfl rfl rfl rfl rfl rfl hrun fun a tm => hK _ _ ?_
      refine wpList_plain rfl fun K hK => w_assign tm rfl rfl rfl rfl fun a tm => hK _ _ (wpList_nil ?_)
      exact ⟨rfl, (g', gs ++ [.int .i32 (-9)]), tm.sub ⟨rfl, rfl, rfl, rfl, rfl, rfl, rfl, rfl, rfl, rfl, trivial⟩, hgof2, by simp [hgl]; omega, st1.step mem k2 hS (st1.rws.but k2 hr hl hgof2.2.1 (by omega))⟩
    · rintro ⟨g, gs⟩ a w tm ⟨hgof, hgl, st⟩
      show (cd Try.f10 17 [0, 1, 0, 0, 1, 1, 0, 0, 1, 1, 1]).wp Try.prog _ a w
      refine wp_reg 50 2 (by kernel_rfl) (by kernel_rfl) ?_
      refine wpList_plain rfl fun K hK => w_move tm rfl rfl rfl rfl fun a tm => hK _ _ ?_
      obtain ⟨v', w', hrun, hr', k3⟩ := arr_append64 (st.rws.row k r l hr hl) (by rw [intV_len]; exact hlm) 25
      refine wpList_plain rfl fun K hK => w_append tm rfl rfl rfl rfl rfl rfl rfl rfl hrun fun a tm => hK _ _ (wpList_nil ?_)
      have k3' : KeepS w w' (fun b => spare r = some b ∨ c.n3 ≤ b ∧ False) := k3.mono fun b _ h => .inl h
      refine ⟨rfl, (), tm.sub ⟨rfl, rfl, rfl, rfl, rfl, rfl, rfl, trivial⟩, st.step mem k3 hSr ?_⟩
      exact st.rws.but (h0 := c.n3) (k3.mono fun b _ h => .inl h) hr hl hr' (Nat.le_refl _)
  · rintro _ a w tm st
    exact hk a w (tm.sub ⟨rfl, rfl, rfl, rfl, trivial⟩) st
end Go.Aev
end

section
set_option linter.unusedVariables false
namespace Go.Aev
open Go.Proofs

theorem Arr.intcell {w : World} {r : Value} {l : List Int} (h : Arr w r (intV l)) {j : Nat} (hj : j < l.length) : ∃ b off cap, r = .slice (some ⟨b, off, none⟩) l.length cap ∧ w.cell? ⟨b, off + j, none⟩ = some (.int .i32 l[j]) := by
  have hx : (intV l)[j]? = some (.int .i32 l[j]) := by unfold intV; rw [List.getElem?_map, List.getElem?_eq_getElem hj]; rfl
  obtain ⟨b, off, cap, hv, _, _, hcell, _⟩ := h.at hx
  rw [intV_len] at hv
  exact ⟨b, off, cap, hv, hcell⟩

theorem seg18 {Q : Exit → Act → World → Prop} {a : Act} {w W1 : World} {c : Cfg} {D LL : List (List Int)} {vl : Value} (hD : Small D) (tm : Tm a 238 [(14, vl), (9, c.va), (10, c.vb), (11, c.vw)])
    (hlen : LL.map List.length = (D ++ D).map List.length) (htag : Tagged (D ++ D).length LL) (st : MemA W1 c vl w LL)
    (hk : ∀ a', Tm a' 238 [(9, c.va), (10, c.vb), (11, c.vw)] → (cd Try.f10 19 []).wp Try.prog Q a' w) : (cd Try.f10 18 []).wp Try.prog Q a w := by
  obtain ⟨i25, z25, e1, e2, e3, e4, e5⟩ := ty23
  obtain ⟨i21, z21, f1, f2, f3, f4, f5⟩ := ty25
  have hl1 := lens_get hlen
  have hN : LL.length ≤ 2097152 := by rw [hl1, List.length_append]; have := hD.1; omega
  refine wp_sq (cd Try.f10 18 [0]) (cd Try.f10 19 []) (by kernel_rfl) ?_
  refine wp_sq (cd Try.f10 18 [0, 0]) (cd Try.f10 18 [0, 1]) (by kernel_rfl) ?_
  refine wp_reg 52 3 (by kernel_rfl) (by kernel_rfl) ?_
  refine wpList_plain rfl fun K hK => w_move tm rfl rfl rfl rfl fun a tm => hK _ _ ?_
  obtain ⟨pg, cg, hg0⟩ := st.all.len
  rw [st.rws.len] at hg0
  refine wpList_plain rfl fun K hK => w_len tm Try.underlying23 rfl rfl rfl rfl rfl rfl rfl hg0 fun a tm => hK _ _ ?_
  refine wpList_plain rfl fun K hK => w_move tm rfl rfl rfl rfl fun a tm => hK _ _ (wpList_nil ?_)
  show (cd Try.f10 18 [0, 1]).wp Try.prog _ a w
  refine for_rule (σ := Unit) (lp := cd Try.f10 18 [0, 1, 0]) (head := cd Try.f10 18 [0, 1, 0, 0, 0]) (cn := cd Try.f10 18 [0, 1, 0, 0, 1, 0]) (bd := cd Try.f10 18 [0, 1, 0, 0, 1, 1, 0]) (body := cd Try.f10 18 [0, 1, 0, 0, 1, 1, 0, 0]) (inc := cd Try.f10 18 [0, 1, 0, 0, 1, 1, 1])
    (lid := 14) (bid := 15) (hid := 53) (iid := 61) (ti := 184) (tc := 185) (tk := 203) (X := .tmp 183) LL.length (fun _ => [(183, .int .i64 (LL.length : Int)), (182, vl), (9, c.va), (10, c.vb), (11, c.vw)])
    (fun k _ w' => w' = w) ()
    (by kernel_rfl) (by kernel_rfl) (by kernel_rfl) (by kernel_rfl) (by kernel_rfl) (by kernel_rfl) rfl rfl rfl (by kernel_rfl) (by kernel_rfl) rfl rfl rfl rfl rfl rfl rfl rfl rfl rfl rfl rfl
    (fun _ => rfl) (fun _ => rfl) (fun _ => rfl) (fun _ _ => rfl) (by omega) (tm.sub ⟨rfl, rfl, rfl, rfl, rfl, rfl, trivial⟩) rfl ?_ ?_
  · rintro k _ a w' hi tm rfl
    obtain ⟨r, l, b, off, cap, hr, hl, hv, hcell, p, cp, hrv⟩ := st.at (i := k) (by omega)
    have hil : k < (c.vsa ++ c.vsb).length := (List.getElem?_eq_some_iff.1 hr).1
    have hlm : l.length ≤ 1048576 := by
      obtain ⟨y, hy⟩ : ∃ y, (D ++ D)[k]? = some y := ⟨_, List.getElem?_eq_getElem (by omega)⟩
      rw [lens_at hlen hl hy]
      rcases List.mem_append.1 (List.mem_of_getElem? hy) with h | h <;> exact hD.2 y h
    have hrow := st.rws.row k r l hr hl
    refine wp_sq (cd Try.f10 18 [0, 1, 0, 0, 1, 1, 0, 0, 0]) (cd Try.f10 18 [0, 1, 0, 0, 1, 1, 0, 0, 1]) (by kernel_rfl) ?_
    refine wp_reg 54 5 (by kernel_rfl) (by kernel_rfl) ?_
    refine wpList_plain rfl fun K hK => w_move tm rfl rfl rfl rfl fun a tm => hK _ _ ?_
    refine wpList_plain rfl fun K hK => w_idx tm Try.underlying23 e1 e2 rfl rfl rfl rfl hv rfl rfl hil fun a tm => hK _ _ ?_
    refine wpList_plain rfl fun K hK => w_load tm ag25 rfl rfl rfl rfl hcell fun a tm => hK _ _ ?_
    refine wpList_plain rfl fun K hK => w_assign tm rfl rfl rfl rfl fun a tm => hK _ _ ?_
    refine wpList_plain rfl fun K hK => w_assign tm rfl rfl rfl rfl fun a tm => hK _ _ (wpList_nil ?_)
    refine wp_sq (cd Try.f10 18 [0, 1, 0, 0, 1, 1, 0, 0, 1, 0]) (cd Try.f10 18 [0, 1, 0, 0, 1, 1, 0, 0, 1, 1]) (by kernel_rfl) ?_
    refine wp_reg 55 3 (by kernel_rfl) (by kernel_rfl) ?_
    refine wpList_plain rfl fun K hK => w_move tm rfl rfl rfl rfl fun a tm => hK _ _ ?_
    refine wpList_plain rfl fun K hK => w_len tm Try.underlying25 rfl rfl rfl rfl rfl rfl rfl hrv fun a tm => hK _ _ ?_
    refine wpList_plain rfl fun K hK => w_move tm rfl rfl rfl rfl fun a tm => hK _ _ (wpList_nil ?_)
    show (cd Try.f10 18 [0, 1, 0, 0, 1, 1, 0, 0, 1, 1]).wp Try.prog _ a w'
    refine for_rule (σ := Unit) (lp := cd Try.f10 18 [0, 1, 0, 0, 1, 1, 0, 0, 1, 1, 0]) (head := cd Try.f10 18 [0, 1, 0, 0, 1, 1, 0, 0, 1, 1, 0, 0, 0]) (cn := cd Try.f10 18 [0, 1, 0, 0, 1, 1, 0, 0, 1, 1, 0, 0, 1, 0]) (bd := cd Try.f10 18 [0, 1, 0, 0, 1, 1, 0, 0, 1, 1, 0, 0, 1, 1, 0])
      (body := cd Try.f10 18 [0, 1, 0, 0, 1, 1, 0, 0, 1, 1, 0, 0, 1, 1, 0, 0]) (inc := cd Try.f10 18 [0, 1, 0, 0, 1, 1, 0, 0, 1, 1, 0, 0, 1, 1, 1])
      (lid := 16) (bid := 17) (hid := 56) (iid := 60) (ti := 191) (tc := 192) (tk := 202) (X := .tmp 190) l.length (fun _ => [(190, .int .i64 (l.length : Int)), (21, .int .i64 (k : Int)), (22, r), (184, .int .i64 (k : Int)), (183, .int .i64 (LL.length : Int)), (182, vl), (9, c.va), (10, c.vb), (11, c.vw)])
      (fun j _ w'' => w'' = w') ()
      (by kernel_rfl) (by kernel_rfl) (by kernel_rfl) (by kernel_rfl) (by kernel_rfl) (by kernel_rfl) rfl rfl rfl (by kernel_rfl) (by kernel_rfl) rfl rfl rfl rfl rfl rfl rfl rfl rfl rfl rfl rfl
      (fun _ => rfl) (fun _ => rfl) (fun _ => rfl) (fun _ _ => rfl) (by omega) (tm.sub ⟨rfl, rfl, rfl, rfl, rfl, rfl, rfl, rfl, rfl, rfl, trivial⟩) rfl ?_ ?_
    · rintro j _ a w'' hj tm rfl
      obtain ⟨b2, off2, cap2, hrv2, hc2⟩ := hrow.intcell hj
      have hx : l[j] = tagV k := htag k l (by omega) hl _ (List.getElem_mem hj)
      rw [hx] at hc2
      refine wp_sq (cd Try.f10 18 [0, 1, 0, 0, 1, 1, 0, 0, 1, 1, 0, 0, 1, 1, 0, 0, 0]) (cd Try.f10 18 [0, 1, 0, 0, 1, 1, 0, 0, 1, 1, 0, 0, 1, 1, 0, 0, 1]) (by kernel_rfl) ?_
      refine wp_reg 57 2 (by kernel_rfl) (by kernel_rfl) ?_
      refine wpList_plain rfl fun K hK => w_move tm rfl rfl rfl rfl fun a tm => hK _ _ ?_
      refine wpList_plain rfl fun K hK => w_assign tm rfl rfl rfl rfl fun a tm => hK _ _ (wpList_nil ?_)
      refine wp_sq (cd Try.f10 18 [0, 1, 0, 0, 1, 1, 0, 0, 1, 1, 0, 0, 1, 1, 0, 0, 1, 0]) (cd Try.f10 18 [0, 1, 0, 0, 1, 1, 0, 0, 1, 1, 0, 0, 1, 1, 0, 0, 1, 1]) (by kernel_rfl) ?_
      refine wp_reg 58 8 (by kernel_rfl) (by kernel_rfl) ?_
      refine wpList_plain rfl fun K hK => w_move tm rfl rfl rfl rfl fun a tm => hK _ _ ?_
      refine wpList_plain rfl fun K hK => w_move tm rfl rfl rfl rfl fun a tm => hK _ _ ?_
      refine wpList_plain rfl fun K hK => w_idx tm Try.underlying25 f1 f2 rfl rfl rfl rfl hrv2 rfl rfl hj fun a tm => hK _ _ ?_
      refine wpList_plain rfl fun K hK => w_load tm ag21 rfl rfl rfl rfl hc2 fun a tm => hK _ _ ?_
      refine wpList_plain rfl fun K hK => w_move tm rfl rfl rfl rfl fun a tm => hK _ _ ?_
      refine wpList_plain rfl fun K hK => w_sub tm rfl rfl rfl rfl rfl fun a tm => hK _ _ ?_
      refine wpList_plain rfl fun K hK => w_conv tm Try.underlying3 Try.underlying21 rfl rfl rfl rfl fun a tm => hK _ _ ?_
      refine wpList_plain rfl fun K hK => w_neq (i := tagV k) (j := tagV k) tm rfl rfl rfl rfl rfl fun a tm => hK _ _ (wpList_nil ?_)
      rw [bne_self_eq_false] at tm
      show (cd Try.f10 18 [0, 1, 0, 0, 1, 1, 0, 0, 1, 1, 0, 0, 1, 1, 0, 0, 1, 1]).wp Try.prog _ a w''
      refine wp_cn tm (x := cd Try.f10 18 [0, 1, 0, 0, 1, 1, 0, 0, 1, 1, 0, 0, 1, 1, 0, 0, 1, 1, 0]) (y := .skip) (o := .tmp 201) (by kernel_rfl) false rfl (wp_skip ?_)
      exact ⟨rfl, (), tm.sub ⟨rfl, rfl, rfl, rfl, rfl, rfl, rfl, rfl, rfl, rfl, trivial⟩, rfl⟩
    · rintro _ a w'' tm rfl
      exact ⟨rfl, (), tm.sub ⟨rfl, rfl, rfl, rfl, rfl, rfl, trivial⟩, rfl⟩
  · rintro _ a w' tm rfl
    exact hk a (tm.sub ⟨rfl, rfl, rfl, trivial⟩)

/-- What is left at the end. -/
structure MemB (W1 : World) (c : Cfg) (w : World) (LB : List (List Int)) : Prop where
  b : Rows w c.n2 c.n3 c.vb c.vsb LB
  want : CRep U6 w c.m (.sl .rs c.D none) c.vw
  keep : KeepS W1 w (fun k => W1.heap.size ≤ k)
  o4 : c.n4 ≤ w.heap.size
theorem MemB.step {W1 w w' : World} {c : Cfg} {LB L D : List (List Int)} {w0 : World} (mem : Mem W1 c w0 L D D) (h : MemB W1 c w LB) {S : Nat → Prop} (k : KeepS w w' S) (hS : ∀ b, S b → W1.heap.size ≤ b ∧ c.m b = 0 ∧ ¬ (c.n2 ≤ b ∧ b < c.n3)) : MemB W1 c w' LB :=
  ⟨h.b.keepS k fun b h1 h2 s => (hS b s).2.2 ⟨h1, h2⟩, k.crep h.want (fun b hb => mem.hz b (Nat.le_trans h.o4 hb)) (fun b s => (hS b s).2.1), h.keep.trans (k.mono fun b _ s => (hS b s).1), Nat.le_trans h.o4 k.size⟩

theorem seg19 {Q : Exit → Act → World → Prop} {a : Act} {w W1 w0 : World} {c : Cfg} {L D LB : List (List Int)} (hD : Small D) (tm : Tm a 238 [(9, c.va), (10, c.vb), (11, c.vw)]) (mem : Mem W1 c w0 L D D) {xs : List Value} (ha : Arr w c.va xs) (hxs : xs.length ≤ 1048576) (st : MemB W1 c w LB)
    (hk : ∀ a' w' ys, Tm a' 238 [(9, c.va), (10, c.vb), (11, c.vw)] → Arr w' c.va ys → ys.length ≤ 1048576 → MemB W1 c w' LB → (cd Try.f10 20 []).wp Try.prog Q a' w') : (cd Try.f10 19 []).wp Try.prog Q a w := by
  obtain ⟨i25, z25, e1, e2, e3, e4, e5⟩ := ty23
  refine wp_sq (cd Try.f10 19 [0]) (cd Try.f10 20 []) (by kernel_rfl) ?_
  refine wp_sq (cd Try.f10 19 [0, 0]) (cd Try.f10 19 [0, 1]) (by kernel_rfl) ?_
  refine wp_reg 62 3 (by kernel_rfl) (by kernel_rfl) ?_
  refine wpList_plain rfl fun K hK => w_move tm rfl rfl rfl rfl fun a tm => hK _ _ ?_
  obtain ⟨pg, cg, hg0⟩ := ha.len
  refine wpList_plain rfl fun K hK => w_len tm Try.underlying23 rfl rfl rfl rfl rfl rfl rfl hg0 fun a tm => hK _ _ ?_
  refine wpList_plain rfl fun K hK => w_move tm rfl rfl rfl rfl fun a tm => hK _ _ (wpList_nil ?_)
  show (cd Try.f10 19 [0, 1]).wp Try.prog _ a w
  refine for_rule (σ := Unit) (lp := cd Try.f10 19 [0, 1, 0]) (head := cd Try.f10 19 [0, 1, 0, 0, 0]) (cn := cd Try.f10 19 [0, 1, 0, 0, 1, 0]) (bd := cd Try.f10 19 [0, 1, 0, 0, 1, 1, 0]) (body := cd Try.f10 19 [0, 1, 0, 0, 1, 1, 0, 0]) (inc := cd Try.f10 19 [0, 1, 0, 0, 1, 1, 1])
    (lid := 18) (bid := 19) (hid := 63) (iid := 66) (ti := 206) (tc := 207) (tk := 212) (X := .tmp 205) xs.length (fun _ => [(205, .int .i64 (xs.length : Int)), (9, c.va), (10, c.vb), (11, c.vw)])
    (fun k _ w' => ∃ ys, ys.length = xs.length ∧ Arr w' c.va ys ∧ MemB W1 c w' LB) ()
    (by kernel_rfl) (by kernel_rfl) (by kernel_rfl) (by kernel_rfl) (by kernel_rfl) (by kernel_rfl) rfl rfl rfl (by kernel_rfl) (by kernel_rfl) rfl rfl rfl rfl rfl rfl rfl rfl rfl rfl rfl rfl
    (fun _ => rfl) (fun _ => rfl) (fun _ => rfl) (fun _ _ => rfl) (by omega) (tm.sub ⟨rfl, rfl, rfl, rfl, rfl, trivial⟩) ⟨xs, rfl, ha, st⟩ ?_ ?_
  · rintro k _ a w hi tm ⟨ys, hyl, ha, st⟩
    have hy : ys[k]? = some (ys[k]'(by omega)) := List.getElem?_eq_getElem _
    obtain ⟨b, off, cap, hv, hc0, hsp, hcell, hfr⟩ := ha.at hy
    have hset := ha.set (j := k) (by omega) hv (.slice none 0 0)
    have hkeep := (keep_setCell w b (off + k) (.slice none 0 0)).toS (S := fun i => i = b) fun i e => by cases e; rfl
    have o0 := mem.o0; have o1 := mem.o1; have o2 := mem.o2; have o3 := mem.o3
    refine wp_sq (cd Try.f10 19 [0, 1, 0, 0, 1, 1, 0, 0, 0]) (cd Try.f10 19 [0, 1, 0, 0, 1, 1, 0, 0, 1]) (by kernel_rfl) ?_
    refine wp_reg 64 2 (by kernel_rfl) (by kernel_rfl) ?_
    refine wpList_plain rfl fun K hK => w_move tm rfl rfl rfl rfl fun a tm => hK _ _ ?_
    refine wpList_plain rfl fun K hK => w_assign tm rfl rfl rfl rfl fun a tm => hK _ _ (wpList_nil ?_)
    show (cd Try.f10 19 [0, 1, 0, 0, 1, 1, 0, 0, 1]).wp Try.prog _ a w
    refine wp_reg 65 4 (by kernel_rfl) (by kernel_rfl) ?_
    refine wpList_plain rfl fun K hK => w_move tm rfl rfl rfl rfl fun a tm => hK _ _ ?_
    refine wpList_plain rfl fun K hK => w_move tm rfl rfl rfl rfl fun a tm => hK _ _ ?_
    refine wpList_plain rfl fun K hK => w_idx tm Try.underlying23 e1 e2 rfl rfl rfl rfl hv rfl rfl (by omega) fun a tm => hK _ _ ?_
    refine wpList_plain rfl fun K hK => w_store (v := .slice none 0 0) tm e1 e2 rfl rfl rfl rfl rfl rfl hcell hfr (hK _ _ (wpList_nil ?_))
    have hlo := mem.a.outlo b hsp
    exact ⟨rfl, (), tm.sub ⟨rfl, rfl, rfl, rfl, rfl, trivial⟩, _, by rw [List.length_set]; exact hyl, hset, st.step mem hkeep fun i e => by subst e; exact ⟨by omega, mem.hm _ (by omega) (by omega), by omega⟩⟩
  · rintro _ a w tm ⟨ys, hyl, ha, st⟩
    exact hk a w ys (tm.sub ⟨rfl, rfl, rfl, trivial⟩) ha (by omega) st

theorem seg20 {Q : Exit → Act → World → Prop} {a : Act} {w W1 w0 : World} {c : Cfg} {L D LB : List (List Int)} (hD : Small D) (tm : Tm a 238 [(9, c.va), (10, c.vb), (11, c.vw)]) (mem : Mem W1 c w0 L D D) {xs : List Value} (ha : Arr w c.va xs) (hxs : xs.length ≤ 1048576) (st : MemB W1 c w LB)
    (hk : ∀ a' w', Tm a' 238 [(10, c.vb), (11, c.vw)] → MemB W1 c w' LB → (cd Try.f10 22 []).wp Try.prog Q a' w') : (cd Try.f10 20 []).wp Try.prog Q a w := by
  obtain ⟨i25, z25, e1, e2, e3, e4, e5⟩ := ty23
  obtain ⟨i21, z21, f1, f2, f3, f4, f5⟩ := ty25
  have o0 := mem.o0; have o1 := mem.o1; have o2 := mem.o2; have o3 := mem.o3; have o4 := st.o4
  refine wp_sq (cd Try.f10 20 [0]) (cd Try.f10 21 []) (by kernel_rfl) ?_
  refine wp_reg 67 2 (by kernel_rfl) (by kernel_rfl) ?_
  refine wpList_plain rfl fun K hK => w_move tm rfl rfl rfl rfl fun a tm => hK _ _ ?_
  refine wpList_plain rfl fun K hK => w_assign tm rfl rfl rfl rfl fun a tm => hK _ _ (wpList_nil ?_)
  show (cd Try.f10 21 []).wp Try.prog _ a w
  refine wp_sq (cd Try.f10 21 [0]) (cd Try.f10 22 []) (by kernel_rfl) ?_
  refine wp_sq (cd Try.f10 21 [0, 0]) (cd Try.f10 21 [0, 1]) (by kernel_rfl) ?_
  refine wp_reg 68 1 (by kernel_rfl) (by kernel_rfl) ?_
  refine wpList_plain rfl fun K hK => w_move tm rfl rfl rfl rfl fun a tm => hK _ _ (wpList_nil ?_)
  show (cd Try.f10 21 [0, 1]).wp Try.prog _ a w
  generalize hh0 : w.heap.size = h0 at *
  have hS : ∀ b, (spare c.va = some b ∨ h0 ≤ b) → W1.heap.size ≤ b ∧ c.m b = 0 ∧ ¬ (c.n2 ≤ b ∧ b < c.n3) := fun b hb => by
    rcases hb with hb | hb
    · have := mem.a.outlo b hb
      exact ⟨by omega, mem.hm _ (by omega) (by omega), by omega⟩
    · exact ⟨by omega, mem.hz b (by omega), by omega⟩
  refine for_rule (σ := Value × List Value) (lp := cd Try.f10 21 [0, 1, 0]) (head := cd Try.f10 21 [0, 1, 0, 0, 0]) (cn := cd Try.f10 21 [0, 1, 0, 0, 1, 0]) (bd := cd Try.f10 21 [0, 1, 0, 0, 1, 1, 0]) (body := cd Try.f10 21 [0, 1, 0, 0, 1, 1, 0, 0]) (inc := cd Try.f10 21 [0, 1, 0, 0, 1, 1, 1])
    (lid := 20) (bid := 21) (hid := 69) (iid := 71) (ti := 214) (tc := 215) (tk := 220) (X := .const (.int .i64 16)) 16 (fun x => [(25, x.1), (10, c.vb), (11, c.vw)])
    (fun i x w' => Gof w' h0 c.va xs x.1 x.2 ∧ x.2.length = xs.length + i ∧ MemB W1 c w' LB) (c.va, xs)
    (by kernel_rfl) (by kernel_rfl) (by kernel_rfl) (by kernel_rfl) (by kernel_rfl) (by kernel_rfl) rfl rfl rfl (by kernel_rfl) (by kernel_rfl) rfl rfl rfl rfl rfl rfl rfl rfl rfl rfl rfl rfl
    (fun _ => rfl) (fun _ => rfl) (fun _ => rfl) (fun _ _ => rfl) (by omega) (tm.sub ⟨rfl, rfl, rfl, rfl, trivial⟩) ⟨gof_start ha (by omega), rfl, st⟩ ?_ ?_
  · rintro i ⟨g, gs⟩ a w hi16 tm ⟨hgof, hgl, st⟩
    dsimp only at hgof hgl tm ⊢
    refine wp_reg 70 5 (by kernel_rfl) (by kernel_rfl) ?_
    refine wpList_plain rfl fun K hK => w_move tm rfl rfl rfl rfl fun a tm => hK _ _ ?_
    refine wpList_plain rfl fun K hK => w_build1 tm Try.underlying25 f1 f2 f4 rfl rfl rfl rfl rfl rfl fun a tm => hK _ _ ?_
    have k1 := (keep_alloc w (.cells #[.int .i32 1] 21)).toS (S := fun _ => False) fun b e => by cases e
    have hgof1 := hgof.keep k1
    have st1 := st.step mem k1 fun _ h => h.elim
    generalize hrow : (Value.slice (some ⟨w.heap.size, 0, none⟩) 1 1) = rv at *
    have hrv1 : rv.cells = #[rv] := by rw [← hrow]; rfl
    have hrv2 : rv.oneCell' = true := by rw [← hrow]; rfl
    generalize hw1 : w.alloc (.cells #[.int .i32 1] 21) = w1 at *
    refine wpList_plain rfl fun K hK => w_build1 tm Try.underlying23 e1 e2 e4 rfl rfl rfl rfl rfl hrv1 fun a tm => hK _ _ ?_
    have k2 := (keep_alloc w1 (.cells #[rv] 25)).toS (S := fun _ => False) fun b e => by cases e
    have hy : Arr (w1.alloc (.cells #[rv] 25)) (.slice (some ⟨w1.heap.size, 0, none⟩) 1 1) [rv] := arr_built1
    have hgof2 := hgof1.keep k2
    have st2 := st1.step mem k2 fun _ h => h.elim
    generalize hw2 : w1.alloc (.cells #[rv] 25) = w2 at *
    obtain ⟨g', w3, hrun, hgof3, k3⟩ := gof_append (P := Try.prog) (t := 23) (u := 23) (ty := 23) Try.underlying23 (.inl ⟨_, Try.underlying23⟩) e1 e2 e4 e5 hgof2 (fun b hb => by have := mem.a.outlo b hb; omega) hy (fun x hx => by rcases List.mem_singleton.1 hx with rfl; exact hrv2) (by rw [e3, hgl]; simp; omega) (by omega)
    refine wpList_plain rfl fun K hK => w_append tm rfl rfl rfl rfl rfl rfl rfl rfl hrun fun a tm => hK _ _ ?_
    refine wpList_plain rfl fun K hK => w_assign tm rfl rfl rfl rfl fun a tm => hK _ _ (wpList_nil ?_)
    exact ⟨rfl, (g', gs ++ [rv]), tm.sub ⟨rfl, rfl, rfl, rfl, trivial⟩, hgof3, by simp [hgl]; omega, st2.step mem k3 hS⟩
  · rintro ⟨g, gs⟩ a w tm ⟨hgof, hgl, st⟩
    exact hk a w (tm.sub ⟨rfl, rfl, trivial⟩) st
end Go.Aev
end

section
set_option linter.unusedVariables false
namespace Go.Aev
open Go.Proofs Go.Lib

theorem env10 (B : Bs) : EnvOk Try.prog E10 B := by
  have lift : ∀ {f : FuncId} {ls : List L6} {r : E6}, ((∀ args w, (callFunc f args).run Try.prog w = .ok (.enter f args) w) ∧ CallOk Try.prog U6 IT f ls r) →
      (∀ args w, (callFunc f args).run Try.prog w = .ok (.enter f args) w) ∧ CallOk Try.prog E10.U (fun w1 m1 => Ext B.w B.wm w1 m1) f ls r := fun h => ⟨h.1, fun w1 g1 vs1 _ => h.2 w1 g1 vs1 trivial⟩
  refine ⟨u6_ok, tb6_ok, fun f ls r h => lift ?_⟩
  change T10 f ls = some (true, r) at h
  unfold T10 at h
  split at h
  · exact of_sound snd12 h
  · exact of_sound snd13 h
  · exact of_sound snd14 h
  · exact of_sound snd15 h
  · exact of_sound snd16 h
  · exact of_sound snd19 h
  · exact of_sound snd20 h
  · exact of_sound snd22 h
  · cases h

def g0 (w : World) : Gh := ⟨wm0 w, fun _ => .int .i64 0, fun _ => 0, fun _ => 0⟩
theorem rel_start {w : World} {a : Act} {fr : List (Nat × E6)} (hd : a.defers = []) (hent : ∀ i, ERep U6 w (g0 w) (look fr i) (a.tmps.getD i undef)) (hni : ∀ i c p, look fr i ≠ .iter c p) : Rel U6 ⟨w, wm0 w, none⟩ (g0 w) ⟨fr, []⟩ a w := by
  have no : ∀ {d : Nat} {p : Prop}, mem d (⟨fr, []⟩ : S6).live = true → p := fun h => by cases h
  exact { os := rfl, tape := rfl, output := rfl, size := Nat.le_refl _, frame := fun b _ _ => ⟨rfl, rfl⟩, ext := Ext.refl _ _, zero := wm0_zero w, ent := hent, tip := fun d hd => no hd, disj := fun d e b hd => no hd, mine := fun d b hd => no hd, deep := fun d hd => no hd, dsep := fun d e b hd => no hd, ddis := fun d e b hd => no hd, iter := fun i c p h => absurd h (hni i c p), idis := fun i j c p c' p' _ h => absurd h (hni i c p), defers := hd }
theorem rep0 {w : World} {L : List (List Int)} {v : Value} (h : CRep U6 w (wm0 w) (.sl .rs L none) v) : ERep U6 w (g0 w) (.one (.sl .rs L none)) v := ⟨h, fun _ _ _ e => by cases e⟩
theorem rep0' {w : World} {L : List Int} {v : Value} (h : CRep U6 w (wm0 w) (.sl .i32 L none) v) : ERep U6 w (g0 w) (.one (.sl .i32 L none)) v := ⟨h, fun _ _ _ e => by cases e⟩

theorem look2_iter {i1 i2 i : Nat} {l1 l2 : L6} {c : List UInt8} {p : Nat} (h : look [(i1, (.one l1 : E6)), (i2, .one l2)] i = .iter c p) : False := by
  unfold look at h
  cases h1 : Nat.beq i1 i with
  | true => rw [h1] at h; cases h
  | false =>
    rw [h1] at h
    simp only [cond_false] at h
    unfold look at h
    cases h2 : Nat.beq i2 i with
    | true => rw [h2] at h; cases h
    | false => rw [h2] at h; cases h
theorem look2_rep {i1 i2 i : Nat} {l1 l2 : L6} {w : World} {g : Gh} {a : Act} (h1 : ERep U6 w g (.one l1) (a.tmps.getD i1 undef)) (h2 : ERep U6 w g (.one l2) (a.tmps.getD i2 undef)) : ERep U6 w g (look [(i1, (.one l1 : E6)), (i2, .one l2)] i) (a.tmps.getD i undef) := by
  unfold look
  cases h : Nat.beq i1 i with
  | true => rw [← (beq_iff _ _).1 h]; exact h1
  | false =>
    unfold look
    cases h3 : Nat.beq i2 i with
    | true => rw [← (beq_iff _ _).1 h3]; exact h2
    | false => exact ERep.any _ _ _

/-- The end: b's rows have the lengths that were wanted. -/
theorem seg22 {Q : Exit → Act → World → Prop} {a : Act} {w W1 : World} {c : Cfg} {LB : List (List Int)} (tm : Tm a 238 [(10, c.vb), (11, c.vw)]) (hlen : LB.map List.length = c.D.map List.length) (hD : Small c.D) (st : MemB W1 c w LB)
    (hQ : ∀ e a' w' v, (e = .normal ∨ e = .ret) → a'.defers = [] → (results Try.f10 a'.tmps).run Try.prog w' = .ok v w' → v = .bool true → KeepS w w' (fun _ => False) → Q e a' w') : (cd Try.f10 22 []).wp Try.prog Q a w := by
  have hl := lens_get hlen
  have hB : LB.length ≤ 1048576 := by rw [hl]; exact hD.1
  have hrun := segF LB c.D hl (fun i x y hx hy => lens_at hlen hx hy) (by omega) (LB.length + 1) (by omega)
  have hE := env10 ⟨w, wm0 w, none⟩
  refine evCode_sound hE (LB.length + 1) (cd Try.f10 22 []) ⟨[(10, .one (.sl .rs LB none)), (11, .one (.sl .rs c.D none))], []⟩ a w _ Q hrun ⟨_, rel_start tm.dfr (fun i => ?_) (fun i cc p h => ?_)⟩ tm.size ?_
  · exact look2_rep (by rw [tm.get 10 _ rfl]; exact rep0 (st.b.rep none)) (by rw [tm.get 11 _ rfl]; exact rep0 st.want.all)
  · exact look2_iter h
  · intro e s' a' w' hk ⟨g', hr'⟩ hsz'
    have fin : pack Try.f10.results.toList s' = some (.one (.bool true)) → (exOf e = .normal ∨ exOf e = .ret) → Q (exOf e) a' w' := fun hp he => by
      obtain ⟨v, h1, g2, h2⟩ := ret_ok (P := Try.prog) hE.U hp hr'
      exact hQ _ a' w' v he hr'.defers h1 (CRep.bool_inv h2.rep.1) (post_keep h2)
    cases e with
    | normal => exact fin hk (.inl rfl)
    | ret => exact fin hk (.inr rfl)
    | exit id => cases hk

theorem first2 (v0 v1 : Value) (k : Nat) : (#[v0, v1] ++ Array.replicate k undef).getD 0 undef = v0 := by
  rw [Array.getD_eq_getD_getElem?, Array.getElem?_append_left (by simp)]; rfl
theorem second2 (v0 v1 : Value) (k : Nat) : (#[v0, v1] ++ Array.replicate k undef).getD 1 undef = v1 := by
  rw [Array.getD_eq_getD_getElem?, Array.getElem?_append_left (by simp)]; rfl
theorem walk10 {W : World} {v0 v1 : Value} {L : List (List Int)} {l : List Int} (hL : Small L) (hl : l.length ≤ 1048576) (hr0 : CRep U6 W (wm0 W) (.sl .rs L none) v0) (hr1 : CRep U6 W (wm0 W) (.sl .i32 l none) v1) :
    Calls Try.prog 10 #[v0, v1] W fun e w' => e = .returned (.bool true) ∧ KeepS W w' (fun _ => False) := by
  have hDs := small_dedent hL
  refine calls_of_wp Try.func10 (show Try.f10.body = some (cdAt Try.f10 []) by kernel_rfl) ?_
  rw [preA_body]
  generalize hQ : bodyPost Try.prog Try.f10 (fun e w' => e = .returned (.bool true) ∧ KeepS W w' (fun _ => False)) = Q
  have done : ∀ e a' w' v, (e = .normal ∨ e = .ret) → a'.defers = [] → (results Try.f10 a'.tmps).run Try.prog w' = .ok v w' → v = .bool true → KeepS W w' (fun _ => False) → Q e a' w' := fun e a' w' v he hd hr hv hk => by
    subst hv
    rw [← hQ]
    rcases he with rfl | rfl <;> exact ⟨hd, .bool true, hr, rfl, hk⟩
  classical
  have hn : Try.f10.ntmps = 238 := rfl
  refine evPre_sound (env10 ⟨W, wm0 W, none⟩) (l.length + 1) (cdAt Try.f10 [1, 1, 1, 1, 1, 1, 1, 1]) (r := (.one (.bool true) : E6)) (k := fun s => if ∃ b, s = ⟨[(0, .one (.sl .rs L none)), (82, .one (.bool b))], []⟩ then some (.one (.bool true)) else none) ?_ (preA Try.f10)
    ⟨[(0, .one (.sl .rs L none)), (1, .one (.sl .i32 l none))], []⟩ _ W (segA L l (smL_iff.2 (by omega)) (l.length + 1) (by omega) _ _ (fun b => if_pos ⟨b, rfl⟩)) ⟨_, rel_start rfl (fun i => look2_rep ?_ ?_) fun i c p h => look2_iter h⟩ (by simp [hn]; rfl)
  · intro s' a w hk ⟨g', hr'⟩ hsz'
    have hs' : ∃ b, s' = ⟨[(0, .one (.sl .rs L none)), (82, .one (.bool b))], []⟩ := by
      by_cases h : ∃ b, s' = ⟨[(0, .one (.sl .rs L none)), (82, .one (.bool b))], []⟩
      · exact h
      · rw [if_neg h] at hk; cases hk
    obtain ⟨b, rfl⟩ := hs'
    have hkW : KeepS W w (fun _ => False) := ⟨hr'.os, hr'.tape, hr'.output, hr'.size, fun b hb _ => (hr'.frame b hb (fun e => by cases e)).1⟩
    have h0 := hr'.ent 0
    have hv0 : CRep U6 w (wm0 w) (.sl .rs L none) (a.tmps.getD 0 undef) := h0.1.all
    generalize hv : a.tmps.getD 0 undef = u0 at *
    have tm : Tm a 238 [(0, u0)] := ⟨hsz', hr'.defers, fun i v h => by
      unfold lookV at h
      cases hb : Nat.beq 0 i with
      | true => rw [hb] at h; cases h; rw [← (beq_iff _ _).1 hb]; exact hv
      | false => rw [hb] at h; cases h⟩
    show (cd Try.f10 8 []).wp Try.prog Q a w
    refine seg8 hL tm hv0 fun a w2 c hcD tm mem => ?_
    have hv2 : CRep U6 w2 (wm0 w2) (.sl .rs L none) u0 := ((mem.keep.mono (T := fun _ => False) fun b hb h => absurd hb (by omega)).crep hv0 (wm0_zero w) fun _ h => h.elim).all
    refine seg12 hcD hL hDs tm mem hv2 fun a w3 tm mem => ?_
    refine seg13 hL tm mem fun a w4 L4 hL4 tm mem => ?_
    refine seg14 hcD hL4 hDs tm mem fun a w5 tm mem => ?_
    refine seg15 hDs tm mem fun a w6 vl tm mem ha hvl => ?_
    refine seg16 hDs tm mem ha hvl fun a w7 LL hlen htag tm st => ?_
    refine seg17 hDs tm mem hvl hlen st fun a w8 tm st => ?_
    refine seg18 hDs tm hlen htag st fun a tm => ?_
    -- the lists part again
    obtain ⟨LA, LB, hLL, hla, hlb⟩ : ∃ LA LB, LL = LA ++ LB ∧ LA.map List.length = (dedentF L).map List.length ∧ LB.map List.length = (dedentF L).map List.length := by
      have h1 := lens_get hlen
      rw [List.length_append] at h1
      have h2 : (LL.take (dedentF L).length).length = (dedentF L).length := by rw [List.length_take]; omega
      have h3 : LL = LL.take (dedentF L).length ++ LL.drop (dedentF L).length := (List.take_append_drop _ _).symm
      rw [h3, List.map_append, List.map_append] at hlen
      obtain ⟨q1, q2⟩ := List.append_inj hlen (by rw [List.length_map, List.length_map, h2])
      exact ⟨_, _, h3, q1, q2⟩
    subst hLL
    have hal : c.vsa.length = LA.length := by rw [mem.a.len, lens_get hla]
    have hbr : Rws w8 c.n2 c.n3 c.vsb LB := st.rws.right hal fun j r b => mem.b.rowlo j r b
    have mb : MemB w c w8 LB := ⟨mem.b.withRws hbr st.outb, st.want, st.keep, st.o4⟩
    have hxa : c.vsa.length ≤ 1048576 := by rw [mem.a.len]; exact hDs.1
    refine seg19 hDs tm mem st.outa hxa mb fun a w9 ys tm ha hys mb => ?_
    refine seg20 hDs tm mem ha hys mb fun a w10 tm mb => ?_
    refine seg22 tm (by rw [hcD]; exact hlb) (by rw [hcD]; exact hDs) mb fun e a' w' v he hd hres hvv hkk => done e a' w' v he hd hres hvv ?_
    exact (hkW.trans (mb.keep.mono fun b hb h => absurd hb (by omega))).trans hkk
  · show ERep U6 W (g0 W) _ ((#[v0, v1] ++ Array.replicate _ undef).getD 0 undef)
    rw [first2 v0 v1]
    exact rep0 hr0
  · show ERep U6 W (g0 W) _ ((#[v0, v1] ++ Array.replicate _ undef).getD 1 undef)
    rw [second2 v0 v1]
    exact rep0' hr1
end Go.Aev
end
