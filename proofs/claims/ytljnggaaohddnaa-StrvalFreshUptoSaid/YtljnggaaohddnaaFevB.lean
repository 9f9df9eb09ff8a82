/- Proved here: lemmas of an evaluator over the model's code that the claim's text uses (S5 S6 S7 S8). Conditions: those that each lemma states. -/
import Derived.Test.YtljnggaaohddnaaFevA
import Derived.Great.BuildSlice
import Derived.Lib.OthersKept
import Derived.Laws.Cover4
section
set_option linter.unusedVariables false
namespace Go.Aev
variable {Ty : Type} {den : Ty → Type}

section
variable {U : UO Ty den}

theorem flat_cons (t : Ty) (x : den t) (l : List (den t)) : flat U t (x :: l) = U.cells t x ++ flat U t l := rfl
theorem flat_append (t : Ty) (l m : List (den t)) : flat U t (l ++ m) = flat U t l ++ flat U t m := by simp [flat]
theorem flat_get (hU : U.Ok) (t : Ty) : ∀ (l : List (den t)) (i : Nat) (x : den t) (j : Nat), l[i]? = some x → j < U.size t → (flat U t l)[i * U.size t + j]? = (U.cells t x)[j]?
  | [], i, x, j, h, _ => by simp at h
  | y :: l, 0, x, j, h, hj => by
    simp at h; subst h
    rw [flat_cons, Nat.zero_mul, Nat.zero_add, List.getElem?_append_left (by rw [hU.len]; exact hj)]
  | y :: l, i + 1, x, j, h, hj => by
    have := flat_get hU t l i x j (by simpa using h) hj
    rw [flat_cons, List.getElem?_append_right (by rw [hU.len, Nat.add_mul]; omega), hU.len]
    rw [← this]; congr 1; rw [Nat.add_mul]; omega
theorem flat_drop (hU : U.Ok) (t : Ty) : ∀ (l : List (den t)) (i : Nat), flat U t (l.drop i) = (flat U t l).drop (i * U.size t)
  | l, 0 => by simp
  | [], i + 1 => by simp [flat]
  | x :: l, i + 1 => by
    have := flat_drop hU t l i
    rw [List.drop_succ_cons, this, flat_cons, Nat.add_mul, Nat.one_mul, Nat.add_comm]
    rw [← List.drop_drop]
    congr 1
    rw [← hU.len t x]
    simp
theorem flat_take (hU : U.Ok) (t : Ty) : ∀ (l : List (den t)) (i : Nat), flat U t (l.take i) = (flat U t l).take (i * U.size t)
  | l, 0 => by simp [flat]
  | [], i + 1 => by simp [flat]
  | x :: l, i + 1 => by
    have := flat_take hU t l i
    rw [List.take_succ_cons, flat_cons, this, flat_cons, Nat.add_mul, Nat.one_mul, Nat.add_comm]
    rw [List.take_append, hU.len]
    congr 1
    · rw [List.take_of_length_le (by rw [hU.len]; omega)]
    · congr 1; omega

theorem getElem?_lt {α : Type} {l : List α} {i : Nat} {x : α} (h : l[i]? = some x) : i < l.length := by
  rcases Nat.lt_or_ge i l.length with h' | h'
  · exact h'
  · rw [List.getElem?_eq_none h'] at h; cases h

variable {w : World} {g : Gh} {wm : Nat → Nat}
/-- The cells of a slice, for whoever reads them. -/
theorem CRep.sl_cells {t : Ty} {l : List (den t)} {o : Option Nat} {v : Value} (hU : U.Ok) (h : CRep U w wm (.sl t l o) v) :
    (l = [] ∧ ∃ a cap, v = .slice a 0 cap) ∨ ∃ (b off cap : Nat) (cs : Nat → Value), v = .slice (some ⟨b, off, none⟩) l.length cap ∧ l.length ≤ cap ∧ off + l.length * U.size t ≤ wm b ∧
      (∀ j lf, (flat U t l)[j]? = some lf → w.cell? ⟨b, off + j, none⟩ = some (cs j)) ∧ (∀ j lf, (flat U t l)[j]? = some lf → CRep U w wm lf (cs j)) := by
  cases h with
  | nil t o a cap => exact .inl ⟨rfl, a, cap, rfl⟩
  | sl t l o b off cap cs hcap hwm hc hr => exact .inr ⟨b, off, cap, cs, rfl, hcap, hwm, hc, hr⟩

/-- Solid leaves stand in one cell each. -/
def Solid (lf : Leaf Ty den) : Prop := lf ≠ .any ∧ (∀ v, lf ≠ .val v) ∧ ∀ u y, lf ≠ .agg u y
theorem CRep.one {lf : Leaf Ty den} {v : Value} (h : CRep U w wm lf v) (hs : Solid lf) : v.oneCell' = true ∧ v.cells = #[v] := by
  cases h with
  | any v => exact absurd rfl hs.1
  | val v => exact absurd rfl (hs.2.1 v)
  | agg t x vs hl cs hc hr => exact absurd rfl (hs.2.2 t x)
  | _ => exact ⟨rfl, rfl⟩
theorem solid_close {lf : Leaf Ty den} (h : Solid lf.close) : Solid lf := by
  cases lf <;> first
    | exact h
    | exact ⟨(by intro e; cases e), (by intro v e; cases e), (by intro u y e; cases e)⟩

theorem solid_flat (hU : U.Ok) {t : Ty} {l : List (den t)} {j : Nat} {lf : Leaf Ty den} (h : (flat U t l)[j]? = some lf) : Solid lf := by
  have hm := List.mem_of_getElem? h
  unfold flat at hm
  obtain ⟨x, _, hx⟩ := List.mem_flatMap.1 hm
  exact hU.solid t x lf hx
end

section
variable {U : UO Ty den} {B : Bs} {g : Gh} {s : St Ty den} {a : Act} {w : World}

def markAt (wm : Nat → Nat) (b n : Nat) : Nat → Nat := fun k => if k = b then n else wm k

theorem alloc_cell_old (w : World) (o : Obj) (b off : Nat) (h : b < w.heap.size) : (w.alloc o).cell? ⟨b, off, none⟩ = w.cell? ⟨b, off, none⟩ := World.cell?_alloc_lt w o _ h

/-- A new block, its first n cells marked. -/
theorem Rel.alloc (hU : U.Ok) (h : Rel U B g s a w) (o : Obj) (n : Nat) (w' : World) (hw : w'.heap = w.heap.push o) (hos : w'.os = w.os) (htape : w'.tape = w.tape) (hout : w'.output = w.output) :
    Rel U B { g with wm := markAt g.wm w.heap.size n } s a w' := by
  have hold : ∀ b, b < w.heap.size → w'.heap[b]? = w.heap[b]? := fun b hb => by rw [hw, Array.getElem?_push, if_neg (by omega)]
  refine h.world hU hos htape hout (by rw [hw]; simp) ⟨fun b off ho => ?_, fun b => ?_⟩ none (fun b e => by cases e) (fun _ _ _ _ e => by cases e) (fun b e => by cases e) (fun _ _ _ _ _ e => by cases e) (fun b hb _ => ⟨hold b hb, ?_⟩) (fun b hb => ?_)
  · rcases Nat.lt_or_ge b w.heap.size with h1 | h1
    · exact World.cell?_of_block (a := ⟨b, off, none⟩) (hold b h1)
    · rw [h.zero b h1] at ho; omega
  · unfold markAt
    by_cases hb : b = w.heap.size
    · subst hb; rw [if_pos rfl, h.zero _ (Nat.le_refl _)]; exact Nat.zero_le _
    · rw [if_neg hb]; exact Nat.le_refl _
  · simp only [markAt]; rw [if_neg (by omega)]
  · rw [hw] at hb
    simp at hb
    simp only [markAt]
    rw [if_neg (by omega)]
    exact h.zero b (by omega)

theorem Rel.drew (hU : U.Ok) (h : Rel U B g s a w) : Rel U B g s a w.drew :=
  h.world hU (w' := w.drew) (wm' := g.wm) rfl rfl rfl (Nat.le_refl _) ⟨fun _ _ _ => rfl, fun _ => Nat.le_refl _⟩ none (fun b e => by cases e) (fun _ _ _ _ e => by cases e) (fun b e => by cases e) (fun _ _ _ _ _ e => by cases e) (fun b _ _ => ⟨rfl, rfl⟩) h.zero

/-- The slice over a new block. -/
theorem sl_new (hU : U.Ok) {t : Ty} {l : List (den t)} {w' : World} {wm' : Nat → Nat} {b : Nat} {c : Array Value} {e : TypeId} {fz : Nat × Nat} (hb : w'.heap[b]? = some (.cells c e fz)) (cap : Nat) (hcap : l.length ≤ cap)
    (hwm : l.length * U.size t ≤ wm' b) (hr : ∀ (j : Nat) (lf : Leaf Ty den), (flat U t l)[j]? = some lf → ∃ v : Value, c[j]? = some v ∧ CRep U w' wm' lf v) (o : Option Nat) : CRep U w' wm' (.sl t l o) (.slice (some ⟨b, 0, none⟩) l.length cap) := by
  refine .sl t l o b 0 cap (fun j => c.getD j undef) hcap (by omega) (fun j lf hj => ?_) (fun j lf hj => ?_)
  · obtain ⟨v, hv, _⟩ := hr j lf hj
    simp [World.cell?, hb, hv, Array.getD_eq_getD_getElem?]
  · obtain ⟨v, hv, hrep⟩ := hr j lf hj
    simpa [Array.getD_eq_getD_getElem?, hv] using hrep
end

section
variable {E : Env Ty den} {B : Bs} {g : Gh} {s : St Ty den} {a : Act} {w : World}
variable {P : Program} {R : Type} {o : Oper} {k : Ent Ty den → St Ty den → Option R} {r : R} {next : Act → World → Prop} {Q : Exit → Act → World → Prop}
variable (hT : ∀ t, TbOk P E.U t (E.tb t)) (hU : E.U.Ok)

include hT in
theorem tb_slice {t : TypeId} {u : Ty} {e : TypeId} (h : E.tb t = .slice u e) : P.underlying t = some (.slice e) ∧ ∃ i z, P.info? e = some i ∧ i.size = E.U.size u ∧ i.bytes = E.U.bytes u ∧ i.zero = some z ∧ z.cells.size = E.U.size u := by
  have := hT t; rw [h] at this; exact this
include hT in
theorem tb_str {t : TypeId} (h : E.tb t = .str) : P.underlying t = some .string := by
  have := hT t; rw [h] at this; exact this
include hT in
theorem tb_int {t : TypeId} {k : IntKind} (h : E.tb t = .int k) : P.underlying t = some (.int k) := by
  have := hT t; rw [h] at this; exact this

theorem castL_inv {U : UO Ty den} {t u : Ty} {l : List (den u)} {l' : List (den t)} (h : castL U t u l = some l') : ∃ e : u = t, e ▸ l = l' := by
  unfold castL at h
  split at h
  · rename_i e _; exact ⟨e, by simpa using h⟩
  · cases h
theorem castL_rep {U : UO Ty den} {t u : Ty} {l : List (den u)} {l' : List (den t)} (h : castL U t u l = some l') {w : World} {wm : Nat → Nat} {o : Option Nat} {v : Value} (hr : CRep U w wm (.sl u l o) v) : CRep U w wm (.sl t l' o) v ∧ l.length = l'.length := by
  obtain ⟨e, he⟩ := castL_inv h
  subst e; subst he
  exact ⟨hr, rfl⟩

theorem idx_inv {α : Type} {l : List α} {i : Int} {x : α} (h : idx l i = some x) : 0 ≤ i ∧ l[i.toNat]? = some x := by
  unfold idx at h
  obtain ⟨h1, h2⟩ := bif_some h
  exact ⟨by simpa using h1, h2⟩
theorem sub_inv {α : Type} {l r : List α} {lo hi : Int} (h : sub l lo hi = some r) : 0 ≤ lo ∧ lo ≤ hi ∧ hi ≤ (l.length : Int) ∧ r = (l.drop lo.toNat).take (hi.toNat - lo.toNat) := by
  unfold sub at h
  obtain ⟨h1, h2⟩ := bif_some h
  simp only [Bool.and_eq_true, decide_eq_true_eq] at h1
  exact ⟨h1.1, h1.2.1, h1.2.2, by simpa using h2.symm⟩

include hT hU in
theorem op_indexAddr {t : TypeId} {x i : Operand} (hop : o.op = .indexAddr t x i) (h : evOp E o s k = some r) (hr : Rel E.U B g s a w) (hd : ∀ i, o.dst = some i → i < a.tmps.size) (hn : Next E B o a k r next) : o.wp P a w next Q := by
  simp only [evOp, hop] at h
  split at h
  · rename_i u e u0 l0 own k0 n ht hx hi
    split at h
    · rename_i l hcast
      split at h
      · rename_i y hy
        obtain ⟨h0, hyl⟩ := idx_inv hy
        obtain ⟨hte, ie, z, hie, hsz, _, _, _⟩ := tb_slice hT ht
        have ei := opl_int hr hi
        have hxr := opl_rep hr t x
        rw [hx] at hxr
        have hrep := (castL_rep hcast hxr.1).1
        have hlt := getElem?_lt hyl
        rcases hrep.sl_cells hU with ⟨rfl, _⟩ | ⟨b, off, cap, cs, hv, hcap, hwm, hc, hcr⟩
        · simp at hyl
        · have hin : 0 ≤ n ∧ n < (l.length : Int) := ⟨h0, by omega⟩
          have hmul : (n.toNat + 1) * E.U.size u ≤ l.length * E.U.size u := Nat.mul_le_mul_right _ (by omega)
          rw [Nat.add_mul, Nat.one_mul] at hmul
          refine wp_quiet (e := .one (.elem u y 0)) (v := .pointer (some ⟨b, (off + n.toNat * E.U.size u) + 0, none⟩)) hr hd hn h ?_ rfl ?_
          · refine ⟨.elem u y 0 b (off + n.toNat * E.U.size u) (fun j => cs (n.toNat * E.U.size u + j)) (by omega) (fun j lf hj => ?_) (fun j lf hj => ?_), fun _ _ _ e => by cases e⟩
            · have hjl := getElem?_lt hj
              rw [hU.len] at hjl
              have := hc (n.toNat * E.U.size u + j) lf (by rw [flat_get hU u l n.toNat y j hyl hjl]; exact hj)
              rw [Nat.add_assoc]; exact this
            · have hjl := getElem?_lt hj
              rw [hU.len] at hjl
              exact hcr (n.toNat * E.U.size u + j) lf (by rw [flat_get hU u l n.toNat y j hyl hjl]; exact hj)
          · have hadd : (Addr.mk b off none).add (n.toNat * E.U.size u) = ⟨b, off + n.toNat * E.U.size u, none⟩ := Addr.add_lit _ _ _
            simp [execOp, hop, hv, ei, Instr.indexAt, asIntOf, run_underlying hte, hin.1, hin.2, Go.sizeOf, typeInfo, hie, hsz, hadd]
      · cases h
    · cases h
  · cases h

theorem size_mk (b : List UInt8) : (ByteArray.mk b.toArray).size = b.length := by simp [ByteArray.size]

include hT in
theorem op_index {t : TypeId} {x i : Operand} (hop : o.op = .index t x i) (h : evOp E o s k = some r) (hr : Rel E.U B g s a w) (hd : ∀ i, o.dst = some i → i < a.tmps.size) (hn : Next E B o a k r next) : o.wp P a w next Q := by
  simp only [evOp, hop] at h
  split at h
  · rename_i b k0 n ht hx hi
    split at h
    · rename_i y hy
      obtain ⟨h0, hyl⟩ := idx_inv hy
      have hte := tb_str hT ht
      have ei := opl_int hr hi
      have ex := opl_str hr hx
      have hlt := getElem?_lt hyl
      have hg : (ByteArray.mk b.toArray)[n.toNat]? = some y := by
        rw [ByteArray.getElem?_lt' _ _ (by rw [size_mk]; exact hlt)]
        congr 1
        rw [List.getElem?_eq_getElem hlt] at hyl
        have := Option.some.inj hyl
        rw [← this]
        rfl
      exact wp_quiet (e := .one (.int .u8 (y.toNat : Int))) (v := .int .u8 (y.toNat : Int)) hr hd hn h (LRep.int _ _) rfl (by simp [execOp, hop, ex, ei, Instr.index, asIntOf, run_underlying hte, h0, hg])
    · cases h
  · cases h

theorem isAgg_run {t : TypeId} {k : TK Ty} (h : TbOk P E.U t k) (hk : ∀ (_ : k = .other), False) (hk2 : ∀ u (_ : k = .struct u), False) (w : World) : (isAgg t).run P w = .ok false w := by
  cases k with
  | int k => simp [isAgg, run_underlying (show P.underlying t = some (.int k) from h)]
  | str => simp [isAgg, run_underlying (show P.underlying t = some .string from h)]
  | bool => simp [isAgg, run_underlying (show P.underlying t = some .bool from h)]
  | slice u e => simp [isAgg, run_underlying h.1]
  | struct u => exact (hk2 u rfl).elim
  | other => exact (hk rfl).elim
theorem isAgg_struct {t : TypeId} {fs : Array Field} (h : P.underlying t = some (.struct fs)) (w : World) : (isAgg t).run P w = .ok true w := by simp [isAgg, run_underlying h]
theorem mapM_len {α β : Type} {f : α → Option β} : ∀ {l : List α} {r : List β}, l.mapM f = some r → r.length = l.length
  | [], r, h => by simp at h; subst h; rfl
  | x :: l, r, h => by
    simp only [List.mapM_cons, Option.bind_eq_bind, Option.bind_eq_some_iff, Option.pure_def, Option.some.injEq] at h
    obtain ⟨b, _, r', hr', rfl⟩ := h
    simp [mapM_len hr']
theorem mapM_get {α β : Type} {f : α → Option β} : ∀ {l : List α} {r : List β}, l.mapM f = some r → ∀ (i : Nat) (x : α), l[i]? = some x → ∃ y, r[i]? = some y ∧ f x = some y
  | [], r, h, i, x, hx => by simp at hx
  | a :: l, r, h, i, x, hx => by
    simp only [List.mapM_cons, Option.bind_eq_bind, Option.bind_eq_some_iff, Option.pure_def, Option.some.injEq] at h
    obtain ⟨b, hb, r', hr', rfl⟩ := h
    cases i with
    | zero => simp at hx; subst hx; exact ⟨b, by simp, hb⟩
    | succ i => obtain ⟨y, h1, h2⟩ := mapM_get hr' i x (by simpa using hx); exact ⟨y, by simpa using h1, h2⟩
include hT in
theorem tb_struct {t : TypeId} {u : Ty} (h : E.tb t = .struct u) : ∃ fs i z, P.underlying t = some (.struct fs) ∧ fs.toList.mapM (fun f => (P.info? f.type).map fun i => (f.offset, i.size)) = some ((List.range (E.U.size u)).map fun i => (i, 1)) ∧
      P.info? t = some i ∧ i.size = E.U.size u ∧ i.zero = some z ∧ z.cells.size = E.U.size u := by
  have := hT t; rw [h] at this; exact this
theorem agg_inv {U : UO Ty den} {w : World} {wm : Nat → Nat} {t : Ty} {x : den t} {v : Value} (h : CRep U w wm (.agg t x) v) :
    ∃ vs : List Value, v = .agg vs.toArray ∧ vs.length = U.size t ∧ ∃ cs : Nat → Value, (∀ j lf, (U.cells t x)[j]? = some lf → vs[j]? = some (cs j)) ∧ ∀ j lf, (U.cells t x)[j]? = some lf → CRep U w wm lf (cs j) := by
  cases h with
  | agg t x vs hl cs hc hr => exact ⟨vs, rfl, hl, cs, hc, hr⟩
theorem cast1 {U : UO Ty den} {t u : Ty} {y : den u} {y' : den t} (h : castL U t u [y] = some [y']) : ∃ e : u = t, e ▸ y = y' := by
  unfold castL at h
  split at h
  · rename_i e _
    subst e
    simp only [Option.some.injEq, List.cons.injEq] at h
    exact ⟨rfl, h.1⟩
  · cases h

include hT hU in
theorem op_load {t : TypeId} {x : Operand} (hop : o.op = .load t x) (h : evOp E o s k = some r) (hr : Rel E.U B g s a w) (hd : ∀ i, o.dst = some i → i < a.tmps.size) (hn : Next E B o a k r next) : o.wp P a w next Q := by
  simp only [evOp, hop] at h
  split at h
  · cases h
  · rename_i u ht
    split at h
    · rename_i u' y hx
      split at h
      · rename_i y' hy
        obtain ⟨rfl, hy2⟩ := cast1 hy
        simp only at hy2
        subst hy2
        obtain ⟨fs, ie, z, h1, _, h3, h4, _⟩ := tb_struct hT ht
        have hxr := opl_rep hr 0 x
        rw [hx] at hxr
        obtain ⟨hc, _⟩ := hxr
        generalize hv : a.eval x = v at hc
        cases hc with
        | elem _ _ _ b o' cs hwm hcell hrep =>
          have hlen := hU.len u' y
          have hload : (loadCells ⟨b, o', none⟩ (E.U.size u')).run P w = .ok ((List.range (E.U.size u')).map cs).toArray w :=
            run_loadCells w _ _ cs fun j hj => by
              have := hcell j (E.U.cells u' y)[j] (List.getElem?_eq_getElem (by omega))
              rw [Addr.add_lit]; exact this
          refine wp_quiet (e := .one (.agg u' y)) (v := .agg ((List.range (E.U.size u')).map cs).toArray) hr hd hn h ⟨.agg u' y _ (by simp) cs (fun j lf hj => ?_) hrep, fun _ _ _ he => by cases he⟩ rfl ?_
          · have hjl := getElem?_lt hj
            rw [hlen] at hjl
            rw [List.getElem?_map, List.getElem?_range hjl]; rfl
          · have hag := isAgg_struct (P := P) h1 w
            simp [execOp, hop, hv, Instr.loadAt, Instr.sureAddr, loadVar, hag, Go.sizeOf, typeInfo, h3, h4, hload]
      · cases h
    · cases h
  · rename_i hk hk2
    split at h
    · rename_i u y off hx
      split at h
      · rename_i lf hlf
        have hxr := opl_rep hr 0 x
        rw [hx] at hxr
        obtain ⟨hc, _⟩ := hxr
        generalize hv : a.eval x = v at hc
        cases hc with
        | elem _ _ _ b o' cs hwm hcell hrep =>
          have hag := isAgg_run (E := E) (hT t) hk hk2 w
          refine wp_quiet (e := .one lf.close) (v := cs off) hr hd hn h (LRep.closed (hrep off lf hlf)) rfl ?_
          simp [execOp, hop, hv, Instr.loadAt, Instr.sureAddr, loadVar, hag, hcell off lf hlf]
      · cases h
    · cases h
end
end Go.Aev
end

section
set_option linter.unusedVariables false
namespace Go.Aev
variable {Ty : Type} {den : Ty → Type}
section
variable {E : Env Ty den} {B : Bs} {g : Gh} {s : St Ty den} {a : Act} {w : World}
variable {P : Program} {R : Type} {o : Oper} {k : Ent Ty den → St Ty den → Option R} {r : R} {next : Act → World → Prop} {Q : Exit → Act → World → Prop}
variable (hT : ∀ t, TbOk P E.U t (E.tb t)) (hU : E.U.Ok)

/-- A new owned slice over a new block. -/
theorem REL.newOwn (hU : E.U.Ok) (hr : Rel E.U B g s a w) (hd : ∀ i, o.dst = some i → i < a.tmps.size) (d : Nat) {t : Ty} {l : List (den t)} {c : Array Value} {e : TypeId} {fz : Nat × Nat} {cap : Nat} (w' : World)
    (hw : w'.heap = w.heap.push (.cells c e fz)) (hos : w'.os = w.os) (htape : w'.tape = w.tape) (hout : w'.output = w.output) (hcap : l.length ≤ cap) (hsz : cap * E.U.size t ≤ c.size)
    (hfz : ∀ j, j < cap * E.U.size t → ¬ (fz.1 ≤ j ∧ j < fz.2))
    (hc : ∀ (j : Nat) (lf : Leaf Ty den), (flat E.U t l)[j]? = some lf → ∃ v : Value, c[j]? = some v ∧ CRep E.U w g.wm lf v)
    (hdp : deepN d = true → Deep B w' (markAt g.wm w.heap.size (l.length * E.U.size t)) (.slice (some ⟨w.heap.size, 0, none⟩) l.length cap) (E.U.size t) ∧
      (∀ b, RowB w' (.slice (some ⟨w.heap.size, 0, none⟩) l.length cap) b → b < w.heap.size) ∧ (∀ e b, mem e s.live = true → e ≠ d → RowB w' (.slice (some ⟨w.heap.size, 0, none⟩) l.length cap) b → spare (g.G e) ≠ some b) ∧
      (∀ e b, mem e s.live = true → e ≠ d → deepN e = true → RowB w' (.slice (some ⟨w.heap.size, 0, none⟩) l.length cap) b → ¬ RowB w (g.G e) b)) :
    REL E.U B ((s.fresh d).setO o.dst (.one (.sl t l (some d)))) (a.put o.dst (.slice (some ⟨w.heap.size, 0, none⟩) l.length cap)) w' := by
  have h1 := hr.alloc hU (.cells c e fz) (l.length * E.U.size t) w' hw hos htape hout
  have hnew : w'.heap[w.heap.size]? = some (.cells c e fz) := by rw [hw]; simp
  have hold : ∀ b, b < w.heap.size → w'.heap[b]? = w.heap[b]? := fun b hb => by rw [hw, Array.getElem?_push, if_neg (by omega)]
  have hx : Ext w g.wm w' (markAt g.wm w.heap.size (l.length * E.U.size t)) := by
    refine ⟨fun b off ho => ?_, fun b => ?_⟩
    · rcases Nat.lt_or_ge b w.heap.size with h2 | h2
      · exact World.cell?_of_block (a := ⟨b, off, none⟩) (hold b h2)
      · rw [hr.zero b h2] at ho; omega
    · unfold markAt
      by_cases hb : b = w.heap.size
      · subst hb; rw [if_pos rfl, hr.zero _ (Nat.le_refl _)]; exact Nat.zero_le _
      · rw [if_neg hb]; exact Nat.le_refl _
  have hmark : markAt g.wm w.heap.size (l.length * E.U.size t) w.heap.size = l.length * E.U.size t := by simp [markAt]
  have hrep : CRep E.U w' (markAt g.wm w.heap.size (l.length * E.U.size t)) (.sl t l (some d)) (.slice (some ⟨w.heap.size, 0, none⟩) l.length cap) :=
    sl_new hU hnew cap hcap (by rw [hmark]; exact Nat.le_refl _) (fun j lf hj => by obtain ⟨v, hv, hv2⟩ := hc j lf hj; exact ⟨v, hv, hv2.mono hU hx⟩) _
  have h2 := h1.fresh hU d (.slice (some ⟨w.heap.size, 0, none⟩) l.length cap) (E.U.size t)
    ⟨_, _, _, rfl, hcap, .inr ⟨w.heap.size, 0, c, e, fz, rfl, hnew, by omega, by simp [markAt], fun j hj => hfz j (by omega)⟩⟩
    (fun e' b he hne hs hs' => by
      have hb : b = w.heap.size := by
        simp only [spare] at hs
        split at hs
        · cases hs
        · exact (Option.some.inj hs).symm
      subst hb
      obtain ⟨a0, len, cap', hv, _, hc'⟩ := hr.tip e' he
      have hs2 : spare (g.G e') = some w.heap.size := hs'
      rw [hv] at hs2
      simp only [spare] at hs2
      split at hs2
      · rename_i a1 l1 c1 heq
        cases heq
        split at hs2
        · cases hs2
        · rename_i hlc
          rcases hc' with h3 | ⟨b, off, c, e, fz, ha, hb, _⟩
          · exact hlc h3
          · cases ha
            simp at hs2
            subst hs2
            exact absurd (Array.getElem?_eq_some_iff.1 hb).1 (by omega)
      · cases hs2)
    (fun b hs => by
      simp only [spare] at hs
      split at hs
      · cases hs
      · left
        have := Option.some.inj hs
        rw [← this]; exact hr.size)
    (fun e' b he hne hep hrow hs => by
      have hb : b = w.heap.size := by
        simp only [spare] at hs
        split at hs
        · cases hs
        · exact (Option.some.inj hs).symm
      have := hr.row_lt he hep ((hr.row_ext hx he hep).1 hrow)
      omega)
    (fun hdd => by
      obtain ⟨k1, k2, k3, k4⟩ := hdp hdd
      refine ⟨k1, fun b hrow hs => ?_, fun e' b he hne hrow => k3 e' b he hne hrow, fun e' b he hne hep hrow hrow' => k4 e' b he hne hep hrow ((hr.row_ext hx he hep).1 hrow')⟩
      have hb : b = w.heap.size := by
        simp only [spare] at hs
        split at hs
        · cases hs
        · exact (Option.some.inj hs).symm
      have := k2 b hrow
      omega)
  refine REL.setO h2 (e := .one (.sl t l (some d))) ⟨hrep, fun t' l' d' he => ?_⟩ rfl o.dst hd
  simp only [Leaf.sl.injEq, Option.some.injEq] at he
  obtain ⟨rfl, _, rfl⟩ := he
  simp [Gh.put]

theorem evBound_int (hr : Rel E.U B g s a w) {d n : Int} {x : Option Operand} (h : evBound E s d x = some n) : (x = none ∧ n = d) ∨ ∃ y k0, x = some y ∧ a.eval y = .int k0 n := by
  cases x with
  | none => simp only [evBound, Option.some.injEq] at h; exact .inl ⟨rfl, h.symm⟩
  | some y =>
    simp only [evBound] at h
    split at h
    · rename_i k0 m hy
      simp only [Option.some.injEq] at h
      subst h
      exact .inr ⟨y, k0, rfl, opl_int hr hy⟩
    · cases h

/-- The run of a slice expression whose bounds are in range. -/
theorem run_bounds (P : Program) (w : World) (isS : Bool) (len cap : Nat) (hlc : len ≤ cap) (lo hi mx : Option Value) (l h m : Nat) (hl : (lo = none ∧ l = 0) ∨ ∃ k, lo = some (.int k (l : Int))) (hh : (hi = none ∧ mx = none ∧ h = len) ∨ ∃ k, hi = some (.int k (h : Int)))
    (hm : (mx = none ∧ m = cap) ∨ ∃ k, mx = some (.int k (m : Int))) (h1 : l ≤ h) (h2 : h ≤ m) (h3 : m ≤ cap) :
    (Instr.sliceBounds isS len cap lo hi mx).run P w = .ok (l, h, m) w := by
  have a1 : (l : Int) ≤ (h : Int) := by omega
  have a2 : (h : Int) ≤ (m : Int) := by omega
  have a3 : (m : Int) ≤ (cap : Int) := by omega
  have a0 : (0 : Int) ≤ (l : Int) := by omega
  have b0 : (0 : Int) ≤ (h : Int) := by omega
  have c0 : (0 : Int) ≤ (m : Int) := by omega
  rcases hm with ⟨rfl, rfl⟩ | ⟨km, rfl⟩ <;> rcases hh with ⟨rfl, hmx, rfl⟩ | ⟨kh, rfl⟩ <;> rcases hl with ⟨rfl, rfl⟩ | ⟨kl, rfl⟩ <;>
    first
    | (cases hmx; done)
    | (simp [Instr.sliceBounds, run_sliceBound_if, a0, a1, a2, a3, b0, c0]; done)
    | (simp [Instr.sliceBounds, run_sliceBound_if, a0, a1, a2, a3, b0, c0]; intros; omega)
    | (simp [Instr.sliceBounds, run_sliceBound_if, a0, a1, a2, a3, b0, c0, h1, h2, h3, Nat.not_lt.2 h1, Nat.not_lt.2 h2, Nat.not_lt.2 h3]; done)

include hT hU in
theorem op_slice {t : TypeId} {x : Operand} {lo hi mx : Option Operand} (hop : o.op = .slice t x lo hi mx) (h : evOp E o s k = some r) (hr : Rel E.U B g s a w) (hd : ∀ i, o.dst = some i → i < a.tmps.size) (hn : Next E B o a k r next) : o.wp P a w next Q := by
  simp only [evOp, hop] at h
  split at h
  · rename_i b ht hx
    have hte := tb_str hT ht
    have ex := opl_str hr hx
    split at h
    · rename_i va vc hlo hhi
      split at h
      · rename_i rr hsub
        obtain ⟨h0, h1, h2, rfl⟩ := sub_inv hsub
        have e1 : ((va.toNat : Nat) : Int) = va := by omega
        have e2 : ((vc.toNat : Nat) : Int) = vc := by omega
        have hb := run_bounds P w false b.length b.length (Nat.le_refl _) (lo.map a.eval) (hi.map a.eval) none va.toNat vc.toNat b.length
          (by rcases evBound_int hr hlo with ⟨rfl, h3⟩ | ⟨y, k0, rfl, h3⟩
              · left; exact ⟨rfl, by omega⟩
              · right; exact ⟨k0, by rw [e1]; simp [h3]⟩)
          (by rcases evBound_int hr hhi with ⟨rfl, h3⟩ | ⟨y, k0, rfl, h3⟩
              · left; exact ⟨rfl, rfl, by omega⟩
              · right; exact ⟨k0, by rw [e2]; simp [h3]⟩)
          (.inl ⟨rfl, rfl⟩) (by omega) (by omega) (Nat.le_refl _)
        refine wp_quiet (e := .one (.str _)) (v := .string ⟨((b.drop va.toNat).take (vc.toNat - va.toNat)).toArray⟩) hr hd hn h (LRep.str _) rfl ?_
        simp [execOp, hop, ex, Instr.sliceAt, Instr.slice, run_underlying hte, size_mk, hb, ByteArray.extract_mk]
      · cases h
    · cases h
  · rename_i u e u0 l0 own ht hx
    split at h
    · rename_i l hcast
      obtain ⟨hte, ie, z, hie, hsz, _, _, _⟩ := tb_slice hT ht
      have hxr := opl_rep hr t x
      rw [hx] at hxr
      have hrep := (castL_rep hcast hxr.1).1
      -- the run, for whatever bounds
      have fin : ∀ (va vc : Int) (mv : Option Value) (m : Nat → Nat), 0 ≤ va → va ≤ vc → vc ≤ (l.length : Int) → evBound E s 0 lo = some va → evBound E s (l.length : Int) hi = some vc →
          (∀ cap, l.length ≤ cap → ((mv = none ∧ m cap = cap) ∨ ((∃ k, mv = some (.int k ((m cap : Nat) : Int))) ∧ hi ≠ none ∧ m cap = vc.toNat))) → mx.map a.eval = mv →
          k (.one (.sl u ((l.drop va.toNat).take (vc.toNat - va.toNat)) none)) s = some r → o.wp P a w next Q := by
        intro va vc mv m h0 h1 h2 hlo hhi hm hmv hk
        have e1 : ((va.toNat : Nat) : Int) = va := by omega
        have e2 : ((vc.toNat : Nat) : Int) = vc := by omega
        obtain ⟨a0, cap0, hv0⟩ := hrep.sl_inv
        have hlen : ((l.drop va.toNat).take (vc.toNat - va.toNat)).length = vc.toNat - va.toNat := by simp; omega
        have main : ∀ (a0 : Option Addr) (cap : Nat), a.eval x = .slice a0 l.length cap → l.length ≤ cap →
            (execOp a.eval o).run P w = .ok (.value (.slice (if m cap = va.toNat then a0 else a0.map (·.add (va.toNat * E.U.size u))) (vc.toNat - va.toNat) (m cap - va.toNat))) w := by
          intro a0 cap hv hcap
          have hm' := hm cap hcap
          have hb := run_bounds P w true l.length cap hcap (lo.map a.eval) (hi.map a.eval) mv va.toNat vc.toNat (m cap)
            (by rcases evBound_int hr hlo with ⟨rfl, h3⟩ | ⟨y, k0, rfl, h3⟩
                · left; exact ⟨rfl, by omega⟩
                · right; exact ⟨k0, by rw [e1]; simp [h3]⟩)
            (by rcases evBound_int hr hhi with ⟨rfl, h3⟩ | ⟨y, k0, rfl, h3⟩
                · rcases hm' with ⟨h4, _⟩ | ⟨_, h4, _⟩
                  · left; exact ⟨rfl, h4, by omega⟩
                  · exact absurd rfl h4
                · right; exact ⟨k0, by rw [e2]; simp [h3]⟩)
            (by rcases hm' with h4 | ⟨h4, _⟩
                · exact .inl h4
                · exact .inr h4)
            (by omega) (by rcases hm' with ⟨_, h4⟩ | ⟨_, _, h4⟩ <;> omega) (by rcases hm' with ⟨_, h4⟩ | ⟨_, _, h4⟩ <;> omega)
          simp [execOp, hop, hv, Instr.sliceAt, Instr.slice, run_underlying hte, hmv, hb, Go.sizeOf, typeInfo, hie, hsz]
        rcases hrep.sl_cells hU with ⟨rfl, a1, cap, hv⟩ | ⟨b, off, cap, cs, hv, hcap, hwm, hc, hcr⟩
        · have hz : vc.toNat - va.toNat = 0 := by simp at h2; omega
          refine wp_quiet (e := .one (.sl u _ none)) hr hd hn hk ?_ rfl (main a1 cap hv (Nat.zero_le _))
          refine ⟨?_, fun _ _ _ e => by simp at e⟩
          rw [hz, List.take_zero]
          exact .nil u none _ _
        · refine wp_quiet (e := .one (.sl u _ none)) hr hd hn hk ?_ rfl (main _ cap hv hcap)
          refine ⟨?_, fun _ _ _ e => by simp at e⟩
          by_cases hz : vc.toNat - va.toNat = 0
          · rw [hz, List.take_zero]
            exact .nil u none _ _
          · have hmne : m cap ≠ va.toNat := by
              rcases hm cap hcap with ⟨_, h4⟩ | ⟨_, _, h4⟩ <;> omega
            rw [if_neg hmne]
            have hadd : (Addr.mk b off none).add (va.toNat * E.U.size u) = ⟨b, off + va.toNat * E.U.size u, none⟩ := Addr.add_lit _ _ _
            simp only [Option.map_some, hadd]
            have hflat : ∀ (j : Nat) (lf : Leaf Ty den), (flat E.U u ((l.drop va.toNat).take (vc.toNat - va.toNat)))[j]? = some lf → (flat E.U u l)[va.toNat * E.U.size u + j]? = some lf := by
              intro j lf hj
              rw [flat_take hU, flat_drop hU] at hj
              rw [List.getElem?_take] at hj
              split at hj
              · rw [List.getElem?_drop] at hj; exact hj
              · cases hj
            have hmul : (va.toNat + (vc.toNat - va.toNat)) * E.U.size u ≤ l.length * E.U.size u := Nat.mul_le_mul_right _ (by omega)
            rw [Nat.add_mul] at hmul
            have := CRep.sl (U := E.U) (w := w) (wm := g.wm) u ((l.drop va.toNat).take (vc.toNat - va.toNat)) none b (off + va.toNat * E.U.size u) (m cap - va.toNat) (fun j => cs (va.toNat * E.U.size u + j))
              (by rw [hlen]; rcases hm cap hcap with ⟨_, h4⟩ | ⟨_, _, h4⟩ <;> omega) (by rw [hlen]; omega)
              (fun j lf hj => by have := hc _ lf (hflat j lf hj); rw [Nat.add_assoc]; exact this) (fun j lf hj => hcr _ lf (hflat j lf hj))
            rw [hlen] at this
            exact this
      split at h
      · rename_i va vc hlo hhi
        split at h
        · rename_i rr hsub
          obtain ⟨h0, h1, h2, rfl⟩ := sub_inv hsub
          exact fin va vc none (fun c => c) h0 h1 h2 hlo hhi (fun cap _ => .inl ⟨rfl, rfl⟩) rfl h
        · cases h
      · rename_i va vc m hlo hhi
        split at h
        · rename_i k0 mv hm
          obtain ⟨hc, h'⟩ := bif_some h
          simp only [Bool.and_eq_true, decide_eq_true_eq] at hc
          obtain ⟨hhs, hc⟩ := hc
          split at h'
          · rename_i rr hsub
            obtain ⟨h0, h1, h2, rfl⟩ := sub_inv hsub
            have em := opl_int hr hm
            have hhn : hi ≠ none := fun e => by rw [e] at hhs; cases hhs
            exact fin va vc (some (.int k0 vc)) (fun _ => vc.toNat) h0 h1 h2 hlo hhi (fun cap _ => .inr ⟨⟨k0, by congr 2; omega⟩, hhn, rfl⟩) (by simp [em, hc]) h'
          · cases h'
        · cases h
      · cases h
    · cases h
  · cases h
end
end Go.Aev
end

section
set_option linter.unusedVariables false
open Go.Lib
namespace Go.Aev
variable {Ty : Type} {den : Ty → Type}
section
variable {E : Env Ty den} {B : Bs} {g : Gh} {s : St Ty den} {a : Act} {w : World}
variable {P : Program} {R : Type} {o : Oper} {k : Ent Ty den → St Ty den → Option R} {r : R} {next : Act → World → Prop} {Q : Exit → Act → World → Prop}
variable (hT : ∀ t, TbOk P E.U t (E.tb t)) (hU : E.U.Ok)

theorem parts1_inv (hr : Rel E.U B g s a w) (ty : TypeId) : ∀ (ps : List (Nat × Operand)) (i : Nat) (ls : List (Leaf Ty den)), parts1 E s ty i ps = some ls →
    ls.length = ps.length ∧ (ps.map fun (j, x) => (j, a.eval x)) = ((ps.map fun p => a.eval p.2).zipIdx i).map (fun x => (x.2, x.1)) ∧
      ∀ (j : Nat) (lf : Leaf Ty den), ls[j]? = some lf → ∃ v, (ps.map fun p => a.eval p.2)[j]? = some v ∧ CRep E.U w g.wm lf v
  | [], i, ls, h => by
    simp only [parts1, Option.some.injEq] at h
    subst h
    exact ⟨rfl, rfl, fun j lf hj => by simp at hj⟩
  | (j0, x) :: ps, i, ls, h => by
    simp only [parts1] at h
    obtain ⟨hc, h'⟩ := bif_some h
    have hj0 := (beq_iff i j0).1 hc
    subst hj0
    cases hp : parts1 E s ty (i + 1) ps with
    | none => rw [hp] at h'; cases h'
    | some ls' =>
      rw [hp] at h'
      simp only [Option.map_some, Option.some.injEq] at h'
      subst h'
      obtain ⟨h1, h2, h3⟩ := parts1_inv hr ty ps (i + 1) ls' hp
      refine ⟨by simp [h1], by simp [h2, List.zipIdx_cons], fun j lf hj => ?_⟩
      cases j with
      | zero =>
        simp at hj
        subst hj
        exact ⟨a.eval x, by simp, (opl_rep hr ty x).1.close⟩
      | succ j =>
        obtain ⟨v, hv, hrep⟩ := h3 j lf (by simpa using hj)
        exact ⟨v, by simpa using hv, hrep⟩

theorem decAll_inv {U : UO Ty den} (hU : U.Ok) (t : Ty) : ∀ (ls : List (Leaf Ty den)) (xs : List (den t)), decAll U t ls = some xs → xs.length = ls.length ∧ flat U t xs = ls
  | [], xs, h => by simp only [decAll, Option.some.injEq] at h; subst h; exact ⟨rfl, rfl⟩
  | l :: ls, xs, h => by
    simp only [decAll] at h
    split at h
    · rename_i x xs' hx hxs
      simp only [Option.some.injEq] at h
      subst h
      obtain ⟨h1, h2⟩ := decAll_inv hU t ls xs' hxs
      exact ⟨by simp [h1], by rw [flat_cons, hU.dec t [l] x hx, h2]; rfl⟩
    · cases h

theorem parts2_inv (hr : Rel E.U B g s a w) (u : Ty) : ∀ (ps : List (Nat × Operand)) (i : Nat) (xs : List (den u)), parts2 E u s i ps = some xs →
    xs.length = ps.length ∧ (ps.map fun (j, x) => (j, a.eval x)) = ((ps.map fun p => a.eval p.2).zipIdx i).map (fun x => (x.2, x.1)) ∧
      ∀ (j : Nat) (x : den u), xs[j]? = some x → ∃ v, (ps.map fun p => a.eval p.2)[j]? = some v ∧ CRep E.U w g.wm (.agg u x) v
  | [], i, xs, h => by
    simp only [parts2, Option.some.injEq] at h
    subst h
    exact ⟨rfl, rfl, fun j x hj => by simp at hj⟩
  | (j0, x0) :: ps, i, xs, h => by
    simp only [parts2] at h
    obtain ⟨hc, h'⟩ := bif_some h
    have hj0 := (beq_iff i j0).1 hc
    subst hj0
    split at h'
    · rename_i u' y hy
      split at h'
      · rename_i y' l hcy hpl
        simp only [Option.some.injEq] at h'
        subst h'
        obtain ⟨rfl, e2⟩ := cast1 hcy
        simp only at e2
        subst e2
        obtain ⟨h1, h2, h3⟩ := parts2_inv hr u' ps (i + 1) l hpl
        refine ⟨by simp [h1], by simp [h2, List.zipIdx_cons], fun j x hj => ?_⟩
        cases j with
        | zero =>
          simp at hj
          subst hj
          have := opl_rep hr 0 x0
          rw [hy] at this
          exact ⟨a.eval x0, by simp, this.1⟩
        | succ j =>
          obtain ⟨v, hv, hrep⟩ := h3 j x (by simpa using hj)
          exact ⟨v, by simpa using hv, hrep⟩
      · cases h'
    · cases h'
theorem flatMap_len {α β : Type} (f : α → List β) (c : Nat) : ∀ (l : List α), (∀ v ∈ l, (f v).length = c) → (l.flatMap f).length = l.length * c
  | [], _ => by simp
  | v :: l, h => by
    rw [List.flatMap_cons, List.length_append, h v List.mem_cons_self, flatMap_len f c l fun x hx => h x (List.mem_cons_of_mem _ hx), List.length_cons, Nat.succ_mul]; omega
theorem fill_congr {f f' : Nat → Option (Nat × Nat)} : ∀ (ps : List (Nat × Value)) (cells : Array Value), (∀ p ∈ ps, f p.1 = f' p.1) → Instr.fill f cells ps = Instr.fill f' cells ps
  | [], _, _ => rfl
  | (i, v) :: ps, cells, h => by
    have h0 : f i = f' i := h (i, v) List.mem_cons_self
    unfold Instr.fill
    rw [h0]
    cases f' i with
    | none => rfl
    | some q =>
      obtain ⟨off, size⟩ := q
      dsimp only
      split
      · rfl
      · exact fill_congr ps _ fun p hp => h p (List.mem_cons_of_mem _ hp)
include hT hU in
theorem op_build {t : TypeId} {ps : Array (Nat × Operand)} (hop : o.op = .build t ps) (h : evOp E o s k = some r) (hr : Rel E.U B g s a w) (hd : ∀ i, o.dst = some i → i < a.tmps.size) (hn : Next E B o a k r next) : o.wp P a w next Q := by
  simp only [evOp, hop] at h
  split at h
  · rename_i u ht
    split at h
    · rename_i ls hls
      split at h
      · rename_i x hx
        obtain ⟨hc, h'⟩ := bif_some h
        have hlen := (beq_iff _ _).1 hc
        obtain ⟨fs, ie, z, h1, h2, h3, h4, h5, h6⟩ := tb_struct hT ht
        obtain ⟨p1, p2, p3⟩ := parts1_inv hr 0 ps.toList 0 ls hls
        have hcells := hU.dec u ls x hx
        have hsolid : ∀ v ∈ (ps.toList.map fun p => a.eval p.2), v.cells = #[v] := by
          intro v hv
          obtain ⟨j, hj, hjv⟩ := List.getElem_of_mem hv
          have hj' : j < ls.length := by simpa [p1] using hj
          obtain ⟨v', hv', hrep⟩ := p3 j ls[j] (List.getElem?_eq_getElem hj')
          rw [List.getElem?_eq_getElem hj] at hv'
          rw [← hjv, Option.some.inj hv']
          exact (hrep.one (hU.solid u x _ (by rw [hcells]; exact List.getElem_mem hj'))).2
        have hbuilt : P.built t (ps.map fun (i, x) => (i, a.eval x)).toList = some (ps.toList.map fun p => a.eval p.2).toArray := by
          unfold Program.built
          rw [h3, h1]
          dsimp only
          rw [h5, h2]
          dsimp only
          rw [Array.toList_map, p2, fill_congr (f' := fun i => some (i * 1, 1)) _ _ fun p hp => ?_]
          · exact Great.fill_flat _ _ hsolid (by rw [h6, List.length_map]; omega)
          · obtain ⟨y, hy, rfl⟩ := List.mem_map.1 hp
            have := List.mem_zipIdx hy
            have hlt : y.2 < E.U.size u := by
              have h7 := this.2.1
              simp only [List.length_map, Nat.zero_add] at h7
              omega
            simp [hlt]
        refine wp_quiet (e := .one (.agg u x)) (v := .agg (ps.toList.map fun p => a.eval p.2).toArray) hr hd hn h' ⟨.agg u x _ (by rw [List.length_map]; omega) (fun j => ((ps.toList.map fun p => a.eval p.2)[j]?).getD undef) (fun j lf hj => ?_) (fun j lf hj => ?_), fun _ _ _ he => by cases he⟩ rfl ?_
        · rw [hcells] at hj
          obtain ⟨v, hv, _⟩ := p3 j lf hj
          rw [hv]; rfl
        · rw [hcells] at hj
          obtain ⟨v, hv, hrep⟩ := p3 j lf hj
          rw [hv]; exact hrep
        · simp [execOp, hop, run_build w t _ _ hbuilt]
      · cases h
    · cases h
  · cases h
include hT in
theorem op_fieldAddr {t : TypeId} {x : Operand} {i : Nat} (hop : o.op = .fieldAddr t x i) (h : evOp E o s k = some r) (hr : Rel E.U B g s a w) (hd : ∀ i, o.dst = some i → i < a.tmps.size) (hn : Next E B o a k r next) : o.wp P a w next Q := by
  simp only [evOp, hop] at h
  split at h
  · rename_i v u y off ht hx
    obtain ⟨hc, h'⟩ := bif_some h
    have hlt : i < E.U.size v := by simpa [Nat.blt_eq] using hc
    obtain ⟨fs, ie, z, h1, h2, _⟩ := tb_struct hT ht
    have hl := mapM_len h2
    simp only [List.length_map, List.length_range] at hl
    have hi : fs[i]? = some (fs[i]'(by simpa using (by omega : i < fs.toList.length))) := by simp
    obtain ⟨p, hp, hf⟩ := mapM_get h2 i _ (by rw [Array.getElem?_toList]; exact hi)
    rw [List.getElem?_map, List.getElem?_range hlt] at hp
    simp only [Option.map_some, Option.some.injEq] at hp
    subst hp
    cases hinf : P.info? (fs[i]'(by simpa using (by omega : i < fs.toList.length))).type with
    | none => rw [hinf] at hf; cases hf
    | some inf =>
      rw [hinf] at hf
      simp only [Option.map_some, Option.some.injEq, Prod.mk.injEq] at hf
      have hxr := opl_rep hr 0 x
      rw [hx] at hxr
      obtain ⟨hc2, _⟩ := hxr
      generalize hv : a.eval x = vv at hc2
      cases hc2 with
      | elem _ _ _ b o' cs hwm hcell hrep =>
        refine wp_quiet (e := .one (.elem u y (off + i))) (v := .pointer (some ⟨b, o' + (off + i), none⟩)) hr hd hn h' ⟨.elem u y (off + i) b o' cs hwm hcell hrep, fun _ _ _ he => by cases he⟩ rfl ?_
        have hadd : (Addr.mk b (o' + off) none).add i = ⟨b, o' + (off + i), none⟩ := by rw [Addr.add_lit, Nat.add_assoc]
        have hsz : (Go.sizeOf (fs[i]'(by simpa using (by omega : i < fs.toList.length))).type).run P w = .ok 1 w := by simp [Go.sizeOf, typeInfo, hinf, hf.2]
        simp [execOp, hop, hv, Instr.fieldAt, run_underlying h1, hi, Instr.sureAddr, fieldPlace, hsz, hf.1, hadd]
  · cases h
include hT hU in
theorem op_buildSlice {t : TypeId} {n : Nat} {ps : Array (Nat × Operand)} (hop : o.op = .buildSlice t n ps) (h : evOp E o s k = some r) (hr : Rel E.U B g s a w) (hd : ∀ i, o.dst = some i → i < a.tmps.size) (hn : Next E B o a k r next) : o.wp P a w next Q := by
  simp only [evOp, hop] at h
  split at h
  · rename_i u e ht
    split at h
    · rename_i u2 hte2
      split at h
      · rename_i xs hxs
        obtain ⟨hc, h'⟩ := bif_some h
        simp only [Bool.and_eq_true] at hc
        have hn1 := (beq_iff _ _).1 hc.1
        have hn2 : n * E.U.size u < 65536 := by simpa [Nat.blt_eq] using hc.2
        obtain ⟨hte, ie, z, hie, hsz, _, hz, hzs⟩ := tb_slice hT ht
        obtain ⟨h1, h2, h3⟩ := parts2_inv hr u ps.toList 0 xs hxs
        have hpos := hU.pos u
        have hlen : n = ps.toList.length := by omega
        have hvsz : ∀ v ∈ (ps.toList.map fun p => a.eval p.2), v.cells.size = E.U.size u := by
          intro v hv
          obtain ⟨j, hj, hjv⟩ := List.getElem_of_mem hv
          have hj' : j < xs.length := by simpa [h1] using hj
          obtain ⟨v', hv', hrep⟩ := h3 j xs[j] (List.getElem?_eq_getElem hj')
          rw [List.getElem?_eq_getElem hj] at hv'
          obtain ⟨vs, e1, e2, _⟩ := agg_inv hrep
          rw [← hjv, Option.some.inj hv', e1]
          simpa [Value.cells] using e2
        have hcell : ∀ (j : Nat) (lf : Leaf Ty den), (flat E.U u xs)[j]? = some lf → ∃ v : Value, ((ps.toList.map fun p => a.eval p.2).flatMap fun v => v.cells.toList)[j]? = some v ∧ CRep E.U w g.wm lf v := by
          intro j lf hj
          rw [Great.flat_get hpos _ hvsz]
          have hjl := getElem?_lt hj
          rw [flat_length hU] at hjl
          have hdiv : j / E.U.size u < xs.length := (Nat.div_lt_iff_lt_mul hpos).2 hjl
          have hmod := Nat.mod_lt j hpos
          have hsplit : j / E.U.size u * E.U.size u + j % E.U.size u = j := Nat.div_add_mod' j (E.U.size u)
          obtain ⟨v, hv, hrep⟩ := h3 (j / E.U.size u) _ (List.getElem?_eq_getElem hdiv)
          obtain ⟨vs, e1, e2, cs, e3, e4⟩ := agg_inv hrep
          have hlf : (E.U.cells u xs[j / E.U.size u])[j % E.U.size u]? = some lf := by
            rw [← flat_get hU u xs (j / E.U.size u) _ (j % E.U.size u) (List.getElem?_eq_getElem hdiv) hmod, hsplit]; exact hj
          refine ⟨cs (j % E.U.size u), ?_, e4 _ _ hlf⟩
          rw [hv, e1]
          simpa [Value.cells] using e3 _ _ hlf
        have hrun : (Instr.buildSlice t n (ps.map fun (j, x) => (j, a.eval x))).run P w = .ok (.slice (some ⟨w.heap.size, 0, none⟩) n n) (w.alloc (.cells ((ps.toList.map fun p => a.eval p.2).flatMap fun v => v.cells.toList).toArray e)) := by
          by_cases h0 : n = 0
          · subst h0
            have hps : ps = #[] := by
              apply Array.ext'
              simpa using (List.eq_nil_of_length_eq_zero hlen.symm)
            subst hps
            simp [Instr.buildSlice, run_underlying hte, Go.sizeOf, typeInfo, hie, Instr.fill, newRow, Array.range_zero']
          · have hnz : ¬ n * ie.size = 0 := by
              rw [hsz]
              have := Nat.mul_pos (Nat.pos_of_ne_zero h0) hpos
              omega
            refine run_buildSlice w t e n _ _ ie z hte hie hz (by rw [hsz]; omega) hnz ?_
            rw [Array.toList_map, h2, hsz]
            exact Great.fill_whole hpos _ _ hvsz (by simp [hlen])
        refine wp_value (v := .slice (some ⟨w.heap.size, 0, none⟩) n n) (w' := w.alloc (.cells ((ps.toList.map fun p => a.eval p.2).flatMap fun v => v.cells.toList).toArray e)) (by simp [execOp, hop, hrun]) (hn _ _ _ _ h' ?_)
        have hfl : ((ps.toList.map fun p => a.eval p.2).flatMap fun v => v.cells.toList).length = n * E.U.size u := by
          rw [flatMap_len _ _ _ fun v hv => by simpa using hvsz v hv, List.length_map, hlen]
        have := REL.newOwn (o := o) hU hr hd (nmOf o.dst) (t := u) (l := xs) (c := ((ps.toList.map fun p => a.eval p.2).flatMap fun v => v.cells.toList).toArray) (e := e) (fz := (0, 0)) (cap := n) (w.alloc (.cells ((ps.toList.map fun p => a.eval p.2).flatMap fun v => v.cells.toList).toArray e)) rfl rfl rfl rfl
          (by omega) (by simp only [List.size_toArray]; omega) (fun j _ => by simp) (fun j lf hj => by
            obtain ⟨v, hv, hrep⟩ := hcell j lf hj
            exact ⟨v, by simpa using hv, hrep⟩)
        rw [show xs.length = n from hn1] at this
        exact this (not_deep (deep_nmOf _))
      · cases h
    split at h
    · rename_i ls hls
      split at h
      · rename_i xs hxs
        obtain ⟨hc, h'⟩ := bif_some h
        simp only [Bool.and_eq_true] at hc
        obtain ⟨hc1, hc2, hc3⟩ := hc
        have hn1 := (beq_iff _ _).1 hc1
        have hs1 := (beq_iff _ _).1 hc2
        have hn2 : n < 65536 := by simpa [Nat.blt_eq] using hc3
        obtain ⟨hte, ie, z, hie, hsz, _, hz, hzs⟩ := tb_slice hT ht
        obtain ⟨h1, h2, h3⟩ := parts1_inv hr e ps.toList 0 ls hls
        obtain ⟨h4, h5⟩ := decAll_inv hU u ls xs hxs
        have hsolid : ∀ v ∈ (ps.toList.map fun p => a.eval p.2), v.cells = #[v] := by
          intro v hv
          obtain ⟨j, hj, hjv⟩ := List.getElem_of_mem hv
          have hj' : j < ls.length := by simpa [h1] using hj
          obtain ⟨v', hv', hrep⟩ := h3 j ls[j] (List.getElem?_eq_getElem hj')
          rw [List.getElem?_eq_getElem hj] at hv'
          rw [← hjv, Option.some.inj hv']
          exact (hrep.one (solid_flat hU (t := u) (l := xs) (j := j) (by rw [h5]; exact List.getElem?_eq_getElem hj'))).2
        have hlen : n = ps.toList.length := by omega
        have hrun : (Instr.buildSlice t n (ps.map fun (j, x) => (j, a.eval x))).run P w = .ok (.slice (some ⟨w.heap.size, 0, none⟩) n n) (w.alloc (.cells (ps.toList.map fun p => a.eval p.2).toArray e)) := by
          by_cases h0 : n = 0
          · subst h0
            have hps : ps = #[] := by
              apply Array.ext'
              simpa using (List.eq_nil_of_length_eq_zero hlen.symm)
            subst hps
            simp [Instr.buildSlice, run_underlying hte, Go.sizeOf, typeInfo, hie, Instr.fill, newRow, Array.range_zero']
          · refine run_buildSlice w t e n _ _ ie z hte hie hz (by rw [hsz, hs1]; omega) (by rw [hsz, hs1]; omega) ?_
            rw [Array.toList_map, h2, hsz, hs1]
            exact Great.fill_flat _ _ hsolid (by simp [hlen])
        refine wp_value (v := .slice (some ⟨w.heap.size, 0, none⟩) n n) (w' := w.alloc (.cells (ps.toList.map fun p => a.eval p.2).toArray e)) (by simp [execOp, hop, hrun]) (hn _ _ _ _ h' ?_)
        have := REL.newOwn (o := o) hU hr hd (nmOf o.dst) (t := u) (l := xs) (c := (ps.toList.map fun p => a.eval p.2).toArray) (e := e) (fz := (0, 0)) (cap := n) (w.alloc (.cells (ps.toList.map fun p => a.eval p.2).toArray e)) rfl rfl rfl rfl
          (by omega) (by rw [hs1]; simp [hlen]) (fun j _ => by simp) (fun j lf hj => by
            rw [h5] at hj
            obtain ⟨v, hv, hrep⟩ := h3 j lf hj
            exact ⟨v, by simpa using hv, hrep⟩)
        rw [show xs.length = n from hn1] at this
        exact this (not_deep (deep_nmOf _))
      · cases h
    · cases h
  · cases h

theorem room_inv {n b : Nat} (h : room n b = true) : n * b ≤ 140737488355328 := by simpa [room] using h

include hT hU in
theorem op_makeSlice {t : TypeId} {l c : Operand} (hop : o.op = .makeSlice t l c) (h : evOp E o s k = some r) (hr : Rel E.U B g s a w) (hd : ∀ i, o.dst = some i → i < a.tmps.size) (hn : Next E B o a k r next) : o.wp P a w next Q := by
  simp only [evOp, hop] at h
  split at h
  · rename_i u e kl kc m ht hl hc0
    obtain ⟨hc, h'⟩ := bif_some h
    simp only [Bool.and_eq_true, decide_eq_true_eq] at hc
    obtain ⟨hm0, hroom⟩ := hc
    have hroom := room_inv hroom
    obtain ⟨hte, ie, z, hie, hsz, hby, hz, hzs⟩ := tb_slice hT ht
    have el := opl_int hr hl
    have ec := opl_int hr hc0
    have hbp := hU.bpos u
    have hle : m.toNat ≤ m.toNat * E.U.bytes u := Nat.le_mul_of_pos_right _ hbp
    have hb2 : (ie.bytes : Int) * m ≤ 281474976710656 := by
      have e1 : (m.toNat : Int) = m := by omega
      have : ((ie.bytes * m.toNat : Nat) : Int) ≤ 281474976710656 := by rw [hby, Nat.mul_comm]; omega
      rw [Int.natCast_mul, e1] at this
      exact this
    have hrun := run_make w t e ie z hte hie hz kl kc 0 m (Int.le_refl _) hm0 hb2 (by omega)
    simp only [Int.toNat_zero] at hrun
    refine wp_value (v := .slice (some ⟨w.heap.size, 0, none⟩) 0 m.toNat) (w' := w.alloc (.cells (madeCells z.cells (m.toNat * ie.size)) e)) (by simp [execOp, hop, el, ec, hrun]) (hn _ _ _ _ h' ?_)
    exact REL.newOwn (o := o) hU hr hd (nmOf o.dst) (t := u) (l := []) (c := madeCells z.cells (m.toNat * ie.size)) (e := e) (fz := (0, 0)) (cap := m.toNat) (w.alloc (.cells (madeCells z.cells (m.toNat * ie.size)) e)) rfl rfl rfl rfl
      (Nat.zero_le _) (by rw [size_madeCells, hsz]; exact Nat.le_refl _) (fun j _ => by simp) (fun j lf hj => by simp [flat] at hj) (not_deep (deep_nmOf _))
  · cases h

include hT hU in
theorem op_range {t : TypeId} {x : Operand} (hop : o.op = .range t x) (h : evOp E o s k = some r) (hr : Rel E.U B g s a w) (hd : ∀ i, o.dst = some i → i < a.tmps.size) (hn : Next E B o a k r next) : o.wp P a w next Q := by
  simp only [evOp, hop] at h
  split at h
  · rename_i b ht hx
    have ex := opl_str hr hx
    have hte := tb_str hT ht
    have h1 := hr.alloc hU (.stringIter ⟨b.toArray⟩ 0) 0 (w.alloc (.stringIter ⟨b.toArray⟩ 0)) rfl rfl rfl rfl
    have hrun : (execOp a.eval o).run P w = .ok (.value (.pointer (some ⟨w.heap.size, 0, none⟩))) (w.alloc (.stringIter ⟨b.toArray⟩ 0)) := by
      simp [execOp, hop, ex, Instr.range, run_underlying hte]
    refine wp_value hrun (hn _ _ _ _ h ?_)
    have hnew : (w.alloc (.stringIter ⟨b.toArray⟩ 0)).heap[w.heap.size]? = some (.stringIter ⟨b.toArray⟩ 0) := heap_alloc_new w _
    cases hdst : o.dst with
    | none => exact ⟨_, by simpa [St.setO, Act.put] using h1⟩
    | some d =>
      have hdl := hd d hdst
      have hget := getD_put a d
      have hlt : ∀ i c p, s.get i = .iter c p → g.ib i < w.heap.size := by
        intro i c p hc
        have h2 := h1.ent i
        have h3 := hr.ent i
        rw [hc] at h3
        obtain ⟨b', hv, hb'⟩ := h3
        have h4 := (hr.iter i c p hc).1
        rw [hv] at h4
        cases h4
        exact (Array.getElem?_eq_some_iff.1 hb').1
      refine ⟨{ wm := markAt g.wm w.heap.size 0, G := g.G, Gs := g.Gs, ib := fun i => if i = d then w.heap.size else g.ib i }, ?_⟩
      refine { os := h1.os, tape := h1.tape, output := h1.output, size := h1.size, frame := h1.frame, ext := h1.ext, zero := h1.zero, ent := fun i => ?_, tip := h1.tip, disj := h1.disj, mine := h1.mine, deep := h1.deep, dsep := h1.dsep, ddis := h1.ddis, iter := fun i c pos hc => ?_, idis := fun i j c p c' p' hij hi hj => ?_, defers := by rw [defers_put]; exact h1.defers }
      · simp only [St.setO]
        rw [get_set, hget i _ hdl]
        by_cases hdi : d = i
        · rw [if_pos hdi, if_pos hdi]
          exact ⟨w.heap.size, rfl, hnew⟩
        · rw [if_neg hdi, if_neg hdi]
          exact ERep.same (w := w.alloc (.stringIter ⟨b.toArray⟩ 0)) (g := { wm := markAt g.wm w.heap.size 0, G := g.G, Gs := g.Gs, ib := g.ib }) (g' := { wm := markAt g.wm w.heap.size 0, G := g.G, Gs := g.Gs, ib := fun i => if i = d then w.heap.size else g.ib i }) hU ⟨fun _ _ _ => rfl, fun _ => Nat.le_refl _⟩ rfl rfl (h1.ent i) (fun _ _ _ _ _ => rfl)
      · simp only [St.setO] at hc
        rw [get_set] at hc
        rw [hget i _ hdl]
        by_cases hdi : d = i
        · rw [if_pos hdi]
          simp only [if_pos hdi.symm]
          exact ⟨trivial, hr.size⟩
        · rw [if_neg hdi] at hc ⊢
          simp only [if_neg (Ne.symm hdi)]
          exact h1.iter i c pos hc
      · simp only [St.setO] at hi hj
        rw [get_set] at hi hj
        by_cases hdi : d = i
        · have hdj : ¬ d = j := fun e => hij (hdi.symm.trans e)
          rw [if_neg hdj] at hj
          simp only [if_pos hdi.symm, if_neg (Ne.symm hdj)]
          have := hlt j _ _ hj
          omega
        · rw [if_neg hdi] at hi
          by_cases hdj : d = j
          · simp only [if_neg (Ne.symm hdi), if_pos hdj.symm]
            have := hlt i _ _ hi
            omega
          · rw [if_neg hdj] at hj
            simp only [if_neg (Ne.symm hdi), if_neg (Ne.symm hdj)]
            exact h1.idis i j _ _ _ _ hij hi hj
  · cases h

theorem op_next {x : Nat} (hop : o.op = .next (.tmp x) true) (h : evOp E o s k = some r) (hr : Rel E.U B g s a w) (hU : E.U.Ok) (hd : ∀ i, o.dst = some i → i < a.tmps.size) (hn : Next E B o a k r next) : o.wp P a w next Q := by
  simp only [evOp, hop] at h
  split at h
  · rename_i b pos hx
    have hent := hr.ent x
    rw [hx] at hent
    obtain ⟨bb, hv, hbb⟩ := hent
    have hib := (hr.iter x b pos hx).1
    have hib2 := (hr.iter x b pos hx).2
    rw [hv] at hib
    have hbe : bb = g.ib x := by simpa using hib
    have hxl : x < a.tmps.size := by
      rcases Nat.lt_or_ge x a.tmps.size with h1 | h1
      · exact h1
      · rw [Array.getD_eq_getD_getElem?, Array.getElem?_eq_none h1] at hv
        cases hv
    cases hc : decide (pos < b.length) with
    | false =>
      rw [hc] at h
      simp only [cond_false] at h
      have hlt : ¬ pos < (ByteArray.mk b.toArray).size := by rw [size_mk]; simpa using hc
      have hrun := run_next_end_at (P := P) w bb ⟨b.toArray⟩ pos o.type hbb hlt
      refine wp_quiet (e := .tup [.bool false]) hr hd hn h ⟨[.bool false], rfl, LRep.bool _, trivial⟩ rfl ?_
      simp [execOp, hop, Act.eval, hv, hrun]
    | true =>
      rw [hc] at h
      simp only [cond_true] at h
      have hlt : pos < (ByteArray.mk b.toArray).size := by rw [size_mk]; simpa using hc
      have hrun := run_next_any_at (P := P) w bb ⟨b.toArray⟩ pos o.type hbb hlt
      refine wp_value (v := .tuple #[.bool true, .int .i64 pos, .int .i32 (Utf8.decode ⟨b.toArray⟩ pos).1]) (w' := w.iterAt bb ⟨b.toArray⟩ (pos + (Utf8.decode ⟨b.toArray⟩ pos).2)) (by simp [execOp, hop, Act.eval, hv, hrun]) (hn _ _ _ _ h ?_)
      have hblt := (Array.getElem?_eq_some_iff.1 hbb).1
      have hoth : ∀ j, j ≠ bb → (w.iterAt bb ⟨b.toArray⟩ (pos + (Utf8.decode ⟨b.toArray⟩ pos).2)).heap[j]? = w.heap[j]? := fun j hj => iterAt_other w bb j _ _ hj
      have hsame := iterAt_heap w bb ⟨b.toArray⟩ pos (pos + (Utf8.decode ⟨b.toArray⟩ pos).2) hbb
      generalize hw' : w.iterAt bb ⟨b.toArray⟩ (pos + (Utf8.decode ⟨b.toArray⟩ pos).2) = w' at *
      have hsz : w'.heap.size = w.heap.size := by rw [← hw']; exact iterAt_size _ _ _ _
      have hcell : ∀ b' off, w'.cell? ⟨b', off, none⟩ = w.cell? ⟨b', off, none⟩ := by
        intro b' off
        by_cases hb' : b' = bb
        · subst hb'
          simp [World.cell?, hsame, hbb]
        · exact World.cell?_of_block (a := ⟨b', off, none⟩) (hoth b' hb')
      have hx1 : Ext w g.wm w' g.wm := ⟨fun b' off _ => hcell b' off, fun _ => Nat.le_refl _⟩
      have hnM : ∀ b', B.M = some b' → True := fun _ _ => trivial
      have hbB : B.w.heap.size ≤ bb := by rw [hbe]; exact hib2
      have hrow : ∀ v j, rowAt w' v j = rowAt w v j := fun v j => by
        unfold rowAt
        split
        · split
          · exact hcell _ _
          · rfl
        · rfl
      have hrb : ∀ v b, RowB w' v b ↔ RowB w v b := fun v b => by unfold RowB; simp only [hrow]
      have htip : ∀ v sz, Tip w g.wm v sz → Tip w' g.wm v sz := fun v sz ht => by
        obtain ⟨a0, len, cap, hv', hle, hcc⟩ := ht
        refine ⟨a0, len, cap, hv', hle, hcc.imp id ?_⟩
        rintro ⟨b', off, c, e, fz, ha, hb', rest⟩
        exact ⟨b', off, c, e, fz, ha, by rw [hoth b' (fun e' => by subst e'; rw [hbb] at hb'; cases hb')]; exact hb', rest⟩
      -- the relation with the iterator moved
      have h2 : Rel E.U B g (s.set x (.iter b (pos + (Utf8.decode ⟨b.toArray⟩ pos).2))) a w' := by
        refine { os := by rw [← hw']; exact hr.os, tape := by rw [← hw']; exact hr.tape, output := by rw [← hw']; exact hr.output, size := by rw [hsz]; exact hr.size, frame := fun b' hb' hM => ?_, ext := hr.ext.trans hx1, zero := fun b' hb' => hr.zero b' (by rw [hsz] at hb'; exact hb'), ent := fun i => ?_, tip := fun d hd' => ?_, disj := fun d e b' h3 h4 => hr.disj d e b' h3 h4, mine := fun d b' h3 => hr.mine d b' h3, deep := fun d h3 h4 => ⟨(hr.deep d h3 h4).one, fun j r hj => htip _ _ ((hr.deep d h3 h4).tip j r (by rw [← hrow]; exact hj)), fun b hb => (hr.deep d h3 h4).mine b ((hrb _ _).1 hb), fun j k r r' b hne hj hk => (hr.deep d h3 h4).dis j k r r' b hne (by rw [← hrow]; exact hj) (by rw [← hrow]; exact hk)⟩, dsep := fun d e b' h3 h4 h5 h6 => hr.dsep d e b' h3 h4 h5 ((hrb _ _).1 h6), ddis := fun d e b' h3 h4 h5 h6 h7 h8 h9 => hr.ddis d e b' h3 h4 h5 h6 h7 ((hrb _ _).1 h8) ((hrb _ _).1 h9), iter := fun i c p hc' => ?_, idis := fun i j c p c' p' hij hi hj => ?_, defers := hr.defers }
        · rw [hoth b' (by omega)]; exact hr.frame b' hb' hM
        · rw [get_set]
          by_cases hxi : x = i
          · subst hxi
            rw [if_pos rfl]
            exact ⟨bb, hv, hsame⟩
          · rw [if_neg hxi]
            refine ERep.same hU hx1 rfl rfl (hr.ent i) (fun c p hc' b' hb' => hoth b' ?_)
            have h3 := (hr.iter i c p hc').1
            rw [hb'] at h3
            have h4 : b' = g.ib i := by simpa using h3
            rw [h4, hbe]
            exact fun e => hr.idis i x c p b pos (fun e' => hxi e'.symm) hc' hx e
        · obtain ⟨a0, len, cap, hv', hle, hcc⟩ := hr.tip d hd'
          refine ⟨a0, len, cap, hv', hle, hcc.imp id ?_⟩
          rintro ⟨b', off, c, e, fz, ha, hb', rest⟩
          exact ⟨b', off, c, e, fz, ha, by rw [hoth b' (fun e' => by subst e'; rw [hbb] at hb'; cases hb')]; exact hb', rest⟩
        · rw [get_set] at hc'
          by_cases hxi : x = i
          · subst hxi; exact ⟨by rw [hv, hbe], hib2⟩
          · rw [if_neg hxi] at hc'; exact hr.iter i c p hc'
        · rw [get_set] at hi hj
          by_cases hxi : x = i
          · rw [if_neg (fun e => hij (hxi.symm.trans e))] at hj
            subst hxi
            exact hr.idis _ j _ _ _ _ hij hx hj
          · rw [if_neg hxi] at hi
            by_cases hxj : x = j
            · subst hxj; exact hr.idis i _ _ _ _ _ hij hi hx
            · rw [if_neg hxj] at hj; exact hr.idis i j _ _ _ _ hij hi hj
      exact REL.setO h2 (e := .tup [.bool true, .int .i64 (pos : Int), .int .i32 ((Utf8.decode ⟨b.toArray⟩ pos).1 : Int)]) ⟨[.bool true, .int .i64 pos, .int .i32 (Utf8.decode ⟨b.toArray⟩ pos).1], rfl, LRep.bool _, LRep.int _ _, LRep.int _ _, trivial⟩ rfl _ hd
  · cases h
end
end Go.Aev
end

section
set_option linter.unusedVariables false
open Go.Lib
namespace Go.Aev
variable {Ty : Type} {den : Ty → Type}

theorem foldl_push (ns : List Int) : ∀ (r : ByteArray), ns.foldl (fun r n => r.push (UInt8.ofNat n.toNat)) r = ⟨(r.data.toList ++ ns.map fun n => UInt8.ofNat n.toNat).toArray⟩ := by
  induction ns with
  | nil => intro r; cases r; simp
  | cons n ns ih =>
    intro r
    rw [List.foldl_cons, ih]
    cases r
    simp [ByteArray.push]

theorem runesFrom_ints (s : ByteArray) : ∀ (bound i : Nat) (acc : Array Value), (∀ v ∈ acc.toList, ∃ n : Int, v = .int .i32 n) → ∀ v ∈ (Conv.runesFrom s bound i acc).toList, ∃ n : Int, v = .int .i32 n
  | 0, i, acc, h => by simpa [Conv.runesFrom] using h
  | bound + 1, i, acc, h => by
    simp only [Conv.runesFrom]
    split
    · exact runesFrom_ints s bound _ _ (fun v hv => by
        simp at hv
        rcases hv with hv | hv
        · exact h v (by simpa using hv)
        · exact ⟨_, hv⟩)
    · exact h

def intsOf (l : List Value) : List Int := l.map fun | .int _ n => n | _ => 0

theorem ints_back (l : List Value) (h : ∀ v ∈ l, ∃ n : Int, v = .int .i32 n) : (intsOf l).map (Value.int .i32) = l := by
  induction l with
  | nil => rfl
  | cons v l ih =>
    obtain ⟨n, rfl⟩ := h v (by simp)
    simp only [intsOf, List.map_cons, List.cons.injEq, true_and]
    exact ih fun u hu => h u (by simp [hu])

section
variable {E : Env Ty den} {B : Bs} {g : Gh} {s : St Ty den} {a : Act} {w : World}
variable {P : Program} {R : Type} {o : Oper} {k : Ent Ty den → St Ty den → Option R} {r : R} {next : Act → World → Prop} {Q : Exit → Act → World → Prop}
variable (hT : ∀ t, TbOk P E.U t (E.tb t)) (hU : E.U.Ok)

theorem tb_some {t : TypeId} {k : TK Ty} (h : TbOk P E.U t k) (hk : k ≠ .other) : (P.underlying t).isSome = true := by
  cases k with
  | int k => rw [show P.underlying t = some (.int k) from h]; rfl
  | str => rw [show P.underlying t = some .string from h]; rfl
  | bool => rw [show P.underlying t = some .bool from h]; rfl
  | struct u => obtain ⟨fs, i, z, h1, _⟩ := h; rw [h1]; rfl
  | slice u e => rw [h.1]; rfl
  | other => exact absurd rfl hk

/-- The cells of a slice of bytes. -/
theorem bytes_cells (hU : E.U.Ok) {t : Ty} {l : List (den t)} {own : Option Nat} {v : Value} {wm : Nat → Nat} {f : List (den t) → List UInt8} (hf : E.U.toBytes t = some f) (h : CRep E.U w wm (.sl t l own) v) :
    (Conv.bytesToString v).run P w = .ok (.string ⟨(f l).toArray⟩) w := by
  obtain ⟨ns, hns, hfl⟩ := hU.toBytes t f hf l
  rcases h.sl_cells hU with ⟨rfl, a0, cap, rfl⟩ | ⟨b, off, cap, cs, rfl, hcap, hwm, hc, hcr⟩
  · have hn0 : ns = [] := by
      have := congrArg List.length hns
      simp [flat] at this
      exact List.eq_nil_of_length_eq_zero this.symm
    subst hn0
    simp at hfl
    rw [hfl]
    cases a0 with
    | none => simp [Conv.bytesToString]; rfl
    | some a0 => 
      rw [run_bytesToString w a0 0 cap [] (by simp [loadCells, loadCellsFrom])]
      rfl
  · have hlen : ns.length = l.length * E.U.size t := by rw [← flat_length hU, hns]; simp
    have hsz := hU.toBytes1 t f hf
    rw [hsz, Nat.mul_one] at hlen
    have hload : (loadCells ⟨b, off, none⟩ l.length).run P w = .ok (ns.map (Value.int .u8)).toArray w := by
      have := run_loadCells_list (P := P) w ⟨b, off, none⟩ (ns.map (Value.int .u8)) (fun j v hv => by
        rw [List.getElem?_map] at hv
        cases hn : ns[j]? with
        | none => rw [hn] at hv; cases hv
        | some n =>
          rw [hn] at hv
          simp at hv
          subst hv
          have hfj : (flat E.U t l)[j]? = some (.int .u8 n) := by rw [hns]; simp [hn]
          have h1 := hc j _ hfj
          have h2 := hcr j _ hfj
          rw [h2.int_inv] at h1
          rw [Addr.add_lit]; exact h1)
      simpa [hlen] using this
    rw [run_bytesToString w ⟨b, off, none⟩ l.length cap ns hload, foldl_push, hfl]
    simp

theorem foldl_encode (ns : List Int) : ∀ (r : ByteArray), ns.foldl (fun r n => r ++ Utf8.encode n) r = ⟨(r.data.toList ++ runesB ns).toArray⟩ := by
  induction ns with
  | nil => intro r; cases r; simp [runesB]
  | cons n ns ih =>
    intro r
    rw [List.foldl_cons, ih]
    simp [runesB, ByteArray.data_append]
/-- The cells of a slice of runes. -/
theorem runes_cells (hU : E.U.Ok) {t : Ty} {l : List (den t)} {own : Option Nat} {v : Value} {wm : Nat → Nat} {f : List (den t) → List Int} (hf : E.U.toRunes t = some f) (h : CRep E.U w wm (.sl t l own) v) :
    (Conv.runesToString v).run P w = .ok (.string ⟨(runesB (f l)).toArray⟩) w := by
  have hns := hU.toRunes t f hf l
  have hsz := hU.toRunes1 t f hf
  have hlen : (f l).length = l.length := by
    have := congrArg List.length hns
    rw [flat_length hU, hsz, List.length_map, Nat.mul_one] at this
    exact this.symm
  rcases h.sl_cells hU with ⟨rfl, a0, cap, rfl⟩ | ⟨b, off, cap, cs, rfl, hcap, hwm, hc, hcr⟩
  · have hn0 : f [] = [] := List.eq_nil_of_length_eq_zero hlen
    rw [hn0]
    cases a0 with
    | none => simp [Conv.runesToString, runesB]; rfl
    | some a0 =>
      rw [run_runesToString w a0 0 cap [] (by simp [loadCells, loadCellsFrom])]
      rfl
  · have hload : (loadCells ⟨b, off, none⟩ l.length).run P w = .ok ((f l).map (Value.int .i32)).toArray w := by
      have := run_loadCells_list (P := P) w ⟨b, off, none⟩ ((f l).map (Value.int .i32)) (fun j v hv => by
        rw [List.getElem?_map] at hv
        cases hn : (f l)[j]? with
        | none => rw [hn] at hv; cases hv
        | some n =>
          rw [hn] at hv
          simp at hv
          subst hv
          have hfj : (flat E.U t l)[j]? = some (.int .i32 n) := by rw [hns]; simp [hn]
          have h1 := hc j _ hfj
          have h2 := hcr j _ hfj
          rw [h2.int_inv] at h1
          rw [Addr.add_lit]; exact h1)
      simpa [hlen] using this
    rw [run_runesToString w ⟨b, off, none⟩ l.length cap (f l) hload]
    unfold runesBytes
    rw [foldl_encode]
    rfl

theorem mark_run (P : Program) (w : World) (c : Array Value) (e : TypeId) (b : Nat) (w1 : World) (hw : w1.heap = w.heap.push (.cells c e (0, 0))) (hb : b = w.heap.size) :
    ∃ w2, (markStringish ⟨b, 0, none⟩).run P w1 = .ok () w2 ∧ w2.heap = w.heap.push (.cells c e (c.size, c.size + 1)) ∧ w2.os = w1.os ∧ w2.tape = w1.tape ∧ w2.output = w1.output := by
  subst hb
  have hnew : w1.heap[w.heap.size]? = some (.cells c e (0, 0)) := by rw [hw]; simp
  refine ⟨w1.freeze ⟨w.heap.size, c.size, none⟩ 1, by simp [markStringish, World.shape?, hnew], ?_, ?_, ?_, ?_⟩
  · simp only [World.freeze, Nat.one_ne_zero, if_false]
    rw [hw]
    apply Array.ext_getElem?
    intro i
    rw [Array.getElem?_modify]
    by_cases hi : w.heap.size = i
    · subst hi; simp
    · simp only [if_neg hi]
      rw [Array.getElem?_push, Array.getElem?_push]
      rw [if_neg (Ne.symm hi), if_neg (Ne.symm hi)]
  · simp [World.freeze]
  · simp [World.freeze]
  · simp [World.freeze]

include hT hU in
theorem op_convert {src dst : TypeId} {x : Operand} (hop : o.op = .convert src dst x) (h : evOp E o s k = some r) (hr : Rel E.U B g s a w) (hd : ∀ i, o.dst = some i → i < a.tmps.size) (hn : Next E B o a k r next) : o.wp P a w next Q := by
  simp only [evOp, hop] at h
  split at h
  · rename_i k1 k0 k2 n hs hdst hx
    have ex := opl_int hr hx
    exact wp_quiet (e := .one (.int k0 (k0.wrap n))) hr hd hn h (LRep.int _ _) rfl (by simp [execOp, hop, ex, convert, run_underlying (tb_int hT hs), run_underlying (tb_int hT hdst), Conv.intToInt])
  · rename_i t e u l own hs hdst hx
    split at h
    · rename_i l' f he hcast hf
      obtain ⟨hte, _⟩ := tb_slice hT hs
      have hxr := opl_rep hr src x
      rw [hx] at hxr
      have hrep := (castL_rep hcast hxr.1).1
      have hb := bytes_cells (P := P) hU hf hrep
      refine wp_quiet (e := .one (.str (f l'))) hr hd hn h (LRep.str _) rfl ?_
      obtain ⟨a0, cap, hv⟩ := hrep.sl_inv
      rw [hv] at hb
      simp [execOp, hop, hv, convert, run_underlying hte, run_underlying (tb_str hT hdst), run_underlying (tb_int hT he), hb]
    · rename_i l' f he hcast hf
      obtain ⟨hte, _⟩ := tb_slice hT hs
      have hxr := opl_rep hr src x
      rw [hx] at hxr
      have hrep := (castL_rep hcast hxr.1).1
      have hb := runes_cells (P := P) hU hf hrep
      refine wp_quiet (e := .one (.str (runesB (f l')))) hr hd hn h (LRep.str _) rfl ?_
      obtain ⟨a0, cap, hv⟩ := hrep.sl_inv
      rw [hv] at hb
      simp [execOp, hop, hv, convert, run_underlying hte, run_underlying (tb_str hT hdst), run_underlying (tb_int hT he), hb]
    · cases h
  · rename_i t e b hs hdst hx
    have ex := opl_str hr hx
    obtain ⟨hte, ie, z, hie, hsz, _, _, _⟩ := tb_slice hT hdst
    split at h
    · rename_i f he hf
      obtain ⟨hc, h'⟩ := bif_some h
      obtain ⟨hfl, hff⟩ := hU.ofBytes t f hf b
      have hs1 : E.U.size t = 1 := hU.ofBytes1 t f hf
      obtain ⟨w2, hm, hw2, ho2, ht2, hu2⟩ := mark_run P w ((b.toArray.map fun c => Value.int .u8 (c.toNat : Int)) ++ Array.replicate ((Question.appendCap b.length 0 e).cut (w.tape w.drawn (.appendCap b.length 0 e)) - b.length) (.int .u8 0)) e w.heap.size
        (w.drew.alloc (.cells ((b.toArray.map fun c => Value.int .u8 (c.toNat : Int)) ++ Array.replicate ((Question.appendCap b.length 0 e).cut (w.tape w.drawn (.appendCap b.length 0 e)) - b.length) (.int .u8 0)) e)) rfl rfl
      have hcap : b.length ≤ (Question.appendCap b.length 0 e).cut (w.tape w.drawn (.appendCap b.length 0 e)) := by simp [Question.cut]
      refine wp_value (v := .slice (some ⟨w.heap.size, 0, none⟩) b.length ((Question.appendCap b.length 0 e).cut (w.tape w.drawn (.appendCap b.length 0 e)))) (w' := w2) ?_ (hn _ _ _ _ h' ?_)
      · simp [execOp, hop, ex, convert, run_underlying (tb_str hT hs), run_underlying hte, run_underlying (tb_int hT he), Conv.stringToBytes, size_mk, Question.forced, newRow] at hm ⊢
        rw [hm]
        rfl
      · have := REL.newOwn (o := o) hU hr hd (nmOf o.dst) (t := t) (l := f b) (cap := (Question.appendCap b.length 0 e).cut (w.tape w.drawn (.appendCap b.length 0 e))) w2 hw2 ho2 ht2 hu2 (by rw [hfl]; exact hcap)
          (by rw [hs1]; simp; omega) (fun j hj => by
            rw [hs1] at hj
            simp
            omega) (fun j lf hj => by
            rw [hff, List.getElem?_map] at hj
            cases hbj : b[j]? with
            | none => rw [hbj] at hj; cases hj
            | some c =>
              rw [hbj] at hj
              simp at hj
              subst hj
              have hlt := getElem?_lt hbj
              refine ⟨.int .u8 (c.toNat : Int), ?_, .int _ _⟩
              rw [Array.getElem?_append_left (by simpa using hlt)]
              simp [hbj])
        rw [hfl] at this
        exact this (not_deep (deep_nmOf _))
    · rename_i f he hf
      obtain ⟨hc, h'⟩ := bif_some h
      have hints := ints_back _ (runesFrom_ints ⟨b.toArray⟩ b.length 0 #[] (fun v hv => by simp at hv))
      obtain ⟨hfl, hff⟩ := hU.ofRunes t f hf (intsOf (Conv.runesFrom ⟨b.toArray⟩ b.length 0 #[]).toList)
      have hs1 : E.U.size t = 1 := hU.ofRunes1 t f hf
      have hflen : (f (intsOf (Conv.runesFrom ⟨b.toArray⟩ b.length 0 #[]).toList)).length = (Conv.runesFrom ⟨b.toArray⟩ b.length 0 #[]).size := by rw [hfl]; simp [intsOf]
      generalize hX : Conv.runesFrom ⟨b.toArray⟩ b.length 0 #[] = X at *
      have hcap : X.size ≤ (Question.appendCap X.size 0 e).cut (w.tape w.drawn (.appendCap X.size 0 e)) := by simp [Question.cut]
      refine wp_value (v := .slice (some ⟨w.heap.size, 0, none⟩) X.size ((Question.appendCap X.size 0 e).cut (w.tape w.drawn (.appendCap X.size 0 e))))
        (w' := w.drew.alloc (.cells (X ++ Array.replicate ((Question.appendCap X.size 0 e).cut (w.tape w.drawn (.appendCap X.size 0 e)) - X.size) (.int .i32 0)) e)) ?_ (hn _ _ _ _ h' ?_)
      · simp [execOp, hop, ex, convert, run_underlying (tb_str hT hs), run_underlying hte, run_underlying (tb_int hT he), Conv.stringToRunes, size_mk, hX, Question.forced, newRow]
      · have := REL.newOwn (o := o) hU hr hd (nmOf o.dst) (t := t) (l := f (intsOf X.toList)) (c := X ++ Array.replicate ((Question.appendCap X.size 0 e).cut (w.tape w.drawn (.appendCap X.size 0 e)) - X.size) (.int .i32 0)) (e := e) (fz := (0, 0)) (cap := (Question.appendCap X.size 0 e).cut (w.tape w.drawn (.appendCap X.size 0 e)))
          (w.drew.alloc (.cells (X ++ Array.replicate ((Question.appendCap X.size 0 e).cut (w.tape w.drawn (.appendCap X.size 0 e)) - X.size) (.int .i32 0)) e)) rfl rfl rfl rfl (by rw [hflen]; exact hcap)
          (by rw [hs1]; simp; omega) (fun j _ => by simp) (fun j lf hj => by
            rw [hff, List.getElem?_map] at hj
            cases hbj : (intsOf X.toList)[j]? with
            | none => rw [hbj] at hj; cases hj
            | some c =>
              rw [hbj] at hj
              simp at hj
              subst hj
              refine ⟨.int .i32 c, ?_, .int _ _⟩
              have h1 : X.toList[j]? = some (.int .i32 c) := by rw [← hints]; simp [hbj]
              have hlt := getElem?_lt h1
              rw [Array.getElem?_append_left (by simpa using hlt)]
              simpa using h1)
        rw [hflen] at this
        exact this (not_deep (deep_nmOf _))
    · cases h
  · cases h
end
end Go.Aev
end
