/- Proved here: lemmas of an evaluator over the model's code that the claim's text uses (S9 S10 S11 S12). Conditions: those that each lemma states. -/
import Derived.Test.YtljnggaaohddnaaFevB
section
set_option linter.unusedVariables false
open Go.Lib
namespace Go.Aev
variable {Ty : Type} {den : Ty → Type}
section
variable {E : Env Ty den} {B : Bs} {g : Gh} {s : St Ty den} {a : Act} {w : World}
variable {P : Program} {R : Type} {o : Oper} {k : Ent Ty den → St Ty den → Option R} {r : R} {next : Act → World → Prop} {Q : Exit → Act → World → Prop}
variable (hT : ∀ t, TbOk P E.U t (E.tb t)) (hU : E.U.Ok)

/-- What an appended operand gives: its elements and their cells. -/
structure Src (P : Program) (U : UO Ty den) (t : Ty) (w : World) (wm : Nat → Nat) (y : Value) (m : List (den t)) (news : List Value) : Prop where
  len : (Builtin.lenOf y).run P w = .ok m.length w
  first : ∀ w' : World, w'.heap = w.heap → (Builtin.firstCells (U.size t) m.length y).run P w' = .ok news.toArray w'
  nlen : news.length = m.length * U.size t
  rep : ∀ (j : Nat) (lf : Leaf Ty den), (flat U t m)[j]? = some lf → ∃ v, news[j]? = some v ∧ CRep U w wm lf v
  one : ∀ v ∈ news, v.oneCell' = true
  cell : ∀ (b off len cap j : Nat) (u : Value), y = .slice (some ⟨b, off, none⟩) len cap → news[j]? = some u → w.cell? ⟨b, off + j, none⟩ = some u

theorem cells_list (hU : E.U.Ok) {t : Ty} {l : List (den t)} {b off : Nat} {wm : Nat → Nat} {cs : Nat → Value} (hc : ∀ j lf, (flat E.U t l)[j]? = some lf → w.cell? ⟨b, off + j, none⟩ = some (cs j))
    (hcr : ∀ j lf, (flat E.U t l)[j]? = some lf → CRep E.U w wm lf (cs j)) (a0 : Addr) (ha : a0 = ⟨b, off, none⟩) (n c : Nat) (hn : n = l.length) :
    (∀ w' : World, w'.heap = w.heap → (Builtin.firstCells (E.U.size t) n (.slice (some a0) n c)).run P w' = .ok ((List.range (l.length * E.U.size t)).map cs).toArray w') ∧
    (∀ (j : Nat) (lf : Leaf Ty den), (flat E.U t l)[j]? = some lf → ∃ v, ((List.range (l.length * E.U.size t)).map cs)[j]? = some v ∧ CRep E.U w wm lf v) ∧
    (∀ v ∈ (List.range (l.length * E.U.size t)).map cs, v.oneCell' = true) ∧
    (∀ (j : Nat) (u : Value), ((List.range (l.length * E.U.size t)).map cs)[j]? = some u → w.cell? ⟨b, off + j, none⟩ = some u) := by
  subst ha hn
  have hfl := flat_length hU t l
  have hget : ∀ j, j < l.length * E.U.size t → ∃ lf, (flat E.U t l)[j]? = some lf := fun j hj => ⟨_, List.getElem?_eq_getElem (by omega)⟩
  refine ⟨fun w' hw' => ?_, fun j lf hj => ?_, fun v hv => ?_, fun j u hu => ?_⟩
  · refine run_firstCells_some w' (E.U.size t) l.length ⟨b, off, none⟩ l.length c _ (by simp) (fun j v hv => ?_)
    rw [List.getElem?_map] at hv
    have hjl : j < l.length * E.U.size t := by
      rcases Nat.lt_or_ge j (l.length * E.U.size t) with h | h
      · exact h
      · rw [List.getElem?_eq_none (by simpa using h)] at hv; cases hv
    rw [List.getElem?_range hjl] at hv
    simp at hv
    subst hv
    obtain ⟨lf, hlf⟩ := hget j hjl
    rw [Addr.add_lit]
    have := hc j lf hlf
    rw [← this]
    exact World.cell?_of_block (a := ⟨b, off + j, none⟩) (by rw [hw'])
  · have hjl := getElem?_lt hj
    exact ⟨cs j, by rw [List.getElem?_map, List.getElem?_range (by omega)]; rfl, hcr j lf hj⟩
  · obtain ⟨j, hj, rfl⟩ := List.mem_map.1 hv
    have hjl : j < l.length * E.U.size t := by simpa using hj
    obtain ⟨lf, hlf⟩ := hget j hjl
    exact ((hcr j lf hlf).one (solid_flat hU hlf)).1
  · rw [List.getElem?_map] at hu
    have hjl : j < l.length * E.U.size t := by
      rcases Nat.lt_or_ge j (l.length * E.U.size t) with h | h
      · exact h
      · rw [List.getElem?_eq_none (by simpa using h)] at hu; cases hu
    rw [List.getElem?_range hjl] at hu
    simp at hu
    subst hu
    obtain ⟨lf, hlf⟩ := hget j hjl
    exact hc j lf hlf

theorem src_slice (hU : E.U.Ok) {t : Ty} {l : List (den t)} {own : Option Nat} {v : Value} {wm : Nat → Nat} (h : CRep E.U w wm (.sl t l own) v) : ∃ news, Src P E.U t w wm v l news := by
  rcases h.sl_cells hU with ⟨rfl, a0, cap, rfl⟩ | ⟨b, off, cap, cs, rfl, hcap, hwm, hc, hcr⟩
  · refine ⟨[], by simp [Builtin.lenOf], fun w' _ => ?_, by simp, fun j lf hj => by simp [flat] at hj, fun v hv => by simp at hv, fun b off len cap j u _ hj => by simp at hj⟩
    cases a0 <;> simp [Builtin.firstCells, loadCells, loadCellsFrom]
  · obtain ⟨h1, h2, h3, h4⟩ := cells_list (P := P) (w := w) hU hc hcr ⟨b, off, none⟩ rfl l.length cap rfl
    exact ⟨_, by simp [Builtin.lenOf], h1, by simp, h2, h3, fun b' off' len' cap' j u he hj => by
      simp only [Value.slice.injEq, Option.some.injEq, Addr.mk.injEq] at he
      obtain ⟨⟨rfl, rfl, _⟩, _⟩ := he
      exact h4 j u hj⟩

theorem src_str (hU : E.U.Ok) {t : Ty} {b : List UInt8} {f : List UInt8 → List (den t)} {wm : Nat → Nat} (hf : E.U.ofBytes t = some f) : ∃ news, Src P E.U t w wm (.string ⟨b.toArray⟩) (f b) news := by
  obtain ⟨h1, h2⟩ := hU.ofBytes t f hf b
  have hs := hU.ofBytes1 t f hf
  refine ⟨b.map fun c => Value.int .u8 (c.toNat : Int), by simp [Builtin.lenOf, size_mk, h1], fun w' _ => ?_, by simp [h1, hs], fun j lf hj => ?_, fun v hv => ?_, fun _ _ _ _ _ _ he => by cases he⟩
  · simp only [Builtin.firstCells, Sem.run_pure]
    congr 1
    rw [h1]
    have : (ByteArray.mk b.toArray).extract 0 b.length = ⟨b.toArray⟩ := by rw [ByteArray.extract_mk]; simp
    rw [this]
    simp [List.map_toArray]
  · rw [h2, List.getElem?_map] at hj
    cases hbj : b[j]? with
    | none => rw [hbj] at hj; cases hj
    | some c =>
      rw [hbj] at hj
      simp at hj
      subst hj
      exact ⟨.int .u8 (c.toNat : Int), by simp [hbj], .int _ _⟩
  · obtain ⟨c, _, rfl⟩ := List.mem_map.1 hv
    rfl

/-- Rows that may go behind a deep name's. -/
structure NewRows (B : Bs) (g : Gh) (s : St Ty den) (w : World) (d : Nat) (news : List Value) : Prop where
  tip : ∀ (j : Nat) r, news[j]? = some r → Tip w g.wm r 1
  mine : ∀ (j : Nat) r b, news[j]? = some r → spare r = some b → B.w.heap.size ≤ b ∨ B.M = some b
  dis : ∀ (j k : Nat) r r' b, j ≠ k → news[j]? = some r → news[k]? = some r' → spare r = some b → spare r' ≠ some b
  live : ∀ (j : Nat) r b e, news[j]? = some r → spare r = some b → mem e s.live = true → spare (g.G e) ≠ some b
  rows : ∀ (j : Nat) r b e, news[j]? = some r → spare r = some b → mem e s.live = true → deepN e = true → ¬ RowB w (g.G e) b

theorem deep_rows (hr : Rel E.U B g s a w) {d : Nat} (hdl : mem d s.live = true) (hdd : deepN d = true) {olds news : List Value} (nr : NewRows B g s w d news) (hold : ∀ (j : Nat) r, olds[j]? = some r → rowAt w (g.G d) j = some r)
    {w' : World} {wm' : Nat → Nat} {v' : Value} (hkeep : ∀ r, Tip w g.wm r 1 → (∀ b, spare r = some b → spare (g.G d) ≠ some b) → Tip w' wm' r 1) (hat : ∀ (j : Nat) r, rowAt w' v' j = some r → (olds ++ news)[j]? = some r) :
    Deep B w' wm' v' 1 ∧ (∀ b, RowB w' v' b → b < w.heap.size ∧ spare (g.G d) ≠ some b) ∧ (∀ e b, mem e s.live = true → e ≠ d → RowB w' v' b → spare (g.G e) ≠ some b) ∧
      (∀ e b, mem e s.live = true → e ≠ d → deepN e = true → RowB w' v' b → ¬ RowB w (g.G e) b) := by
  have hd := hr.deep d hdl hdd
  have parts : ∀ (j : Nat) r, (olds ++ news)[j]? = some r → (j < olds.length ∧ rowAt w (g.G d) j = some r) ∨ (olds.length ≤ j ∧ news[j - olds.length]? = some r) := fun j r hj => by
    by_cases h : j < olds.length
    · rw [List.getElem?_append_left h] at hj; exact .inl ⟨h, hold j r hj⟩
    · rw [List.getElem?_append_right (by omega)] at hj; exact .inr ⟨by omega, hj⟩
  have rb : ∀ b, RowB w' v' b → RowB w (g.G d) b ∨ ∃ j r, news[j]? = some r ∧ spare r = some b := fun b ⟨j, r, hj, hs⟩ => by
    rcases parts j r (hat j r hj) with ⟨_, h⟩ | ⟨_, h⟩
    · exact .inl ⟨j, r, h, hs⟩
    · exact .inr ⟨_, r, h, hs⟩
  refine ⟨⟨rfl, fun j r hj => ?_, fun b hb => ?_, fun j k r r' b hne hj hk hs hs' => ?_⟩, fun b hb => ?_, fun e b he hne hb => ?_, fun e b he hne hep hb => ?_⟩
  · rcases parts j r (hat j r hj) with ⟨_, h⟩ | ⟨_, h⟩
    · exact hkeep r (hd.tip j r h) fun b hs => hr.dsep d d b hdl hdd hdl ⟨j, r, h, hs⟩
    · exact hkeep r (nr.tip _ r h) fun b hs => nr.live _ r b d h hs hdl
  · rcases rb b hb with h | ⟨j, r, h, hs⟩
    · exact hd.mine b h
    · exact nr.mine j r b h hs
  · rcases parts j r (hat j r hj) with ⟨h0, h⟩ | ⟨h0, h⟩
    · rcases parts k r' (hat k r' hk) with ⟨h1, h'⟩ | ⟨h1, h'⟩
      · exact hd.dis j k r r' b hne h h' hs hs'
      · exact nr.rows _ r' b d h' hs' hdl hdd ⟨j, r, h, hs⟩
    · rcases parts k r' (hat k r' hk) with ⟨h1, h'⟩ | ⟨h1, h'⟩
      · exact nr.rows _ r b d h hs hdl hdd ⟨k, r', h', hs'⟩
      · exact nr.dis _ _ r r' b (by omega) h h' hs hs'
  · rcases rb b hb with h | ⟨j, r, h, hs⟩
    · exact ⟨hr.row_lt hdl hdd h, hr.dsep d d b hdl hdd hdl h⟩
    · exact ⟨tip_lt (nr.tip j r h) hs, nr.live j r b d h hs hdl⟩
  · rcases rb b hb with h | ⟨j, r, h, hs⟩
    · exact hr.dsep d e b hdl hdd he h
    · exact nr.live j r b e h hs he
  · rcases rb b hb with h | ⟨j, r, h, hs⟩
    · exact hr.ddis d e b hdl hdd he hep (Ne.symm hne) h
    · exact nr.rows j r b e h hs he hep

/-- THE APPEND. -/
theorem append_step (hU : E.U.Ok) {t u ty e : TypeId} {t' : Ty} (ht : P.underlying t = some (.slice e)) (hu : notInt P u) {i : TypeInfo} {z : Value} (hi : P.info? e = some i) (hsz : i.size = E.U.size t') (hby : i.bytes = E.U.bytes t') (hz : i.zero = some z) (hzs : z.cells.size = E.U.size t')
    (hr : Rel E.U B g s a w) (hd : ∀ i, o.dst = some i → i < a.tmps.size) {d : Nat} (hdl : mem d s.live = true) {l m : List (den t')} {v y : Value} {news : List Value} (hv : LRep E.U w g (.sl t' l (some d)) v) (hy : Src P E.U t' w g.wm y m news)
    (hroom : (l.length + m.length) * E.U.bytes t' ≤ 140737488355328)
    (hnew : deepN d = true → NewRows B g s w d news) :
    ∃ v' w', (Builtin.append_ #[t, u] ty #[v, y]).run P w = .ok v' w' ∧ REL E.U B ((s.fresh d).setO o.dst (.one (.sl t' (l ++ m) (some d)))) (a.put o.dst v') w' := by
  obtain ⟨hvd, hgs⟩ := hv.2 t' l d rfl
  have hbp := hU.bpos t'
  have hsmall : l.length + m.length ≤ 140737488355328 := Nat.le_trans (Nat.le_mul_of_pos_right _ hbp) hroom
  obtain ⟨a0, len, cap, hGv, hle, htip⟩ := hr.tip d hdl
  rw [← hvd] at hGv
  have hlen : len = l.length := by
    obtain ⟨a1, c1, h1⟩ := hv.1.sl_inv
    rw [h1] at hGv
    simp at hGv
    omega
  subst hlen
  -- the old cells
  obtain ⟨olds, holds⟩ := src_slice (P := P) hU hv.1
  have hfold : ∀ w' : World, w'.heap = w.heap → (Builtin.firstCells i.size l.length (.slice a0 l.length cap)).run P w' = .ok olds.toArray w' := fun w' hw' => by
    rw [hsz, ← hGv]; exact holds.first w' hw'
  have hfnew : ∀ w' : World, w'.heap = w.heap → (Builtin.firstCells i.size m.length y).run P w' = .ok news.toArray w' := fun w' hw' => by
    rw [hsz]; exact hy.first w' hw'
  have hrepAll : ∀ (j : Nat) (lf : Leaf Ty den), (flat E.U t' (l ++ m))[j]? = some lf → ∃ v, (olds ++ news)[j]? = some v ∧ CRep E.U w g.wm lf v := fun j lf hj => by
    rw [flat_append] at hj
    have hfl := flat_length hU t' l
    by_cases hjl : j < l.length * E.U.size t'
    · rw [List.getElem?_append_left (by omega)] at hj
      obtain ⟨v, hv1, hv2⟩ := holds.rep j lf hj
      exact ⟨v, by rw [List.getElem?_append_left (by rw [holds.nlen]; exact hjl)]; exact hv1, hv2⟩
    · rw [List.getElem?_append_right (by omega), hfl] at hj
      obtain ⟨v, hv1, hv2⟩ := hy.rep _ lf hj
      exact ⟨v, by rw [List.getElem?_append_right (by rw [holds.nlen]; omega), holds.nlen]; exact hv1, hv2⟩
  have holdrow : E.U.size t' = 1 → ∀ (j : Nat) r, olds[j]? = some r → rowAt w (g.G d) j = some r := fun h1 j r hj => by
    have hjl := getElem?_lt hj
    rw [holds.nlen, h1, Nat.mul_one] at hjl
    obtain ⟨b, off, c, e', fz, ha, _⟩ := htip.resolve_left (by omega)
    have hcell := holds.cell b off l.length cap j r (by rw [hGv, ha]) hj
    rw [← hvd, hGv, ha]
    simp only [rowAt, if_pos hjl]
    exact hcell
  by_cases hgrow : cap < l.length + m.length
  · -- a new array
    have hrun := append_grow_run (P := P) w t u ty e i z ht hu hi hz a0 l.length cap olds hfold y m.length news hy.len hfnew hgrow (by omega) (by rw [hby]; exact hroom)
    rw [← hGv] at hrun
    refine ⟨_, _, hrun, ?_⟩
    have hcap : l.length + m.length ≤ grownCap w (l.length + m.length) cap e := grownCap_ge _ _ _ _
    have := REL.newOwn (o := o) hU hr hd d (t := t') (l := l ++ m) (c := olds.toArray ++ news.toArray ++ Builtin.zeroCells z.cells (grownCap w (l.length + m.length) cap e - (l.length + m.length))) (e := e) (fz := (0, 0)) (cap := grownCap w (l.length + m.length) cap e)
      (w.drew.alloc (.cells (olds.toArray ++ news.toArray ++ Builtin.zeroCells z.cells (grownCap w (l.length + m.length) cap e - (l.length + m.length))) e)) rfl rfl rfl rfl (by simpa using hcap)
      (by
        simp only [Array.size_append, List.size_toArray, size_zeroCells, hzs, holds.nlen, hy.nlen, ← Nat.add_mul]
        exact Nat.mul_le_mul_right _ (by omega)) (fun j _ => by simp) (fun j lf hj => by
        obtain ⟨v, hv1, hv2⟩ := hrepAll j lf hj
        have hlt := getElem?_lt hv1
        refine ⟨v, ?_, hv2⟩
        rw [Array.getElem?_append_left (by simpa using hlt)]
        simpa using hv1)
    simp only [List.length_append] at this
    refine this fun hdd => ?_
    have h1 : E.U.size t' = 1 := by rw [hgs]; exact (hr.deep d hdl hdd).one
    have hol : olds.length = l.length := by rw [holds.nlen, h1]; omega
    have hnl : news.length = m.length := by rw [hy.nlen, h1]; omega
    have hx : Ext w g.wm (w.drew.alloc (.cells (olds.toArray ++ news.toArray ++ Builtin.zeroCells z.cells (grownCap w (l.length + m.length) cap e - (l.length + m.length))) e)) (markAt g.wm w.heap.size ((l.length + m.length) * E.U.size t')) := ext_alloc hr _ _ rfl
    obtain ⟨k1, k2, k3, k4⟩ := deep_rows (w' := w.drew.alloc (.cells (olds.toArray ++ news.toArray ++ Builtin.zeroCells z.cells (grownCap w (l.length + m.length) cap e - (l.length + m.length))) e)) (wm' := markAt g.wm w.heap.size ((l.length + m.length) * E.U.size t')) (v' := .slice (some ⟨w.heap.size, 0, none⟩) (l.length + m.length) (grownCap w (l.length + m.length) cap e)) hr hdl hdd (hnew hdd) (holdrow h1)
      (fun r hr1 _ => tip_keep (M := none) hr1 (fun _ _ e => by cases e) fun b hb _ => ⟨by
        show (w.heap.push _)[b]? = _
        rw [Array.getElem?_push, if_neg (by omega)], by simp only [markAt]; rw [if_neg (by omega)]⟩)
      (fun j r hj => by
        simp only [rowAt] at hj
        split at hj
        · rename_i hjl
          have hnewb : (w.drew.alloc (.cells (olds.toArray ++ news.toArray ++ Builtin.zeroCells z.cells (grownCap w (l.length + m.length) cap e - (l.length + m.length))) e)).heap[w.heap.size]? = some (.cells (olds.toArray ++ news.toArray ++ Builtin.zeroCells z.cells (grownCap w (l.length + m.length) cap e - (l.length + m.length))) e) := by
            show (w.heap.push _)[w.heap.size]? = _
            simp
          simp only [World.cell?, hnewb, Nat.zero_add, Option.isSome_none, Bool.false_eq_true, if_false] at hj
          rw [Array.getElem?_append_left (by simp; omega)] at hj
          simpa using hj
        · cases hj)
    rw [h1] at k1 ⊢
    rw [Nat.mul_one] at k1 ⊢
    exact ⟨k1, fun b hb => (k2 b hb).1, k3, k4⟩
  · -- within the room
    have hle2 : l.length + m.length ≤ cap := by omega
    by_cases hlc : l.length = cap
    · -- nothing is appended
      have hm0 : m = [] := List.eq_nil_of_length_eq_zero (by omega)
      subst hm0
      have hnn : news = [] := List.eq_nil_of_length_eq_zero (by simpa using hy.nlen)
      subst hnn
      have hrun := append_room_run (P := P) w t u ty e i ht hu hi a0 l.length cap y 0 [] (by simpa using hy.len) (by simpa using hfnew w rfl) w (fun a1 _ => by simp [storeCells]) (fun _ => rfl) (by simpa using hle2)
      rw [← hGv] at hrun
      simp only [Nat.add_zero] at hrun
      rw [← hGv] at hrun
      refine ⟨v, w, hrun, ?_⟩
      have h2 := hr.fresh hU d v (E.U.size t') (by have := hr.tip d hdl; rw [← hvd, ← hgs] at this; exact this) (fun e' b he hne hs => by
        rw [hvd] at hs; exact hr.disj d e' b hdl he (Ne.symm hne) hs) (fun b hs => by rw [hvd] at hs; exact hr.mine d b hdl hs)
        (fun e' b he hne hep hrow hs => by rw [hvd] at hs; exact hr.dsep e' d b he hep hdl hrow hs)
        (fun hdd => by
          rw [hvd, hgs]
          exact ⟨hr.deep d hdl hdd, fun b hb => hr.dsep d d b hdl hdd hdl hb, fun e' b he hne hb => hr.dsep d e' b hdl hdd he hb, fun e' b he hne hep hb => hr.ddis d e' b hdl hdd he hep (Ne.symm hne) hb⟩)
      refine REL.setO h2 (e := .one (.sl t' (l ++ []) (some d))) ?_ rfl o.dst hd
      rw [List.append_nil]
      refine ⟨hv.1, fun t1 l1 d1 he => ?_⟩
      simp only [Leaf.sl.injEq, Option.some.injEq] at he
      obtain ⟨rfl, _, rfl⟩ := he
      simp [Gh.put]
    · have hc0 : ¬ cap = 0 := by omega
      obtain ⟨b, off, c, e', fz, ha, hb, hcs, hwm, hfz⟩ := htip.resolve_left hc0
      subst ha
      rw [← hgs] at hcs hwm hfz
      have hspare : spare (g.G d) = some b := by rw [← hvd, hGv]; simp [spare, hc0]
      have hmul : (l.length + m.length) * E.U.size t' ≤ cap * E.U.size t' := Nat.mul_le_mul_right _ hle2
      rw [Nat.add_mul] at hmul
      have hst := setCells_spec P b e' fz news (off + l.length * E.U.size t') w c hb (by rw [hy.nlen]; omega) (fun j h1 h2 => hfz j (by rw [hy.nlen] at h2; omega)) hy.one
      obtain ⟨s1, ⟨c', s2, s3, s4, s5⟩, s6, s7, s8, s9, s10⟩ := hst
      have hrun := append_room_run (P := P) w t u ty e i ht hu hi (some ⟨b, off, none⟩) l.length cap y m.length news hy.len (hfnew w rfl) (setCells w b (off + l.length * E.U.size t') news)
        (fun a1 ha1 => by
          have : a1 = ⟨b, off, none⟩ := (Option.some.inj ha1).symm
          subst this
          rw [Addr.add_lit, hsz]
          exact s1 _ 0 (by simp) (Nat.zero_le _)) (fun h0 => by cases h0) hle2
      rw [← hGv] at hrun
      refine ⟨_, _, hrun, ?_⟩
      generalize hw' : setCells w b (off + l.length * E.U.size t') news = w' at *
      have hcell : ∀ b' o', o' < g.wm b' → w'.cell? ⟨b', o', none⟩ = w.cell? ⟨b', o', none⟩ := fun b' o' ho' => by
        by_cases hbb : b' = b
        · subst hbb
          simp only [World.cell?, s2, hb]
          simp only [Option.isSome_none, Bool.false_eq_true, if_false]
          exact s4 o' (.inl (by rw [hwm] at ho'; exact ho'))
        · exact World.cell?_of_block (a := ⟨b', o', none⟩) (s7 b' hbb)
      -- the marks go on
      have hx : Ext w g.wm w' (markAt g.wm b (off + (l.length + m.length) * E.U.size t')) := by
        refine ⟨hcell, fun b' => ?_⟩
        unfold markAt
        by_cases hbb : b' = b
        · subst hbb; rw [if_pos rfl, hwm]; rw [Nat.add_mul]; omega
        · rw [if_neg hbb]; exact Nat.le_refl _
      have hk := hr.kill hU d
      have hblt := (Array.getElem?_eq_some_iff.1 hb).1
      have h1 := hk.world hU (w' := w') (wm' := markAt g.wm b (off + (l.length + m.length) * E.U.size t')) s8 s9 s10 (by rw [s6]; exact Nat.le_refl _) hx (some b) (fun b' hb' => by cases hb'; exact ⟨c, e', fz, hb⟩)
        (fun e1 b' he1 hs1 hb' => by
          cases hb'
          have he2 := (mem_rem d e1 s.live).1 he1
          exact hr.disj d e1 b hdl he2.1 (Ne.symm he2.2) hspare hs1)
        (fun b' hb' => by cases hb'; exact hr.mine d b hdl hspare)
        (fun e1 b' he1 hep hrow hb' => by
          cases hb'
          have he2 := (mem_rem d e1 s.live).1 he1
          exact hr.dsep e1 d b he2.1 hep hdl hrow hspare)
        (fun b' hb' hne => ⟨s7 b' (fun e1 => hne (by rw [e1])), by simp only [markAt]; rw [if_neg (fun e1 => hne (by rw [e1]))]⟩)
        (fun b' hb' => by
          rw [s6] at hb'
          simp only [markAt]
          rw [if_neg (by omega)]
          exact hr.zero b' hb')
      have hmark : markAt g.wm b (off + (l.length + m.length) * E.U.size t') b = off + (l.length + m.length) * E.U.size t' := by simp [markAt]
      have h2 := h1.fresh hU d (.slice (some ⟨b, off, none⟩) (l.length + m.length) cap) (E.U.size t')
        ⟨_, _, _, rfl, hle2, .inr ⟨b, off, c', e', fz, rfl, s2, by rw [s3]; exact hcs, hmark, hfz⟩⟩
        (fun e1 b' he1 hne hs1 hs2 => by
          have hb' : b' = b := by
            simp only [spare] at hs1
            split at hs1
            · cases hs1
            · exact (Option.some.inj hs1).symm
          subst hb'
          have he2 := (mem_rem d e1 s.live).1 he1
          exact hr.disj d e1 b' hdl he2.1 (Ne.symm hne) hspare hs2)
        (fun b' hs1 => by
          have hb' : b' = b := by
            simp only [spare] at hs1
            split at hs1
            · cases hs1
            · exact (Option.some.inj hs1).symm
          subst hb'
          exact hr.mine d b' hdl hspare)
        (fun e1 b' he1 hne hep hrow hs1 => by
          have hb' : b' = b := by
            simp only [spare] at hs1
            split at hs1
            · cases hs1
            · exact (Option.some.inj hs1).symm
          subst hb'
          have he2 := (mem_rem d e1 s.live).1 he1
          exact hr.dsep e1 d b' he2.1 hep hdl ((hr.row_ext hx he2.1 hep).1 hrow) hspare)
        (fun hdd => by
          have h1' : E.U.size t' = 1 := by rw [hgs]; exact (hr.deep d hdl hdd).one
          have hol : olds.length = l.length := by rw [holds.nlen, h1']; omega
          have hnl : news.length = m.length := by rw [hy.nlen, h1']; omega
          obtain ⟨k1, k2, k3, k4⟩ := deep_rows (w' := w') (wm' := markAt g.wm b (off + (l.length + m.length) * E.U.size t')) (v' := .slice (some ⟨b, off, none⟩) (l.length + m.length) cap) hr hdl hdd (hnew hdd) (holdrow h1')
            (fun r hr1 hr2 => tip_keep (M := some b) hr1 (fun b1 hb1 e1 => hr2 b1 hb1 (by rw [← e1]; exact hspare)) fun b1 hb1 hne => ⟨s7 b1 (fun e1 => hne (by rw [e1])), by simp only [markAt]; rw [if_neg (fun e1 => hne (by rw [e1]))]⟩)
            (fun j r hj => by
              simp only [rowAt] at hj
              split at hj
              · rename_i hjl
                simp only [World.cell?, s2, Option.isSome_none, Bool.false_eq_true, if_false] at hj
                by_cases hjo : j < l.length
                · rw [s4 (off + j) (.inl (by rw [h1']; omega))] at hj
                  have hjo' : j < olds.length := by omega
                  have hcell := holds.cell b off l.length cap j olds[j] hGv (List.getElem?_eq_getElem hjo')
                  simp only [World.cell?, hb, Option.isSome_none, Bool.false_eq_true, if_false] at hcell
                  rw [hcell] at hj
                  rw [List.getElem?_append_left hjo', List.getElem?_eq_getElem hjo']
                  exact hj
                · have hjn : j - l.length < news.length := by omega
                  have h5 := s5 (j - l.length) news[j - l.length] (List.getElem?_eq_getElem hjn)
                  rw [h1', show off + l.length * 1 + (j - l.length) = off + j by omega] at h5
                  rw [h5] at hj
                  rw [List.getElem?_append_right (by omega), hol, List.getElem?_eq_getElem hjn]
                  exact hj
              · cases hj)
          rw [h1'] at k1 ⊢
          refine ⟨k1, fun b1 hb1 hs1 => ?_, fun e1 b1 he1 hne hb1 => ?_, fun e1 b1 he1 hne hep hb1 hb2 => ?_⟩
          · simp only [spare, if_neg hc0] at hs1
            exact (k2 b1 hb1).2 (by rw [← hs1]; exact hspare)
          · exact k3 e1 b1 ((mem_rem d e1 s.live).1 he1).1 hne hb1
          · have he2 := (mem_rem d e1 s.live).1 he1
            exact k4 e1 b1 he2.1 hne hep hb1 ((hr.row_ext hx he2.1 hep).1 hb2))
      have hfin : Rel E.U B (({ g with wm := markAt g.wm b (off + (l.length + m.length) * E.U.size t') } : Gh).put d (.slice (some ⟨b, off, none⟩) (l.length + m.length) cap) (E.U.size t')) (s.fresh d) a w' := by
        refine h2.weaken (fun i => .inr ?_) (fun e1 he1 => ?_)
        · rw [get_fresh, get_fresh, get_kill]
          cases hgi : s.get i with
          | one lf =>
            simp only [Ent.strip]
            congr 1
            rcases lf.strip_cases d with h3 | ⟨t1, l1, rfl, h3⟩
            · rw [h3, h3]
            · rw [h3]; rfl
          | tup ls =>
            simp only [Ent.strip, List.map_map]
            congr 1
            apply List.map_congr_left
            intro lf _
            simp only [Function.comp]
            rcases lf.strip_cases d with h3 | ⟨t1, l1, rfl, h3⟩
            · rw [h3, h3]
            · rw [h3]; rfl
          | iter c p => rfl
        · simp only [St.fresh, St.kill] at he1 ⊢
          rw [mem_cons, mem_rem] at he1 ⊢
          rcases he1 with h3 | ⟨h3, h4⟩
          · exact .inl h3
          · exact .inr ⟨(mem_rem d e1 _).2 ⟨h3, h4⟩, h4⟩
      refine REL.setO hfin (e := .one (.sl t' (l ++ m) (some d))) ⟨?_, fun t1 l1 d1 he => ?_⟩ rfl o.dst hd
      · have hx2 := hx
        have := CRep.sl (U := E.U) (w := w') (wm := markAt g.wm b (off + (l.length + m.length) * E.U.size t')) t' (l ++ m) (some d) b off cap (fun j => (olds ++ news).getD j undef) (by simpa using hle2) (by rw [hmark]; simp)
          (fun j lf hj => by
            obtain ⟨v1, hv1, hv2⟩ := hrepAll j lf hj
            have hlt := getElem?_lt hv1
            have hval : (olds ++ news).getD j undef = v1 := by simp [List.getD, hv1]
            rw [hval]
            by_cases hjl : j < l.length * E.U.size t'
            · rw [hx.cell b (off + j) (by rw [hwm]; omega)]
              rw [List.getElem?_append_left (by rw [holds.nlen]; exact hjl)] at hv1
              -- the old cells stand in the old world
              rcases hv.1.sl_cells hU with ⟨hnil, _⟩ | ⟨b2, off2, cap2, cs2, hv3, _, _, hc2, hr2⟩
              · rw [hnil] at hjl; simp at hjl
              · have hsame := hGv.symm.trans hv3
                simp only [Value.slice.injEq, Option.some.injEq, Addr.mk.injEq] at hsame
                obtain ⟨⟨rfl, rfl, _⟩, _, rfl⟩ := hsame
                rw [flat_append, List.getElem?_append_left (by rw [flat_length hU]; exact hjl)] at hj
                have h5 := hc2 j lf hj
                have h6 := holds.first w rfl
                rw [hGv] at h6
                obtain ⟨k1, k2, _⟩ := cells_list (P := P) (w := w) hU hc2 hr2 ⟨b, off, none⟩ rfl l.length cap rfl
                have h7 := k1 w rfl
                rw [h7] at h6
                have h8 : ((List.range (l.length * E.U.size t')).map cs2) = olds := by
                  have := congrArg (fun r => match r with | Result.ok (x : Array Value) _ => x.toList | _ => []) h6
                  simpa using this
                rw [← h8, List.getElem?_map, List.getElem?_range hjl] at hv1
                simp at hv1
                rw [h5, hv1]
            · rw [List.getElem?_append_right (by rw [holds.nlen]; omega), holds.nlen] at hv1
              have h3 := s5 _ v1 hv1
              simp only [World.cell?, s2]
              simp only [Option.isSome_none, Bool.false_eq_true, if_false]
              rw [← h3]; congr 1; omega)
          (fun j lf hj => by
            obtain ⟨v1, hv1, hv2⟩ := hrepAll j lf hj
            have hval : (olds ++ news).getD j undef = v1 := by simp [List.getD, hv1]
            rw [hval]; exact hv2.mono hU hx)
        have this' : CRep E.U w' (markAt g.wm b (off + (l.length + m.length) * E.U.size t')) (.sl t' (l ++ m) (some d)) (.slice (some ⟨b, off, none⟩) (l.length + m.length) cap) := by simpa using this
        exact this'
      · simp only [Leaf.sl.injEq, Option.some.injEq] at he
        obtain ⟨rfl, _, rfl⟩ := he
        simp [Gh.put]
end
end Go.Aev
end

section
set_option linter.unusedVariables false
open Go.Lib
namespace Go.Aev
variable {Ty : Type} {den : Ty → Type}
section
variable {E : Env Ty den} {B : Bs} {g : Gh} {s : St Ty den} {a : Act} {w : World}
variable {P : Program} {R : Type} {o : Oper} {k : Ent Ty den → St Ty den → Option R} {r : R} {next : Act → World → Prop} {Q : Exit → Act → World → Prop}
variable (hT : ∀ t, TbOk P E.U t (E.tb t)) (hU : E.U.Ok)

theorem arr_of_list {α : Type} {A : Array α} {l : List α} (h : A.toList = l) : A = l.toArray := by rw [← h]

include hT hU in
theorem op_append {c : Call} {t u : TypeId} {x y : Operand} (hop : o.op = .call c) (hcal : c.callee = .builtin .append) (hty : c.argTypes = #[t, u]) (hargs : c.args = #[x, y]) (h : evAppend E t u x y o.dst s k = some r)
    (hr : Rel E.U B g s a w) (hd : ∀ i, o.dst = some i → i < a.tmps.size) (hn : Next E B o a k r next) : o.wp P a w next Q := by
  have hrun : ∀ {v' : Value} {w' : World}, (Builtin.append_ #[t, u] o.type #[a.eval x, a.eval y]).run P w = .ok v' w' → (execOp a.eval o).run P w = .ok (.value v') w' := fun h1 => by
    simp [execOp, hop, resolve, hcal, hty, hargs, invoke, builtin, h1]
  unfold evAppend at h
  split at h
  · rename_i t' e t0 l0 d s1 ht hx
    obtain ⟨hte, i, z, hi, hsz, hby, hz, hzs⟩ := tb_slice hT ht
    split at h
    · rename_i l hcast
      obtain ⟨hdl0, h'⟩ := bif_some h
      rw [Bool.and_eq_true, Bool.not_eq_true'] at hdl0
      obtain ⟨hdl, hnd⟩ := hdl0
      -- the slice that is appended to
      obtain ⟨g1, hr1, hv, hwm1⟩ : ∃ g1, Rel E.U B g1 s1 a w ∧ LRep E.U w g1 (.sl t' l (some d)) (a.eval x) ∧ g1.wm = g.wm := by
        cases hnil : isNil x with
        | true =>
          rw [hnil, ht] at hx
          simp only [cond_true, Prod.mk.injEq, Leaf.sl.injEq, Option.some.injEq] at hx
          obtain ⟨⟨h1, h2, h3⟩, h4⟩ := hx
          subst h1
          have h2' := eq_of_heq h2
          subst h2' h3 h4
          obtain ⟨e0, he0⟩ := castL_inv hcast
          have : l = [] := by rw [← he0]
          subst this
          have hxv : a.eval x = .slice none 0 0 := by
            unfold isNil at hnil
            split at hnil
            · rfl
            · cases hnil
          refine ⟨g.put (nmOf o.dst) (.slice none 0 0) (E.U.size t'), hr.fresh hU _ _ _ ⟨_, _, _, rfl, Nat.le_refl _, .inl rfl⟩ (fun _ _ _ _ hs => by simp [spare] at hs) (fun _ hs => by simp [spare] at hs) (fun _ _ _ _ _ _ hs => by simp [spare] at hs) (not_deep (deep_nmOf _)), ?_⟩
          rw [hxv]
          refine ⟨⟨.nil _ _ _ _, fun t1 l1 d1 he => ?_⟩, rfl⟩
          simp only [Leaf.sl.injEq, Option.some.injEq] at he
          obtain ⟨rfl, _, rfl⟩ := he
          simp [Gh.put]
        | false =>
          rw [hnil] at hx
          simp only [cond_false, Prod.mk.injEq] at hx
          obtain ⟨h1, rfl⟩ := hx
          have hxr := opl_rep hr t x
          rw [h1] at hxr
          obtain ⟨e0, he0⟩ := castL_inv hcast
          subst e0; subst he0
          exact ⟨g, hr, hxr, rfl⟩
      have hyrep : ∀ {lf : Leaf Ty den}, opl E s u y = lf → CRep E.U w g1.wm lf (a.eval y) := by
        intro lf he
        have h1 := (opl_rep hr u y).1
        rw [he] at h1
        rw [hwm1]
        exact h1
      split at h'
      · rename_i v0 e0 v m0 own hu hy
        split at h'
        · rename_i m hm
          obtain ⟨hroom, h''⟩ := bif_some h'
          have hrep := (castL_rep hm (hyrep hy)).1
          obtain ⟨news, hsrc⟩ := src_slice (P := P) hU hrep
          obtain ⟨v', w', hrn, hrel⟩ := append_step (ty := o.type) hU hte (.inl ⟨_, (tb_slice hT hu).1⟩) hi hsz hby hz hzs hr1 hd hdl hv hsrc (room_inv hroom) (not_deep hnd)
          exact wp_value (hrun hrn) (hn _ _ _ _ h'' hrel)
        · cases h'
      · rename_i b hu hy
        split at h'
        · rename_i f hf
          obtain ⟨hroom, h''⟩ := bif_some h'
          have ey := (hyrep hy).str_inv
          obtain ⟨news, hsrc⟩ := src_str (P := P) (w := w) (b := b) (wm := g1.wm) hU hf
          have hfl := (hU.ofBytes _ f hf b).1
          rw [← ey] at hsrc
          obtain ⟨v', w', hrn, hrel⟩ := append_step (ty := o.type) hU hte (.inr (tb_str hT hu)) hi hsz hby hz hzs hr1 hd hdl hv hsrc (by rw [hfl]; exact room_inv hroom) (not_deep hnd)
          exact wp_value (hrun hrn) (hn _ _ _ _ h'' hrel)
        · cases h'
      · cases h'
    · cases h
  · cases h

include hT hU in
theorem op_builtin {c : Call} {b : Builtin} (hop : o.op = .call c) (hcal : c.callee = .builtin b) (h : evBuiltin E b c.argTypes.toList c.args.toList o.dst s k = some r)
    (hr : Rel E.U B g s a w) (hd : ∀ i, o.dst = some i → i < a.tmps.size) (hn : Next E B o a k r next) : o.wp P a w next Q := by
  unfold evBuiltin at h
  split at h
  · rename_i t x hty hargs
    have hty := arr_of_list hty
    have hargs := arr_of_list hargs
    split at h
    · rename_i t' e l own ht hx
      obtain ⟨hte, _⟩ := tb_slice hT ht
      have hxr := opl_rep hr t x
      rw [show opl E s t x = _ from hx] at hxr
      obtain ⟨a0, cap, hv⟩ := hxr.1.sl_inv
      exact wp_quiet (e := .one (.int .i64 l.length)) hr hd hn h (LRep.int _ _) rfl (by simp [execOp, hop, resolve, hcal, hty, hargs, invoke, builtin, hv, Builtin.len_, run_underlying hte, goInt])
    · rename_i c0 ht hx
      have ex := opl_str hr hx
      exact wp_quiet (e := .one (.int .i64 c0.length)) hr hd hn h (LRep.int _ _) rfl (by simp [execOp, hop, resolve, hcal, hty, hargs, invoke, builtin, ex, Builtin.len_, run_underlying (tb_str hT ht), goInt, size_mk])
    · cases h
  · rename_i x y hargs
    have hargs := arr_of_list hargs
    split at h
    · rename_i k0 va k1 vb hx hy
      exact wp_quiet (e := .one (.int k0 (if vb < va then vb else va))) hr hd hn h (LRep.int _ _) rfl (by simp [execOp, hop, resolve, hcal, hargs, invoke, builtin, opl_int hr hx, opl_int hr hy, run_min_int2])
    · cases h
  · rename_i x y hargs
    have hargs := arr_of_list hargs
    split at h
    · rename_i k0 va k1 vb hx hy
      exact wp_quiet (e := .one (.int k0 (if vb > va then vb else va))) hr hd hn h (LRep.int _ _) rfl (by simp [execOp, hop, resolve, hcal, hargs, invoke, builtin, opl_int hr hx, opl_int hr hy, run_max_int2])
    · cases h
  · rename_i t u x y hty hargs
    exact op_append hT hU hop hcal (arr_of_list hty) (arr_of_list hargs) h hr hd hn
  · cases h
end
end Go.Aev
end

section
set_option linter.unusedVariables false
open Go.Lib
namespace Go.Aev
variable {Ty : Type} {den : Ty → Type}

theorem Leaf.has_iff (d : Nat) (lf : Leaf Ty den) : lf.has d = true ↔ ∃ t l, lf = .sl t l (some d) := by
  cases lf with
  | sl t l o =>
    cases o with
    | none => simp [Leaf.has]
    | some e => simp [Leaf.has, beq_iff]
  | _ => simp [Leaf.has]

structure Post (U : UO Ty den) (B : Bs) (g' : Gh) (r : Ent Ty den) (v : Value) (w' : World) : Prop where
  os : w'.os = B.w.os
  tape : w'.tape = B.w.tape
  output : w'.output = B.w.output
  size : B.w.heap.size ≤ w'.heap.size
  frame : ∀ b, b < B.w.heap.size → B.M ≠ some b → w'.heap[b]? = B.w.heap[b]? ∧ g'.wm b = B.wm b
  ext : Ext B.w B.wm w' g'.wm
  zero : ∀ b, w'.heap.size ≤ b → g'.wm b = 0
  rep : ERep U w' g' r v
  nit : r.isIter = false
  tip : ∀ d, r.has d = true → Tip w' g'.wm (g'.G d) (g'.Gs d)
  disj : ∀ d e b, r.has d = true → r.has e = true → d ≠ e → spare (g'.G d) = some b → spare (g'.G e) ≠ some b
  mine : ∀ d b, r.has d = true → spare (g'.G d) = some b → B.w.heap.size ≤ b ∨ B.M = some b
  deep : ∀ d, r.has d = true → deepN d = true → Deep B w' g'.wm (g'.G d) (g'.Gs d) ∧ ∀ b, RowB w' (g'.G d) b → spare (g'.G d) ≠ some b

/-- What a callee may lean on of the world that it is called in: it stays while what is immutable stays. -/
abbrev Inv := World → (Nat → Nat) → Prop
def CallOk (P : Program) (U : UO Ty den) (I : Inv) (f : FuncId) (ls : List (Leaf Ty den)) (r : Ent Ty den) : Prop :=
  ∀ (w : World) (g : Gh) (vs : List Value), I w g.wm → (∀ b, w.heap.size ≤ b → g.wm b = 0) → LsRep U w g ls vs → (owns0 ls = true → Tip w g.wm (g.G 0) (g.Gs 0)) → (∀ lf ∈ ls, ∀ d, lf.has d = true → d = 0) →
    Calls P f vs.toArray w fun e w' => ∃ v g', e = .returned v ∧ Post U ⟨w, g.wm, if owns0 ls then spare (g.G 0) else none⟩ g' r v w'

structure Sound (P : Program) (U : UO Ty den) (I : Inv) (f : FuncId) (S : List (Leaf Ty den) → Option (Ent Ty den)) : Prop where
  enter : ∀ args w, (callFunc f args).run P w = .ok (.enter f args) w
  ok : ∀ ls r, S ls = some r → CallOk P U I f ls r

section
variable {U : UO Ty den} {w : World} {g : Gh}
theorem LsRep.close : ∀ {ls : List (Leaf Ty den)} {vs : List Value}, LsRep U w g ls vs → LsRep U w g (closeAll ls) vs
  | [], [], _ => trivial
  | _ :: _, _ :: _, h => ⟨LRep.closed h.1.1, LsRep.close h.2⟩
theorem LsRep.closed_any {g' : Gh} (hw : g'.wm = g.wm) : ∀ {ls : List (Leaf Ty den)} {vs : List Value}, LsRep U w g (closeAll ls) vs → LsRep U w g' (closeAll ls) vs
  | [], [], _ => trivial
  | [], _ :: _, h => h.elim
  | _ :: _, [], h => h.elim
  | x :: _, _ :: _, h => ⟨⟨by rw [hw]; exact h.1.1, fun t1 l1 d1 he => by cases x <;> simp [Leaf.close] at he⟩, LsRep.closed_any hw h.2⟩
theorem owns0_close : ∀ (ls : List (Leaf Ty den)), owns0 (closeAll ls) = false
  | [] => rfl
  | l :: ls => by
    cases l <;> simp only [closeAll, Leaf.close, owns0] <;> exact owns0_close ls
theorem has_close (lf : Leaf Ty den) (d : Nat) : lf.close.has d = false := by cases lf <;> rfl
theorem mem_closeAll : ∀ {ls : List (Leaf Ty den)} {lf : Leaf Ty den}, lf ∈ closeAll ls → ∃ l0 : Leaf Ty den, lf = l0.close
  | [], lf, h => by simp [closeAll] at h
  | l :: ls, lf, h => by
    simp only [closeAll, List.mem_cons] at h
    rcases h with h1 | h1
    · exact ⟨l, h1⟩
    · exact mem_closeAll h1
theorem LsRep.length : ∀ {ls : List (Leaf Ty den)} {vs : List Value}, LsRep U w g ls vs → ls.length = vs.length
  | [], [], _ => rfl
  | _ :: _, _ :: _, h => by simp [LsRep.length h.2]
theorem LsRep.set : ∀ {ls : List (Leaf Ty den)} {vs : List Value}, LsRep U w g ls vs → ∀ (i : Nat) (lf : Leaf Ty den), (∀ v, vs[i]? = some v → LRep U w g lf v) → LsRep U w g (ls.set i lf) vs
  | [], [], _, i, lf, _ => by cases i <;> trivial
  | _ :: _, _ :: _, h, 0, lf, hv => ⟨hv _ rfl, h.2⟩
  | _ :: _, _ :: _, h, i + 1, lf, hv => ⟨h.1, LsRep.set h.2 i lf fun v hv' => hv v (by simpa using hv')⟩
theorem owns0_set : ∀ (ls : List (Leaf Ty den)) (i : Nat) (t : Ty) (l : List (den t)), i < ls.length → owns0 ((closeAll ls).set i (.sl t l (some 0))) = true
  | [], i, t, l, h => by simp at h
  | x :: ls, 0, t, l, _ => rfl
  | x :: ls, i + 1, t, l, h => by
    have ih := owns0_set ls i t l (by simpa using h)
    cases x <;> simp only [closeAll, Leaf.close, List.set_cons_succ, owns0] <;> exact ih
theorem has_set {ls : List (Leaf Ty den)} {i : Nat} {t : Ty} {l : List (den t)} {lf : Leaf Ty den} (h : lf ∈ (closeAll ls).set i (.sl t l (some 0))) (d : Nat) (hd : lf.has d = true) : d = 0 := by
  rcases List.mem_or_eq_of_mem_set h with h | rfl
  · obtain ⟨l0, rfl⟩ := mem_closeAll h
    rw [has_close] at hd; cases hd
  · obtain ⟨_, _, he⟩ := (Leaf.has_iff d _).1 hd
    simp only [Leaf.sl.injEq, Option.some.injEq] at he
    exact he.2.2.symm
end

section
variable {E : Env Ty den} {B : Bs} {g : Gh} {s : St Ty den} {a : Act} {w : World}
variable {P : Program} {R : Type} {o : Oper} {k : Ent Ty den → St Ty den → Option R} {r : R} {next : Act → World → Prop} {Q : Exit → Act → World → Prop}

theorem argLeaves_rep (hr : Rel E.U B g s a w) : ∀ (tys : List TypeId) (args : List Operand), LsRep E.U w g (argLeaves E s tys args) (args.map a.eval)
  | tys, [] => by cases tys <;> trivial
  | [], x :: r => ⟨opl_rep hr 0 x, argLeaves_rep hr [] r⟩
  | t :: ts, x :: r => ⟨opl_rep hr t x, argLeaves_rep hr ts r⟩

/-- The names at a landing: the caller's own, and those that stand for names of the callee. -/
def LInv (Bc : Bs) (g' g1 : Gh) (ent : Ent Ty den) (p : Option Nat) (j : Nat) (s : St Ty den) : Prop :=
  ∀ e, mem e s.live = true → (∀ b, spare (g1.G e) = some b → b < Bc.w.heap.size ∧ Bc.M ≠ some b) ∨
    ∃ c, ent.has c = true ∧ c ≤ j ∧ g1.G e = g'.G c ∧ (c = 0 → ∃ d, p = some d ∧ mem d s.live = true)

/-- The rows of the caller's deep names are none of the callee's. -/
def DInv (Bc : Bs) (w' : World) (g1 : Gh) (s : St Ty den) : Prop :=
  ∀ e b, mem e s.live = true → deepN e = true → RowB w' (g1.G e) b → b < Bc.w.heap.size ∧ Bc.M ≠ some b

theorem land1_ok (hU : E.U.Ok) {Bc : Bs} {g' g1 : Gh} {ent : Ent Ty den} {v0 : Value} {w' : World} (hp : Post E.U Bc g' ent v0 w') (hr : Rel E.U B g1 s a w') (hwm : g1.wm = g'.wm)
    (hB : ∀ b, Bc.w.heap.size ≤ b ∨ Bc.M = some b → B.w.heap.size ≤ b ∨ B.M = some b) {p : Option Nat} {j j' : Nat} (hinv : LInv Bc g' g1 ent p j s) (hjj : j ≤ j')
    {nm : Nat} {t : Ty} {l : List (den t)} {c : Nat} {v : Value} (hrep : LRep E.U w' g' (.sl t l (some c)) v) (hc : ent.has c = true) (hcj : c ≤ j') (hcn : ∀ e, mem e s.live = true → mem nm s.live = false → ∀ c', c' ≤ j → (c' = 0 → ∃ d, p = some d ∧ mem d s.live = true) → c' ≠ c)
    (hc0 : c = 0 → p = some nm) (hdi : DInv Bc w' g1 s) (hnm : deepN nm = false) :
    ∃ g2, DInv Bc w' g2 (land1 nm t l s).2 ∧ Rel E.U B g2 (land1 nm t l s).2 a w' ∧ g2.wm = g'.wm ∧ LRep E.U w' g2 (land1 nm t l s).1 v ∧ LInv Bc g' g2 ent p j' (land1 nm t l s).2 ∧
      (∀ e, mem e s.live = true → g2.G e = g1.G e ∧ g2.Gs e = g1.Gs e ∧ mem e (land1 nm t l s).2.live = true) ∧ (∀ e, (land1 nm t l s).1.has e = true → mem e (land1 nm t l s).2.live = true) := by
  unfold land1
  cases hm : mem nm s.live with
  | true =>
    simp only [cond_true]
    refine ⟨g1, hdi, hr, hwm, ⟨hrep.1.own none |> fun h => by rw [hwm]; exact h, fun _ _ _ he => by simp at he⟩, fun e he => ?_, fun e he => ⟨rfl, rfl, he⟩, fun e he => by simp [Leaf.has] at he⟩
    rcases hinv e he with h1 | ⟨c', h1, h2, h3, h4⟩
    · exact .inl h1
    · exact .inr ⟨c', h1, Nat.le_trans h2 hjj, h3, h4⟩
  | false =>
    simp only [cond_false]
    obtain ⟨hv, hs⟩ := hrep.2 t l c rfl
    have hne : ∀ e, mem e s.live = true → e ≠ nm := fun e he h => by subst h; rw [he] at hm; cases hm
    have htip := hp.tip c hc
    have h2 := hr.fresh hU nm (g'.G c) (g'.Gs c) (by rw [hwm]; exact htip) (fun e b he hne' hs1 hs2 => by
      rcases hinv e he with h1 | ⟨c', h1, h2, h3, h4⟩
      · obtain ⟨h5, h6⟩ := h1 b hs2
        rcases hp.mine c b hc hs1 with h7 | h7
        · omega
        · exact h6 h7
      · rw [h3] at hs2
        exact hp.disj c c' b hc h1 (Ne.symm (hcn e he hm c' h2 h4)) hs1 hs2) (fun b hs1 => hB b (hp.mine c b hc hs1))
      (fun e b he hne' hep hrow hs1 => by
        obtain ⟨h5, h6⟩ := hdi e b he hep hrow
        rcases hp.mine c b hc hs1 with h7 | h7
        · omega
        · exact h6 h7) (not_deep hnm)
    have hlive : ∀ e, mem e (s.fresh nm).live = true ↔ e = nm ∨ mem e s.live = true := fun e => by
      simp only [St.fresh]
      rw [mem_cons, mem_rem]
      constructor
      · rintro (rfl | ⟨h3, _⟩)
        · exact .inl rfl
        · exact .inr h3
      · rintro (rfl | h3)
        · exact .inl rfl
        · exact .inr ⟨h3, hne e h3⟩
    have hG : ∀ e, e ≠ nm → (g1.put nm (g'.G c) (g'.Gs c)).G e = g1.G e := fun e he => by simp [Gh.put, he]
    have hGs : ∀ e, e ≠ nm → (g1.put nm (g'.G c) (g'.Gs c)).Gs e = g1.Gs e := fun e he => by simp [Gh.put, he]
    refine ⟨g1.put nm (g'.G c) (g'.Gs c), fun e b he hep hrow => ?_, h2, hwm, ⟨?_, fun t1 l1 d1 he => ?_⟩, fun e he => ?_, fun e he => ⟨hG e (hne e he), hGs e (hne e he), (hlive e).2 (.inr he)⟩, fun e he => ?_⟩
    · rcases (hlive e).1 he with rfl | he'
      · rw [hnm] at hep; cases hep
      · rw [hG e (hne e he')] at hrow; exact hdi e b he' hep hrow
    · show CRep E.U w' g1.wm (.sl t l (some nm)) v
      rw [hwm]
      exact hrep.1.own _
    · simp only [Leaf.sl.injEq, Option.some.injEq] at he
      obtain ⟨rfl, _, rfl⟩ := he
      exact ⟨by rw [hv]; simp [Gh.put], by rw [hs]; simp [Gh.put]⟩
    · rcases (hlive e).1 he with rfl | he'
      · exact .inr ⟨c, hc, hcj, by simp [Gh.put], fun h0 => ⟨e, hc0 h0, he⟩⟩
      · rcases hinv e he' with h1 | ⟨c', h1, h3, h4, h5⟩
        · exact .inl fun b hb => h1 b (by rw [hG e (hne e he')] at hb; exact hb)
        · refine .inr ⟨c', h1, Nat.le_trans h3 hjj, by rw [hG e (hne e he')]; exact h4, fun h0 => ?_⟩
          obtain ⟨d, hd1, hd2⟩ := h5 h0
          exact ⟨d, hd1, (hlive d).2 (.inr hd2)⟩
    · obtain ⟨_, _, he2⟩ := (Leaf.has_iff e _).1 he
      simp only [Leaf.sl.injEq, Option.some.injEq] at he2
      rw [← he2.2.2]
      exact (hlive nm).2 (.inl rfl)

theorem landLeaf_ok (hU : E.U.Ok) {Bc : Bs} {g' g1 : Gh} {ent : Ent Ty den} {v0 : Value} {w' : World} (hp : Post E.U Bc g' ent v0 w') (hr : Rel E.U B g1 s a w') (hwm : g1.wm = g'.wm)
    (hB : ∀ b, Bc.w.heap.size ≤ b ∨ Bc.M = some b → B.w.heap.size ≤ b ∨ B.M = some b) {p : Option Nat} {dst : Option Nat} {j : Nat} (hinv : LInv Bc g' g1 ent p j s) (hdi : DInv Bc w' g1 s) (hpd : ∀ d, p = some d → deepN d = false)
    {lf : Leaf Ty den} {v : Value} (hrep : LRep E.U w' g' lf v) (hc : ∀ c, lf.has c = true → ent.has c = true) :
    ∃ g2, DInv Bc w' g2 (landLeaf dst p j s lf).2 ∧ Rel E.U B g2 (landLeaf dst p j s lf).2 a w' ∧ g2.wm = g'.wm ∧ LRep E.U w' g2 (landLeaf dst p j s lf).1 v ∧ LInv Bc g' g2 ent p (j + 1) (landLeaf dst p j s lf).2 ∧
      (∀ e, mem e s.live = true → g2.G e = g1.G e ∧ g2.Gs e = g1.Gs e ∧ mem e (landLeaf dst p j s lf).2.live = true) ∧ (∀ e, (landLeaf dst p j s lf).1.has e = true → mem e (landLeaf dst p j s lf).2.live = true) := by
  have keep : ∀ {lf' : Leaf Ty den}, LRep E.U w' g1 lf' v → (∀ e, lf'.has e = false) → landLeaf dst p j s lf = (lf', s) →
      ∃ g2, DInv Bc w' g2 (landLeaf dst p j s lf).2 ∧ Rel E.U B g2 (landLeaf dst p j s lf).2 a w' ∧ g2.wm = g'.wm ∧ LRep E.U w' g2 (landLeaf dst p j s lf).1 v ∧ LInv Bc g' g2 ent p (j + 1) (landLeaf dst p j s lf).2 ∧
      (∀ e, mem e s.live = true → g2.G e = g1.G e ∧ g2.Gs e = g1.Gs e ∧ mem e (landLeaf dst p j s lf).2.live = true) ∧ (∀ e, (landLeaf dst p j s lf).1.has e = true → mem e (landLeaf dst p j s lf).2.live = true) := by
    intro lf' hl hno he
    rw [he]
    refine ⟨g1, hdi, hr, hwm, hl, fun e he => ?_, fun e he => ⟨rfl, rfl, he⟩, fun e he => by rw [hno e] at he; cases he⟩
    rcases hinv e he with h1 | ⟨c', h1, h2, h3, h4⟩
    · exact .inl h1
    · exact .inr ⟨c', h1, Nat.le_succ_of_le h2, h3, h4⟩
  have closed : ∀ {t : Ty} {l : List (den t)} {x : Option Nat}, lf = .sl t l x → LRep E.U w' g1 (.sl t l none) v := fun he => by
    subst he
    exact ⟨by rw [hwm]; exact hrep.1.own none, fun _ _ _ he => by simp at he⟩
  cases lf with
  | sl t l x =>
    cases x with
    | none => exact keep (closed rfl) (fun e => rfl) rfl
    | some c =>
      cases c with
      | zero =>
        cases p with
        | none => exact keep (closed rfl) (fun e => rfl) rfl
        | some d =>
          simp only [landLeaf]
          exact land1_ok (c := 0) hU hp hr hwm hB hinv (Nat.le_succ j) hrep (hc 0 (by simp [Leaf.has])) (Nat.zero_le _) (fun e he hm c' hc' h0 he0 => by
            obtain ⟨d', h1, h2⟩ := h0 he0
            cases h1
            rw [h2] at hm; cases hm) (fun _ => rfl) hdi (hpd d rfl)
      | succ i =>
        by_cases hij : i = j
        · subst hij
          simp only [landLeaf, beq_self, cond_true]
          exact land1_ok (c := i + 1) hU hp hr hwm hB hinv (Nat.le_succ i) hrep (hc (i + 1) (by simp [Leaf.has])) (Nat.le_refl _) (fun e he hm c' hc' h0 he0 => by omega) (fun h => by cases h) hdi (deep_nmR _ _)
        · refine keep (closed rfl) (fun e => rfl) ?_
          simp only [landLeaf, beq_false hij, cond_false]
  | any => exact keep ⟨.any v, fun _ _ _ h => by cases h⟩ (fun e => rfl) rfl
  | int k0 n => exact keep ⟨by rw [hwm]; exact hrep.1, fun _ _ _ h => by cases h⟩ (fun e => rfl) rfl
  | bool b => exact keep ⟨by rw [hwm]; exact hrep.1, fun _ _ _ h => by cases h⟩ (fun e => rfl) rfl
  | str c => exact keep ⟨by rw [hwm]; exact hrep.1, fun _ _ _ h => by cases h⟩ (fun e => rfl) rfl
  | elem t x off => exact keep ⟨by rw [hwm]; exact hrep.1, fun _ _ _ h => by cases h⟩ (fun e => rfl) rfl
  | agg t x => exact keep ⟨by rw [hwm]; exact hrep.1, fun _ _ _ h => by cases h⟩ (fun e => rfl) rfl
  | val v1 => exact keep ⟨by rw [hwm]; exact hrep.1, fun _ _ _ h => by cases h⟩ (fun e => rfl) rfl

theorem landAll_ok (hU : E.U.Ok) {Bc : Bs} {g' : Gh} {ent : Ent Ty den} {v0 : Value} {w' : World} (hp : Post E.U Bc g' ent v0 w') (hB : ∀ b, Bc.w.heap.size ≤ b ∨ Bc.M = some b → B.w.heap.size ≤ b ∨ B.M = some b) {p : Option Nat} {dst : Option Nat} :
    ∀ (ls : List (Leaf Ty den)) (vs : List Value) (j : Nat) (s : St Ty den) (g1 : Gh), Rel E.U B g1 s a w' → g1.wm = g'.wm → LInv Bc g' g1 ent p j s → DInv Bc w' g1 s → (∀ d, p = some d → deepN d = false) → LsRep E.U w' g' ls vs → (∀ lf ∈ ls, ∀ c, lf.has c = true → ent.has c = true) →
    ∃ g2, Rel E.U B g2 (landAll dst p j s ls).2 a w' ∧ g2.wm = g'.wm ∧ LsRep E.U w' g2 (landAll dst p j s ls).1 vs ∧ (∀ e, mem e s.live = true → g2.G e = g1.G e ∧ g2.Gs e = g1.Gs e)
  | [], [], j, s, g1, hr, hwm, _, _, _, _, _ => ⟨g1, hr, hwm, trivial, fun _ _ => ⟨rfl, rfl⟩⟩
  | lf :: ls, v :: vs, j, s, g1, hr, hwm, hinv, hdi, hpd, hrep, hc => by
    obtain ⟨g2, h0, h1, h2, h3, h4, h5, h6⟩ := landLeaf_ok (dst := dst) hU hp hr hwm hB hinv hdi hpd hrep.1 (hc lf (by simp))
    obtain ⟨g3, k1, k2, k3, k4⟩ := landAll_ok hU hp hB (dst := dst) ls vs (j + 1) _ g2 h1 h2 h4 h0 hpd hrep.2 (fun l hl => hc l (by simp [hl]))
    simp only [landAll]
    refine ⟨g3, k1, k2, ⟨⟨?_, fun t1 l1 d1 he => ?_⟩, k3⟩, fun e he => ?_⟩
    · rw [k2, ← h2]; exact h3.1
    · have hl := h6 d1 ((Leaf.has_iff d1 _).2 ⟨t1, l1, he⟩)
      obtain ⟨e1, e2⟩ := k4 d1 hl
      rw [e1, e2]
      exact h3.2 t1 l1 d1 he
    · obtain ⟨e1, e2, e3⟩ := h5 e he
      obtain ⟨f1, f2⟩ := k4 e e3
      exact ⟨f1.trans e1, f2.trans e2⟩

/-- What comes back lands. -/
theorem land_ok (hU : E.U.Ok) {Bc : Bs} {g' g1 : Gh} {ent : Ent Ty den} {v : Value} {w' : World} (hp : Post E.U Bc g' ent v w') (hr : Rel E.U B g1 s a w') (hwm : g1.wm = g'.wm)
    (hB : ∀ b, Bc.w.heap.size ≤ b ∨ Bc.M = some b → B.w.heap.size ≤ b ∨ B.M = some b) {p : Option Nat} {dst : Option Nat}
    (hold : ∀ e b, mem e s.live = true → spare (g1.G e) = some b → b < Bc.w.heap.size ∧ Bc.M ≠ some b) (hdi : DInv Bc w' g1 s) (hpd : ∀ d, p = some d → deepN d = false)
    (h : (match ent with
      | .one l => k (.one (landLeaf dst p 0 s l).1) (landLeaf dst p 0 s l).2
      | .tup r => k (.tup (landAll dst p 0 s r).1) (landAll dst p 0 s r).2
      | _ => none) = some r) (hd : ∀ i, o.dst = some i → i < a.tmps.size) (hn : Next E B o a k r next) : next (a.put o.dst v) w' := by
  have hinv : LInv Bc g' g1 ent p 0 s := fun e he => .inl fun b hb => hold e b he hb
  have hrep := hp.rep
  cases ent with
  | one l =>
    obtain ⟨g2, _, h1, h2, h3, _⟩ := landLeaf_ok (dst := dst) hU hp hr hwm hB hinv hdi hpd hrep (fun c hc => hc)
    exact hn _ _ _ _ h (REL.setO h1 (e := .one _) h3 rfl _ hd)
  | tup ls =>
    obtain ⟨vs, hv, hvs⟩ := hrep
    obtain ⟨g2, h1, h2, h3, _⟩ := landAll_ok (dst := dst) hU hp hB ls vs 0 s g1 hr hwm hinv hdi hpd hvs (fun lf hl c hc => by
      simp only [Ent.has, List.any_eq_true]
      exact ⟨lf, hl, hc⟩)
    exact hn _ _ _ _ h (REL.setO h1 (e := .tup _) ⟨vs, hv, h3⟩ rfl _ hd)
  | iter c pos => cases h

theorem op_call (hU : E.U.Ok) (hS : ∀ f ls r, E.T f ls = some (true, r) → (∀ args w, (callFunc f args).run P w = .ok (.enter f args) w) ∧ CallOk P E.U (fun w1 m1 => Ext B.w B.wm w1 m1) f ls r)
    {c : Call} {f : FuncId} (hop : o.op = .call c) (hcal : c.callee = .value (.func f)) (h : evCall E f c.argTypes.toList c.args.toList o.dst s k = some r)
    (hr : Rel E.U B g s a w) (hd : ∀ i, o.dst = some i → i < a.tmps.size) (hn : Next E B o a k r next) : o.wp P a w next Q := by
  have hls := argLeaves_rep hr c.argTypes.toList c.args.toList
  have hex : ∀ (hent : ∀ args w, (callFunc f args).run P w = .ok (.enter f args) w), (execOp a.eval o).run P w = .ok (.enter f (c.args.toList.map a.eval).toArray) w := fun hent => by
    simp [execOp, hop, resolve, hcal, Act.eval, Deferred.ofValue, invoke, hent]
    apply Array.ext'; simp
  have hupon : ∀ {Rr : Ending → World → Prop}, (∀ args w, (callFunc f args).run P w = .ok (.enter f args) w) → Calls P f (c.args.toList.map a.eval).toArray w Rr → (∀ e w', Rr e w' → ∃ v, e = .returned v ∧ next (a.put o.dst v) w') → o.wp P a w next Q := fun hent hc hq => by
    unfold Oper.wp
    rw [hex hent, Oper.upon_enter]
    refine hc.mono fun e w' hw' => ?_
    obtain ⟨v, rfl, hv⟩ := hq e w' hw'
    exact hv
  have hspl : ∀ e b, mem e s.live = true → spare (g.G e) = some b → b < w.heap.size := fun e b he hs => by
    obtain ⟨a0, len, cap, hv, _, hc'⟩ := hr.tip e he
    rw [hv] at hs
    simp only [spare] at hs
    split at hs
    · rename_i a1 l1 c1 heq
      cases heq
      split at hs
      · cases hs
      · rename_i hlc
        rcases hc' with h3 | ⟨b', off, c, e, fz, ha, hb, _⟩
        · exact absurd h3 hlc
        · cases ha
          simp at hs
          subst hs
          exact (Array.getElem?_eq_some_iff.1 hb).1
    · cases hs
  unfold evCall at h
  dsimp only at h
  generalize hL : argLeaves E s c.argTypes.toList c.args.toList = ls at h hls
  split at h
  · -- nothing is handed over
    cases hTf : E.T f (closeAll ls) with
    | none => rw [hTf] at h; cases h
    | some gent =>
      obtain ⟨gd, ent⟩ := gent
      rw [hTf] at h
      cases gd with
      | false => exfalso; cases ent <;> cases h
      | true =>
      obtain ⟨hent, hco⟩ := hS f _ _ hTf
      have hc := hco w g (c.args.toList.map a.eval) hr.ext hr.zero (LsRep.close hls) (fun h1 => by rw [owns0_close] at h1; cases h1) (fun lf hl d hd' => by
        obtain ⟨l0, rfl⟩ := mem_closeAll hl
        rw [has_close] at hd'; cases hd')
      rw [owns0_close] at hc
      simp only [Bool.false_eq_true, if_false] at hc
      refine hupon hent hc ?_
      rintro e w' ⟨v, g', rfl, hp⟩
      refine ⟨v, rfl, ?_⟩
      have hr1 := hr.world hU (w' := w') (wm' := g'.wm) hp.os hp.tape hp.output hp.size hp.ext none (fun b e => by cases e) (fun _ _ _ _ e => by cases e) (fun b e => by cases e) (fun _ _ _ _ _ e => by cases e) (fun b hb _ => hp.frame b hb (fun e => by cases e)) hp.zero
      refine land_ok (p := none) (dst := o.dst) hU hp hr1 rfl (fun b hb => ?_) (fun e b he hs => ⟨hspl e b he hs, fun e => by cases e⟩) (fun e b he hep hrow => ⟨hr.row_lt he hep ((hr.row_ext hp.ext he hep).1 hrow), fun e => by cases e⟩) (fun _ e => by cases e) ?_ hd hn
      · rcases hb with hb | hb
        · exact .inl (Nat.le_trans hr.size hb)
        · cases hb
      · cases ent <;> exact h
  · -- one owned slice is handed over
    rename_i p hp0
    cases hlp : ls.getD p .any with
    | sl t l x =>
      cases x with
      | none => rw [hlp] at h; cases h
      | some d =>
        rw [hlp] at h
        obtain ⟨hdl0, h'⟩ := bif_some h
        rw [Bool.and_eq_true, Bool.not_eq_true'] at hdl0
        obtain ⟨hdl, hnd⟩ := hdl0
        cases hTf : E.T f ((closeAll ls).set p (.sl t l (some 0))) with
        | none => rw [hTf] at h'; cases h'
        | some gent =>
          obtain ⟨gd, ent⟩ := gent
          rw [hTf] at h'
          cases gd with
          | false => exfalso; cases ent <;> cases h'
          | true =>
          obtain ⟨hent, hco⟩ := hS f _ _ hTf
          have hplt : p < ls.length := by
            rcases Nat.lt_or_ge p ls.length with h1 | h1
            · exact h1
            · rw [List.getD_eq_getElem?_getD, List.getElem?_eq_none h1] at hlp; cases hlp
          have hlp' : ls[p]? = some (.sl t l (some d)) := by
            rw [List.getD_eq_getElem?_getD, List.getElem?_eq_getElem hplt] at hlp
            simp at hlp
            rw [List.getElem?_eq_getElem hplt, hlp]
          obtain ⟨vp, hvp, hvrep⟩ := hls.get hlp'
          obtain ⟨hvd, hgs⟩ := hvrep.2 t l d rfl
          have hx0 : Ext w g.wm w (g.put 0 (g.G d) (g.Gs d)).wm := ⟨fun _ _ _ => rfl, fun _ => Nat.le_refl _⟩
          have hlsc : LsRep E.U w (g.put 0 (g.G d) (g.Gs d)) (closeAll ls) (c.args.toList.map a.eval) := by
            exact LsRep.closed_any (g := g) (g' := g.put 0 (g.G d) (g.Gs d)) rfl (LsRep.close hls)
          have hc := hco w (g.put 0 (g.G d) (g.Gs d)) (c.args.toList.map a.eval) hr.ext hr.zero (hlsc.set p (.sl t l (some 0)) (fun v hv => by
              rw [hvp] at hv
              cases hv
              refine ⟨hvrep.1.own _, fun t1 l1 d1 he => ?_⟩
              simp only [Leaf.sl.injEq, Option.some.injEq] at he
              obtain ⟨rfl, _, rfl⟩ := he
              exact ⟨by rw [hvd]; simp [Gh.put], by rw [hgs]; simp [Gh.put]⟩))
            (fun _ => by simpa [Gh.put] using hr.tip d hdl) (fun lf hl d' hd' => has_set hl d' hd')
          rw [owns0_set ls p t l hplt] at hc
          simp only [if_true] at hc
          have hG0 : (g.put 0 (g.G d) (g.Gs d)).G 0 = g.G d := by simp [Gh.put]
          rw [hG0] at hc
          refine hupon hent hc ?_
          rintro e w' ⟨v, g', rfl, hp⟩
          refine ⟨v, rfl, ?_⟩
          have hk := hr.kill hU d
          have hMlive : ∀ e b, mem e (s.kill d).live = true → spare (g.G e) = some b → spare (g.G d) ≠ some b := fun e b he hs => by
            have he2 := (mem_rem d e s.live).1 he
            exact hr.disj e d b he2.1 hdl he2.2 hs
          have hr1 := hk.world hU (w' := w') (wm' := g'.wm) hp.os hp.tape hp.output hp.size hp.ext (spare (g.G d)) (fun b hb => by
              obtain ⟨a0, len, cap, hv, _, hc'⟩ := hr.tip d hdl
              rw [hv] at hb
              simp only [spare] at hb
              split at hb
              · rename_i a1 l1 c1 heq
                cases heq
                split at hb
                · cases hb
                · rename_i hlc
                  rcases hc' with h3 | ⟨b', off, c, e, fz, ha, hb', _⟩
                  · exact absurd h3 hlc
                  · cases ha
                    simp at hb
                    subst hb
                    exact ⟨_, _, _, hb'⟩
              · cases hb)
            (fun e b he hs => hMlive e b he hs) (fun b hb => hr.mine d b hdl hb) (fun e b he hep hrow hb => hr.dsep e d b ((mem_rem d e s.live).1 he).1 hep hdl hrow hb) (fun b hb hM => hp.frame b hb hM) hp.zero
          refine land_ok (p := some d) (dst := o.dst) hU hp hr1 rfl (fun b hb => ?_) (fun e b he hs => ⟨hspl e b ((mem_rem d e s.live).1 he).1 hs, hMlive e b he hs⟩)
            (fun e b he hep hrow => by
              have he2 := (mem_rem d e s.live).1 he
              have hrow2 := (hr.row_ext hp.ext he2.1 hep).1 hrow
              exact ⟨hr.row_lt he2.1 hep hrow2, hr.dsep e d b he2.1 hep hdl hrow2⟩) (fun d2 e => by cases e; exact hnd) ?_ hd hn
          · rcases hb with hb | hb
            · exact .inl (Nat.le_trans hr.size hb)
            · exact hr.mine d b hdl hb
          · cases ent <;> exact h'
    | _ => rw [hlp] at h; cases h
end
end Go.Aev
end

section
set_option linter.unusedVariables false
open Go.Lib
namespace Go.Aev
variable {Ty : Type} {den : Ty → Type}

structure EnvOk (P : Program) (E : Env Ty den) (B : Bs) : Prop where
  U : E.U.Ok
  tb : ∀ t, TbOk P E.U t (E.tb t)
  T : ∀ f ls r, E.T f ls = some (true, r) → (∀ args w, (callFunc f args).run P w = .ok (.enter f args) w) ∧ CallOk P E.U (fun w1 m1 => Ext B.w B.wm w1 m1) f ls r

section
variable {E : Env Ty den} {B : Bs} {g : Gh} {s : St Ty den} {a : Act} {w : World}
variable {P : Program} {R : Type} {o : Oper} {k : Ent Ty den → St Ty den → Option R} {r : R} {next : Act → World → Prop} {Q : Exit → Act → World → Prop}

theorem fresh_get_iter {s : St Ty den} (d i : Nat) : (s.fresh d).get i = (s.get i).strip d := get_fresh s d i

theorem op_assign (hE : EnvOk P E B) {x : Operand} (hop : o.op = .assign x) (h : evOp E o s k = some r) (hr : Rel E.U B g s a w) (hd : ∀ i, o.dst = some i → i < a.tmps.size) (hn : Next E B o a k r next) : o.wp P a w next Q := by
  simp only [evOp, hop] at h
  have hrun : (execOp a.eval o).run P w = .ok (.value (a.eval x)) w := by simp [execOp, hop]
  cases hnil : isNil x with
  | false =>
    rw [hnil] at h
    exact wp_quiet hr hd hn h (opd_rep hr _ _) (opd_iter _ _ _) hrun
  | true =>
    rw [hnil] at h
    simp only [cond_true] at h
    have hxv : a.eval x = .slice none 0 0 ∧ ∃ v, x = .const v ∧ v = .slice none 0 0 := by
      unfold isNil at hnil
      split at hnil
      · exact ⟨rfl, _, rfl, rfl⟩
      · cases hnil
    obtain ⟨hxe, v, hx, hv⟩ := hxv
    have hrep := opl_rep hr o.type x
    split at h
    · rename_i u l own hl
      rw [hl] at hrep
      rw [hxe] at hrep hrun
      have hlen : l = [] := by
        obtain ⟨a0, cap, h1⟩ := hrep.1.sl_inv
        simp at h1
        exact List.eq_nil_of_length_eq_zero h1.2.1.symm
      subst hlen
      obtain ⟨hgd, h⟩ := bif_some h
      have hno : ∀ b, ¬ RowB w (.slice none 0 0) b := fun b ⟨j, r, hj, _⟩ => by simp [rowAt] at hj
      have h2 := hr.fresh hE.U (nmA E.dd o.dst) (.slice none 0 0) (E.U.size u) ⟨_, _, _, rfl, Nat.le_refl _, .inl rfl⟩ (fun _ _ _ _ hs => by simp [spare] at hs) (fun _ hs => by simp [spare] at hs) (fun _ _ _ _ _ _ hs => by simp [spare] at hs)
        (fun hdd => ⟨⟨by rw [hdd] at hgd; exact (beq_iff _ _).1 (by simpa using hgd), fun j r hj => by simp [rowAt] at hj, fun b hb => absurd hb (hno b), fun j k r r' b _ hj => by simp [rowAt] at hj⟩, fun b hb => absurd hb (hno b), fun e b _ _ hb => absurd hb (hno b), fun e b _ _ _ hb => absurd hb (hno b)⟩)
      refine wp_value hrun (hn _ _ _ _ h (REL.setO h2 (e := .one (.sl u [] (some (nmA E.dd o.dst)))) ⟨.nil _ _ _ _, fun t1 l1 d1 he => ?_⟩ rfl _ hd))
      simp only [Leaf.sl.injEq, Option.some.injEq] at he
      obtain ⟨rfl, _, rfl⟩ := he
      simp [Gh.put]
    · exact wp_quiet (e := .one (opl E s o.type x)) hr hd hn h (show ERep _ _ _ (.one _) _ from hrep) rfl hrun

theorem evOp_sound (hE : EnvOk P E B) (h : evOp E o s k = some r) (hr : Rel E.U B g s a w) (hd : ∀ i, o.dst = some i → i < a.tmps.size) (hn : Next E B o a k r next) : o.wp P a w next Q := by
  cases hop : o.op with
  | move x => exact op_move hop h hr hd hn
  | assign x => exact op_assign hE hop h hr hd hn
  | pick c x y => exact op_pick hop h hr hd hn
  | extract x i => exact op_extract hop h hr hd hn
  | binOp op t x y yt => exact op_binOp hE.tb hop h hr hd hn
  | unOp op t x => exact op_unOp hop h hr hd hn
  | convert src dst x => exact op_convert hE.tb hE.U hop h hr hd hn
  | indexAddr t x i => exact op_indexAddr hE.tb hE.U hop h hr hd hn
  | index t x i => exact op_index hE.tb hop h hr hd hn
  | load t x => exact op_load hE.tb hE.U hop h hr hd hn
  | build t ps => exact op_build hE.tb hE.U hop h hr hd hn
  | fieldAddr t x i => exact op_fieldAddr hE.tb hop h hr hd hn
  | slice t x lo hi mx => exact op_slice hE.tb hE.U hop h hr hd hn
  | buildSlice t n ps => exact op_buildSlice hE.tb hE.U hop h hr hd hn
  | makeSlice t l c => exact op_makeSlice hE.tb hE.U hop h hr hd hn
  | range t x => exact op_range hE.tb hE.U hop h hr hd hn
  | next x isS =>
    cases x with
    | tmp i =>
      cases isS with
      | true => exact op_next hop h hr hE.U hd hn
      | false => simp only [evOp, hop] at h; cases h
    | _ => simp only [evOp, hop] at h; cases h
  | call c =>
    have h0 := h
    simp only [evOp, hop] at h
    cases hcal : c.callee with
    | value x =>
      cases x with
      | func f => rw [hcal] at h; exact op_call hE.U hE.T hop hcal h hr hd hn
      | _ => rw [hcal] at h; cases h
    | invoke x m => rw [hcal] at h; cases h
    | builtin b => rw [hcal] at h; exact op_builtin hE.tb hE.U hop hcal h hr hd hn
  | _ => simp only [evOp, hop] at h; cases h

theorem bif3 {a b c d e : Bool} (h : (a && (b && (c && (d && e)))) = true) : a = true ∧ b = true ∧ c = true ∧ d = true ∧ e = true := by
  cases a <;> cases b <;> cases c <;> cases d <;> cases e <;> simp at h ⊢
theorem eval_notTmp {d : Nat} {y : Operand} (h : notTmp d y = true) (a : Act) (v : Value) : (a.put (some d) v).eval y = a.eval y := by
  cases y with
  | tmp t =>
    simp only [notTmp, Bool.not_eq_true'] at h
    have hne : d ≠ t := fun e => by rw [← e, beq_self] at h; cases h
    show (a.tmps.setIfInBounds d v).getD t undef = a.tmps.getD t undef
    rw [Array.getD_eq_getD_getElem?, Array.getD_eq_getD_getElem?, Array.getElem?_setIfInBounds, if_neg hne]
  | const v => rfl
  | global g => rfl
  | func f => rfl
/-- A struct variable that is made and filled at once. -/
theorem box_step (hE : EnvOk P E B) {o2 : Oper} {d : Nat} {l : Leaf Ty den} (hb : boxed E o o2 s = some (d, l)) (hr : Rel E.U B g s a w) (hd : ∀ i, o.dst = some i → i < a.tmps.size) {K K2 : Act → World → Prop}
    (h1 : ∀ a1 w1, o2.wp P a1 w1 K2 Q → K a1 w1) (h2 : ∀ a' w', REL E.U B (s.set d (.one l)) a' w' → a'.tmps.size = a.tmps.size → K2 a' w') : o.wp P a w K Q ∧ o2.guard = none := by
  unfold boxed at hb
  split at hb
  · rename_i t d0 t2 d2 y hop hdst hop2
    obtain ⟨hc, hb'⟩ := bif_some hb
    clear hb
    obtain ⟨c1, c2, c3, c4, c5⟩ := bif3 hc
    have e1 := (beq_iff _ _).1 c1
    have e2 := (beq_iff _ _).1 c2
    subst e1; subst e2
    have hg2 : o2.guard = none := by simpa using c4
    have hd2 : o2.dst = none := by simpa using c5
    refine ⟨?_, hg2⟩
    split at hb'
    · rename_i u u' x ht hy
      split at hb'
      · rename_i x' hcast
        simp only [Option.some.injEq, Prod.mk.injEq] at hb'
        obtain ⟨rfl, rfl⟩ := hb'
        obtain ⟨rfl, ex⟩ := cast1 hcast
        simp only at ex
        subst ex
        obtain ⟨fs, ie, z, i1, i2, i3, i4, i5, i6⟩ := tb_struct hE.tb ht
        have hyr := opl_rep hr 0 y
        rw [hy] at hyr
        obtain ⟨vs, ev, hvl, cs, hcs, hcr⟩ := agg_inv hyr.1
        have hcl := hE.U.len u' x
        have hlt : d0 < a.tmps.size := hd d0 hdst
        have hone : ∀ v ∈ vs, v.oneCell' = true := fun v hv => by
          obtain ⟨j, hj, hjv⟩ := List.getElem_of_mem hv
          have hjc : j < (E.U.cells u' x).length := by omega
          have h3 := hcs j _ (List.getElem?_eq_getElem hjc)
          rw [List.getElem?_eq_getElem hj] at h3
          rw [← hjv, Option.some.inj h3]
          exact ((hcr j _ (List.getElem?_eq_getElem hjc)).one (hE.U.solid u' x _ (List.getElem_mem hjc))).1
        have hrun : (execOp a.eval o).run P w = .ok (.value (.pointer (some ⟨w.heap.size, 0, none⟩))) (w.alloc (.cells z.cells t)) := by
          simp [execOp, hop, Instr.alloc, zeroValue, typeInfo, i3, i5, newVar, newRow]
        refine wp_value hrun (h1 _ _ ?_)
        rw [hdst]
        have hev : (a.put (some d0) (.pointer (some ⟨w.heap.size, 0, none⟩))).eval y = .agg vs.toArray := by rw [eval_notTmp c3, ev]
        have hptr : (a.put (some d0) (.pointer (some ⟨w.heap.size, 0, none⟩))).eval (.tmp d0) = .pointer (some ⟨w.heap.size, 0, none⟩) := by
          have := getD_put a d0 d0 (.pointer (some ⟨w.heap.size, 0, none⟩)) hlt
          rw [if_pos rfl] at this
          exact this
        have hblk : (w.alloc (.cells z.cells t)).heap[w.heap.size]? = some (.cells z.cells t (0, 0)) := by
          have hp : (w.alloc (.cells z.cells t)).heap = w.heap.push (.cells z.cells t) := rfl
          rw [hp]; simp
        obtain ⟨s1, ⟨c', s2, s3, _, s5⟩, s6, s7, s8, s9, s10⟩ := setCells_spec P w.heap.size t (0, 0) vs 0 (w.alloc (.cells z.cells t)) z.cells hblk (by omega) (fun j _ _ => by simp) hone
        have hst := s1 ⟨w.heap.size, 0, none⟩ 0 rfl (Nat.le_refl _)
        have hc' : c' = vs.toArray := by
          apply Array.ext_getElem?
          intro j
          by_cases hj : j < vs.length
          · have := s5 j vs[j] (List.getElem?_eq_getElem hj)
            rw [Nat.zero_add] at this
            rw [this]; simp [hj]
          · rw [Array.getElem?_eq_none (by omega), Array.getElem?_eq_none (by simp; omega)]
        have hheap : (setCells (w.alloc (.cells z.cells t)) w.heap.size 0 vs).heap = w.heap.push (.cells vs.toArray t (0, 0)) := by
          apply Array.ext_getElem?
          intro j
          by_cases hj : j = w.heap.size
          · subst hj; rw [s2, hc']; simp
          · rw [s7 j hj]
            simp only [World.alloc, Array.getElem?_push, if_neg hj]
        have hrel := hr.alloc hE.U (.cells vs.toArray t (0, 0)) (E.U.size u') (setCells (w.alloc (.cells z.cells t)) w.heap.size 0 vs) hheap s8 s9 s10
        have hx : Ext w g.wm (setCells (w.alloc (.cells z.cells t)) w.heap.size 0 vs) (markAt g.wm w.heap.size (E.U.size u')) := by
          refine ⟨fun b off ho => ?_, fun b => ?_⟩
          · rcases Nat.lt_or_ge b w.heap.size with h2 | h2
            · exact World.cell?_of_block (a := ⟨b, off, none⟩) (by rw [hheap, Array.getElem?_push, if_neg (by show ¬ b = w.heap.size; omega)])
            · rw [hr.zero b h2] at ho; omega
          · unfold markAt
            by_cases hb : b = w.heap.size
            · subst hb; rw [if_pos rfl, hr.zero _ (Nat.le_refl _)]; exact Nat.zero_le _
            · rw [if_neg hb]; exact Nat.le_refl _
        have hrep : CRep E.U (setCells (w.alloc (.cells z.cells t)) w.heap.size 0 vs) (markAt g.wm w.heap.size (E.U.size u')) (.elem u' x 0) (.pointer (some ⟨w.heap.size, 0 + 0, none⟩)) := by
          refine .elem u' x 0 w.heap.size 0 cs (by simp [markAt]) (fun j lf hj => ?_) (fun j lf hj => (hcr j lf hj).mono hE.U hx)
          have h3 := hcs j lf hj
          have hnew : (setCells (w.alloc (.cells z.cells t)) w.heap.size 0 vs).heap[w.heap.size]? = some (.cells vs.toArray t (0, 0)) := by rw [hheap]; simp
          have hjl := getElem?_lt h3
          rw [List.getElem?_eq_getElem hjl] at h3
          simp [World.cell?, hnew, hjl, Option.some.inj h3]
        have hset := hrel.set (e := .one (.elem u' x 0)) (v := .pointer (some ⟨w.heap.size, 0, none⟩)) ⟨hrep, fun _ _ _ he => by cases he⟩ rfl d0 hlt
        unfold Oper.wp
        have hrun2 : (execOp (a.put (some d0) (.pointer (some ⟨w.heap.size, 0, none⟩))).eval o2).run P (w.alloc (.cells z.cells t)) = .ok .skip (setCells (w.alloc (.cells z.cells t)) w.heap.size 0 vs) := by
          have hsz : (Go.sizeOf t).run P (w.alloc (.cells z.cells t)) = .ok (E.U.size u') (w.alloc (.cells z.cells t)) := by simp [Go.sizeOf, typeInfo, i3, i4]
          have hvc : (Value.agg vs.toArray).cells = vs.toArray := rfl
          generalize w.alloc (.cells z.cells t) = w1 at hsz hst ⊢
          simp [execOp, hop2, hev, hptr, Instr.storeAt, Instr.sureAddr, storeVar, hsz, hvc, hvl, hst]
        rw [hrun2, Oper.upon_skip, hd2]
        exact h2 _ _ ⟨_, hset⟩ (by simp [Act.put])
      · cases hb'
    · cases hb'
  · cases hb

theorem okd_spec {n : Nat} {d : Option Nat} (h : okd n d = true) : ∀ i, d = some i → i < n := fun i hi => by
  subst hi
  simpa [okd, Nat.blt_eq] using h

theorem push_step (hE : EnvOk P E B) {o2 : Oper} {d1 d f : Nat} {l : Leaf Ty den} (hb : pushed E o o2 s = some (true, d1, l, d, f)) (hr : Rel E.U B g s a w) (hd : ∀ i, o.dst = some i → i < a.tmps.size) (hnt : a.tmps.size = E.nt) {K K2 : Act → World → Prop}
    (h1 : ∀ a1 w1, o2.wp P a1 w1 K2 Q → K a1 w1) (h2 : ∀ a' w', REL E.U B ((((s.kill f).set d1 (.one .any)).fresh d).setO o2.dst (.one l)) a' w' → a'.tmps.size = a.tmps.size → K2 a' w') : o.wp P a w K Q ∧ o2.guard = none := by
  unfold pushed at hb
  split at hb
  · rename_i t ps d0 c hop hdst hop2
    split at hb
    · rename_i t2 t3 x d2 y hcal htys hargs hps
      obtain ⟨hc, hb'⟩ := bif_some hb
      clear hb
      obtain ⟨c1, c2, c3, c4, c5⟩ := bif3 hc
      have e1 := (beq_iff _ _).1 c1
      have e2 := (beq_iff _ _).1 c2
      subst e1; subst e2
      have hg2 : o2.guard = none := by simpa using c4
      refine ⟨?_, hg2⟩
      split at hb'
      · rename_i u e u2 e2 ht ht2
        split at hb'
        · rename_i u' l0 dd v m ff hx hy
          obtain ⟨hg, hb2⟩ := bif_some hb'
          simp only [Bool.and_eq_true, Bool.not_eq_true'] at hg
          obtain ⟨⟨hdl, hdp⟩, ⟨hfl, hfn⟩, hs1, hs2, hs3⟩ := hg
          split at hb2
          · rename_i l' x' hcast hdec
            simp only [Option.some.injEq, Prod.mk.injEq] at hb2
            obtain ⟨hroom, rfl, rfl, rfl, rfl⟩ := hb2
            have hU := hE.U
            have hs1 := (beq_iff _ _).1 hs1
            have hs2 := (beq_iff _ _).1 hs2
            have hs3 := (beq_iff _ _).1 hs3
            obtain ⟨hte, ie, z, hie, hsz, _, hz, hzs⟩ := tb_slice hE.tb ht
            have hyr := opl_rep hr e y
            rw [hy] at hyr
            obtain ⟨hrowG, hrowS⟩ := hyr.2 v m ff rfl
            have hone := hyr.1.one (lf := .sl v m (some ff)) ⟨by simp, by simp, by simp⟩
            generalize hrow : a.eval y = row at *
            have hlt := hd _ hdst
            have hps2 : (ps.map fun (j, x) => (j, a.eval x)).toList = ([row].zipIdx 0).map fun x => (x.2, x.1) := by
              rw [Array.toList_map, hps]; simp [hrow]
            have hrunb : (Instr.buildSlice t 1 (ps.map fun (j, x) => (j, a.eval x))).run P w = .ok (.slice (some ⟨w.heap.size, 0, none⟩) 1 1) (w.alloc (.cells #[row] e)) := by
              refine run_buildSlice w t e 1 _ _ ie z hte hie hz (by rw [hsz, hs1]; omega) (by rw [hsz, hs1]; omega) ?_
              rw [hps2, hsz, hs1]
              exact Great.fill_flat [row] _ (fun v hv => by rcases List.mem_singleton.1 hv with rfl; exact hone.2) (by simp)
            refine wp_value (v := .slice (some ⟨w.heap.size, 0, none⟩) 1 1) (w' := w.alloc (.cells #[row] e)) (by simp [execOp, hop, hrunb]) (h1 _ _ ?_)
            rw [hdst]
            have hr1 := hr.alloc hU (.cells #[row] e) 1 (w.alloc (.cells #[row] e)) rfl rfl rfl rfl
            have hx1 : Ext w g.wm (w.alloc (.cells #[row] e)) (markAt g.wm w.heap.size 1) := ext_alloc hr (w' := w.alloc (.cells #[row] e)) (.cells #[row] e) 1 rfl
            have hk := hr1.kill hU ff
            have h3 := hk.set (e := .one .any) (v := .slice (some ⟨w.heap.size, 0, none⟩) 1 1) (ERep.any _ _ _) rfl _ hlt
            have hnew : (w.alloc (.cells #[row] e)).heap[w.heap.size]? = some (.cells #[row] e) := by
              have hp : (w.alloc (.cells #[row] e)).heap = w.heap.push (.cells #[row] e) := rfl
              rw [hp]; simp
            have hxr := opl_rep hr t2 x
            rw [hx] at hxr
            have hcr := castL_rep hcast hxr.1
            obtain ⟨ec, hec⟩ := castL_inv hcast
            subst ec; subst hec
            have hex : (a.put (some d0) (.slice (some ⟨w.heap.size, 0, none⟩) 1 1)).eval x = a.eval x := eval_notTmp c3 a _
            have hflat : flat E.U u' [x'] = [.sl v m none] := by
              rw [flat_cons, hU.dec _ _ _ hdec]; rfl
            have hne : dd ≠ ff := fun e0 => by rw [e0, hfn] at hdp; cases hdp
            have hlive : ∀ e0, mem e0 ((s.kill ff).set d0 (.one .any)).live = true ↔ mem e0 s.live = true ∧ e0 ≠ ff := fun e0 => mem_rem ff e0 s.live
            have hsrcrep : CRep E.U (w.alloc (.cells #[row] e)) (markAt g.wm w.heap.size 1) (.sl u' [x'] none) (.slice (some ⟨w.heap.size, 0, none⟩) 1 1) :=
              sl_new hU (l := [x']) hnew 1 (Nat.le_refl _) (by simp [markAt, hs2]) (fun j lf hj => by
                rw [hflat] at hj
                cases j with
                | zero =>
                  simp at hj
                  subst hj
                  exact ⟨row, rfl, (hyr.1.own none).mono hU hx1⟩
                | succ j => simp at hj) none
            obtain ⟨news, hsrc⟩ := src_slice (P := P) hU hsrcrep
            have hnews : news = [row] := by
              have hl := hsrc.nlen
              rw [hs2] at hl
              match news, hl with
              | [u0], _ =>
                have h7 := hsrc.cell w.heap.size 0 1 1 0 u0 rfl rfl
                have h8 : (w.alloc (.cells #[row] e)).cell? ⟨w.heap.size, 0 + 0, none⟩ = some row := by
                  simp only [World.cell?, hnew]; rfl
                rw [h8] at h7
                rw [Option.some.inj h7]
            subst hnews
            have hspr : ∀ b, spare row = some b → b < w.heap.size := fun b hs => tip_lt (hr.tip ff hfl) (by rw [← hrowG]; exact hs)
            have hnr : NewRows B { g with wm := markAt g.wm w.heap.size 1 } ((s.kill ff).set d0 (.one .any)) (w.alloc (.cells #[row] e)) dd [row] := by
              have only : ∀ (j : Nat) r, [row][j]? = some r → r = row ∧ j = 0 := fun j r hj => by
                cases j with
                | zero => simp at hj; exact ⟨hj.symm, rfl⟩
                | succ j => simp at hj
              refine ⟨fun j r hj => ?_, fun j r b hj hs => ?_, fun j k r r' b hjk hj hk => ?_, fun j r b e0 hj hs he0 => ?_, fun j r b e0 hj hs he0 hep hrb => ?_⟩
              · obtain ⟨rfl, _⟩ := only j r hj
                have := hr1.tip ff hfl
                rw [show ({ g with wm := markAt g.wm w.heap.size 1 } : Gh).G ff = r from hrowG.symm, show ({ g with wm := markAt g.wm w.heap.size 1 } : Gh).Gs ff = 1 by rw [← hs3]; exact hrowS.symm] at this
                exact this
              · obtain ⟨rfl, _⟩ := only j r hj
                exact hr.mine ff b hfl (by rw [← hrowG]; exact hs)
              · exact absurd ((only j r hj).2.trans (only k r' hk).2.symm) hjk
              · obtain ⟨rfl, _⟩ := only j r hj
                obtain ⟨k1, k2⟩ := (hlive e0).1 he0
                exact hr.disj ff e0 b hfl k1 (Ne.symm k2) (by rw [← hrowG]; exact hs)
              · obtain ⟨rfl, _⟩ := only j r hj
                obtain ⟨k1, k2⟩ := (hlive e0).1 he0
                exact hr.dsep e0 ff b k1 hep hfl ((hr.row_ext hx1 k1 hep).1 hrb) (by rw [← hrowG]; exact hs)
            obtain ⟨hte2, ie2, z2, hie2, hsz2, hby2, hz2, hzs2⟩ := tb_slice hE.tb ht2
            have hv2 : LRep E.U (w.alloc (.cells #[row] e)) { g with wm := markAt g.wm w.heap.size 1 } (.sl u' l0 (some dd)) ((a.put (some d0) (.slice (some ⟨w.heap.size, 0, none⟩) 1 1)).eval x) := by
              rw [hex]
              exact ⟨hxr.1.mono hU hx1, hxr.2⟩
            have hd2 : ∀ i, o2.dst = some i → i < (a.put (some d0) (.slice (some ⟨w.heap.size, 0, none⟩) 1 1)).tmps.size := fun i hi => by
              rw [size_put, hnt]
              rw [hi] at c5
              simpa [okd2, Nat.blt_eq] using c5
            obtain ⟨v', w', hrn, hrel⟩ := append_step (P := P) (ty := o2.type) hU hte2 (.inl ⟨_, hte⟩) hie2 hsz2 hby2 hz2 hzs2 h3 hd2 ((hlive dd).2 ⟨hdl, hne⟩) hv2 hsrc (by simpa using room_inv hroom) (fun _ => hnr)
            have hevd : (a.put (some d0) (.slice (some ⟨w.heap.size, 0, none⟩) 1 1)).eval (.tmp d0) = .slice (some ⟨w.heap.size, 0, none⟩) 1 1 := by
              have := getD_put a d0 d0 (.slice (some ⟨w.heap.size, 0, none⟩) 1 1) hlt
              rw [if_pos rfl] at this
              exact this
            have htys2 : c.argTypes = #[t2, t] := by rw [← Array.toArray_toList (xs := c.argTypes), htys]
            have hargs2 : c.args = #[x, .tmp d0] := by rw [← Array.toArray_toList (xs := c.args), hargs]
            have hrn2 : (Builtin.append_ #[t2, t] o2.type #[(a.put (some d0) (.slice (some ⟨w.heap.size, 0, none⟩) 1 1)).eval x, (a.put (some d0) (.slice (some ⟨w.heap.size, 0, none⟩) 1 1)).eval (.tmp d0)]).run P (w.alloc (.cells #[row] e)) = .ok v' w' := by
              rw [hevd]; exact hrn
            refine wp_value (w' := w') (v := v') ?_ (h2 _ _ hrel (by rw [size_put, size_put]))
            simp [execOp, hop2, resolve, hcal, htys2, hargs2, invoke, builtin, hrn2]
          · cases hb2
        · cases hb'
      · cases hb'
    · cases hb
  · cases hb
theorem evOps_cons (E : Env Ty den) (ops : Array Oper) (o : Oper) (r : List Oper) (s : St Ty den) (k : St Ty den → Option R) : evOps E ops (o :: r) s k = bif okd E.nt o.dst then match o.guard with
    | none => bif isAlloc o.op then (match r with
        | o2 :: r2 => (match boxed E o o2 s with
          | some (d, l) => evOps E ops r2 (s.set d (.one l)) k
          | none => none)
        | [] => none)
      else (match r with
        | o2 :: r2 => (match pushed E o o2 s with
          | some (gd, d1, l, d, f) => bif gd then evOps E ops r2 ((((s.kill f).set d1 (.one .any)).fresh d).setO o2.dst (.one l)) k else none
          | none => evOp E o s fun e s' => evOps E ops r (s'.setO o.dst e) k)
        | [] => evOp E o s fun e s' => evOps E ops r (s'.setO o.dst e) k)
    | some (j, want) => match (ops[j]?).bind (·.dst) with
      | some g => match s.get g with
        | .one (.bool b) => bif b == want
          then evOp E o (s.set g (.one (.bool want))) fun e s' => evOps E ops r (s'.setO o.dst e) k
          else evOps E ops r ((s.set g (.one (.bool (!want)))).setO o.dst (.one (.val undef))) k
        | .one (.val v) => bif notBool v then evOps E ops r (s.setO o.dst (.one (.val undef))) k else none
        | _ => none
      | none => none
    else none := by cases r <;> rfl
theorem evOps_sound (hE : EnvOk P E B) (ops : Array Oper) : ∀ (os : List Oper) (s : St Ty den) (a : Act) (w : World) (k : St Ty den → Option R), evOps E ops os s k = some r → REL E.U B s a w → a.tmps.size = E.nt →
    (∀ s' a' w', k s' = some r → REL E.U B s' a' w' → a'.tmps.size = E.nt → Q .normal a' w') → wpList P ops Q os a w
  | [], s, a, w, k, h, hr, hsz, hk => wpList_nil (hk s a w h hr hsz)
  | o :: os, s, a, w, k, h, ⟨g, hr⟩, hsz, hk => by
    rw [evOps_cons] at h
    obtain ⟨hdst, h⟩ := bif_some h
    have hd : ∀ i, o.dst = some i → i < a.tmps.size := fun i hi => by rw [hsz]; exact okd_spec hdst i hi
    have run : ∀ (s1 : St Ty den) (g1 : Gh), Rel E.U B g1 s1 a w → evOp E o s1 (fun e s' => evOps E ops os (s'.setO o.dst e) k) = some r → ∀ (K : Act → World → Prop), (∀ a w, wpList P ops Q os a w → K a w) → o.wp P a w K Q := by
      intro s1 g1 hr1 h1 K hK
      refine evOp_sound hE h1 hr1 hd ?_
      intro e s' v w' hk' hrel
      exact hK _ _ (evOps_sound hE ops os _ _ _ k hk' hrel (by rw [size_put]; exact hsz) hk)
    cases hg : o.guard with
    | none =>
      rw [hg] at h
      dsimp only at h
      cases hal : isAlloc o.op with
      | true =>
        rw [hal] at h
        simp only [cond_true] at h
        match os, h with
        | [], h => cases h
        | o2 :: os2, h =>
          dsimp only at h
          split at h
          · rename_i d l hbx
            refine wpList_plain hg fun K hK => (box_step (K2 := fun a1 w1 => wpList P ops Q os2 a1 w1) hE hbx hr hd (fun a1 w1 hw => hK _ _ (wpList_plain ?_ fun K2 hK2 => ?_)) (fun a' w' hrel hsz2 => ?_)).1
            · exact (box_step (K := fun _ _ => True) (K2 := fun _ _ => True) (Q := Q) hE hbx hr hd (fun _ _ _ => trivial) (fun _ _ _ _ => trivial)).2
            · exact Oper.wp_mono hK2 hw
            · exact evOps_sound hE ops os2 _ a' w' k h hrel (by rw [hsz2]; exact hsz) hk
          · cases h
      | false =>
        rw [hal] at h
        simp only [cond_false] at h
        match os, h with
        | [], h => exact wpList_plain hg fun K hK => run s g hr h K hK
        | o2 :: os2, h =>
          dsimp only at h
          split at h
          · rename_i gd d1 l d f hpx
            obtain ⟨hgd, h⟩ := bif_some h
            subst hgd
            refine wpList_plain hg fun K hK => (push_step (K2 := fun a1 w1 => wpList P ops Q os2 a1 w1) hE hpx hr hd hsz (fun a1 w1 hw => hK _ _ (wpList_plain ?_ fun K2 hK2 => ?_)) (fun a' w' hrel hsz2 => ?_)).1
            · exact (push_step (K := fun _ _ => True) (K2 := fun _ _ => True) (Q := Q) hE hpx hr hd hsz (fun _ _ _ => trivial) (fun _ _ _ _ => trivial)).2
            · exact Oper.wp_mono hK2 hw
            · exact evOps_sound hE ops os2 _ a' w' k h hrel (by rw [hsz2]; exact hsz) hk
          · exact wpList_plain hg fun K hK => run s g hr h K hK
    | some jw =>
      obtain ⟨j, want⟩ := jw
      rw [hg] at h
      dsimp only at h
      cases hj : (ops[j]?).bind (·.dst) with
      | none => rw [hj] at h; cases h
      | some gd =>
        rw [hj] at h
        dsimp only at h
        split at h
        · rename_i b hgb
          have hent := hr.ent gd
          rw [hgb] at hent
          have hval : a.tmps.getD gd undef = .bool b := CRep.bool_inv hent.1
          have hlt : gd < a.tmps.size := by
            rcases Nat.lt_or_ge gd a.tmps.size with h1 | h1
            · exact h1
            · rw [Array.getD_eq_getD_getElem?, Array.getElem?_eq_none h1] at hval; cases hval
          have hget : a.tmps[gd]? = some (.bool b) := by
            rw [Array.getD_eq_getD_getElem?, Array.getElem?_eq_getElem hlt] at hval
            rw [Array.getElem?_eq_getElem hlt]
            simpa using hval
          have hy : yielded ops a.tmps j = some b := by
            unfold yielded
            rw [hj]
            simp [hget]
          have hset : ∀ c : Bool, b = c → Rel E.U B g (s.set gd (.one (.bool c))) a w := by
            intro c hc
            have h1 := hr.set (e := .one (.bool c)) (v := .bool c) (LRep.bool c) rfl gd hlt
            have h2 : a.put (some gd) (.bool c) = a := by
              cases a with
              | mk tm df =>
                simp only [Act.put]
                congr 1
                apply Array.ext_getElem?
                intro i
                rw [Array.getElem?_setIfInBounds]
                by_cases hi : gd = i
                · subst hi
                  rw [if_pos rfl]
                  simp only at hget hlt
                  rw [hget, if_pos hlt, hc]
                · rw [if_neg hi]
            rw [h2] at h1; exact h1
          refine wpList_step fun K hK => ?_
          simp only [Region.wanted, hg, hy]
          cases hbw : (b == want) with
          | true =>
            have hbw' : b = want := by simpa using hbw
            rw [hbw] at h
            rw [if_pos (by simp [hbw'])]
            exact run _ g (hset want hbw') h K hK
          | false =>
            rw [hbw] at h
            have hne : b ≠ want := by simpa using hbw
            have hbn : b = !want := by cases b <;> cases want <;> simp_all
            rw [if_neg (by simp [hne])]
            refine hK _ _ (evOps_sound hE ops os _ _ _ k h ?_ (by rw [size_put]; exact hsz) hk)
            exact REL.setO (hset _ hbn) (e := .one (.val undef)) ⟨.val _, fun _ _ _ he => by cases he⟩ rfl o.dst hd
        · rename_i v hgv
          have hent := hr.ent gd
          rw [hgv] at hent
          have hval : a.tmps.getD gd undef = v := by
            have h1 := hent.1
            cases h1
            rfl
          obtain ⟨hnb, h⟩ := bif_some h
          have hy : ∀ b, yielded ops a.tmps j ≠ some b := by
            intro b hb
            unfold yielded at hb
            rw [hj] at hb
            simp only [Option.bind_some] at hb
            rw [Array.getD_eq_getD_getElem?] at hval
            cases hg2 : a.tmps[gd]? with
            | none => rw [hg2] at hb; simp at hb
            | some u =>
              rw [hg2] at hb hval
              simp at hval
              subst hval
              cases u <;> simp [notBool] at hb hnb
          refine wpList_step fun K hK => ?_
          simp only [Region.wanted, hg]
          rw [if_neg (by
            intro h1
            exact hy want (by simpa using h1))]
          refine hK _ _ (evOps_sound hE ops os _ _ _ k h ?_ (by rw [size_put]; exact hsz) hk)
          exact REL.setO hr (e := .one (.val undef)) ⟨.val _, fun _ _ _ he => by cases he⟩ rfl o.dst hd
        · cases h

end
end Go.Aev
end
