/- Proved here: lemmas of an evaluator over the model's code that the claim's text uses (U6 Hp Hp2 Hp3 Step). Conditions: those that each lemma states. -/
import Derived.Test.YtljnggaaohddnaaFevD
section
set_option linter.unusedVariables false
namespace Go.Aev

inductive Ty6 where | i32 | u8 | i64 | rs
  deriving DecidableEq
def den6 : Ty6 → Type
  | .i32 | .u8 | .i64 => Int
  | .rs => List Int
abbrev L6 := Leaf Ty6 den6
abbrev E6 := Ent Ty6 den6

def cells6 : (t : Ty6) → den6 t → List L6
  | .i32, (n : Int) => [.int .i32 n]
  | .u8, (n : Int) => [.int .u8 n]
  | .i64, (n : Int) => [.int .i64 n]
  | .rs, (l : List Int) => [.sl .i32 l none]
def dec6 : (t : Ty6) → List L6 → Option (den6 t)
  | .i32, [.int .i32 n] => some n
  | .u8, [.int .u8 n] => some n
  | .i64, [.int .i64 n] => some n
  | .rs, [.sl .i32 l none] => some l
  | _, _ => none
def ofBytes6 : (t : Ty6) → Option (List UInt8 → List (den6 t))
  | .u8 => some fun b => b.map fun c => (c.toNat : Int)
  | _ => none
def toBytes6 : (t : Ty6) → Option (List (den6 t) → List UInt8)
  | .u8 => some fun (l : List Int) => l.map fun n => UInt8.ofNat n.toNat
  | _ => none
def ofRunes6 : (t : Ty6) → Option (List Int → List (den6 t))
  | .i32 => some fun b => b
  | _ => none
def toRunes6 : (t : Ty6) → Option (List (den6 t) → List Int)
  | .i32 => some fun (l : List Int) => l
  | _ => none
def bytes6 : Ty6 → Nat
  | .i32 => 4 | .u8 => 1 | .i64 => 8 | .rs => 24
def U6 : UO Ty6 den6 where
  deq := inferInstance
  cells := cells6
  dec := dec6
  ofBytes := ofBytes6
  toBytes := toBytes6
  ofRunes := ofRunes6
  toRunes := toRunes6
  size := fun _ => 1
  bytes := bytes6

theorem flat_ints (l : List Int) : l.flatMap (fun n => [(.int .i32 n : L6)]) = l.map fun n => .int .i32 n := by
  induction l with
  | nil => rfl
  | cons x l ih => simp [ih]
theorem flat_ints8 (l : List Int) : l.flatMap (fun n => [(.int .u8 n : L6)]) = l.map fun n => .int .u8 n := by
  induction l with
  | nil => rfl
  | cons x l ih => simp [ih]

theorem u6_ok : (U6).Ok where
  pos := fun t => Nat.one_pos
  bpos := fun t => by cases t <;> decide
  len := fun t x => by cases t <;> rfl
  dec := fun t ls x h => by
    simp only [U6] at h ⊢
    unfold dec6 at h
    split at h <;> first | cases h; done | (cases h; rfl)
  ofBytes := fun t f h => by
    cases t <;> simp only [U6, ofBytes6, Option.some.injEq, reduceCtorEq] at h
    subst h
    intro b
    refine ⟨List.length_map .., ?_⟩
    show List.flatMap (cells6 .u8) _ = _
    have h2 := flat_ints8 (b.map fun c => (c.toNat : Int))
    simp only [List.map_map] at h2
    exact h2
  ofRunes := fun t f h => by
    cases t <;> simp only [U6, ofRunes6, reduceCtorEq] at h
    cases h
    intro b
    exact ⟨rfl, flat_ints b⟩
  solid := fun t x lf h => by
    cases t <;> (have h2 := List.mem_singleton.1 h; subst h2; exact ⟨by simp, by simp, by simp⟩)
  ofBytes1 := fun _ _ _ => rfl
  ofRunes1 := fun _ _ _ => rfl
  toRunes1 := fun _ _ _ => rfl
  toRunes := fun t f h => by
    cases t <;> simp only [U6, toRunes6, reduceCtorEq] at h
    cases h
    intro l
    exact flat_ints l
  toBytes1 := fun _ _ _ => rfl
  toBytes := fun t f h => by
    cases t <;> simp only [U6, toBytes6, reduceCtorEq] at h
    cases h
    intro l
    exact ⟨l, flat_ints8 l, rfl⟩
end Go.Aev
end

section
set_option linter.unusedVariables false
open Go.Lib
namespace Go.Aev

/-- A slice's cells, one to an element, in a block that may be written. -/
def Arr (w : World) (v : Value) (xs : List Value) : Prop :=
  ∃ a cap, v = .slice a xs.length cap ∧ xs.length ≤ cap ∧ (cap = 0 ∨ ∃ b off c e fz, a = some ⟨b, off, none⟩ ∧ w.heap[b]? = some (.cells c e fz) ∧ off + cap ≤ c.size ∧
    (∀ j, j < off + cap → ¬ (fz.1 ≤ j ∧ j < fz.2)) ∧ ∀ (j : Nat) x, xs[j]? = some x → c[off + j]? = some x)

theorem spare_eq {b off len cap : Nat} (h : cap ≠ 0) : spare (.slice (some ⟨b, off, none⟩) len cap) = some b := by simp [spare, h]

section
variable {w w' : World} {v : Value} {xs : List Value}

theorem Arr.frame (h : Arr w v xs) (hf : ∀ b, spare v = some b → w'.heap[b]? = w.heap[b]?) : Arr w' v xs := by
  obtain ⟨a, cap, hv, hle, hc⟩ := h
  refine ⟨a, cap, hv, hle, ?_⟩
  by_cases h0 : cap = 0
  · exact .inl h0
  obtain ⟨b, off, c, e, fz, ha, hb, h1, h2, h3⟩ := hc.resolve_left h0
  exact .inr ⟨b, off, c, e, fz, ha, by rw [hf b (by rw [hv, ha]; exact spare_eq h0)]; exact hb, h1, h2, h3⟩
theorem Arr.lt (h : Arr w v xs) {b : Nat} (hs : spare v = some b) : b < w.heap.size := by
  obtain ⟨a, cap, hv, hle, hc⟩ := h
  by_cases h0 : cap = 0
  · rw [hv, h0] at hs; cases a <;> simp [spare] at hs
  obtain ⟨b', off, c, e, fz, ha, hb, _⟩ := hc.resolve_left h0
  rw [hv, ha, spare_eq h0] at hs
  cases hs
  exact (Array.getElem?_eq_some_iff.1 hb).1
/-- One element. -/
theorem Arr.at (h : Arr w v xs) {j : Nat} {x : Value} (hj : xs[j]? = some x) : ∃ b off cap, v = .slice (some ⟨b, off, none⟩) xs.length cap ∧ cap ≠ 0 ∧ spare v = some b ∧
    w.cell? ⟨b, off + j, none⟩ = some x ∧ w.frozen? ⟨b, off + j, none⟩ = false := by
  have hjl := (List.getElem?_eq_some_iff.1 hj).1
  obtain ⟨a, cap, hv, hle, hc⟩ := h
  have h0 : cap ≠ 0 := by omega
  obtain ⟨b, off, c, e, fz, ha, hb, h1, h2, h3⟩ := hc.resolve_left h0
  refine ⟨b, off, cap, by rw [hv, ha], h0, by rw [hv, ha]; exact spare_eq h0, ?_, ?_⟩
  · simp [World.cell?, hb, h3 j x hj]
  · have := h2 (off + j) (by omega)
    simp only [World.frozen?, hb]
    simp
    omega
/-- A store at an element. -/
theorem Arr.set (h : Arr w v xs) {j b off cap : Nat} (hj : j < xs.length) (hv : v = .slice (some ⟨b, off, none⟩) xs.length cap) (x : Value) : Arr (w.setCell ⟨b, off + j, none⟩ x) v (xs.set j x) := by
  obtain ⟨a, cap', hv', hle, hc⟩ := h
  rw [hv] at hv'
  have h4 := hv'
  simp only [Value.slice.injEq] at h4
  obtain ⟨ha', _, rfl⟩ := h4
  have h0 : cap ≠ 0 := by omega
  obtain ⟨b', off', c, e, fz, ha, hb, h1, h2, h3⟩ := hc.resolve_left h0
  rw [ha] at ha'
  cases ha'
  refine ⟨_, cap, by rw [hv, List.length_set], by rw [List.length_set]; exact hle, .inr ⟨b, off, _, e, fz, rfl, setCell_heap w b (off + j) x c e fz hb, by simpa using h1, h2, fun i y hi => ?_⟩⟩
  rw [Array.getElem?_setIfInBounds]
  rw [List.getElem?_set] at hi
  by_cases hij : j = i
  · subst hij
    rw [if_pos rfl, if_pos hj] at hi
    rw [if_pos rfl, if_pos (by omega)]
    exact hi
  · rw [if_neg hij] at hi
    rw [if_neg (by omega)]
    exact h3 i y hi
theorem Arr.len (h : Arr w v xs) : ∃ a cap, v = .slice a xs.length cap := by
  obtain ⟨a, cap, hv, _⟩ := h
  exact ⟨a, cap, hv⟩
theorem Arr.nil : Arr w (.slice none 0 0) [] := ⟨none, 0, rfl, Nat.le_refl _, .inl rfl⟩

theorem Arr.first (P : Program) (h : Arr w v xs) : ∀ w' : World, w'.heap = w.heap → (Builtin.firstCells 1 xs.length v).run P w' = .ok xs.toArray w' := by
  intro w' hw'
  obtain ⟨a, cap, rfl, hle, hc⟩ := h
  by_cases h0 : cap = 0
  · have h1 : xs = [] := List.eq_nil_of_length_eq_zero (by omega)
    subst h1
    cases a <;> simp [Builtin.firstCells, loadCells, loadCellsFrom]
  obtain ⟨b, off, c, e, fz, rfl, hb, h1, h2, h3⟩ := hc.resolve_left h0
  refine run_firstCells_some w' 1 xs.length ⟨b, off, none⟩ xs.length cap xs (by simp) (fun j u hu => ?_)
  rw [Addr.add_lit]
  simp [World.cell?, hw', hb, h3 j u hu]

/-- What stays when something is made or done beside it. -/
structure Keep (w w' : World) (M : Option Nat) : Prop where
  os : w'.os = w.os
  tape : w'.tape = w.tape
  output : w'.output = w.output
  size : w.heap.size ≤ w'.heap.size
  heap : ∀ b, b < w.heap.size → M ≠ some b → w'.heap[b]? = w.heap[b]?
theorem Keep.refl (w : World) : Keep w w none := ⟨rfl, rfl, rfl, Nat.le_refl _, fun _ _ _ => rfl⟩
theorem Keep.arr {M : Option Nat} (k : Keep w w' M) (h : Arr w v xs) (hM : ∀ b, M = some b → spare v ≠ some b) : Arr w' v xs :=
  h.frame fun b hb => k.heap b (h.lt hb) (fun e => hM b e hb)
theorem keep_setCell (w : World) (b off : Nat) (x : Value) : Keep w (w.setCell ⟨b, off, none⟩ x) (some b) :=
  ⟨rfl, rfl, rfl, by simp [World.setCell], fun k _ hk => setCell_other w b off k x (fun e => hk (by rw [e]))⟩
theorem keep_alloc (w : World) (o : Obj) : Keep w (w.alloc o) none :=
  ⟨rfl, rfl, rfl, by show w.heap.size ≤ (w.heap.push o).size; rw [Array.size_push]; omega, fun b hb _ => by
    show (w.heap.push o)[b]? = _
    rw [Array.getElem?_push, if_neg (by omega)]⟩
theorem keep_drew (w : World) (o : Obj) : Keep w (w.drew.alloc o) none :=
  ⟨rfl, rfl, rfl, by show w.heap.size ≤ (w.heap.push o).size; rw [Array.size_push]; omega, fun b hb _ => by
    show (w.heap.push o)[b]? = _
    rw [Array.getElem?_push, if_neg (by omega)]⟩

theorem arr_new {w1 : World} {c : Array Value} {e : TypeId} {xs : List Value} {cap : Nat} (hw : w1.heap = w.heap.push (.cells c e)) (hle : xs.length ≤ cap) (hcs : cap ≤ c.size) (hx : ∀ (j : Nat) x, xs[j]? = some x → c[j]? = some x) :
    Arr w1 (.slice (some ⟨w.heap.size, 0, none⟩) xs.length cap) xs :=
  ⟨_, cap, rfl, hle, .inr ⟨w.heap.size, 0, c, e, (0, 0), rfl, by rw [hw]; simp, by omega, fun j _ => by simp, fun j x hj => by rw [Nat.zero_add]; exact hx j x hj⟩⟩

/-- append of one slice's elements behind another's. -/
theorem arr_append {P : Program} {t u ty e : TypeId} (ht : P.underlying t = some (.slice e)) (hu : notInt P u) {i : TypeInfo} {z : Value} (hi : P.info? e = some i) (hsz : i.size = 1) (hz : i.zero = some z) (hzs : z.cells.size = 1)
    {y : Value} {ys : List Value} (h : Arr w v xs) (hy : Arr w y ys) (hone : ∀ x ∈ ys, x.oneCell' = true) (hroom : (xs.length + ys.length) * i.bytes ≤ 140737488355328) (hbp : 0 < i.bytes) :
    ∃ v' w', (Builtin.append_ #[t, u] ty #[v, y]).run P w = .ok v' w' ∧ Arr w' v' (xs ++ ys) ∧ Keep w w' (spare v) ∧ ((∃ a cap, v = .slice a xs.length cap ∧ v' = .slice a (xs ++ ys).length cap) ∨ ∃ b, spare v' = some b ∧ w.heap.size ≤ b) ∧ Arr w' v xs := by
  have hf1 := h.first P
  have hf2 := hy.first P
  have h0 := h
  obtain ⟨a0, cap, rfl, hle, hc⟩ := h
  obtain ⟨a1, cap1, rfl, hle1, hc1⟩ := hy
  have hlen : (Builtin.lenOf (.slice a1 ys.length cap1)).run P w = .ok ys.length w := by simp [Builtin.lenOf]
  have hsmall : xs.length + ys.length ≤ 140737488355328 := Nat.le_trans (Nat.le_mul_of_pos_right _ hbp) hroom
  by_cases hgrow : cap < xs.length + ys.length
  · have hrun := append_grow_run (P := P) w t u ty e i z ht hu hi hz a0 xs.length cap xs (by rw [hsz]; exact hf1) (.slice a1 ys.length cap1) ys.length ys hlen (by rw [hsz]; exact hf2) hgrow (by omega) hroom
    have hcap : xs.length + ys.length ≤ grownCap w (xs.length + ys.length) cap e := grownCap_ge _ _ _ _
    have hk := keep_drew w (.cells (xs.toArray ++ ys.toArray ++ Builtin.zeroCells z.cells (grownCap w (xs.length + ys.length) cap e - (xs.length + ys.length))) e)
    refine ⟨_, _, hrun, ?_, ⟨hk.os, hk.tape, hk.output, hk.size, fun b hb _ => hk.heap b hb (fun e => by cases e)⟩, ?_, hk.arr h0 (fun b e => by cases e)⟩
    · have := arr_new (w := w) (w1 := w.drew.alloc (.cells (xs.toArray ++ ys.toArray ++ Builtin.zeroCells z.cells (grownCap w (xs.length + ys.length) cap e - (xs.length + ys.length))) e)) (xs := xs ++ ys) (cap := grownCap w (xs.length + ys.length) cap e) rfl (by rw [List.length_append]; exact hcap)
        (by simp only [Array.size_append, List.size_toArray, size_zeroCells, hzs]; omega) (fun j x hj => by
          have hlt := (List.getElem?_eq_some_iff.1 hj).1
          rw [Array.getElem?_append_left (by simpa using hlt)]
          simpa using hj)
      rw [List.length_append] at this
      exact this
    · refine .inr ⟨w.heap.size, ?_, Nat.le_refl _⟩
      by_cases hg0 : grownCap w (xs.length + ys.length) cap e = 0
      · omega
      · exact spare_eq hg0
  · by_cases hn : ys = []
    · subst hn
      have hrun := append_room_run (P := P) w t u ty e i ht hu hi a0 xs.length cap (.slice a1 0 cap1) 0 [] (by simpa using hlen) (by rw [hsz]; simpa using hf2 w rfl) w (fun a1 _ => by simp [storeCells]) (fun _ => rfl) (by simp at hgrow; omega)
      rw [Nat.add_zero] at hrun
      rw [List.append_nil]
      exact ⟨_, _, hrun, h0, ⟨rfl, rfl, rfl, Nat.le_refl _, fun _ _ _ => rfl⟩, .inl ⟨_, _, rfl, rfl⟩, h0⟩
    have hyl : 0 < ys.length := List.length_pos_iff.2 hn
    have hc0 : cap ≠ 0 := by omega
    obtain ⟨b, off, c, e', fz, rfl, hb, h1, h2, h3⟩ := hc.resolve_left hc0
    obtain ⟨s1, ⟨c', s2, s3, s4, s5⟩, s6, s7, s8, s9, s10⟩ := setCells_spec P b e' fz ys (off + xs.length) w c hb (by omega) (fun j h5 h6 => h2 j (by omega)) hone
    have hrun := append_room_run (P := P) w t u ty e i ht hu hi (some ⟨b, off, none⟩) xs.length cap (.slice a1 ys.length cap1) ys.length ys hlen (by rw [hsz]; exact hf2 w rfl) (setCells w b (off + xs.length) ys)
      (fun a1 ha1 => by
        cases ha1
        rw [Addr.add_lit, hsz, Nat.mul_one]
        exact s1 ⟨b, off + xs.length, none⟩ 0 (by simp) (Nat.zero_le _)) (fun e => by cases e) (by omega)
    refine ⟨_, _, hrun, ⟨_, cap, by rw [List.length_append], by rw [List.length_append]; omega, .inr ⟨b, off, c', e', fz, rfl, s2, by rw [s3]; exact h1, h2, fun j x hj => ?_⟩⟩, ⟨s8, s9, s10, by rw [s6]; exact Nat.le_refl _, fun k _ hk => s7 k (fun e => hk (by rw [e, spare_eq hc0]))⟩,
      .inl ⟨_, _, rfl, by rw [List.length_append]⟩, ⟨_, cap, rfl, hle, .inr ⟨b, off, c', e', fz, rfl, s2, by rw [s3]; exact h1, h2, fun j x hj => ?_⟩⟩⟩
    · by_cases hjl : j < xs.length
      · rw [List.getElem?_append_left hjl] at hj
        rw [s4 (off + j) (.inl (by omega))]
        exact h3 j x hj
      · rw [List.getElem?_append_right (by omega)] at hj
        have := s5 _ x hj
        rw [show off + xs.length + (j - xs.length) = off + j by omega] at this
        exact this
    · have hjl := (List.getElem?_eq_some_iff.1 hj).1
      rw [s4 (off + j) (.inl (by omega))]
      exact h3 j x hj
end
end Go.Aev
end

section
set_option linter.unusedVariables false
namespace Go.Aev

def wm0 (W : World) (b : Nat) : Nat := match W.heap[b]? with | some (.cells c _ _) => c.size | _ => 0
theorem wm0_zero (W : World) (b : Nat) (h : W.heap.size ≤ b) : wm0 W b = 0 := by
  unfold wm0; rw [Array.getElem?_eq_none h]
theorem wm0_cell {W : World} {b off : Nat} {v : Value} (h : W.cell? ⟨b, off, none⟩ = some v) : off + 1 ≤ wm0 W b := by
  unfold World.cell? at h
  unfold wm0
  dsimp only at h
  split at h
  · rename_i c t fr he
    rw [he]
    simp at h
    have := (Array.getElem?_eq_some_iff.1 h).1
    exact this
  · cases h
theorem wm0_same {w w' : World} {b : Nat} (h : w'.heap[b]? = w.heap[b]?) : wm0 w' b = wm0 w b := by unfold wm0; rw [h]

def i32Leaf (n : Int) : L6 := .int .i32 n
def rsLeaf (n : List Int) : L6 := .sl .i32 n none
theorem flat_i32m (l : List Int) : flat U6 .i32 l = l.map i32Leaf := flat_ints l
theorem flat_i32 (l : List Int) (j : Nat) (lf : L6) (h : (flat U6 .i32 l)[j]? = some lf) : ∃ n, l[j]? = some n ∧ lf = .int .i32 n := by
  rw [flat_i32m, List.getElem?_map] at h
  obtain ⟨n, hn, rfl⟩ := Option.map_eq_some_iff.1 h
  exact ⟨n, hn, rfl⟩
theorem flat_i32' (l : List Int) (j : Nat) (n : Int) (h : l[j]? = some n) : (flat U6 .i32 l)[j]? = some (.int .i32 n) := by
  rw [flat_i32m, List.getElem?_map, h]; rfl
theorem flat_rsLeaf (l : List (List Int)) : l.flatMap (fun n => [rsLeaf n]) = l.map rsLeaf := by
  induction l with
  | nil => rfl
  | cons x l ih => simp [ih]
theorem flat_rsm (l : List (List Int)) : flat U6 .rs l = l.map rsLeaf := flat_rsLeaf l
theorem flat_rs (l : List (List Int)) (j : Nat) (lf : L6) (h : (flat U6 .rs l)[j]? = some lf) : ∃ n : List Int, l[j]? = some n ∧ lf = .sl .i32 n none := by
  rw [flat_rsm, List.getElem?_map] at h
  obtain ⟨n, hn, rfl⟩ := Option.map_eq_some_iff.1 h
  exact ⟨n, hn, rfl⟩
theorem flat_rs' (l : List (List Int)) (j : Nat) (n : List Int) (h : l[j]? = some n) : (flat U6 .rs l)[j]? = some (.sl .i32 n none) := by
  rw [flat_rsm, List.getElem?_map, h]; rfl

/-- What stands, stands in all there is. -/
theorem CRep.all {w : World} {m : Nat → Nat} {lf : L6} {v : Value} (h : CRep U6 w m lf v) : CRep U6 w (wm0 w) lf v := by
  induction h with
  | any v => exact .any v
  | int k n => exact .int k n
  | bool b => exact .bool b
  | str s => exact .str s
  | val v => exact .val v
  | nil t own a cap => exact .nil t own a cap
  | sl t l own b off cap cs hcap hwm hc _ ih =>
    by_cases hl : l = []
    · subst hl; exact .nil _ _ _ _
    · refine .sl t l own b off cap cs hcap ?_ hc ih
      have hlen : (flat U6 t l).length = l.length * 1 := flat_length u6_ok t l
      have hp := List.length_pos_iff.2 hl
      obtain ⟨lf, hlf⟩ : ∃ lf, (flat U6 t l)[l.length - 1]? = some lf := ⟨_, List.getElem?_eq_getElem (by omega)⟩
      have := wm0_cell (hc _ lf hlf)
      show off + l.length * 1 ≤ _
      omega
  | elem t x off b o cs hwm hc _ ih =>
    refine .elem t x off b o cs ?_ hc ih
    have hlen : (cells6 t x).length = 1 := u6_ok.len t x
    obtain ⟨lf, hlf⟩ : ∃ lf, (U6.cells t x)[0]? = some lf := ⟨_, List.getElem?_eq_getElem (show 0 < (cells6 t x).length by omega)⟩
    have := wm0_cell (hc _ lf hlf)
    show o + 1 ≤ _
    omega
  | agg t x vs hl cs hc _ ih => exact .agg t x vs hl cs hc ih

section
variable {w w' : World} {v : Value} {wm : Nat → Nat}
def intV (l : List Int) : List Value := l.map (Value.int .i32)
theorem intV_len (l : List Int) : (intV l).length = l.length := List.length_map ..
theorem intV_one (l : List Int) : ∀ x ∈ intV l, x.oneCell' = true := fun x hx => by
  obtain ⟨n, _, rfl⟩ := List.mem_map.1 hx
  rfl

theorem ints_of_arr {l : List Int} (h : Arr w v (intV l)) (o : Option Nat) : CRep U6 w (wm0 w) (.sl .i32 l o) v := by
  by_cases hl : l = []
  · subst hl
    obtain ⟨a, cap, hv⟩ := h.len
    rw [hv]; exact .nil _ _ _ _
  have hp := List.length_pos_iff.2 hl
  have hcell : ∀ (j : Nat) n, l[j]? = some n → (intV l)[j]? = some (.int .i32 n) := fun j n hj => by unfold intV; rw [List.getElem?_map, hj]; rfl
  obtain ⟨b, off, cap, hv, hc0, hs, _⟩ := h.at (j := 0) (hcell 0 _ (List.getElem?_eq_getElem hp))
  have hle : l.length ≤ cap := by
    obtain ⟨a, cap', hv', hle, _⟩ := h
    rw [hv'] at hv
    cases hv
    rw [intV_len] at hle
    exact hle
  have hall : ∀ (j : Nat) n, l[j]? = some n → w.cell? ⟨b, off + j, none⟩ = some (.int .i32 n) := fun j n hj => by
    obtain ⟨b', off', cap', hv', _, _, hc', _⟩ := h.at (hcell j n hj)
    rw [hv] at hv'
    cases hv'
    exact hc'
  rw [intV_len] at hv
  rw [hv]
  refine (CRep.sl (U := U6) (w := w) (wm := fun _ => off + l.length) .i32 l o b off cap (fun j => .int .i32 (l.getD j 0)) hle (by show off + l.length * 1 ≤ _; omega) (fun j lf hj => ?_) (fun j lf hj => ?_)).all
  · obtain ⟨n, hn, rfl⟩ := flat_i32 _ _ _ hj
    rw [hall j n hn, List.getD_eq_getElem?_getD, hn]; rfl
  · obtain ⟨n, hn, rfl⟩ := flat_i32 _ _ _ hj
    rw [List.getD_eq_getElem?_getD, hn]; exact .int _ _

theorem rows_of_arr {vs : List Value} {L : List (List Int)} (h : Arr w v vs) (hl : vs.length = L.length) (hr : ∀ (j : Nat) r l, vs[j]? = some r → L[j]? = some l → CRep U6 w (wm0 w) (.sl .i32 l none) r) (o : Option Nat) : CRep U6 w (wm0 w) (.sl .rs L o) v := by
  by_cases h0 : L = []
  · subst h0
    obtain ⟨a, cap, hv⟩ := h.len
    rw [hv, hl]; exact .nil _ _ _ _
  have hp := List.length_pos_iff.2 h0
  have hv0 : vs[0]? = some (vs[0]'(by omega)) := List.getElem?_eq_getElem (by omega)
  obtain ⟨b, off, cap, hv, hc0, hs, _⟩ := h.at (j := 0) hv0
  have hle : L.length ≤ cap := by
    obtain ⟨a, cap', hv', hle, _⟩ := h
    rw [hv'] at hv
    cases hv
    omega
  have hall : ∀ (j : Nat) n, vs[j]? = some n → w.cell? ⟨b, off + j, none⟩ = some n := fun j n hj => by
    obtain ⟨b', off', cap', hv', _, _, hc', _⟩ := h.at hj
    rw [hv] at hv'
    cases hv'
    exact hc'
  rw [hl] at hv
  rw [hv]
  have hget : ∀ (j : Nat) n, L[j]? = some n → ∃ r, vs[j]? = some r ∧ vs.getD j undef = r := fun j n hj => by
    have hjl := (List.getElem?_eq_some_iff.1 hj).1
    have : vs[j]? = some (vs[j]'(by omega)) := List.getElem?_eq_getElem (by omega)
    exact ⟨_, this, by rw [List.getD_eq_getElem?_getD, this]; rfl⟩
  have hwb : off + (L.length - 1) + 1 ≤ wm0 w b := by
    obtain ⟨r, hr1, _⟩ := hget (L.length - 1) _ (List.getElem?_eq_getElem (by omega))
    exact wm0_cell (hall _ r hr1)
  refine CRep.sl (U := U6) (w := w) (wm := wm0 w) .rs L o b off cap (fun j => vs.getD j undef) hle (by show off + L.length * 1 ≤ _; omega) (fun j lf hj => ?_) (fun j lf hj => ?_)
  · obtain ⟨n, hn, rfl⟩ := flat_rs _ _ _ hj
    obtain ⟨r, h1, h2⟩ := hget j n hn
    show w.cell? _ = some (vs.getD j undef)
    rw [h2]
    exact hall j r h1
  · obtain ⟨n, hn, rfl⟩ := flat_rs _ _ _ hj
    obtain ⟨r, h1, h2⟩ := hget j n hn
    show CRep U6 w (wm0 w) _ (vs.getD j undef)
    rw [h2]
    exact hr j r n h1 hn

theorem arr_of_ints {l : List Int} {o : Option Nat} (h : CRep U6 w wm (.sl .i32 l o) v) (ht : Tip w wm v 1) : Arr w v (intV l) := by
  obtain ⟨a, len, cap, hv, hle, hc⟩ := ht
  obtain ⟨a', cap', hv'⟩ := h.sl_inv
  rw [hv] at hv'
  cases hv'
  refine ⟨a, cap, by rw [hv, intV_len]; rfl, by rw [intV_len]; exact hle, ?_⟩
  by_cases h0 : cap = 0
  · exact .inl h0
  obtain ⟨b, off, c, e, fz, ha, hb, h1, h2, h3⟩ := hc.resolve_left h0
  refine .inr ⟨b, off, c, e, fz, ha, hb, by omega, fun j hj => h3 j (by omega), fun j x hj => ?_⟩
  unfold intV at hj
  rw [List.getElem?_map] at hj
  obtain ⟨n, hn, rfl⟩ := Option.map_eq_some_iff.1 hj
  have hfl := flat_i32' l j n hn
  rcases h.sl_cells u6_ok with ⟨rfl, _⟩ | ⟨b', off', cap', cs, hv', _, _, hcell, hrep⟩
  · cases (show (none : Option Int) = some n from hn)
  · rw [hv, ha] at hv'
    cases hv'
    have h5 := hcell j _ hfl
    rw [CRep.int_inv (hrep j _ hfl)] at h5
    simp [World.cell?, hb] at h5
    exact h5

/-- A list of rows whose memory is its own: no block of it below 'lo'. -/
structure Rows (w : World) (lo hi : Nat) (v : Value) (vs : List Value) (L : List (List Int)) : Prop where
  out : Arr w v vs
  len : vs.length = L.length
  row : ∀ (j : Nat) r l, vs[j]? = some r → L[j]? = some l → Arr w r (intV l)
  outlo : ∀ b, spare v = some b → lo ≤ b ∧ b < hi
  rowlo : ∀ (j : Nat) r b, vs[j]? = some r → spare r = some b → lo ≤ b ∧ b < hi
  dis : ∀ (j k : Nat) r r' b, j ≠ k → vs[j]? = some r → vs[k]? = some r' → spare r = some b → spare r' ≠ some b
  apart : ∀ (j : Nat) r b, vs[j]? = some r → spare r = some b → spare v ≠ some b

theorem Rows.rep {lo hi : Nat} {vs : List Value} {L : List (List Int)} (h : Rows w lo hi v vs L) (o : Option Nat) : CRep U6 w (wm0 w) (.sl .rs L o) v :=
  rows_of_arr h.out h.len (fun j r l hj hl => ints_of_arr (h.row j r l hj hl) none) o
theorem Rows.keep {lo hi : Nat} {vs : List Value} {L : List (List Int)} {M : Option Nat} (h : Rows w lo hi v vs L) (k : Keep w w' M) (hM : ∀ b, M = some b → ¬ (lo ≤ b ∧ b < hi)) : Rows w' lo hi v vs L :=
  { h with out := k.arr h.out fun b e hs => hM b e (h.outlo b hs), row := fun j r l hj hl => k.arr (h.row j r l hj hl) fun b e hs => hM b e (h.rowlo j r b hj hs) }

theorem rows_of_post {B : Bs} {g' : Gh} {L : List (List Int)} {w' : World} (hM : B.M = none) (p : Post U6 B g' (.one (.sl .rs L (some 1000001))) v w') : ∃ vs, Rows w' B.w.heap.size w'.heap.size v vs L := by
  have hd : (Ent.one (Leaf.sl Ty6.rs L (some 1000001) : L6) : E6).has 1000001 = true := rfl
  have hdd : deepN 1000001 = true := rfl
  obtain ⟨hrep, hown⟩ := p.rep
  obtain ⟨hv, hsz⟩ := hown _ _ _ rfl
  have ht := p.tip _ hd
  obtain ⟨hdp, hap⟩ := p.deep _ hd hdd
  have hmine := fun b => p.mine _ b hd
  rw [← hv] at ht hdp hap hmine
  rw [← hsz] at ht hdp
  have hm : ∀ b, B.w.heap.size ≤ b ∨ B.M = some b → B.w.heap.size ≤ b := fun b h => by
    rcases h with h | h
    · exact h
    · rw [hM] at h; cases h
  obtain ⟨vs, hlen, hcell, hr⟩ : ∃ vs : List Value, vs.length = L.length ∧ (∀ (j : Nat) r, vs[j]? = some r → rowAt w' v j = some r) ∧ (∀ (j : Nat) r l, vs[j]? = some r → L[j]? = some l → CRep U6 w' g'.wm (.sl .i32 l none) r) := by
    rcases hrep.sl_cells u6_ok with ⟨rfl, _⟩ | ⟨b, off, cap, cs, hv', _, _, hc, hcr⟩
    · exact ⟨[], rfl, fun j r h => by simp at h, fun j r l h => by simp at h⟩
    · have key : ∀ (j : Nat) r, ((List.range L.length).map cs)[j]? = some r → ∃ l, L[j]? = some l ∧ cs j = r := fun j r h => by
        have hjl := (List.getElem?_eq_some_iff.1 h).1
        have hjl : j < L.length := by simpa using hjl
        rw [List.getElem?_map, List.getElem?_range hjl] at h
        exact ⟨_, List.getElem?_eq_getElem hjl, by simpa using h⟩
      refine ⟨(List.range L.length).map cs, by simp, fun j r h => ?_, fun j r l h hl => ?_⟩
      · obtain ⟨l, hl, rfl⟩ := key j r h
        have hjl := (List.getElem?_eq_some_iff.1 hl).1
        rw [hv']
        show (if j < L.length then _ else none) = _
        rw [if_pos hjl]
        exact hc j _ (flat_rs' _ _ _ hl)
      · obtain ⟨l', hl', rfl⟩ := key j r h
        rw [hl] at hl'
        cases hl'
        exact hcr j _ (flat_rs' _ _ _ hl)
  have hlt : ∀ {v1 : Value} {b : Nat}, Tip w' g'.wm v1 1 → spare v1 = some b → b < w'.heap.size := fun h hs => tip_lt h hs
  refine ⟨vs, ⟨?_, hlen, fun j r l hj hl => arr_of_ints (hr j r l hj hl) (hdp.tip j r (hcell j r hj)), fun b hb => ⟨hm b (hmine b hb), hlt ht hb⟩, fun j r b hj hs => ⟨hm b (hdp.mine b ⟨j, r, hcell j r hj, hs⟩), hlt (hdp.tip j r (hcell j r hj)) hs⟩,
    fun j k r r' b hne hj hk hs => hdp.dis j k r r' b hne (hcell j r hj) (hcell k r' hk) hs, fun j r b hj hs => hap b ⟨j, r, hcell j r hj, hs⟩⟩⟩
  obtain ⟨a, len, cap, hv1, hle, hc⟩ := ht
  obtain ⟨a', cap', hv2⟩ := hrep.sl_inv
  rw [hv1] at hv2
  cases hv2
  refine ⟨a, cap, by rw [hv1, hlen]; rfl, by rw [hlen]; exact hle, ?_⟩
  by_cases h0 : cap = 0
  · exact .inl h0
  obtain ⟨b, off, c, e, fz, ha, hb, h1, h2, h3⟩ := hc.resolve_left h0
  refine .inr ⟨b, off, c, e, fz, ha, hb, by have h1' : off + cap * 1 ≤ c.size := h1; omega, fun j hj => h3 j (by show j < off + cap * 1; omega), fun j x hj => ?_⟩
  have h5 := hcell j x hj
  have hjl := (List.getElem?_eq_some_iff.1 hj).1
  rw [hv1, ha] at h5
  simp only [rowAt] at h5
  rw [if_pos (by show j < L.length; omega)] at h5
  simp [World.cell?, hb] at h5
  exact h5
end
end Go.Aev
end

section
set_option linter.unusedVariables false
namespace Go.Aev

/-- What stays but for the blocks that S names. -/
structure KeepS (w w' : World) (S : Nat → Prop) : Prop where
  os : w'.os = w.os
  tape : w'.tape = w.tape
  output : w'.output = w.output
  size : w.heap.size ≤ w'.heap.size
  heap : ∀ b, b < w.heap.size → ¬ S b → w'.heap[b]? = w.heap[b]?
section
variable {w w' w'' : World} {v : Value} {xs : List Value} {S T : Nat → Prop}
theorem KeepS.refl (w : World) (S : Nat → Prop) : KeepS w w S := ⟨rfl, rfl, rfl, Nat.le_refl _, fun _ _ _ => rfl⟩
theorem Keep.toS {M : Option Nat} (k : Keep w w' M) (h : ∀ b, M = some b → S b) : KeepS w w' S :=
  ⟨k.os, k.tape, k.output, k.size, fun b hb hs => k.heap b hb fun e => hs (h b e)⟩
theorem KeepS.mono (k : KeepS w w' S) (h : ∀ b, b < w.heap.size → S b → T b) : KeepS w w' T := ⟨k.os, k.tape, k.output, k.size, fun b hb hs => k.heap b hb fun e => hs (h b hb e)⟩
theorem KeepS.trans (k : KeepS w w' S) (l : KeepS w' w'' S) : KeepS w w'' S :=
  ⟨l.os.trans k.os, l.tape.trans k.tape, l.output.trans k.output, Nat.le_trans k.size l.size, fun b hb hs => (l.heap b (Nat.lt_of_lt_of_le hb k.size) hs).trans (k.heap b hb hs)⟩
theorem KeepS.arr (k : KeepS w w' S) (h : Arr w v xs) (hS : ∀ b, spare v = some b → ¬ S b) : Arr w' v xs :=
  h.frame fun b hb => k.heap b (h.lt hb) (hS b hb)
theorem KeepS.crep (k : KeepS w w' S) {m : Nat → Nat} {lf : L6} {v : Value} (h : CRep U6 w m lf v) (hz : ∀ b, w.heap.size ≤ b → m b = 0) (hS : ∀ b, S b → m b = 0) : CRep U6 w' m lf v :=
  h.mono u6_ok ⟨fun b off ho => World.cell?_of_block (a := ⟨b, off, none⟩) (k.heap b (by
    rcases Nat.lt_or_ge b w.heap.size with h1 | h1
    · exact h1
    · rw [hz b h1] at ho; omega) fun hs => by rw [hS b hs] at ho; omega), fun _ => Nat.le_refl _⟩

/-- Rows, each in a block of its own. -/
structure Rws (w : World) (lo hi : Nat) (vs : List Value) (L : List (List Int)) : Prop where
  len : vs.length = L.length
  row : ∀ (j : Nat) r l, vs[j]? = some r → L[j]? = some l → Arr w r (intV l)
  rowlo : ∀ (j : Nat) r b, vs[j]? = some r → spare r = some b → lo ≤ b ∧ b < hi
  dis : ∀ (j k : Nat) r r' b, j ≠ k → vs[j]? = some r → vs[k]? = some r' → spare r = some b → spare r' ≠ some b
theorem Rows.rws {lo hi : Nat} {vs : List Value} {L : List (List Int)} (h : Rows w lo hi v vs L) : Rws w lo hi vs L := ⟨h.len, h.row, h.rowlo, h.dis⟩
theorem Rows.withRws {lo hi : Nat} {vs : List Value} {L L' : List (List Int)} (h : Rows w lo hi v vs L) (r : Rws w' lo hi vs L') (ho : Arr w' v vs) : Rows w' lo hi v vs L' :=
  ⟨ho, r.len, r.row, h.outlo, r.rowlo, r.dis, h.apart⟩
theorem Rows.keepS {lo hi : Nat} {vs : List Value} {L : List (List Int)} (h : Rows w lo hi v vs L) (k : KeepS w w' S) (hS : ∀ b, lo ≤ b → b < hi → ¬ S b) : Rows w' lo hi v vs L :=
  { h with out := k.arr h.out fun b hs => hS b (h.outlo b hs).1 (h.outlo b hs).2, row := fun j r l hj hl => k.arr (h.row j r l hj hl) fun b hs => hS b (h.rowlo j r b hj hs).1 (h.rowlo j r b hj hs).2 }
theorem Rws.keepS {lo hi : Nat} {vs : List Value} {L : List (List Int)} (h : Rws w lo hi vs L) (k : KeepS w w' S) (hS : ∀ (j : Nat) r b, vs[j]? = some r → spare r = some b → ¬ S b) : Rws w' lo hi vs L :=
  { h with row := fun j r l hj hl => k.arr (h.row j r l hj hl) fun b hs => hS j r b hj hs }
theorem Rws.append {lo hi lo' hi' : Nat} {vs vs' : List Value} {L L' : List (List Int)} (h : Rws w lo hi vs L) (h' : Rws w lo' hi' vs' L') (h1 : hi ≤ lo') (h2 : lo ≤ lo') (h3 : hi ≤ hi') : Rws w lo hi' (vs ++ vs') (L ++ L') := by
  have split : ∀ (j : Nat) r, (vs ++ vs')[j]? = some r → (j < vs.length ∧ vs[j]? = some r) ∨ (vs.length ≤ j ∧ vs'[j - vs.length]? = some r) := fun j r hj => by
    by_cases hjl : j < vs.length
    · rw [List.getElem?_append_left hjl] at hj; exact .inl ⟨hjl, hj⟩
    · rw [List.getElem?_append_right (by omega)] at hj; exact .inr ⟨by omega, hj⟩
  refine ⟨by rw [List.length_append, List.length_append, h.len, h'.len], fun j r l hj hl => ?_, fun j r b hj hs => ?_, fun j k r r' b hne hj hk hs => ?_⟩
  · rcases split j r hj with ⟨a, b⟩ | ⟨a, b⟩
    · rw [List.getElem?_append_left (by rw [← h.len]; exact a)] at hl; exact h.row j r l b hl
    · rw [List.getElem?_append_right (by rw [← h.len]; exact a), ← h.len] at hl; exact h'.row _ r l b hl
  · rcases split j r hj with ⟨_, h5⟩ | ⟨_, h5⟩
    · have := h.rowlo j r b h5 hs; omega
    · have := h'.rowlo _ r b h5 hs; omega
  · rcases split j r hj with ⟨p1, h5⟩ | ⟨p1, h5⟩ <;> rcases split k r' hk with ⟨q1, h6⟩ | ⟨q1, h6⟩
    · exact h.dis j k r r' b hne h5 h6 hs
    · intro hs'
      have := h.rowlo j r b h5 hs
      have := h'.rowlo _ r' b h6 hs'
      omega
    · intro hs'
      have := h'.rowlo _ r b h5 hs
      have := h.rowlo _ r' b h6 hs'
      omega
    · exact h'.dis _ _ r r' b (by omega) h5 h6 hs
theorem Rws.left {lo hi : Nat} {vs vs' : List Value} {L L' : List (List Int)} (h : Rws w lo hi (vs ++ vs') (L ++ L')) (hl : vs.length = L.length) {lo1 hi1 : Nat} (hb : ∀ (j : Nat) r b, vs[j]? = some r → spare r = some b → lo1 ≤ b ∧ b < hi1) : Rws w lo1 hi1 vs L := by
  have up : ∀ {j : Nat} {r : Value}, vs[j]? = some r → (vs ++ vs')[j]? = some r := fun {j r} hj => by
    rw [List.getElem?_append_left (List.getElem?_eq_some_iff.1 hj).1]; exact hj
  exact ⟨hl, fun j r l hj hl => h.row j r l (up hj) (by rw [List.getElem?_append_left (List.getElem?_eq_some_iff.1 hl).1]; exact hl), hb, fun j k r r' b hne hj hk => h.dis j k r r' b hne (up hj) (up hk)⟩
theorem Rws.right {lo hi : Nat} {vs vs' : List Value} {L L' : List (List Int)} (h : Rws w lo hi (vs ++ vs') (L ++ L')) (hl : vs.length = L.length) {lo1 hi1 : Nat} (hb : ∀ (j : Nat) r b, vs'[j]? = some r → spare r = some b → lo1 ≤ b ∧ b < hi1) : Rws w lo1 hi1 vs' L' := by
  have up : ∀ {j : Nat} {r : Value}, vs'[j]? = some r → (vs ++ vs')[vs.length + j]? = some r := fun {j r} hj => by
    rw [List.getElem?_append_right (by omega), Nat.add_sub_cancel_left]; exact hj
  refine ⟨?_, fun j r l hj hl' => h.row _ r l (up hj) (by rw [hl, List.getElem?_append_right (by omega), Nat.add_sub_cancel_left]; exact hl'), hb, fun j k r r' b hne hj hk => h.dis _ _ r r' b (by omega) (up hj) (up hk)⟩
  have := h.len
  rw [List.length_append, List.length_append] at this
  omega

theorem intV_set (l : List Int) (j : Nat) (x : Int) : intV (l.set j x) = (intV l).set j (.int .i32 x) := by unfold intV; rw [List.map_set]
/-- A store into a row. -/
theorem Rws.store {lo hi : Nat} {vs : List Value} {L : List (List Int)} (h : Rws w lo hi vs L) {i j : Nat} {r : Value} {l : List Int} (hi' : vs[i]? = some r) (hl : L[i]? = some l) (hj : j < l.length) (x : Int) :
    ∃ b off cap, r = .slice (some ⟨b, off, none⟩) l.length cap ∧ spare r = some b ∧ w.cell? ⟨b, off + j, none⟩ = some (.int .i32 l[j]) ∧ w.frozen? ⟨b, off + j, none⟩ = false ∧
      Rws (w.setCell ⟨b, off + j, none⟩ (.int .i32 x)) lo hi vs (L.set i (l.set j x)) ∧ KeepS w (w.setCell ⟨b, off + j, none⟩ (.int .i32 x)) (fun k => k = b) := by
  have hr := h.row i r l hi' hl
  have hx : (intV l)[j]? = some (.int .i32 l[j]) := by unfold intV; rw [List.getElem?_map, List.getElem?_eq_getElem hj]; rfl
  obtain ⟨b, off, cap, hv, hc0, hs, hcell, hfr⟩ := hr.at hx
  have hk := keep_setCell w b (off + j) (.int .i32 x)
  have hlen := hv
  rw [intV_len] at hlen
  refine ⟨b, off, cap, hlen, hs, hcell, hfr, ⟨by rw [List.length_set]; exact h.len, fun k r' l' hk' hl' => ?_, h.rowlo, h.dis⟩, hk.toS fun b' e => by cases e; rfl⟩
  rw [List.getElem?_set] at hl'
  by_cases hik : i = k
  · subst hik
    rw [if_pos rfl, if_pos (List.getElem?_eq_some_iff.1 hl).1] at hl'
    rw [hi'] at hk'
    cases hk'; cases hl'
    rw [intV_set]
    exact hr.set (by rw [intV_len]; exact hj) hv _
  · rw [if_neg hik] at hl'
    exact hk.arr (h.row k r' l' hk' hl') fun b' e => by cases e; exact h.dis i k r r' b hik hi' hk' hs

theorem arr_prefix {a : Option Addr} {cap : Nat} {xs zs : List Value} (h : Arr w (.slice a (xs ++ zs).length cap) (xs ++ zs)) : Arr w (.slice a xs.length cap) xs := by
  obtain ⟨a', cap', hv, hle, hc⟩ := h
  cases hv
  rw [List.length_append] at hle
  refine ⟨a, cap, rfl, by omega, ?_⟩
  rcases hc with h0 | ⟨b, off, c, e, fz, ha, hb, h1, h2, h3⟩
  · exact .inl h0
  · exact .inr ⟨b, off, c, e, fz, ha, hb, h1, h2, fun j x hj => h3 j x (by rw [List.getElem?_append_left (List.getElem?_eq_some_iff.1 hj).1]; exact hj)⟩

/-- What grows out of a slice r: in r's own array, or in one that came behind. -/
def Gof (w : World) (h0 : Nat) (r : Value) (xs : List Value) (g : Value) (gs : List Value) : Prop :=
  Arr w g gs ∧ Arr w r xs ∧ h0 ≤ w.heap.size ∧ ((∃ a cap zs, r = .slice a xs.length cap ∧ gs = xs ++ zs ∧ g = .slice a gs.length cap) ∨ ∃ b, spare g = some b ∧ h0 ≤ b)
theorem gof_start (h : Arr w v xs) {h0 : Nat} (hh : h0 ≤ w.heap.size) : Gof w h0 v xs v xs := by
  refine ⟨h, h, hh, .inl ?_⟩
  obtain ⟨a, cap, hv⟩ := h.len
  exact ⟨a, cap, [], hv, by simp, hv⟩
theorem spare_cap {a : Option Addr} {n m cap : Nat} : spare (.slice a n cap) = spare (.slice a m cap) := by cases a <;> rfl
theorem gof_append {P : Program} {t u ty e : TypeId} (ht : P.underlying t = some (.slice e)) (hu : notInt P u) {i : TypeInfo} {z : Value} (hi : P.info? e = some i) (hsz : i.size = 1) (hz : i.zero = some z) (hzs : z.cells.size = 1)
    {h0 : Nat} {r g y : Value} {xs gs ys : List Value} (h : Gof w h0 r xs g gs) (hr0 : ∀ b, spare r = some b → b < h0) (hy : Arr w y ys) (hone : ∀ x ∈ ys, x.oneCell' = true) (hroom : (gs.length + ys.length) * i.bytes ≤ 140737488355328) (hbp : 0 < i.bytes) :
    ∃ g' w', (Builtin.append_ #[t, u] ty #[g, y]).run P w = .ok g' w' ∧ Gof w' h0 r xs g' (gs ++ ys) ∧ KeepS w w' (fun b => spare r = some b ∨ h0 ≤ b) := by
  obtain ⟨hg, hr, hh, hc⟩ := h
  obtain ⟨g', w', h1, h2, h3, h4, h5⟩ := arr_append (ty := ty) ht hu hi hsz hz hzs hg hy hone hroom hbp
  have hsub : ∀ b, spare g = some b → spare r = some b ∨ h0 ≤ b := fun b hb => by
    rcases hc with ⟨a, cap, zs, e1, e2, e3⟩ | ⟨b', e1, e2⟩
    · left
      rw [e1]
      rw [e3] at hb
      rw [← hb]
      exact spare_cap
    · rw [e1] at hb; cases hb; exact .inr e2
  refine ⟨g', w', h1, ⟨h2, ?_, Nat.le_trans hh h3.size, ?_⟩, h3.toS hsub⟩
  · rcases hc with ⟨a, cap, zs, e1, e2, e3⟩ | ⟨b', e1, e2⟩
    · rw [e3, e2] at h5
      rw [e1]
      exact arr_prefix h5
    · exact h3.arr hr fun b hb hs => by
        rw [e1] at hb; cases hb
        have := hr0 b' hs
        omega
  · rcases h4 with ⟨a, cap, f1, f2⟩ | ⟨b, f1, f2⟩
    · rcases hc with ⟨a', cap', zs, e1, e2, e3⟩ | ⟨b', e1, e2⟩
      · rw [e3] at f1
        cases f1
        exact .inl ⟨_, _, zs ++ ys, e1, by rw [e2, List.append_assoc], f2⟩
      · right
        refine ⟨b', ?_, e2⟩
        rw [f2, ← e1, f1]
        exact spare_cap
    · exact .inr ⟨b, f1, Nat.le_trans hh f2⟩
end
end Go.Aev
end

section
set_option linter.unusedVariables false
open Go.Lib
namespace Go.Aev

def lookV : List (Nat × Value) → Nat → Option Value
  | [], _ => none
  | (j, v) :: r, i => bif Nat.beq j i then some v else lookV r i
def evV (fr : List (Nat × Value)) : Operand → Option Value
  | .tmp t => lookV fr t
  | .const v => some v
  | _ => none
/-- What is known of a frame's slots. -/
structure Tm (a : Act) (n : Nat) (fr : List (Nat × Value)) : Prop where
  size : a.tmps.size = n
  dfr : a.defers = []
  get : ∀ i v, lookV fr i = some v → a.tmps.getD i undef = v
def AllIn (fr : List (Nat × Value)) : List (Nat × Value) → Prop
  | [] => True
  | p :: r => lookV fr p.1 = some p.2 ∧ AllIn fr r
section
variable {P : Program} {a : Act} {n : Nat} {fr fr' : List (Nat × Value)} {w w' : World} {o : Oper} {K : Act → World → Prop} {Q : Exit → Act → World → Prop}
theorem Tm.sub (tm : Tm a n fr) (h : AllIn fr fr') : Tm a n fr' := by
  refine ⟨tm.size, tm.dfr, fun i v hv => tm.get i v ?_⟩
  induction fr' with
  | nil => cases hv
  | cons p r ih =>
    obtain ⟨h1, h2⟩ := h
    unfold lookV at hv
    cases hb : Nat.beq p.1 i with
    | true =>
      rw [hb] at hv
      have := (beq_iff _ _).1 hb
      simp only [cond_true, Option.some.injEq] at hv
      rw [← this, ← hv]; exact h1
    | false => rw [hb] at hv; exact ih h2 hv
theorem Tm.ev (tm : Tm a n fr) {x : Operand} {v : Value} (h : evV fr x = some v) : a.eval x = v := by
  cases x with
  | tmp t => exact tm.get t v h
  | const c => simp only [evV, Option.some.injEq] at h; exact h
  | global g => cases h
  | func f => cases h
theorem Tm.put (tm : Tm a n fr) {d : Nat} {v : Value} (hd : Nat.blt d n = true) : Tm (a.put (some d) v) n ((d, v) :: fr) := by
  have hd' : d < n := by simpa [Nat.blt_eq] using hd
  refine ⟨by rw [size_put]; exact tm.size, by rw [defers_put]; exact tm.dfr, fun i u hu => ?_⟩
  have hlt : d < a.tmps.size := by rw [tm.size]; exact hd'
  have hg : (a.put (some d) v).tmps.getD i undef = if d = i then v else a.tmps.getD i undef := getD_put a d i v hlt
  rw [hg]
  unfold lookV at hu
  cases hb : Nat.beq d i with
  | true =>
    rw [hb] at hu
    simp only [cond_true, Option.some.injEq] at hu
    rw [if_pos ((beq_iff _ _).1 hb), hu]
  | false =>
    rw [hb] at hu
    rw [if_neg fun e => by rw [(beq_iff _ _).2 e] at hb; cases hb]
    exact tm.get i u hu

theorem w_val (tm : Tm a n fr) {d : Nat} {v : Value} (hdst : o.dst = some d) (hd : Nat.blt d n = true) (hrun : (execOp a.eval o).run P w = .ok (.value v) w') (hk : ∀ a', Tm a' n ((d, v) :: fr) → K a' w') : o.wp P a w K Q := by
  refine wp_value hrun ?_
  rw [hdst]
  exact hk _ (tm.put hd)
theorem w_move (tm : Tm a n fr) {d : Nat} {x : Operand} {v : Value} (hdst : o.dst = some d) (hop : o.op = .move x) (hd : Nat.blt d n = true) (hx : evV fr x = some v) (hk : ∀ a', Tm a' n ((d, v) :: fr) → K a' w) : o.wp P a w K Q :=
  w_val tm hdst hd (by simp [execOp, hop, tm.ev hx]) hk
theorem w_assign (tm : Tm a n fr) {d : Nat} {x : Operand} {v : Value} (hdst : o.dst = some d) (hop : o.op = .assign x) (hd : Nat.blt d n = true) (hx : evV fr x = some v) (hk : ∀ a', Tm a' n ((d, v) :: fr) → K a' w) : o.wp P a w K Q :=
  w_val tm hdst hd (by simp [execOp, hop, tm.ev hx]) hk
theorem w_len (tm : Tm a n fr) {d : Nat} {x : Operand} {c : Call} {p : Option Addr} {l cp : Nat} {t e : TypeId} (ht : P.underlying t = some (.slice e)) (hdst : o.dst = some d) (hop : o.op = .call c) (hcal : c.callee = .builtin .len) (hargs : c.args = #[x]) (htys : c.argTypes = #[t]) (hd : Nat.blt d n = true) {vx : Value} (hx : evV fr x = some vx) (hv : vx = .slice p l cp) (hk : ∀ a', Tm a' n ((d, .int .i64 l) :: fr) → K a' w) : o.wp P a w K Q :=
  w_val tm hdst hd (by simp [execOp, hop, resolve, hcal, hargs, htys, tm.ev hx, hv, invoke, builtin, Builtin.len_, run_underlying ht, goInt]) hk
theorem w_int (tm : Tm a n fr) {d : Nat} {op : BinOp} {t yt : TypeId} {x y : Operand} {k0 : IntKind} {i j : Int} {v : Value} (hdst : o.dst = some d) (hop : o.op = .binOp op t x y yt) (hd : Nat.blt d n = true) (hx : evV fr x = some (.int k0 i)) (hy : evV fr y = some (.int k0 j))
    (hv : ∀ w : World, (binOp op t (.int k0 i) (.int k0 j)).run P w = .ok v w) (hk : ∀ a', Tm a' n ((d, v) :: fr) → K a' w) : o.wp P a w K Q :=
  w_val tm hdst hd (by simp [execOp, hop, tm.ev hx, tm.ev hy, eqGuard_at_int, hv]) hk
theorem w_lss (tm : Tm a n fr) {d : Nat} {t yt : TypeId} {x y : Operand} {k0 : IntKind} {i j : Int} (hdst : o.dst = some d) (hop : o.op = .binOp .lss t x y yt) (hd : Nat.blt d n = true) (hx : evV fr x = some (.int k0 i)) (hy : evV fr y = some (.int k0 j))
    (hk : ∀ a', Tm a' n ((d, .bool (decide (i < j))) :: fr) → K a' w) : o.wp P a w K Q :=
  w_int tm hdst hop hd hx hy (fun w => by simp [binOp, Op.intCmp]) hk
theorem w_add (tm : Tm a n fr) {d : Nat} {t yt : TypeId} {x y : Operand} {k0 : IntKind} {i j : Int} (hdst : o.dst = some d) (hop : o.op = .binOp .add t x y yt) (hd : Nat.blt d n = true) (hx : evV fr x = some (.int k0 i)) (hy : evV fr y = some (.int k0 j))
    (hk : ∀ a', Tm a' n ((d, .int k0 (k0.wrap (i + j))) :: fr) → K a' w) : o.wp P a w K Q :=
  w_int tm hdst hop hd hx hy (fun w => by simp [binOp, Op.intArith]) hk
theorem w_sub (tm : Tm a n fr) {d : Nat} {t yt : TypeId} {x y : Operand} {k0 : IntKind} {i j : Int} (hdst : o.dst = some d) (hop : o.op = .binOp .sub t x y yt) (hd : Nat.blt d n = true) (hx : evV fr x = some (.int k0 i)) (hy : evV fr y = some (.int k0 j))
    (hk : ∀ a', Tm a' n ((d, .int k0 (k0.wrap (i - j))) :: fr) → K a' w) : o.wp P a w K Q :=
  w_int tm hdst hop hd hx hy (fun w => by simp [binOp, Op.intArith]) hk
theorem w_neq (tm : Tm a n fr) {d : Nat} {t yt : TypeId} {x y : Operand} {k0 : IntKind} {i j : Int} (hdst : o.dst = some d) (hop : o.op = .binOp .neq t x y yt) (hd : Nat.blt d n = true) (hx : evV fr x = some (.int k0 i)) (hy : evV fr y = some (.int k0 j))
    (hk : ∀ a', Tm a' n ((d, .bool (i != j)) :: fr) → K a' w) : o.wp P a w K Q :=
  w_int tm hdst hop hd hx hy (fun w => by simp [binOp, Op.intCmp]) hk
theorem w_not (tm : Tm a n fr) {d : Nat} {t : TypeId} {x : Operand} {b : Bool} (hdst : o.dst = some d) (hop : o.op = .unOp .not t x) (hd : Nat.blt d n = true) (hx : evV fr x = some (.bool b)) (hk : ∀ a', Tm a' n ((d, .bool (!b)) :: fr) → K a' w) : o.wp P a w K Q :=
  w_val tm hdst hd (by simp [execOp, hop, tm.ev hx, Op.unary]) hk
theorem w_pick (tm : Tm a n fr) {d : Nat} {c x y : Operand} {v : Value} (hdst : o.dst = some d) (hop : o.op = .pick c x y) (hd : Nat.blt d n = true) (hc : evV fr c = some (.bool false)) (hy : evV fr y = some v) (hk : ∀ a', Tm a' n ((d, v) :: fr) → K a' w) : o.wp P a w K Q :=
  w_val tm hdst hd (by simp [execOp, hop, tm.ev hc, tm.ev hy, asBool]) hk
theorem w_conv (tm : Tm a n fr) {d : Nat} {src dst : TypeId} {k1 k0 k2 : IntKind} {x : Operand} {i : Int} (hs : P.underlying src = some (.int k1)) (ht : P.underlying dst = some (.int k0)) (hdst : o.dst = some d) (hop : o.op = .convert src dst x) (hd : Nat.blt d n = true) (hx : evV fr x = some (.int k2 i))
    (hk : ∀ a', Tm a' n ((d, .int k0 (k0.wrap i)) :: fr) → K a' w) : o.wp P a w K Q :=
  w_val tm hdst hd (by simp [execOp, hop, tm.ev hx, convert, run_underlying hs, run_underlying ht, Conv.intToInt]) hk
theorem w_idx (tm : Tm a n fr) {d : Nat} {t e : TypeId} {x i : Operand} {b off l cp : Nat} {j : Int} {m : Nat} {ie : TypeInfo} (ht : P.underlying t = some (.slice e)) (hie : P.info? e = some ie) (hsz : ie.size = 1) (hdst : o.dst = some d) (hop : o.op = .indexAddr t x i) (hd : Nat.blt d n = true)
    {vx : Value} (hx : evV fr x = some vx) (hv : vx = .slice (some ⟨b, off, none⟩) l cp) (hi : evV fr i = some (.int .i64 j)) (hj : j = (m : Int)) (hm : m < l) (hk : ∀ a', Tm a' n ((d, .pointer (some ⟨b, off + m, none⟩)) :: fr) → K a' w) : o.wp P a w K Q := by
  subst hj
  have hadd : (Addr.mk b off none).add (m * 1) = ⟨b, off + m, none⟩ := by rw [Addr.add_lit, Nat.mul_one]
  refine w_val (v := .pointer (some ⟨b, off + m, none⟩)) (w' := w) tm hdst hd ?_ hk
  have h0 : (0 : Int) ≤ (m : Int) := by omega
  have h1 : (m : Int) < (l : Int) := by omega
  simp [execOp, hop, tm.ev hx, hv, tm.ev hi, Instr.indexAt, asIntOf, run_underlying ht, h0, h1, Go.sizeOf, typeInfo, hie, hsz, h1, hm, Nat.not_le.2 hm]
  rw [← hadd, Nat.mul_one]
theorem w_load (tm : Tm a n fr) {d : Nat} {t : TypeId} {x : Operand} {ad : Addr} {v : Value} (hag : ∀ w : World, (isAgg t).run P w = .ok false w) (hdst : o.dst = some d) (hop : o.op = .load t x) (hd : Nat.blt d n = true)
    (hx : evV fr x = some (.pointer (some ad))) (hc : w.cell? ad = some v) (hk : ∀ a', Tm a' n ((d, v) :: fr) → K a' w) : o.wp P a w K Q :=
  w_val tm hdst hd (by simp [execOp, hop, tm.ev hx, Instr.loadAt, Instr.sureAddr, loadVar, hag, hc]) hk
theorem w_store (tm : Tm a n fr) {t : TypeId} {x y : Operand} {b off : Nat} {v u : Value} {ie : TypeInfo} (hie : P.info? t = some ie) (hsz : ie.size = 1) (hdst : o.dst = none) (hop : o.op = .store t x y)
    (hx : evV fr x = some (.pointer (some ⟨b, off, none⟩))) (hy : evV fr y = some v) (hv : v.cells = #[v]) (hone : v.oneCell' = true) (hc : w.cell? ⟨b, off, none⟩ = some u) (hf : w.frozen? ⟨b, off, none⟩ = false) (hk : K a (w.setCell ⟨b, off, none⟩ v)) : o.wp P a w K Q := by
  have hst := run_store P w ⟨b, off, none⟩ v .plain hone
  simp only [hc, hf] at hst
  have hadd : (Addr.mk b off none).add 0 = ⟨b, off, none⟩ := by rw [Addr.add_lit, Nat.add_zero]
  have hrun : (execOp a.eval o).run P w = .ok .skip (w.setCell ⟨b, off, none⟩ v) := by
    have hsz' : (Go.sizeOf t).run P w = .ok 1 w := by simp [Go.sizeOf, typeInfo, hie, hsz]
    have hcs : (storeCells ⟨b, off, none⟩ [v]).run P w = .ok () (w.setCell ⟨b, off, none⟩ v) := by
      simp [storeCells, hadd, hst]
    simp [execOp, hop, tm.ev hx, tm.ev hy, Instr.storeAt, Instr.sureAddr, storeVar, hsz', hv, hcs]
  unfold Oper.wp
  rw [hrun, Oper.upon_skip, hdst]
  exact hk

theorem w_call (tm : Tm a n fr) {d : Nat} {c : Call} {f : FuncId} {vs : List Value} {R : Ending → World → Prop} (hdst : o.dst = some d) (hop : o.op = .call c) (hcal : c.callee = .value (.func f)) (hent : ∀ args w, (callFunc f args).run P w = .ok (.enter f args) w)
    (hd : Nat.blt d n = true) (hargs : c.args.toList.map a.eval = vs) (hc : Calls P f vs.toArray w R) (hk : ∀ e w', R e w' → ∃ v, e = .returned v ∧ ∀ a', Tm a' n ((d, v) :: fr) → K a' w') : o.wp P a w K Q := by
  have hex : (execOp a.eval o).run P w = .ok (.enter f (c.args.toList.map a.eval).toArray) w := by
    simp [execOp, hop, resolve, hcal, Act.eval, Deferred.ofValue, invoke, hent]
    apply Array.ext'; simp
  unfold Oper.wp
  rw [hex, Oper.upon_enter, hargs]
  refine hc.mono fun e w' hw' => ?_
  obtain ⟨v, rfl, hv⟩ := hk e w' hw'
  rw [hdst]
  exact hv _ (tm.put hd)
theorem args1 (tm : Tm a n fr) {c : Call} {x : Operand} {v : Value} (h : c.args = #[x]) (hx : evV fr x = some v) : c.args.toList.map a.eval = [v] := by rw [h]; simp [tm.ev hx]
theorem args2 (tm : Tm a n fr) {c : Call} {x y : Operand} {v u : Value} (h : c.args = #[x, y]) (hx : evV fr x = some v) (hy : evV fr y = some u) : c.args.toList.map a.eval = [v, u] := by rw [h]; simp [tm.ev hx, tm.ev hy]
theorem wpList_on {ops : Array Oper} {rest : List Oper} (tm : Tm a n fr) {j g : Nat} {want : Bool} (hg : o.guard = some (j, want)) (hj : (ops[j]?).bind (·.dst) = some g) (hn : Nat.blt g n = true) (hv : lookV fr g = some (.bool want))
    (h : ∀ K : Act → World → Prop, (∀ a w, wpList P ops Q rest a w → K a w) → o.wp P a w K Q) : wpList P ops Q (o :: rest) a w := by
  have hlt : g < a.tmps.size := by rw [tm.size]; simpa [Nat.blt_eq] using hn
  have hval := tm.get g _ hv
  have hget : a.tmps[g]? = some (.bool want) := by
    rw [Array.getD_eq_getD_getElem?, Array.getElem?_eq_getElem hlt] at hval
    rw [Array.getElem?_eq_getElem hlt]
    simpa using hval
  have hy : yielded ops a.tmps j = some want := by
    unfold yielded
    rw [hj]
    simp [hget]
  refine wpList_step fun K hK => ?_
  simp only [Region.wanted, hg, hy]
  simp
  exact h K hK
theorem run_build1 {t e : TypeId} {ie : TypeInfo} {z v : Value} (ht : P.underlying t = some (.slice e)) (hie : P.info? e = some ie) (hsz : ie.size = 1) (hz : ie.zero = some z) (hv : v.cells = #[v]) {ps : Array (Nat × Value)} (hps : ps.toList = [(0, v)]) :
    (Instr.buildSlice t 1 ps).run P w = .ok (.slice (some ⟨w.heap.size, 0, none⟩) 1 1) (w.alloc (.cells #[v] e)) := by
  refine run_buildSlice w t e 1 _ _ ie z ht hie hz (by rw [hsz]; omega) (by rw [hsz]; omega) ?_
  have h2 : ps.toList = ([v].zipIdx 0).map fun x => (x.2, x.1) := by rw [hps]; rfl
  rw [h2, hsz]
  exact Great.fill_flat [v] _ (fun u hu => by rcases List.mem_singleton.1 hu with rfl; exact hv) (by simp)
theorem w_build1 (tm : Tm a n fr) {d : Nat} {t e : TypeId} {ps : Array (Nat × Operand)} {x : Operand} {ie : TypeInfo} {z v : Value} (ht : P.underlying t = some (.slice e)) (hie : P.info? e = some ie) (hsz : ie.size = 1) (hz : ie.zero = some z) (hdst : o.dst = some d) (hop : o.op = .buildSlice t 1 ps) (hps : ps = #[(0, x)]) (hd : Nat.blt d n = true)
    (hx : evV fr x = some v) (hv : v.cells = #[v]) (hk : ∀ a', Tm a' n ((d, .slice (some ⟨w.heap.size, 0, none⟩) 1 1) :: fr) → K a' (w.alloc (.cells #[v] e))) : o.wp P a w K Q := by
  have hrun := run_build1 (P := P) (w := w) ht hie hsz hz hv (ps := ps.map fun (j, x) => (j, a.eval x)) (by rw [hps]; simp [tm.ev hx])
  exact w_val tm hdst hd (by simp [execOp, hop, hrun]) hk
theorem arr_built1 {e : TypeId} {v : Value} : Arr (w.alloc (.cells #[v] e)) (.slice (some ⟨w.heap.size, 0, none⟩) 1 1) [v] :=
  arr_new (w := w) (w1 := w.alloc (.cells #[v] e)) (c := #[v]) (e := e) (xs := [v]) (cap := 1) rfl (Nat.le_refl _) (by simp) (fun j x hj => by simpa using hj)
theorem w_append (tm : Tm a n fr) {d : Nat} {c : Call} {t u : TypeId} {x y : Operand} {vx vy v' : Value} (hdst : o.dst = some d) (hop : o.op = .call c) (hcal : c.callee = .builtin .append) (hargs : c.args = #[x, y]) (htys : c.argTypes = #[t, u]) (hd : Nat.blt d n = true)
    (hx : evV fr x = some vx) (hy : evV fr y = some vy) (hrun : (Builtin.append_ #[t, u] o.type #[vx, vy]).run P w = .ok v' w') (hk : ∀ a', Tm a' n ((d, v') :: fr) → K a' w') : o.wp P a w K Q :=
  w_val tm hdst hd (by simp [execOp, hop, resolve, hcal, hargs, htys, invoke, builtin, tm.ev hx, tm.ev hy, hrun]) hk

/-! ### parts of a body -/
end
end Go.Aev
end
