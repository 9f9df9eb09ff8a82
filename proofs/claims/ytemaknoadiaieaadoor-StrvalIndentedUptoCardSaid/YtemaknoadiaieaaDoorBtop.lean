/- Proved here: lemmas of an evaluator over the model's code that the claim's text uses (TopB). Conditions: those that each lemma states. -/
import Derived.Test.YtemaknoadiaieaaDoorBpD
import Derived.WalkKit
import Derived.ProofKit
import Derived.OpenShut
import Derived.ChangeMaps5
import Derived.Deep.Matrix
import Derived.Deep.DeepHandedRow
import Derived.SizedLaws
import Derived.Carry
import Derived.PinnedBridge
import Derived.Lib.LaidU8T
import Derived.Lib.LaidTab
section
set_option linter.unusedVariables false
namespace Go.Aev
open Go.Proofs Go.ChangeShapes Go.WideShapes Go.ChangeAt Go.RowKit Go.Deep Go.Proofs.YtemaknoadiaieaaDoor
def wm0 (W : World) (b : Nat) : Nat := match W.heap[b]? with | some (.cells c _ _) => c.size | _ => 0
theorem wm0_zero (W : World) (b : Nat) (h : W.heap.size ≤ b) : wm0 W b = 0 := by
  unfold wm0; rw [Array.getElem?_eq_none h]
theorem wm0_cell {W : World} {b off : Nat} {v : Value} (h : W.cell? ⟨b, off, none⟩ = some v) : off + 1 ≤ wm0 W b := by
  unfold World.cell? at h
  unfold wm0
  dsimp only at h
  split at h
  · rename_i c t fr he
    rw [he]
    simp at h
    have := (Array.getElem?_eq_some_iff.1 h).1
    exact this
  · cases h

theorem laidOutD : laidOutB Tryd.prog = true := by kernel_rfl
theorem cells21 : Tryd.prog.cellsOf 21 = 1 := by kernel_rfl
def i32Leaf (n : Int) : L6 := .int .i32 n
def rsLeaf (n : List Int) : L6 := .sl .i32 n none
theorem flat_i32 (l : List Int) (j : Nat) (lf : L6) (h : (flat U6 .i32 l)[j]? = some lf) : ∃ n, l[j]? = some n ∧ lf = .int .i32 n := by
  have h1 : flat U6 .i32 l = l.map i32Leaf := flat_ints l
  rw [h1, List.getElem?_map] at h
  obtain ⟨n, hn, rfl⟩ := Option.map_eq_some_iff.1 h
  exact ⟨n, hn, rfl⟩
theorem ints_rep' {W : World} {l : List Int} {b off C : Nat} {V : Nat → Int} (hl : l.length ≤ C) (hcell : ∀ c, c < C → W.cell? ⟨b, off + c, none⟩ = some (.int .i32 (V c))) (hV : ∀ (j : Nat) (n : Int), l[j]? = some n → V j = n) :
    CRep U6 W (wm0 W) (.sl .i32 l none) (.slice (some ⟨b, off, none⟩) l.length C) := by
  by_cases h0 : l.length = 0
  · have : l = [] := List.eq_nil_of_length_eq_zero h0
    subst this
    exact .nil _ _ _ _
  · refine CRep.sl (U := U6) (w := W) (wm := wm0 W) .i32 l none b off C (fun j => .int .i32 (V j)) hl ?_ (fun j lf hj => ?_) (fun j lf hj => ?_)
    · have := wm0_cell (hcell (l.length - 1) (by omega))
      show off + l.length * 1 ≤ _
      omega
    · obtain ⟨n, hn, rfl⟩ := flat_i32 _ _ _ hj
      have hjl := (List.getElem?_eq_some_iff.1 hn).1
      exact hcell j (by omega)
    · obtain ⟨n, hn, rfl⟩ := flat_i32 _ _ _ hj
      rw [hV j n hn]
      exact .int _ _

theorem ints_rep {W : World} {A : Option Addr} {L C : Nat} {zs : List Int} (hLC : L ≤ C) (hz : zs.length = C) (hA : A = none → C = 0) (hc : ∀ a', A = some a' → ∀ c, c < C → W.cell? (a'.add c) = some (.int .i32 (zs.getD c 0))) :
    CRep U6 W (wm0 W) (.sl .i32 (zs.take L) none) (.slice A L C) := by
  by_cases hL : L = 0
  · subst hL; exact .nil _ _ _ _
  cases A with
  | none => have := hA rfl; omega
  | some a =>
    obtain ⟨b, off, spot⟩ := a
    have h0 := hc _ rfl 0 (by omega)
    have hs : spot = none := by
      have := World.cell?_spot h0
      unfold Addr.add at this
      simpa using this
    subst hs
    have hlen : (zs.take L).length = L := by rw [List.length_take]; omega
    have := ints_rep' (W := W) (l := zs.take L) (b := b) (off := off) (C := C) (V := fun c => zs.getD c 0) (by omega) (fun c hc' => by rw [← add_plain]; exact hc _ rfl c hc') (fun j n hn => by
      rw [List.getElem?_take] at hn
      split at hn
      · rw [List.getD_eq_getElem?_getD, hn]; rfl
      · cases hn)
    rw [hlen] at this
    exact this

theorem bulk_one {H : Type} (d : DataW H) : 1 ≤ Rows.uptoBulk d := by
  cases d with
  | lit l => cases l <;> simp [Rows.uptoBulk]
  | nil => simp [Rows.uptoBulk]
  | ptr d => simp [Rows.uptoBulk]
  | slice elems spare => simp [Rows.uptoBulk]
  | agg parts => simp [Rows.uptoBulk]
  | iface t d => simp [Rows.uptoBulk]
  | map entries => simp [Rows.uptoBulk]
  | held h => simp [Rows.uptoBulk]
theorem bulk_part {H : Type} {d : DataW H} {l : List (DataW H)} (h : d ∈ l) : Rows.uptoBulk d ≤ Rows.uptoBulkAll l := by
  induction l with
  | nil => cases h
  | cons x r ih =>
    simp only [Rows.uptoBulkAll]
    cases List.mem_cons.1 h with
    | inl e => subst e; omega
    | inr e => have := ih e; omega
theorem bulk_len {H : Type} (l : List (DataW H)) : l.length ≤ Rows.uptoBulkAll l := by
  induction l with
  | nil => simp [Rows.uptoBulkAll]
  | cons x r ih => have := bulk_one x; simp only [Rows.uptoBulkAll, List.length_cons]; omega
theorem bulk_bound {H : Type} {l : List (DataW H)} (hk : Rows.uptoSmall H l = true) : Rows.uptoBulkAll l ≤ 1048576 := of_decide_eq_true hk

section
variable {H : Type} {enc : TypeId × Value → H} {W : World}
theorem ints_openU {a0 : Option Addr} {l0 c0 : Nat} {d : DataW H} {ps : List MemPlace} (h : DataW.Trod enc Tryd.prog W 0 (fun _ => true) true 28 (.slice a0 l0 c0) d ps) :
    ∃ l : List Int, CRep U6 W (wm0 W) (.sl .i32 l none) (.slice a0 l0 c0) ∧ l.length ≤ Rows.uptoBulk d := by
  obtain ⟨fuel, hf⟩ := h
  rcases open_ints Tryd.underlying28 Tryd.underlying21 cells21 hf with ⟨hcs, hx⟩ | ⟨a, len, cap, zs, hcs, _, hl, hm, hz, hx, hcell, hwz⟩
  · simp [Value.cells] at hcs
    obtain ⟨rfl, rfl, rfl⟩ := hcs
    exact ⟨[], .nil _ _ _ _, Nat.zero_le _⟩
  · simp [Value.cells] at hcs
    obtain ⟨rfl, rfl, rfl⟩ := hcs
    simp only [if_true] at hz
    simp only [Prod.mk.injEq] at hx
    obtain ⟨rfl, rfl⟩ := hx
    refine ⟨zs.take l0, ints_rep hl hz (fun e => by cases e) (fun a' ha c hc => by cases ha; exact hcell c (by omega)), ?_⟩
    have := bulk_len (lits (H := H) .i32 (zs.take l0))
    simp only [lits, List.length_map] at this
    simp only [Rows.uptoBulk, lits]
    omega

/-- A call of a function with a result of its own leaves the old memory as it was. -/
theorem below_of_post {Wm : Nat → Nat} {g' : Gh} {r : E6} {v : Value} {w' : World} (hp : Post U6 ⟨W, Wm, none⟩ g' r v w') : Below W.heap.size W w' :=
  ⟨hp.os, hp.tape, hp.output, hp.size, fun b hb => (hp.frame b hb (fun e => by cases e)).1⟩
end

/-! ### the tables -/
theorem u8extra : U8Extra Tryd.prog Tryd.lays196_ren := { n3 := by kernel_rfl, n4 := by kernel_rfl, y3 := by kernel_rfl, y4 := by kernel_rfl, c5 := by kernel_rfl, c119 := by kernel_rfl, c138 := by kernel_rfl }
theorem accept_eq : Rows.laid_unicode_utf8_acceptRanges = Lib.acceptData := by kernel_rfl
theorem first_eq : Rows.laid_unicode_utf8_first = Lib.firstData := Pinned.utf8First_eq
def laidL : List (String × DataW Unit) := [("unicode/utf8.acceptRanges", Rows.laid_unicode_utf8_acceptRanges), ("unicode/utf8.first", Rows.laid_unicode_utf8_first)]
theorem laidL_handles : (laidL.filter fun x => x.2.handleName?.isSome) = [] := by kernel_rfl
theorem laidL_met {W : World} (h : laidMetH Tryd.prog laidL W) : laidMet Tryd.prog laidL W := by
  unfold laidMetH at h
  rw [laidL_handles] at h
  exact h
theorem ib_of_laid {W : World} (h : laidMetH Tryd.prog laidL W) : IB W (wm0 W) := by
  have h1 := laidL_met h
  have h2 := Lib.laidMet.reads h1 (n := "unicode/utf8.acceptRanges") (d := Rows.laid_unicode_utf8_acceptRanges) (by unfold laidL; exact List.mem_cons_self)
  have h3 := Lib.laidMet.reads h1 (n := "unicode/utf8.first") (d := Rows.laid_unicode_utf8_first) (by unfold laidL; exact List.mem_cons_of_mem _ List.mem_cons_self)
  rw [accept_eq] at h2
  rw [first_eq] at h3
  have h4 : Lib.Utf8Tabs 0 1 W := utf8Tabs_of_readsT (U8Types.of196 Tryd.lays196) u8extra h3 h2
  exact ⟨h4, wm0_cell (h4.1 255 (by decide)), wm0_cell (h4.2 15 (by decide)).2⟩

def putCells (c : Array Value) : Obj → Obj
  | .cells _ t frozen => .cells c t frozen
  | o => o
/-- A world for the witness: the settled one, the two tables holding what the row lists. -/
def layTabs (W : World) : World :=
  { W with heap := (W.heap.modify 0 (putCells (Lib.firstTab.map fun z => Value.int .u8 z).toArray)).modify 1 (putCells ((List.range 16).flatMap fun i => [Value.int .u8 (Lib.accLo i : Int), Value.int .u8 (Lib.accHi i : Int)]).toArray) }
theorem laid_met (os : Os) (args : Array Value) : laidMet Tryd.prog laidL ((layTabs (World.holding Tryd.prog os ⟨#[], #[], []⟩)).forCall (fun _ _ => 0) ⟨#[], args, []⟩).memory :=
  laidMet_of_run' 8 (by kernel_rfl) (by kernel_rfl)
end Go.Aev
end
