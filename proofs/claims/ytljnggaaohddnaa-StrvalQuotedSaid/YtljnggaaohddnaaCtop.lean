/- Proved here: lemmas of an evaluator over the model's code that the claim's text uses (Top). Conditions: those that each lemma states. -/
import Derived.Test.YtljnggaaohddnaaCdedB
import Derived.WalkKit
import Derived.ProofKit
import Derived.OpenShut
import Derived.Deep.Matrix
import Derived.SizedLaws
import Derived.Carry
section
set_option linter.unusedVariables false
namespace Go.Aev
open Go.Proofs Go.ChangeShapes Go.WideShapes Go.ChangeAt Go.RowKit Go.Deep

def wm0 (W : World) (b : Nat) : Nat := match W.heap[b]? with | some (.cells c _ _) => c.size | _ => 0
theorem wm0_zero (W : World) (b : Nat) (h : W.heap.size ≤ b) : wm0 W b = 0 := by
  unfold wm0; rw [Array.getElem?_eq_none h]
theorem wm0_cell {W : World} {b off : Nat} {v : Value} (h : W.cell? ⟨b, off, none⟩ = some v) : off + 1 ≤ wm0 W b := by
  unfold World.cell? at h
  unfold wm0
  dsimp only at h
  split at h
  · rename_i c t fr he
    rw [he]
    simp at h
    have := (Array.getElem?_eq_some_iff.1 h).1
    exact this
  · cases h

theorem laidOut6 : laidOutB Try.prog = true := by kernel_rfl
theorem cells25 : Try.prog.cellsOf 25 = 1 := by kernel_rfl
theorem cells21 : Try.prog.cellsOf 21 = 1 := by kernel_rfl
theorem bytes25 : Try.prog.bytesOf 25 = 24 := by kernel_rfl
theorem bytes21 : Try.prog.bytesOf 21 = 4 := by kernel_rfl
theorem reach6 : reachBytes = 140737488351232 := rfl

def i32Leaf (n : Int) : L6 := .int .i32 n
def rsLeaf (n : List Int) : L6 := .sl .i32 n none
theorem flat_i32 (l : List Int) (j : Nat) (lf : L6) (h : (flat U6 .i32 l)[j]? = some lf) : ∃ n, l[j]? = some n ∧ lf = .int .i32 n := by
  have h1 : flat U6 .i32 l = l.map i32Leaf := flat_ints l
  rw [h1, List.getElem?_map] at h
  obtain ⟨n, hn, rfl⟩ := Option.map_eq_some_iff.1 h
  exact ⟨n, hn, rfl⟩
theorem flat_rsLeaf (l : List (List Int)) : l.flatMap (fun n => [rsLeaf n]) = l.map rsLeaf := by
  induction l with
  | nil => rfl
  | cons x l ih => simp [ih]
theorem flat_rs (l : List (List Int)) (j : Nat) (lf : L6) (h : (flat U6 .rs l)[j]? = some lf) : ∃ n : List Int, l[j]? = some n ∧ lf = .sl .i32 n none := by
  have h1 : flat U6 .rs l = l.map rsLeaf := flat_rsLeaf l
  rw [h1, List.getElem?_map] at h
  obtain ⟨n, hn, rfl⟩ := Option.map_eq_some_iff.1 h
  exact ⟨n, hn, rfl⟩

theorem ints_rep' {W : World} {l : List Int} {b off C : Nat} {V : Nat → Int} (hl : l.length ≤ C) (hcell : ∀ c, c < C → W.cell? ⟨b, off + c, none⟩ = some (.int .i32 (V c))) (hV : ∀ (j : Nat) (n : Int), l[j]? = some n → V j = n) :
    CRep U6 W (wm0 W) (.sl .i32 l none) (.slice (some ⟨b, off, none⟩) l.length C) := by
  by_cases h0 : l.length = 0
  · have : l = [] := List.eq_nil_of_length_eq_zero h0
    subst this
    exact .nil _ _ _ _
  · refine CRep.sl (U := U6) (w := W) (wm := wm0 W) .i32 l none b off C (fun j => .int .i32 (V j)) hl ?_ (fun j lf hj => ?_) (fun j lf hj => ?_)
    · have := wm0_cell (hcell (l.length - 1) (by omega))
      show off + l.length * 1 ≤ _
      omega
    · obtain ⟨n, hn, rfl⟩ := flat_i32 _ _ _ hj
      have hjl := (List.getElem?_eq_some_iff.1 hn).1
      exact hcell j (by omega)
    · obtain ⟨n, hn, rfl⟩ := flat_i32 _ _ _ hj
      rw [hV j n hn]
      exact .int _ _

theorem ints_rep {W : World} {A : Option Addr} {L C : Nat} {zs : List Int} (hLC : L ≤ C) (hz : zs.length = C) (hA : A = none → C = 0) (hc : ∀ a', A = some a' → ∀ c, c < C → W.cell? (a'.add c) = some (.int .i32 (zs.getD c 0))) :
    CRep U6 W (wm0 W) (.sl .i32 (zs.take L) none) (.slice A L C) := by
  by_cases hL : L = 0
  · subst hL; exact .nil _ _ _ _
  cases A with
  | none => have := hA rfl; omega
  | some a =>
    obtain ⟨b, off, spot⟩ := a
    have h0 := hc _ rfl 0 (by omega)
    have hs : spot = none := by
      have := World.cell?_spot h0
      unfold Addr.add at this
      simpa using this
    subst hs
    have hlen : (zs.take L).length = L := by rw [List.length_take]; omega
    have := ints_rep' (W := W) (l := zs.take L) (b := b) (off := off) (C := C) (V := fun c => zs.getD c 0) (by omega) (fun c hc' => by rw [← add_plain]; exact hc _ rfl c hc') (fun j n hn => by
      rw [List.getElem?_take] at hn
      split at hn
      · rw [List.getD_eq_getElem?_getD, hn]; rfl
      · cases hn)
    rw [hlen] at this
    exact this

theorem rows_rep' {W : World} {l : List (List Int)} {b off C : Nat} {V : Nat → Value} (hl : l.length ≤ C) (hcell : ∀ c, c < C → W.cell? ⟨b, off + c, none⟩ = some (V c)) (hV : ∀ (j : Nat) (n : List Int), l[j]? = some n → CRep U6 W (wm0 W) (.sl .i32 n none) (V j)) :
    CRep U6 W (wm0 W) (.sl .rs l none) (.slice (some ⟨b, off, none⟩) l.length C) := by
  by_cases h0 : l.length = 0
  · have : l = [] := List.eq_nil_of_length_eq_zero h0
    subst this
    exact .nil _ _ _ _
  · refine CRep.sl (U := U6) (w := W) (wm := wm0 W) .rs l none b off C V hl ?_ (fun j lf hj => ?_) (fun j lf hj => ?_)
    · have := wm0_cell (hcell (l.length - 1) (by omega))
      show off + l.length * 1 ≤ _
      omega
    · obtain ⟨n, hn, rfl⟩ := flat_rs _ _ _ hj
      have hjl := (List.getElem?_eq_some_iff.1 hn).1
      exact hcell j (by omega)
    · obtain ⟨n, hn, rfl⟩ := flat_rs _ _ _ hj
      exact hV j n hn

section
variable {H : Type} {enc : TypeId × Value → H} {W : World}

theorem ints_open {a0 : Option Addr} {l0 c0 : Nat} {d : DataW H} {ps : List MemPlace} (h : DataW.Trod enc Try.prog W 0 (fun _ => true) true 25 (.slice a0 l0 c0) d ps) (hs : ∀ n ∈ d.weights Try.prog 25, n ≤ reachBytes) :
    ∃ l : List Int, CRep U6 W (wm0 W) (.sl .i32 l none) (.slice a0 l0 c0) ∧ lim4 l = true := by
  obtain ⟨fuel, hf⟩ := h
  rcases open_ints Try.underlying25 Try.underlying21 cells21 hf with ⟨hcs, hx⟩ | ⟨a, len, cap, zs, hcs, _, hl, hm, hz, hx, hcell, hwz⟩
  · simp [Value.cells] at hcs
    obtain ⟨rfl, rfl, rfl⟩ := hcs
    exact ⟨[], .nil _ _ _ _, rfl⟩
  · simp [Value.cells] at hcs
    obtain ⟨rfl, rfl, rfl⟩ := hcs
    simp only [if_true] at hz
    simp only [Prod.mk.injEq] at hx
    obtain ⟨rfl, rfl⟩ := hx
    refine ⟨zs.take l0, ints_rep hl hz (fun e => by cases e) (fun a' ha c hc => by cases ha; exact hcell c (by omega)), ?_⟩
    have := hs (((lits (H := H) .i32 (zs.take l0)).length + (lits (H := H) .i32 (zs.drop l0)).length) * Try.prog.bytesOf 21) (by simp [DataW.weights, Try.underlying25])
    rw [bytes21, reach6] at this
    simp only [lits, List.length_map, List.length_take, List.length_drop] at this
    rw [lim4_iff, List.length_take]
    omega

theorem weightsAll_mem {P : Program} {e : TypeId} : ∀ {ds : List (DataW H)} {d : DataW H}, d ∈ ds → ∀ n ∈ d.weights P e, n ∈ DataW.weightsAll P e ds
  | _ :: ds, d, hd, n, hn => by
    simp only [DataW.weightsAll, List.mem_append]
    rcases List.mem_cons.1 hd with rfl | hd
    · exact .inl hn
    · exact .inr (weightsAll_mem hd n hn)

theorem rows_open {a0 : Option Addr} {l0 c0 : Nat} {d : DataW H} {ps : List MemPlace} (h : DataW.Trod enc Try.prog W 0 (fun _ => true) true 23 (.slice a0 l0 c0) d ps) (hs : ∀ n ∈ d.weights Try.prog 23, n ≤ reachBytes) :
    ∃ l : List (List Int), CRep U6 W (wm0 W) (.sl .rs l none) (.slice a0 l0 c0) ∧ limL l = true := by
  obtain ⟨fuel, hf⟩ := h
  rcases open_int_rows Try.underlying23 Try.underlying25 Try.underlying21 cells25 cells21 hf with ⟨hcs, hx⟩ | ⟨a, len, cap, A, L, C, Z, hcs, _, hl, hm, hx, hrows⟩
  · simp [Value.cells] at hcs
    obtain ⟨rfl, rfl, rfl⟩ := hcs
    exact ⟨[], .nil _ _ _ _, rfl⟩
  · simp [Value.cells] at hcs
    obtain ⟨rfl, rfl, rfl⟩ := hcs
    simp only [Prod.mk.injEq] at hx
    obtain ⟨rfl, rfl⟩ := hx
    have hlen : ((List.range l0).map fun r => (Z r).take (L r)).length = l0 := by simp
    have hlimR : ∀ r, r < l0 → lim4 ((Z r).take (L r)) = true := by
      intro r hr
      obtain ⟨_, h1, _, h2, _, h3, _⟩ := hrows r (by omega)
      rw [lim4_iff, List.length_take]
      cases hA : A r with
      | none => have := h3 hA; omega
      | some a' =>
        have h5 : (C r) * 4 ≤ reachBytes := by
          have := hs ((L r + (C r - L r)) * 4) (by
            simp only [DataW.weights, Try.underlying23, List.mem_cons, List.mem_append]
            refine .inr (.inl (weightsAll_mem (d := intRow .i32 (A r) (L r) (Z r)) (List.mem_map.2 ⟨r, List.mem_range.2 hr, rfl⟩) _ ?_))
            simp only [intRow, hA, DataW.weights, Try.underlying25, List.mem_cons, bytes21, lits, List.length_map, List.length_take, List.length_drop]
            left
            congr 1
            omega)
          have e : L r + (C r - L r) = C r := by omega
          rw [e] at this
          exact this
        rw [reach6] at h5
        omega
    have htop : (((List.range l0).map fun r => (Z r).take (L r))).length * 24 ≤ 140737488355328 := by
      have := hs (((((List.range l0).map fun r => intRow (H := H) .i32 (A r) (L r) (Z r))).length + (((List.range (c0 - l0)).map fun j => intRow (H := H) .i32 (A (l0 + j)) (L (l0 + j)) (Z (l0 + j)))).length) * Try.prog.bytesOf 25) (by
        simp only [DataW.weights, Try.underlying23, List.mem_cons]; left; trivial)
      rw [bytes25, reach6] at this
      simp only [List.length_map, List.length_range] at this ⊢
      omega
    refine ⟨(List.range l0).map fun r => (Z r).take (L r), ?_, ?_⟩
    · by_cases h0 : l0 = 0
      · subst h0; exact .nil _ _ _ _
      · obtain ⟨b, off, spot⟩ := a
        have hsp : spot = none := by
          have := World.cell?_spot (hrows 0 (by omega)).1
          unfold Addr.add at this
          simpa using this
        subst hsp
        have hcell : ∀ r, r < c0 → W.cell? ⟨b, off + r, none⟩ = some (.slice (A r) (L r) (C r)) := fun r hr => by
          rw [← add_plain]; exact (hrows r hr).1
        have := rows_rep' (W := W) (l := (List.range l0).map fun r => (Z r).take (L r)) (b := b) (off := off) (C := c0) (V := fun j => .slice (A j) (L j) (C j)) (by rw [hlen]; exact hl) hcell (fun j n hn => by
            have hjl := (List.getElem?_eq_some_iff.1 hn).1
            have hjl2 : j < l0 := by simpa using hjl
            rw [List.getElem?_map, List.getElem?_range hjl2] at hn
            simp only [Option.map_some, Option.some.injEq] at hn
            subst hn
            obtain ⟨_, h1, _, h2, _, h3, h4⟩ := hrows j (by omega)
            exact ints_rep h1 h2 h3 (fun a' ha c hc => (h4 a' ha).2 c hc))
        rw [hlen] at this
        exact this
    · unfold limL
      simp only [Bool.and_eq_true, List.all_eq_true, List.mem_map, List.mem_range]
      refine ⟨room_iff.2 htop, ?_⟩
      rintro x ⟨r, hr, rfl⟩
      exact hlimR r hr

/-- A call of a function with a result of its own leaves the old memory as it was. -/
theorem below_of_post {Wm : Nat → Nat} {g' : Gh} {r : E6} {v : Value} {w' : World} (hp : Post U6 ⟨W, Wm, none⟩ g' r v w') : Below W.heap.size W w' :=
  ⟨hp.os, hp.tape, hp.output, hp.size, fun b hb => (hp.frame b hb (fun e => by cases e)).1⟩
end
end Go.Aev
end
