/- Proved here: lemmas of an evaluator over the model's code that the claim's text uses (TopA TopU). Conditions: those that each lemma states. -/
import Derived.Test.YtljnggaaohddnaaFlwB
import Derived.WalkKit
import Derived.ProofKit
import Derived.OpenShut
import Derived.Deep.Matrix
import Derived.SizedLaws
import Derived.Carry
section
set_option linter.unusedVariables false
namespace Go.Aev
open Go.Proofs Go.ChangeShapes Go.WideShapes Go.ChangeAt Go.RowKit Go.Deep

theorem laidOut6 : laidOutB Try.prog = true := by kernel_rfl
theorem cells25 : Try.prog.cellsOf 25 = 1 := by kernel_rfl
theorem cells21 : Try.prog.cellsOf 21 = 1 := by kernel_rfl
theorem bytes25 : Try.prog.bytesOf 25 = 24 := by kernel_rfl
theorem bytes21 : Try.prog.bytesOf 21 = 4 := by kernel_rfl
theorem reach6 : reachBytes = 140737488351232 := rfl

theorem ints_rep' {W : World} {l : List Int} {b off C : Nat} {V : Nat → Int} (hl : l.length ≤ C) (hcell : ∀ c, c < C → W.cell? ⟨b, off + c, none⟩ = some (.int .i32 (V c))) (hV : ∀ (j : Nat) (n : Int), l[j]? = some n → V j = n) :
    CRep U6 W (wm0 W) (.sl .i32 l none) (.slice (some ⟨b, off, none⟩) l.length C) := by
  by_cases h0 : l.length = 0
  · have : l = [] := List.eq_nil_of_length_eq_zero h0
    subst this
    exact .nil _ _ _ _
  · refine CRep.sl (U := U6) (w := W) (wm := wm0 W) .i32 l none b off C (fun j => .int .i32 (V j)) hl ?_ (fun j lf hj => ?_) (fun j lf hj => ?_)
    · have := wm0_cell (hcell (l.length - 1) (by omega))
      show off + l.length * 1 ≤ _
      omega
    · obtain ⟨n, hn, rfl⟩ := flat_i32 _ _ _ hj
      have hjl := (List.getElem?_eq_some_iff.1 hn).1
      exact hcell j (by omega)
    · obtain ⟨n, hn, rfl⟩ := flat_i32 _ _ _ hj
      rw [hV j n hn]
      exact .int _ _

theorem ints_rep {W : World} {A : Option Addr} {L C : Nat} {zs : List Int} (hLC : L ≤ C) (hz : zs.length = C) (hA : A = none → C = 0) (hc : ∀ a', A = some a' → ∀ c, c < C → W.cell? (a'.add c) = some (.int .i32 (zs.getD c 0))) :
    CRep U6 W (wm0 W) (.sl .i32 (zs.take L) none) (.slice A L C) := by
  by_cases hL : L = 0
  · subst hL; exact .nil _ _ _ _
  cases A with
  | none => have := hA rfl; omega
  | some a =>
    obtain ⟨b, off, spot⟩ := a
    have h0 := hc _ rfl 0 (by omega)
    have hs : spot = none := by
      have := World.cell?_spot h0
      unfold Addr.add at this
      simpa using this
    subst hs
    have hlen : (zs.take L).length = L := by rw [List.length_take]; omega
    have := ints_rep' (W := W) (l := zs.take L) (b := b) (off := off) (C := C) (V := fun c => zs.getD c 0) (by omega) (fun c hc' => by rw [← add_plain]; exact hc _ rfl c hc') (fun j n hn => by
      rw [List.getElem?_take] at hn
      split at hn
      · rw [List.getD_eq_getElem?_getD, hn]; rfl
      · cases hn)
    rw [hlen] at this
    exact this

theorem rows_rep' {W : World} {l : List (List Int)} {b off C : Nat} {V : Nat → Value} (hl : l.length ≤ C) (hcell : ∀ c, c < C → W.cell? ⟨b, off + c, none⟩ = some (V c)) (hV : ∀ (j : Nat) (n : List Int), l[j]? = some n → CRep U6 W (wm0 W) (.sl .i32 n none) (V j)) :
    CRep U6 W (wm0 W) (.sl .rs l none) (.slice (some ⟨b, off, none⟩) l.length C) := by
  by_cases h0 : l.length = 0
  · have : l = [] := List.eq_nil_of_length_eq_zero h0
    subst this
    exact .nil _ _ _ _
  · refine CRep.sl (U := U6) (w := W) (wm := wm0 W) .rs l none b off C V hl ?_ (fun j lf hj => ?_) (fun j lf hj => ?_)
    · have := wm0_cell (hcell (l.length - 1) (by omega))
      show off + l.length * 1 ≤ _
      omega
    · obtain ⟨n, hn, rfl⟩ := flat_rs _ _ _ hj
      have hjl := (List.getElem?_eq_some_iff.1 hn).1
      exact hcell j (by omega)
    · obtain ⟨n, hn, rfl⟩ := flat_rs _ _ _ hj
      exact hV j n hn

end Go.Aev
end

section
set_option linter.unusedVariables false
namespace Go.Aev
open Go.Proofs Go.ChangeShapes Go.WideShapes Go.ChangeAt Go.RowKit Go.Deep Go.Proofs.Ytljnggaaohddnaa

theorem bulk_one {H : Type} (d : DataW H) : 1 ≤ Rows.uptoBulk d := by
  cases d with
  | lit l => cases l <;> simp [Rows.uptoBulk]
  | nil => simp [Rows.uptoBulk]
  | ptr d => simp [Rows.uptoBulk]
  | slice elems spare => simp [Rows.uptoBulk]
  | agg parts => simp [Rows.uptoBulk]
  | iface t d => simp [Rows.uptoBulk]
  | map entries => simp [Rows.uptoBulk]
  | held h => simp [Rows.uptoBulk]
theorem bulk_part {H : Type} {d : DataW H} {l : List (DataW H)} (h : d ∈ l) : Rows.uptoBulk d ≤ Rows.uptoBulkAll l := by
  induction l with
  | nil => cases h
  | cons x r ih =>
    simp only [Rows.uptoBulkAll]
    cases List.mem_cons.1 h with
    | inl e => subst e; omega
    | inr e => have := ih e; omega
theorem bulk_len {H : Type} (l : List (DataW H)) : l.length ≤ Rows.uptoBulkAll l := by
  induction l with
  | nil => simp [Rows.uptoBulkAll]
  | cons x r ih => have := bulk_one x; simp only [Rows.uptoBulkAll, List.length_cons]; omega
theorem bulk_bound {H : Type} {l : List (DataW H)} (hk : Rows.uptoSmall H l = true) : Rows.uptoBulkAll l ≤ 1048576 := of_decide_eq_true hk

section
variable {H : Type} {enc : TypeId × Value → H} {W : World}

theorem ints_openU {a0 : Option Addr} {l0 c0 : Nat} {d : DataW H} {ps : List MemPlace} (h : DataW.Trod enc Try.prog W 0 (fun _ => true) true 25 (.slice a0 l0 c0) d ps) :
    ∃ l : List Int, CRep U6 W (wm0 W) (.sl .i32 l none) (.slice a0 l0 c0) ∧ l.length ≤ Rows.uptoBulk d := by
  obtain ⟨fuel, hf⟩ := h
  rcases open_ints Try.underlying25 Try.underlying21 cells21 hf with ⟨hcs, hx⟩ | ⟨a, len, cap, zs, hcs, _, hl, hm, hz, hx, hcell, hwz⟩
  · simp [Value.cells] at hcs
    obtain ⟨rfl, rfl, rfl⟩ := hcs
    exact ⟨[], .nil _ _ _ _, Nat.zero_le _⟩
  · simp [Value.cells] at hcs
    obtain ⟨rfl, rfl, rfl⟩ := hcs
    simp only [if_true] at hz
    simp only [Prod.mk.injEq] at hx
    obtain ⟨rfl, rfl⟩ := hx
    refine ⟨zs.take l0, ints_rep hl hz (fun e => by cases e) (fun a' ha c hc => by cases ha; exact hcell c (by omega)), ?_⟩
    have := bulk_len (lits (H := H) .i32 (zs.take l0))
    simp only [lits, List.length_map] at this
    simp only [Rows.uptoBulk, lits]
    omega

theorem rows_openU {a0 : Option Addr} {l0 c0 : Nat} {d : DataW H} {ps : List MemPlace} (h : DataW.Trod enc Try.prog W 0 (fun _ => true) true 23 (.slice a0 l0 c0) d ps) :
    ∃ l : List (List Int), CRep U6 W (wm0 W) (.sl .rs l none) (.slice a0 l0 c0) ∧ l.length ≤ Rows.uptoBulk d ∧ ∀ x ∈ l, x.length ≤ Rows.uptoBulk d := by
  obtain ⟨fuel, hf⟩ := h
  rcases open_int_rows Try.underlying23 Try.underlying25 Try.underlying21 cells25 cells21 hf with ⟨hcs, hx⟩ | ⟨a, len, cap, A, L, C, Z, hcs, _, hl, hm, hx, hrows⟩
  · simp [Value.cells] at hcs
    obtain ⟨rfl, rfl, rfl⟩ := hcs
    exact ⟨[], .nil _ _ _ _, Nat.zero_le _, fun x hx => by cases hx⟩
  · simp [Value.cells] at hcs
    obtain ⟨rfl, rfl, rfl⟩ := hcs
    simp only [Prod.mk.injEq] at hx
    obtain ⟨rfl, rfl⟩ := hx
    have hlen : ((List.range l0).map fun r => (Z r).take (L r)).length = l0 := by simp
    have hlimR : ∀ r, r < l0 → ((Z r).take (L r)).length ≤ Rows.uptoBulkAll ((List.range l0).map fun r => intRow (H := H) .i32 (A r) (L r) (Z r)) := by
      intro r hr
      obtain ⟨_, h1, _, h2, _, h3, _⟩ := hrows r (by omega)
      have hp := bulk_part (d := intRow .i32 (A r) (L r) (Z r)) (l := (List.range l0).map fun r => intRow (H := H) .i32 (A r) (L r) (Z r)) (List.mem_map.2 ⟨r, List.mem_range.2 hr, rfl⟩)
      refine Nat.le_trans ?_ hp
      cases hA : A r with
      | none => have := h3 hA; rw [List.length_take]; omega
      | some a' =>
        have := bulk_len (lits (H := H) .i32 ((Z r).take (L r)))
        simp only [lits, List.length_map] at this
        simp only [intRow, Rows.uptoBulk, lits]
        omega
    have htop : (((List.range l0).map fun r => (Z r).take (L r))).length ≤ Rows.uptoBulkAll ((List.range l0).map fun r => intRow (H := H) .i32 (A r) (L r) (Z r)) := by
      have := bulk_len ((List.range l0).map fun r => intRow (H := H) .i32 (A r) (L r) (Z r))
      simp only [List.length_map, List.length_range] at this ⊢
      exact this
    refine ⟨(List.range l0).map fun r => (Z r).take (L r), ?_, ?_, ?_⟩
    · by_cases h0 : l0 = 0
      · subst h0; exact .nil _ _ _ _
      · obtain ⟨b, off, spot⟩ := a
        have hsp : spot = none := by
          have := World.cell?_spot (hrows 0 (by omega)).1
          unfold Addr.add at this
          simpa using this
        subst hsp
        have hcell : ∀ r, r < c0 → W.cell? ⟨b, off + r, none⟩ = some (.slice (A r) (L r) (C r)) := fun r hr => by
          rw [← add_plain]; exact (hrows r hr).1
        have := rows_rep' (W := W) (l := (List.range l0).map fun r => (Z r).take (L r)) (b := b) (off := off) (C := c0) (V := fun j => .slice (A j) (L j) (C j)) (by rw [hlen]; exact hl) hcell (fun j n hn => by
            have hjl := (List.getElem?_eq_some_iff.1 hn).1
            have hjl2 : j < l0 := by simpa using hjl
            rw [List.getElem?_map, List.getElem?_range hjl2] at hn
            simp only [Option.map_some, Option.some.injEq] at hn
            subst hn
            obtain ⟨_, h1, _, h2, _, h3, h4⟩ := hrows j (by omega)
            exact ints_rep h1 h2 h3 (fun a' ha c hc => (h4 a' ha).2 c hc))
        rw [hlen] at this
        exact this
    · simp only [Rows.uptoBulk]; omega
    · intro x hx
      obtain ⟨r, hr, rfl⟩ := List.mem_map.1 hx
      have := hlimR r (List.mem_range.1 hr)
      simp only [Rows.uptoBulk]; omega
end
end Go.Aev
end
