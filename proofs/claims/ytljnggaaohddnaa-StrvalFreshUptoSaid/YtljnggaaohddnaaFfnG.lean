/- Proved here: lemmas of an evaluator over the model's code that the claim's text uses (Q1 G10 R1). Conditions: those that each lemma states. -/
import Derived.Test.YtljnggaaohddnaaFfnF
import Derived.Test.YtljnggaaohddnaaFfnD
import Derived.Test.YtljnggaaohddnaaFfnA
section
set_option linter.unusedVariables false
namespace Go.Aev
open Go.Proofs

def IT : Inv := fun _ _ => True
def opt (S : List L6 → Option (Bool × E6)) : List L6 → Option E6 := fun ls => match S ls with
  | some (true, e) => some e
  | _ => none
theorem opt_some {S : List L6 → Option (Bool × E6)} {ls : List L6} {r : E6} (h : opt S ls = some r) : ∃ e, S ls = some (true, e) ∧ e = r := by
  unfold opt at h
  split at h
  · rename_i e he
    exact ⟨e, he, by simpa using h⟩
  · cases h
theorem of_sound {f : FuncId} {S : List L6 → Option (Bool × E6)} (h : Sound Try.prog U6 IT f (opt S)) {ls : List L6} {r : E6} (hr : S ls = some (true, r)) :
    (∀ args w, (callFunc f args).run Try.prog w = .ok (.enter f args) w) ∧ CallOk Try.prog U6 IT f ls r :=
  ⟨h.enter, h.ok ls r (by unfold opt; rw [hr])⟩
def fuelL (ls : List (List Int)) : Nat := ls.length + (ls.map List.length).sum + 1
theorem same_fuel (ls : List (List Int)) : ls.length < fuelL ls ∧ ∀ x ∈ ls, x.length < fuelL ls := by
  unfold fuelL
  refine ⟨by omega, fun x hx => ?_⟩
  have : x.length ≤ (ls.map List.length).sum := by
    induction ls with
    | nil => cases hx
    | cons y ls ih =>
      rcases List.mem_cons.1 hx with rfl | h
      · simp
      · have := ih h
        simp only [List.map_cons, List.sum_cons]
        omega
  omega
theorem and1 {a b : Bool} (h : (a && b) = true) : a = true := (Bool.and_eq_true _ _ ▸ h).1
theorem and2 {a b : Bool} (h : (a && b) = true) : b = true := (Bool.and_eq_true _ _ ▸ h).2
theorem dec1 {p : Prop} [Decidable p] (h : decide p = true) : p := of_decide_eq_true h
theorem ends_ok' (l : List Int) (i : Int) (h : (lim4 l && decide (0 ≤ i) && decide (i < (l.length : Int))) = true) (n : Nat) : evFn E52 n Try.f52 [.sl .i32 l none, .int .i64 i] = some (.one (.bool (endsF (l.drop i.toNat)))) := by
  have h1 := dec1 (and2 h); have h2 := dec1 (and2 (and1 h))
  have := ends_ok l (and1 (and1 h)) i.toNat (by omega) n
  rw [show ((i.toNat : Nat) : Int) = i by omega] at this
  exact this

theorem snd41 : Sound Try.prog U6 IT 41 (opt S41) := by
  refine sound_of_ev (E := E41) ⟨u6_ok, tb6_ok, fun g ls r h => ?_, fun _ _ _ _ _ _ => trivial⟩ Try.func41 rfl Try.call41 (fun ls r h => ?_)
  · change T41 g ls = some (true, r) at h
    unfold T41 at h
    cases h
  · obtain ⟨e, h1, h2⟩ := opt_some h
    unfold S41 at h1
    split at h1
    · rename_i a0
      simp only [Option.some.injEq, Prod.mk.injEq] at h1
      obtain ⟨hg, rfl⟩ := h1
      subst h2
      exact ⟨0, white_ok a0 _⟩
    · cases h1

theorem snd56 : Sound Try.prog U6 IT 56 (opt S56) := by
  refine sound_of_ev (E := E56) ⟨u6_ok, tb6_ok, fun g ls r h => ?_, fun _ _ _ _ _ _ => trivial⟩ Try.func56 rfl Try.call56 (fun ls r h => ?_)
  · change T56 g ls = some (true, r) at h
    unfold T56 at h
    cases h
  · obtain ⟨e, h1, h2⟩ := opt_some h
    unfold S56 at h1
    split at h1
    · rename_i a0
      simp only [Option.some.injEq, Prod.mk.injEq] at h1
      obtain ⟨hg, rfl⟩ := h1
      subst h2
      exact ⟨0, white2_ok a0 _⟩
    · cases h1

theorem snd28 : Sound Try.prog U6 IT 28 (opt S28) := by
  refine sound_of_ev (E := E28) ⟨u6_ok, tb6_ok, fun g ls r h => ?_, fun _ _ _ _ _ _ => trivial⟩ Try.func28 rfl Try.call28 (fun ls r h => ?_)
  · change T28 g ls = some (true, r) at h
    unfold T28 at h
    split at h
    · exact of_sound snd41 h
    · cases h
  · obtain ⟨e, h1, h2⟩ := opt_some h
    unfold S28 at h1
    split at h1
    · rename_i a0
      simp only [Option.some.injEq, Prod.mk.injEq] at h1
      obtain ⟨hg, rfl⟩ := h1
      subst h2
      exact ⟨List.length a0 + 1, indent_ok a0 hg _ (Nat.lt_succ_self _)⟩
    · cases h1

theorem snd42 : Sound Try.prog U6 IT 42 (opt S42) := by
  refine sound_of_ev (E := E42) ⟨u6_ok, tb6_ok, fun g ls r h => ?_, fun _ _ _ _ _ _ => trivial⟩ Try.func42 rfl Try.call42 (fun ls r h => ?_)
  · change T42 g ls = some (true, r) at h
    unfold T42 at h
    split at h
    · exact of_sound snd56 h
    · cases h
  · obtain ⟨e, h1, h2⟩ := opt_some h
    unfold S42 at h1
    split at h1
    · rename_i a0
      simp only [Option.some.injEq, Prod.mk.injEq] at h1
      obtain ⟨hg, rfl⟩ := h1
      subst h2
      exact ⟨List.length a0 + 1, indent2_ok a0 hg _ (Nat.lt_succ_self _)⟩
    · cases h1

theorem snd27 : Sound Try.prog U6 IT 27 (opt S27) := by
  refine sound_of_ev (E := E27) ⟨u6_ok, tb6_ok, fun g ls r h => ?_, fun _ _ _ _ _ _ => trivial⟩ Try.func27 rfl Try.call27 (fun ls r h => ?_)
  · change T27 g ls = some (true, r) at h
    unfold T27 at h
    split at h
    · exact of_sound snd28 h
    · cases h
  · obtain ⟨e, h1, h2⟩ := opt_some h
    unfold S27 at h1
    split at h1
    · rename_i a0
      simp only [Option.some.injEq, Prod.mk.injEq] at h1
      obtain ⟨hg, rfl⟩ := h1
      subst h2
      exact ⟨0, blank_ok a0 hg _⟩
    · cases h1

theorem snd30 : Sound Try.prog U6 IT 30 (opt S30) := by
  refine sound_of_ev (E := E30) ⟨u6_ok, tb6_ok, fun g ls r h => ?_, fun _ _ _ _ _ _ => trivial⟩ Try.func30 rfl Try.call30 (fun ls r h => ?_)
  · change T30 g ls = some (true, r) at h
    unfold T30 at h
    split at h
    · exact of_sound snd42 h
    · cases h
  · obtain ⟨e, h1, h2⟩ := opt_some h
    unfold S30 at h1
    split at h1
    · rename_i a0
      simp only [Option.some.injEq, Prod.mk.injEq] at h1
      obtain ⟨hg, rfl⟩ := h1
      subst h2
      exact ⟨0, blank2_ok a0 hg _⟩
    · cases h1

theorem snd13 : Sound Try.prog U6 IT 13 (opt S13) := by
  refine sound_of_ev (E := E13) ⟨u6_ok, tb6_ok, fun g ls r h => ?_, fun _ _ _ _ _ _ => trivial⟩ Try.func13 rfl Try.call13 (fun ls r h => ?_)
  · change T13 g ls = some (true, r) at h
    unfold T13 at h
    cases h
  · obtain ⟨e, h1, h2⟩ := opt_some h
    unfold S13 at h1
    split at h1
    · rename_i a0
      simp only [Option.some.injEq, Prod.mk.injEq] at h1
      obtain ⟨hg, rfl⟩ := h1
      subst h2
      exact ⟨0, runes_ok a0 hg _⟩
    · cases h1

theorem snd20 : Sound Try.prog U6 IT 20 (opt S20) := by
  refine sound_of_ev (E := E20) ⟨u6_ok, tb6_ok, fun g ls r h => ?_, fun _ _ _ _ _ _ => trivial⟩ Try.func20 rfl Try.call20 (fun ls r h => ?_)
  · change T20 g ls = some (true, r) at h
    unfold T20 at h
    cases h
  · obtain ⟨e, h1, h2⟩ := opt_some h
    unfold S20 at h1
    split at h1
    · rename_i a0
      simp only [Option.some.injEq, Prod.mk.injEq] at h1
      obtain ⟨hg, rfl⟩ := h1
      subst h2
      exact ⟨0, copied_ok a0 hg _⟩
    · cases h1

theorem snd29 : Sound Try.prog U6 IT 29 (opt S29) := by
  refine sound_of_ev (E := E29) ⟨u6_ok, tb6_ok, fun g ls r h => ?_, fun _ _ _ _ _ _ => trivial⟩ Try.func29 rfl Try.call29 (fun ls r h => ?_)
  · change T29 g ls = some (true, r) at h
    unfold T29 at h
    split at h
    · exact of_sound snd42 h
    · cases h
  · obtain ⟨e, h1, h2⟩ := opt_some h
    unfold S29 at h1
    split at h1
    · rename_i a0
      simp only [Option.some.injEq, Prod.mk.injEq] at h1
      obtain ⟨hg, rfl⟩ := h1
      subst h2
      exact ⟨List.length a0 + 1, common_ok a0 hg _ (Nat.lt_succ_self _)⟩
    · cases h1

theorem snd15 : Sound Try.prog U6 IT 15 (opt S15) := by
  refine sound_of_ev (E := E15) ⟨u6_ok, tb6_ok, fun g ls r h => ?_, fun _ _ _ _ _ _ => trivial⟩ Try.func15 rfl Try.call15 (fun ls r h => ?_)
  · change T15 g ls = some (true, r) at h
    unfold T15 at h
    split at h
    · exact of_sound snd20 h
    · cases h
  · obtain ⟨e, h1, h2⟩ := opt_some h
    unfold S15 at h1
    split at h1
    · rename_i a0
      simp only [Option.some.injEq, Prod.mk.injEq] at h1
      obtain ⟨hg, rfl⟩ := h1
      subst h2
      exact ⟨List.length a0 + 1, copiedLines_ok a0 hg _ (Nat.lt_succ_self _)⟩
    · cases h1

theorem snd12 : Sound Try.prog U6 IT 12 (opt S12) := by
  refine sound_of_ev (E := E12) ⟨u6_ok, tb6_ok, fun g ls r h => ?_, fun _ _ _ _ _ _ => trivial⟩ Try.func12 rfl Try.call12 (fun ls r h => ?_)
  · change T12 g ls = some (true, r) at h
    unfold T12 at h
    split at h
    · exact of_sound snd27 h
    · exact of_sound snd28 h
    · cases h
  · obtain ⟨e, h1, h2⟩ := opt_some h
    unfold S12 at h1
    split at h1
    · rename_i a0
      simp only [Option.some.injEq, Prod.mk.injEq] at h1
      obtain ⟨hg, rfl⟩ := h1
      subst h2
      exact ⟨List.length a0 + 1, dedent_ok a0 hg _ (Nat.lt_succ_self _)⟩
    · cases h1

theorem snd16 : Sound Try.prog U6 IT 16 (opt S16) := by
  refine sound_of_ev (E := E16) ⟨u6_ok, tb6_ok, fun g ls r h => ?_, fun _ _ _ _ _ _ => trivial⟩ Try.func16 rfl Try.call16 (fun ls r h => ?_)
  · change T16 g ls = some (true, r) at h
    unfold T16 at h
    split at h
    · exact of_sound snd29 h
    · exact of_sound snd30 h
    · cases h
  · obtain ⟨e, h1, h2⟩ := opt_some h
    unfold S16 at h1
    split at h1
    · rename_i a0
      simp only [Option.some.injEq, Prod.mk.injEq] at h1
      obtain ⟨hg, rfl⟩ := h1
      subst h2
      exact ⟨List.length a0 + 1, rdedent_ok a0 hg _ (Nat.lt_succ_self _)⟩
    · cases h1

theorem snd14 : Sound Try.prog U6 IT 14 (opt S14) := by
  refine sound_of_ev (E := E14) ⟨u6_ok, tb6_ok, fun g ls r h => ?_, fun _ _ _ _ _ _ => trivial⟩ Try.func14 rfl Try.call14 (fun ls r h => ?_)
  · change T14 g ls = some (true, r) at h
    unfold T14 at h
    cases h
  · obtain ⟨e, h1, h2⟩ := opt_some h
    unfold S14 at h1
    split at h1
    · rename_i a0 a1
      simp only [Option.some.injEq, Prod.mk.injEq] at h1
      obtain ⟨hg, rfl⟩ := h1
      subst h2
      exact ⟨fuelL a0, same_ok a0 a1 (and1 hg) (and2 hg) _ (same_fuel a0).1 (same_fuel a0).2⟩
    · cases h1

theorem snd64 : Sound Try.prog U6 IT 64 (opt S64) := by
  refine sound_of_ev (E := E64) ⟨u6_ok, tb6_ok, fun g ls r h => ?_, fun _ _ _ _ _ _ => trivial⟩ Try.func64 rfl Try.call64 (fun ls r h => ?_)
  · change T64 g ls = some (true, r) at h
    unfold T64 at h
    cases h
  · obtain ⟨e, h1, h2⟩ := opt_some h
    unfold S64 at h1
    split at h1
    · rename_i a0
      simp only [Option.some.injEq, Prod.mk.injEq] at h1
      obtain ⟨hg, rfl⟩ := h1
      subst h2
      exact ⟨0, digit_ok a0 _⟩
    · cases h1

theorem snd63 : Sound Try.prog U6 IT 63 (opt S63) := by
  refine sound_of_ev (E := E63) ⟨u6_ok, tb6_ok, fun g ls r h => ?_, fun _ _ _ _ _ _ => trivial⟩ Try.func63 rfl Try.call63 (fun ls r h => ?_)
  · change T63 g ls = some (true, r) at h
    unfold T63 at h
    split at h
    · exact of_sound snd64 h
    · cases h
  · obtain ⟨e, h1, h2⟩ := opt_some h
    unfold S63 at h1
    split at h1
    · rename_i a0
      simp only [Option.some.injEq, Prod.mk.injEq] at h1
      obtain ⟨hg, rfl⟩ := h1
      subst h2
      exact ⟨0, hex_ok a0 _⟩
    · cases h1

theorem snd57 : Sound Try.prog U6 IT 57 (opt S57) := by
  refine sound_of_ev (E := E57) ⟨u6_ok, tb6_ok, fun g ls r h => ?_, fun _ _ _ _ _ _ => trivial⟩ Try.func57 rfl Try.call57 (fun ls r h => ?_)
  · change T57 g ls = some (true, r) at h
    unfold T57 at h
    split at h
    · exact of_sound snd63 h
    · cases h
  · obtain ⟨e, h1, h2⟩ := opt_some h
    unfold S57 at h1
    split at h1
    · rename_i a0
      simp only [Option.some.injEq, Prod.mk.injEq] at h1
      obtain ⟨hg, rfl⟩ := h1
      subst h2
      exact ⟨4 + 1, hex4_ok a0 hg _ (Nat.lt_succ_self _)⟩
    · cases h1

theorem snd58 : Sound Try.prog U6 IT 58 (opt S58) := by
  refine sound_of_ev (E := E58) ⟨u6_ok, tb6_ok, fun g ls r h => ?_, fun _ _ _ _ _ _ => trivial⟩ Try.func58 rfl Try.call58 (fun ls r h => ?_)
  · change T58 g ls = some (true, r) at h
    unfold T58 at h
    cases h
  · obtain ⟨e, h1, h2⟩ := opt_some h
    unfold S58 at h1
    split at h1
    · rename_i a0 a1
      simp only [Option.some.injEq, Prod.mk.injEq] at h1
      obtain ⟨hg, rfl⟩ := h1
      subst h2
      exact ⟨0, join_ok a0 a1 _⟩
    · cases h1

theorem snd43 : Sound Try.prog U6 IT 43 (opt S43) := by
  refine sound_of_ev (E := E43) ⟨u6_ok, tb6_ok, fun g ls r h => ?_, fun _ _ _ _ _ _ => trivial⟩ Try.func43 rfl Try.call43 (fun ls r h => ?_)
  · change T43 g ls = some (true, r) at h
    unfold T43 at h
    split at h
    · exact of_sound snd57 h
    · exact of_sound snd58 h
    · cases h
  · obtain ⟨e, h1, h2⟩ := opt_some h
    unfold S43 at h1
    split at h1
    · rename_i a0
      simp only [Option.some.injEq, Prod.mk.injEq] at h1
      obtain ⟨hg, rfl⟩ := h1
      subst h2
      exact ⟨0, coded_ok a0 (and1 hg) (dec1 (and2 hg)) _⟩
    · cases h1

theorem snd31 : Sound Try.prog U6 IT 31 (opt S31) := by
  refine sound_of_ev (E := E31) ⟨u6_ok, tb6_ok, fun g ls r h => ?_, fun _ _ _ _ _ _ => trivial⟩ Try.func31 rfl Try.call31 (fun ls r h => ?_)
  · change T31 g ls = some (true, r) at h
    unfold T31 at h
    split at h
    · exact of_sound snd43 h
    · cases h
  · obtain ⟨e, h1, h2⟩ := opt_some h
    unfold S31 at h1
    split at h1
    · rename_i a0
      simp only [Option.some.injEq, Prod.mk.injEq] at h1
      obtain ⟨hg, rfl⟩ := h1
      subst h2
      exact ⟨0, esc_ok a0 hg _⟩
    · cases h1

theorem snd32 : Sound Try.prog U6 IT 32 (opt S32) := by
  refine sound_of_ev (E := E32) ⟨u6_ok, tb6_ok, fun g ls r h => ?_, fun _ _ _ _ _ _ => trivial⟩ Try.func32 rfl Try.call32 (fun ls r h => ?_)
  · change T32 g ls = some (true, r) at h
    unfold T32 at h
    cases h
  · obtain ⟨e, h1, h2⟩ := opt_some h
    unfold S32 at h1
    split at h1
    · rename_i a0
      simp only [Option.some.injEq, Prod.mk.injEq] at h1
      obtain ⟨hg, rfl⟩ := h1
      subst h2
      exact ⟨0, source_ok a0 _⟩
    · cases h1

theorem snd44 : Sound Try.prog U6 IT 44 (opt S44) := by
  refine sound_of_ev (E := E44) ⟨u6_ok, tb6_ok, fun g ls r h => ?_, fun _ _ _ _ _ _ => trivial⟩ Try.func44 rfl Try.call44 (fun ls r h => ?_)
  · change T44 g ls = some (true, r) at h
    unfold T44 at h
    cases h
  · obtain ⟨e, h1, h2⟩ := opt_some h
    unfold S44 at h1
    split at h1
    · rename_i a0
      simp only [Option.some.injEq, Prod.mk.injEq] at h1
      obtain ⟨hg, rfl⟩ := h1
      subst h2
      exact ⟨0, valid_ok a0 _⟩
    · cases h1

theorem snd59 : Sound Try.prog U6 IT 59 (opt S59) := by
  refine sound_of_ev (E := E59) ⟨u6_ok, tb6_ok, fun g ls r h => ?_, fun _ _ _ _ _ _ => trivial⟩ Try.func59 rfl Try.call59 (fun ls r h => ?_)
  · change T59 g ls = some (true, r) at h
    unfold T59 at h
    cases h
  · obtain ⟨e, h1, h2⟩ := opt_some h
    unfold S59 at h1
    split at h1
    · rename_i a0 a1
      simp only [Option.some.injEq, Prod.mk.injEq] at h1
      obtain ⟨hg, rfl⟩ := h1
      subst h2
      exact ⟨0, appendNon_ok a0 a1 (and1 (and1 hg)) (and2 (and1 hg)) (dec1 (and2 hg)) _⟩
    · cases h1

theorem snd45 : Sound Try.prog U6 IT 45 (opt S45) := by
  refine sound_of_ev (E := E45) ⟨u6_ok, tb6_ok, fun g ls r h => ?_, fun _ _ _ _ _ _ => trivial⟩ Try.func45 rfl Try.call45 (fun ls r h => ?_)
  · change T45 g ls = some (true, r) at h
    unfold T45 at h
    split at h
    · exact of_sound snd59 h
    · cases h
  · obtain ⟨e, h1, h2⟩ := opt_some h
    unfold S45 at h1
    split at h1
    · rename_i a0 a1
      simp only [Option.some.injEq, Prod.mk.injEq] at h1
      obtain ⟨hg, rfl⟩ := h1
      subst h2
      exact ⟨0, append_ok a0 a1 (and1 hg) (and2 hg) _⟩
    · cases h1

theorem snd33 : Sound Try.prog U6 IT 33 (opt S33) := by
  refine sound_of_ev (E := E33) ⟨u6_ok, tb6_ok, fun g ls r h => ?_, fun _ _ _ _ _ _ => trivial⟩ Try.func33 rfl Try.call33 (fun ls r h => ?_)
  · change T33 g ls = some (true, r) at h
    unfold T33 at h
    split at h
    · exact of_sound snd44 h
    · exact of_sound snd45 h
    · cases h
  · obtain ⟨e, h1, h2⟩ := opt_some h
    unfold S33 at h1
    split at h1
    · rename_i a0
      simp only [Option.some.injEq, Prod.mk.injEq] at h1
      obtain ⟨hg, rfl⟩ := h1
      subst h2
      exact ⟨List.length a0 + 1, enc_ok a0 hg _ (Nat.lt_succ_self _)⟩
    · cases h1

theorem snd19 : Sound Try.prog U6 IT 19 (opt S19) := by
  refine sound_of_ev (E := E19) ⟨u6_ok, tb6_ok, fun g ls r h => ?_, fun _ _ _ _ _ _ => trivial⟩ Try.func19 rfl Try.call19 (fun ls r h => ?_)
  · change T19 g ls = some (true, r) at h
    unfold T19 at h
    split at h
    · exact of_sound snd31 h
    · exact of_sound snd32 h
    · exact of_sound snd33 h
    · cases h
  · obtain ⟨e, h1, h2⟩ := opt_some h
    unfold S19 at h1
    split at h1
    · rename_i a0
      simp only [Option.some.injEq, Prod.mk.injEq] at h1
      obtain ⟨hg, rfl⟩ := h1
      subst h2
      exact ⟨List.length a0 + 1, quoted_ok a0 hg _ (Nat.lt_succ_self _)⟩
    · cases h1

theorem snd51 : Sound Try.prog U6 IT 51 (opt S51) := by
  refine sound_of_ev (E := E51) ⟨u6_ok, tb6_ok, fun g ls r h => ?_, fun _ _ _ _ _ _ => trivial⟩ Try.func51 rfl Try.call51 (fun ls r h => ?_)
  · change T51 g ls = some (true, r) at h
    unfold T51 at h
    cases h
  · obtain ⟨e, h1, h2⟩ := opt_some h
    unfold S51 at h1
    split at h1
    · rename_i a0
      simp only [Option.some.injEq, Prod.mk.injEq] at h1
      obtain ⟨hg, rfl⟩ := h1
      subst h2
      exact ⟨0, quotes_ok a0 hg _⟩
    · cases h1

theorem snd52 : Sound Try.prog U6 IT 52 (opt S52) := by
  refine sound_of_ev (E := E52) ⟨u6_ok, tb6_ok, fun g ls r h => ?_, fun _ _ _ _ _ _ => trivial⟩ Try.func52 rfl Try.call52 (fun ls r h => ?_)
  · change T52 g ls = some (true, r) at h
    unfold T52 at h
    cases h
  · obtain ⟨e, h1, h2⟩ := opt_some h
    unfold S52 at h1
    split at h1
    · rename_i a0 a1
      simp only [Option.some.injEq, Prod.mk.injEq] at h1
      obtain ⟨hg, rfl⟩ := h1
      subst h2
      exact ⟨0, ends_ok' a0 a1 hg _⟩
    · cases h1

theorem snd36 : Sound Try.prog U6 IT 36 (opt S36) := by
  refine sound_of_ev (E := E36) ⟨u6_ok, tb6_ok, fun g ls r h => ?_, fun _ _ _ _ _ _ => trivial⟩ Try.func36 rfl Try.call36 (fun ls r h => ?_)
  · change T36 g ls = some (true, r) at h
    unfold T36 at h
    split at h
    · exact of_sound snd32 h
    · exact of_sound snd51 h
    · cases h
  · obtain ⟨e, h1, h2⟩ := opt_some h
    unfold S36 at h1
    split at h1
    · rename_i a0
      simp only [Option.some.injEq, Prod.mk.injEq] at h1
      obtain ⟨hg, rfl⟩ := h1
      subst h2
      exact ⟨List.length a0 + 1, unmasked_ok a0 hg _ (Nat.lt_succ_self _)⟩
    · cases h1

theorem snd37 : Sound Try.prog U6 IT 37 (opt S37) := by
  refine sound_of_ev (E := E37) ⟨u6_ok, tb6_ok, fun g ls r h => ?_, fun _ _ _ _ _ _ => trivial⟩ Try.func37 rfl Try.call37 (fun ls r h => ?_)
  · change T37 g ls = some (true, r) at h
    unfold T37 at h
    split at h
    · exact of_sound snd52 h
    · cases h
  · obtain ⟨e, h1, h2⟩ := opt_some h
    unfold S37 at h1
    split at h1
    · rename_i a0
      simp only [Option.some.injEq, Prod.mk.injEq] at h1
      obtain ⟨hg, rfl⟩ := h1
      subst h2
      exact ⟨List.length a0 + 1, lines_ok a0 hg _ (Nat.lt_succ_self _)⟩
    · cases h1

theorem snd22 : Sound Try.prog U6 IT 22 (opt S22) := by
  refine sound_of_ev (E := E22) ⟨u6_ok, tb6_ok, fun g ls r h => ?_, fun _ _ _ _ _ _ => trivial⟩ Try.func22 rfl Try.call22 (fun ls r h => ?_)
  · change T22 g ls = some (true, r) at h
    unfold T22 at h
    split at h
    · exact of_sound snd12 h
    · exact of_sound snd33 h
    · exact of_sound snd36 h
    · exact of_sound snd37 h
    · cases h
  · obtain ⟨e, h1, h2⟩ := opt_some h
    unfold S22 at h1
    split at h1
    · rename_i a0
      simp only [Option.some.injEq, Prod.mk.injEq] at h1
      obtain ⟨hg, rfl⟩ := h1
      subst h2
      exact ⟨List.length a0 + 2 + 1, block_ok a0 hg _ (Nat.lt_succ_self _)⟩
    · cases h1

end Go.Aev
end

section
set_option linter.unusedVariables false
namespace Go.Aev
open Go.Proofs
def dr10 : Nat → List Nat := fun r => match r with
  | 0 => [4]
  | 1 => [27, 28, 29, 30]
  | 2 => [0, 1, 31]
  | 3 => [31, 32, 33, 34, 35]
  | 4 => [36, 37, 38, 39]
  | 5 => [40, 41]
  | 6 => [6, 42, 43]
  | 7 => [44]
  | 9 => [47, 48]
  | 10 => [7, 49, 50, 51, 52, 53, 54, 55, 56]
  | 11 => [0, 1, 5, 45, 46, 57]
  | 12 => [57, 58]
  | 13 => [1, 5, 45, 46, 47, 59, 60, 61, 62, 63, 64, 65, 66, 67, 68, 69, 70, 71, 72, 73, 74, 75, 76, 77, 78, 79, 80, 81]
  | 14 => [0, 82]
  | 15 => [82, 83, 84]
  | 16 => [85, 86]
  | 17 => [87, 88]
  | 18 => [89, 90]
  | 19 => [0, 91, 92, 93, 94, 95, 96, 97, 98, 99, 100, 101, 102, 103, 104, 105]
  | 20 => [8, 9, 10, 11, 106]
  | 21 => [106, 107]
  | 23 => [110, 111]
  | 24 => [112, 113, 114, 115]
  | 26 => [118, 119]
  | 27 => [13, 120, 121, 122, 123, 124, 125]
  | 28 => [126]
  | 29 => [12, 116, 117, 118, 127]
  | 30 => [8, 108, 109, 110, 128, 129, 130, 131, 132, 133, 134, 135, 136, 137, 138, 139]
  | 31 => [9, 10, 11, 140]
  | 32 => [140, 141, 142, 143, 144, 145]
  | 35 => [149, 150, 151, 152]
  | 36 => [153]
  | 38 => [156, 157]
  | 39 => [17, 158, 159, 160, 161, 162, 163]
  | 40 => [164]
  | 41 => [15, 16, 154, 155, 156, 165]
  | 42 => [146, 147, 148, 149]
  | 44 => [169, 170, 171]
  | 45 => [172]
  | 48 => [174, 175, 176, 177]
  | 49 => [178]
  | 50 => [19, 20, 173, 174, 179, 180]
  | 51 => [181]
  | 52 => [14, 166, 167, 168, 169]
  | 54 => [185, 186, 187, 188]
  | 55 => [189]
  | 57 => [192, 193]
  | 58 => [23, 194, 195, 196, 197, 198, 199, 200]
  | 59 => [9, 10, 11, 21, 22, 182, 183, 184, 190, 191, 201]
  | 60 => [201, 202]
  | 61 => [21, 22, 190, 191, 192, 203]
  | 62 => [182, 183, 184, 185, 204]
  | 64 => [207, 208]
  | 65 => [24, 209, 210, 211]
  | 66 => [212]
  | 67 => [9, 205, 206, 207, 213]
  | 70 => [215, 216, 217, 218, 219]
  | 71 => [220]
  | 72 => [25, 214, 215, 221]
  | 74 => [224, 225]
  | 75 => [26, 226, 227, 228, 229, 230, 231, 232, 233, 234, 235]
  | 76 => [10, 11, 222, 223, 236]
  | 77 => [236, 237]
  | 78 => [10, 11, 222, 223, 224]
  | _ => []
def T10 : T6 := fun f ls => match f with
  | 12 => S12 ls
  | 13 => S13 ls
  | 14 => S14 ls
  | 15 => S15 ls
  | 16 => S16 ls
  | 19 => S19 ls
  | 20 => S20 ls
  | 22 => S22 ls
  | _ => none
def cn10 : FuncId → Option Nat := fun f => none
def E10 : Env Ty6 den6 := mk6 T10 cn10 dr10 238
theorem pc10_0 (n : Nat) (a0 : List (List Int)) (a1 : List Int) (K : Ex → S6 → Option E6) : evCode E10 n (cdAt Go.Proofs.Try.f10 [0]) ⟨[(0, .one (.sl .rs a0 none)), (1, .one (.sl .i32 a1 none))], []⟩ K =
    K .normal ⟨[(0, .one (.sl .rs a0 none)), (1, .one (.sl .i32 a1 none))], []⟩ := by
  kernel_rfl
/- ends ['⟨[(0, .one (.sl .rs a0 none)), (1, .one (.sl .i32 a1 none))], []⟩'] -/
theorem pc10_1 (n : Nat) (x0 : List (List Int)) (x1 : List Int) (K : Ex → S6 → Option E6) : evCode E10 n (cdAt Go.Proofs.Try.f10 [1, 0]) ⟨[(0, .one (.sl .rs x0 none)), (1, .one (.sl .i32 x1 none))], []⟩ K =
    bif room (List.length [120]) 1 then (bif limL [runes6 [120]] then (bif (List.length (dedentF [runes6 [120]]) : Int) != 1 then (K .ret ⟨[(4, .one (.bool false))], []⟩) else (K .normal ⟨[(0, .one (.sl .rs x0 none)), (1, .one (.sl .i32 x1 none)), (31, .one (.bool ((List.length (dedentF [runes6 [120]]) : Int) != 1)))], []⟩)) else none) else none := by
  kernel_rfl
/- ends ['⟨[(0, .one (.sl .rs x0 none)), (1, .one (.sl .i32 x1 none)), (31, .one (.bool ((List.length (dedentF [runes6 [120]]) : Int) != 1)))], []⟩'] -/
theorem pc10_2 (n : Nat) (x0 : List (List Int)) (x1 : List Int) (x31 : Bool) (K : Ex → S6 → Option E6) : evCode E10 n (cdAt Go.Proofs.Try.f10 [1, 1, 0]) ⟨[(0, .one (.sl .rs x0 none)), (1, .one (.sl .i32 x1 none)), (31, .one (.bool x31))], []⟩ K =
    bif lim4 x1 then (bif room (List.length x1 + 3) 4 then (K .normal ⟨[(0, .one (.sl .rs x0 none)), (1, .one (.sl .i32 x1 none)), (5, .one (.sl .i32 (x1 ++ [7, 7, 7]) (some 1033)))], [1033]⟩) else none) else none := by
  kernel_rfl
/- ends ['⟨[(0, .one (.sl .rs x0 none)), (1, .one (.sl .i32 x1 none)), (5, .one (.sl .i32 (x1 ++ [7, 7, 7]) (some 1033)))], [1033]⟩'] -/
theorem pc10_3 (n : Nat) (x0 : List (List Int)) (x1 : List Int) (x5 : List Int) (K : Ex → S6 → Option E6) : evCode E10 n (cdAt Go.Proofs.Try.f10 [1, 1, 1, 0]) ⟨[(0, .one (.sl .rs x0 none)), (1, .one (.sl .i32 x1 none)), (5, .one (.sl .i32 x5 (some 1033)))], [1033]⟩ K =
    match sub x5 0 (List.length x1 : Int) with | none => none | some y1 => (K .normal ⟨[(0, .one (.sl .rs x0 none)), (1, .one (.sl .i32 x1 none)), (5, .one (.sl .i32 x5 (some 1033))), (6, .one (.sl .i32 y1 none))], [1033]⟩) := by
  kernel_rfl
/- ends ['⟨[(0, .one (.sl .rs x0 none)), (1, .one (.sl .i32 x1 none)), (5, .one (.sl .i32 x5 (some 1033))), (6, .one (.sl .i32 y1 none))], [1033]⟩'] -/
theorem pc10_4 (n : Nat) (x0 : List (List Int)) (x1 : List Int) (x5 : List Int) (x6 : List Int) (K : Ex → S6 → Option E6) : evCode E10 n (cdAt Go.Proofs.Try.f10 [1, 1, 1, 1, 0]) ⟨[(0, .one (.sl .rs x0 none)), (1, .one (.sl .i32 x1 none)), (5, .one (.sl .i32 x5 (some 1033))), (6, .one (.sl .i32 x6 none))], [1033]⟩ K =
    bif lim4 x6 then (K .normal ⟨[(0, .one (.sl .rs x0 none)), (1, .one (.sl .i32 x1 none)), (5, .one (.sl .i32 x5 (some 1033))), (6, .one (.sl .i32 x6 none))], [1033]⟩) else none := by
  kernel_rfl
/- ends ['⟨[(0, .one (.sl .rs x0 none)), (1, .one (.sl .i32 x1 none)), (5, .one (.sl .i32 x5 (some 1033))), (6, .one (.sl .i32 x6 none))], [1033]⟩'] -/
theorem pc10_5 (n : Nat) (x0 : List (List Int)) (x1 : List Int) (x5 : List Int) (x6 : List Int) (K : Ex → S6 → Option E6) : evCode E10 n (cdAt Go.Proofs.Try.f10 [1, 1, 1, 1, 1, 0]) ⟨[(0, .one (.sl .rs x0 none)), (1, .one (.sl .i32 x1 none)), (5, .one (.sl .i32 x5 (some 1033))), (6, .one (.sl .i32 x6 none))], [1033]⟩ K =
    bif smL x6 then (K .normal ⟨[(0, .one (.sl .rs x0 none)), (1, .one (.sl .i32 x1 none)), (5, .one (.sl .i32 x5 (some 1033)))], [1033]⟩) else none := by
  kernel_rfl
/- ends ['⟨[(0, .one (.sl .rs x0 none)), (1, .one (.sl .i32 x1 none)), (5, .one (.sl .i32 x5 (some 1033)))], [1033]⟩'] -/
def st10_8 (x0 : List (List Int)) (x1 : List Int) (x5 : List Int) (x45 : Int) (x46 : Int) : S6 := ⟨[(0, .one (.sl .rs x0 none)), (1, .one (.sl .i32 x1 none)), (5, .one (.sl .i32 x5 (some 1033))), (45, .one (.int .i64 x45)), (46, .one (.int .i64 x46))], [1033]⟩
theorem pc10_6 (n : Nat) (x0 : List (List Int)) (x1 : List Int) (x5 : List Int) (K : Ex → S6 → Option E6) : evCode E10 n (cdAt Go.Proofs.Try.f10 [1, 1, 1, 1, 1, 1, 0]) ⟨[(0, .one (.sl .rs x0 none)), (1, .one (.sl .i32 x1 none)), (5, .one (.sl .i32 x5 (some 1033)))], [1033]⟩ K =
    evLoop (lbC E10 (cdAt Go.Proofs.Try.f10 [1, 1, 1, 1, 1, 1, 0, 1, 0, 0]) 10008 n) n (st10_8 x0 x1 x5 (List.length x1 : Int) 0) (blockK 0 K) := by
  kernel_rfl
theorem lb10_8_eq (n : Nat) (x0 : List (List Int)) (x1 : List Int) (x5 : List Int) (x45 : Int) (x46 : Int) (K : Ex → S6 → Option E6) : lbC E10 (cdAt Go.Proofs.Try.f10 [1, 1, 1, 1, 1, 1, 0, 1, 0, 0]) 10008 n (st10_8 x0 x1 x5 x45 x46) K =
    bif decide (x46 < x45) then (match idx x5 x46 with | none => none | some y1 => (match idx x1 x46 with | none => none | some y2 => (bif y1 != y2 then (K .ret ⟨[(4, .one (.bool false))], []⟩) else (K .normal (st10_8 x0 x1 x5 x45 (IntKind.wrap .i64 (x46 + 1))))))) else (K (.exit 0) ⟨[(0, .one (.sl .rs x0 none)), (1, .one (.sl .i32 x1 none)), (5, .one (.sl .i32 x5 (some 1033))), (45, .one (.int .i64 x45)), (46, .one (.int .i64 x46)), (47, .one (.bool (decide (x46 < x45))))], [1033]⟩) := by
  kernel_rfl
theorem ex10_8_0 (n : Nat) (x0 : List (List Int)) (x1 : List Int) (x5 : List Int) (x45 : Int) (x46 : Int) (x47 : Bool) (K : Ex → S6 → Option E6) : (blockK 0 K) (.exit 0) ⟨[(0, .one (.sl .rs x0 none)), (1, .one (.sl .i32 x1 none)), (5, .one (.sl .i32 x5 (some 1033))), (45, .one (.int .i64 x45)), (46, .one (.int .i64 x46)), (47, .one (.bool x47))], [1033]⟩ =
    K .normal ⟨[(0, .one (.sl .rs x0 none)), (1, .one (.sl .i32 x1 none)), (5, .one (.sl .i32 x5 (some 1033))), (45, .one (.int .i64 x45)), (46, .one (.int .i64 x46)), (47, .one (.bool x47))], [1033]⟩ := by
  kernel_rfl
/- ends ['⟨[(0, .one (.sl .rs x0 none)), (1, .one (.sl .i32 x1 none)), (5, .one (.sl .i32 x5 (some 1033))), (45, .one (.int .i64 x45)), (46, .one (.int .i64 x46)), (47, .one (.bool x47))], [1033]⟩'] -/
theorem pc10_7 (n : Nat) (x0 : List (List Int)) (x1 : List Int) (x5 : List Int) (x45 : Int) (x46 : Int) (x47 : Bool) (K : Ex → S6 → Option E6) : evCode E10 n (cdAt Go.Proofs.Try.f10 [1, 1, 1, 1, 1, 1, 1, 0]) ⟨[(0, .one (.sl .rs x0 none)), (1, .one (.sl .i32 x1 none)), (5, .one (.sl .i32 x5 (some 1033))), (45, .one (.int .i64 x45)), (46, .one (.int .i64 x46)), (47, .one (.bool x47))], [1033]⟩ K =
    match idx x5 (List.length x1 : Int) with | none => none | some y1 => (bif (y1 != 7) == false then (match idx x5 (IntKind.wrap .i64 ((List.length x1 : Int) + 1)) with | none => none | some y2 => (bif (y2 != 7) == false then (match idx x5 (IntKind.wrap .i64 ((List.length x1 : Int) + 2)) with | none => none | some y3 => (bif y3 != 7 then (K .ret ⟨[(4, .one (.bool false))], []⟩) else (K .normal ⟨[(0, .one (.sl .rs x0 none)), (82, .one (.bool (y3 != 7)))], []⟩))) else (K .ret ⟨[(4, .one (.bool false))], []⟩))) else (K .ret ⟨[(4, .one (.bool false))], []⟩)) := by
  kernel_rfl
/- ends ['⟨[(0, .one (.sl .rs x0 none)), (82, .one (.bool (y3 != 7)))], []⟩'] -/
def st10_73 (x10 : List (List Int)) (x11 : List (List Int)) (x222 : Int) (x223 : Int) : S6 := ⟨[(10, .one (.sl .rs x10 none)), (11, .one (.sl .rs x11 none)), (222, .one (.int .i64 x222)), (223, .one (.int .i64 x223))], []⟩
theorem pc10_22 (n : Nat) (b0 : List (List Int)) (w0 : List (List Int)) : evCode E10 n (cdAt Go.Proofs.Try.f10 [1, 1, 1, 1, 1, 1, 1, 1, 1, 1, 1, 1, 1, 1, 1, 1, 1, 1, 1, 1, 1, 1]) ⟨[(10, .one (.sl .rs b0 none)), (11, .one (.sl .rs w0 none))], []⟩ (retK Go.Proofs.Try.f10.results.toList) =
    evLoop (lbC E10 (cdAt Go.Proofs.Try.f10 [1, 1, 1, 1, 1, 1, 1, 1, 1, 1, 1, 1, 1, 1, 1, 1, 1, 1, 1, 1, 1, 1, 0, 1, 0, 0]) 10073 n) n (st10_73 b0 w0 (List.length b0 : Int) 0) (blockK 22 (seqK (evCode E10 n (cdAt Go.Proofs.Try.f10 [1, 1, 1, 1, 1, 1, 1, 1, 1, 1, 1, 1, 1, 1, 1, 1, 1, 1, 1, 1, 1, 1, 1])) (retK Go.Proofs.Try.f10.results.toList))) := by
  kernel_rfl
theorem lb10_73_eq (n : Nat) (x10 : List (List Int)) (x11 : List (List Int)) (x222 : Int) (x223 : Int) (K : Ex → S6 → Option E6) : lbC E10 (cdAt Go.Proofs.Try.f10 [1, 1, 1, 1, 1, 1, 1, 1, 1, 1, 1, 1, 1, 1, 1, 1, 1, 1, 1, 1, 1, 1, 0, 1, 0, 0]) 10073 n (st10_73 x10 x11 x222 x223) K =
    bif decide (x223 < x222) then (match idx x10 x223 with | none => none | some y1 => (match idx x11 x223 with | none => none | some y2 => (bif (List.length y1 : Int) != (List.length y2 : Int) then (K .ret ⟨[(4, .one (.bool false))], []⟩) else (K .normal (st10_73 x10 x11 x222 (IntKind.wrap .i64 (x223 + 1))))))) else (K (.exit 22) ⟨[(10, .one (.sl .rs x10 none)), (11, .one (.sl .rs x11 none)), (222, .one (.int .i64 x222)), (223, .one (.int .i64 x223)), (224, .one (.bool (decide (x223 < x222))))], []⟩) := by
  kernel_rfl
theorem ex10_73_22 (n : Nat) (x10 : List (List Int)) (x11 : List (List Int)) (x222 : Int) (x223 : Int) (x224 : Bool) : (blockK 22 (seqK (evCode E10 n (cdAt Go.Proofs.Try.f10 [1, 1, 1, 1, 1, 1, 1, 1, 1, 1, 1, 1, 1, 1, 1, 1, 1, 1, 1, 1, 1, 1, 1])) (retK Go.Proofs.Try.f10.results.toList))) (.exit 22) ⟨[(10, .one (.sl .rs x10 none)), (11, .one (.sl .rs x11 none)), (222, .one (.int .i64 x222)), (223, .one (.int .i64 x223)), (224, .one (.bool x224))], []⟩ =
    some (.one (.bool true)) := by
  kernel_rfl
end Go.Aev
end

section
set_option linter.unusedVariables false
namespace Go.Aev
open Go.Proofs

/-- Pieces of code one behind the other. -/
def evPre {Ty : Type} {den : Ty → Type} {R : Type} (E : Env Ty den) (n : Nat) : List Code → St Ty den → (St Ty den → Option R) → Option R
  | [], s, k => k s
  | x :: xs, s, k => evCode E n x s fun e s' => match e with
    | .normal => evPre E n xs s' k
    | _ => none
def codes (xs : List Code) (rest : Code) : Code := xs.foldr Code.seq rest

theorem evPre_sound {Ty : Type} {den : Ty → Type} {R : Type} {P : Program} {E : Env Ty den} {B : Bs} (hE : EnvOk P E B) (n : Nat) (rest : Code) {r : R} {k : St Ty den → Option R} {Q : Exit → Act → World → Prop}
    (hrest : ∀ s' a' w', k s' = some r → REL E.U B s' a' w' → a'.tmps.size = E.nt → rest.wp P Q a' w') :
    ∀ (xs : List Code) (s : St Ty den) (a : Act) (w : World), evPre E n xs s k = some r → REL E.U B s a w → a.tmps.size = E.nt → (codes xs rest).wp P Q a w
  | [], s, a, w, h, hr, hsz => hrest s a w h hr hsz
  | x :: xs, s, a, w, h, hr, hsz => by
    refine wp_seq (evCode_sound hE n x s a w _ _ h hr hsz fun e s' a' w' hk hr' hsz' => ?_)
    cases e with
    | normal => exact evPre_sound hE n rest hrest xs s' a' w' hk hr' hsz'
    | exit i => cases hk
    | ret => cases hk

def preA (f : Func) : List Code := [cdAt f [0], cdAt f [1, 0], cdAt f [1, 1, 0], cdAt f [1, 1, 1, 0], cdAt f [1, 1, 1, 1, 0], cdAt f [1, 1, 1, 1, 1, 0], cdAt f [1, 1, 1, 1, 1, 1, 0], cdAt f [1, 1, 1, 1, 1, 1, 1, 0]]
theorem preA_body : cdAt Try.f10 [] = codes (preA Try.f10) (cdAt Try.f10 [1, 1, 1, 1, 1, 1, 1, 1]) := by kernel_rfl

theorem one_x : (dedentF [runes6 [120]]).length = 1 := by kernel_rfl
theorem lim_x : limL [runes6 [120]] = true := by kernel_rfl

theorem segA (ls : List (List Int)) (l : List Int) (hl : smL l = true) (n : Nat) (hn : l.length < n) (k : S6 → Option E6) (r : E6) (hk : ∀ b, k ⟨[(0, .one (.sl .rs ls none)), (82, .one (.bool b))], []⟩ = some r) :
    evPre E10 n (preA Try.f10) ⟨[(0, .one (.sl .rs ls none)), (1, .one (.sl .i32 l none))], []⟩ k = some r := by
  have hlen := smL_iff.1 hl
  have h4 : lim4 l = true := lim4_iff.2 (by omega)
  unfold preA
  simp only [evPre]
  refine (pc10_0 n ls l _).trans ?_
  dsimp only
  refine (pc10_1 n ls l _).trans ?_
  rw [show room (List.length [120]) 1 = true from rfl, lim_x, one_x, cond_true, cond_true, show (((1 : Nat) : Int) != 1) = false from rfl, cond_false]
  dsimp only
  refine (pc10_2 n ls l _ _).trans ?_
  rw [h4, room_iff.2 (by omega), cond_true, cond_true]
  dsimp only
  refine (pc10_3 n ls l (l ++ [7, 7, 7]) _).trans ?_
  have hs : sub (l ++ [7, 7, 7]) 0 (l.length : Int) = some l := by
    have := sub_nat (l := l ++ [7, 7, 7]) (lo := 0) (hi := l.length) (Nat.zero_le _) (by simp)
    simpa using this
  rw [hs]
  dsimp only
  refine (pc10_4 n ls l (l ++ [7, 7, 7]) l _).trans ?_
  rw [h4, cond_true]
  dsimp only
  refine (pc10_5 n ls l (l ++ [7, 7, 7]) l _).trans ?_
  rw [hl, cond_true]
  dsimp only
  refine (pc10_6 n ls l (l ++ [7, 7, 7]) _).trans ?_
  refine loop_rule (fun i : Nat => st10_8 ls l (l ++ [7, 7, 7]) (l.length : Int) i) (fun i => i ≤ l.length) (fun i => l.length - i) (fun _ => some r) ?_ n 0 (Nat.zero_le _) (by omega)
  intro i hi K hke hkr hnx
  rw [lb10_8_eq]
  simp only [Bool.cond_decide]
  by_cases h : i < l.length
  · rw [if_pos (by omega), idx_lt (l := l ++ [7, 7, 7]) (by simp; omega)]
    dsimp only
    rw [idx_lt h]
    dsimp only
    rw [List.getElem_append_left h, bne_self_eq_false, cond_false, wrapSucc (by omega)]
    exact hnx (i + 1) (by omega) (by omega)
  · rw [if_neg (by omega), hke, ex10_8_0 n]
    dsimp only
    have e0 : idx (l ++ [7, 7, 7]) (l.length : Int) = some 7 := by rw [idx_nat]; simp
    have e1 : idx (l ++ [7, 7, 7]) (IntKind.wrap .i64 ((l.length : Int) + 1)) = some 7 := by rw [wrapSucc (by omega), idx_nat]; simp
    have e2 : idx (l ++ [7, 7, 7]) (IntKind.wrap .i64 ((l.length : Int) + 2)) = some 7 := by
      rw [wrap64 (by omega) (by omega), show ((l.length : Int) + 2) = ((l.length + 2 : Nat) : Int) by omega, idx_nat]; simp
    refine (pc10_7 n ls l (l ++ [7, 7, 7]) _ _ _ _).trans ?_
    rw [e0]
    dsimp only
    rw [show (((7 : Int) != 7) == false) = true from rfl, cond_true, e1]
    dsimp only
    rw [show (((7 : Int) != 7) == false) = true from rfl, cond_true, e2]
    dsimp only
    rw [show ((7 : Int) != 7) = false from rfl, cond_false]
    exact hk _

theorem segF (B W : List (List Int)) (hlen : B.length = W.length) (hrow : ∀ (i : Nat) x y, B[i]? = some x → W[i]? = some y → x.length = y.length) (hB : B.length ≤ 1073741824) (n : Nat) (hn : B.length < n) :
    evCode E10 n (cdAt Try.f10 [1, 1, 1, 1, 1, 1, 1, 1, 1, 1, 1, 1, 1, 1, 1, 1, 1, 1, 1, 1, 1, 1]) ⟨[(10, .one (.sl .rs B none)), (11, .one (.sl .rs W none))], []⟩ (retK Try.f10.results.toList) = some (.one (.bool true)) := by
  rw [pc10_22]
  refine loop_rule (fun i : Nat => st10_73 B W (B.length : Int) i) (fun i => i ≤ B.length) (fun i => B.length - i) (fun _ => some (.one (.bool true) : E6)) ?_ n 0 (Nat.zero_le _) (by omega)
  intro i hi K hke hkr hnx
  rw [lb10_73_eq]
  simp only [Bool.cond_decide]
  by_cases h : i < B.length
  · rw [if_pos (by omega), idx_lt h]
    dsimp only
    rw [idx_lt (l := W) (by omega)]
    dsimp only
    have := hrow i _ _ (List.getElem?_eq_getElem h) (List.getElem?_eq_getElem (by omega))
    rw [this, bne_self_eq_false, cond_false, wrapSucc (by omega)]
    exact hnx (i + 1) (by omega) (by omega)
  · rw [if_neg (by omega), hke, ex10_73_22]
end Go.Aev
end
