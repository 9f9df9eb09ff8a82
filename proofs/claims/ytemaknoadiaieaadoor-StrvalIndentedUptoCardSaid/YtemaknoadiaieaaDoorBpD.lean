/- Proved here: lemmas of an evaluator over the model's code that the claim's text uses (P32). Conditions: those that each lemma states. -/
import Derived.Test.YtemaknoadiaieaaDoorBpC
import Derived.Test.YtemaknoadiaieaaDoorBpA
import Derived.Test.YtemaknoadiaieaaDoorBshf
section
set_option linter.unusedVariables false
namespace Go.Aev
open Go.Proofs Go.RowKit

/-- The tables of unicode/utf8 and the length of internal/bytealg, where the program keeps them. -/
def IB : Inv := fun w wm => Lib.Utf8Tabs 0 1 w ∧ (256 ≤ wm 0 ∧ 32 ≤ wm 1)
theorem IB_mono : ∀ w m w' m', IB w m → Ext w m w' m' → IB w' m' := by
  intro w m w' m' ⟨⟨h1, h2⟩, h3, h4⟩ hx
  have l0 := hx.le 0
  have l1 := hx.le 1
  refine ⟨⟨fun c hc => ?_, fun i hi => ⟨?_, ?_⟩⟩, by omega, by omega⟩
  · rw [hx.cell 0 c (by omega)]; exact h1 c hc
  · rw [hx.cell 1 _ (by omega)]; exact (h2 i hi).1
  · rw [hx.cell 1 _ (by omega)]; exact (h2 i hi).2
def opt (S : List L6 → Option (Bool × E6)) : List L6 → Option E6 := fun ls => match S ls with
  | some (true, e) => some e
  | _ => none
theorem opt_some {S : List L6 → Option (Bool × E6)} {ls : List L6} {r : E6} (h : opt S ls = some r) : ∃ e, S ls = some (true, e) ∧ e = r := by
  unfold opt at h
  split at h
  · rename_i e he
    exact ⟨e, he, by simpa using h⟩
  · cases h
theorem of_sound {f : FuncId} {S : List L6 → Option (Bool × E6)} (h : Sound Tryd.prog U6 IB f (opt S)) {ls : List L6} {r : E6} (hr : S ls = some (true, r)) :
    (∀ args w, (callFunc f args).run Tryd.prog w = .ok (.enter f args) w) ∧ CallOk Tryd.prog U6 IB f ls r :=
  ⟨h.enter, h.ok ls r (by unfold opt; rw [hr])⟩
theorem and1 {a b : Bool} (h : (a && b) = true) : a = true := (Bool.and_eq_true _ _ ▸ h).1
theorem and2 {a b : Bool} (h : (a && b) = true) : b = true := (Bool.and_eq_true _ _ ▸ h).2
theorem dec1 {p : Prop} [Decidable p] (h : decide p = true) : p := of_decide_eq_true h
theorem ends_ok' (l : List Int) (i : Int) (h : (lim4 l && decide (0 ≤ i) && decide (i < (l.length : Int))) = true) (n : Nat) : evFn E52 n Tryd.f57 [.sl .i32 l none, .int .i64 i] = some (.one (.bool (endsF (l.drop i.toNat)))) := by
  have h1 := dec1 (and2 h); have h2 := dec1 (and2 (and1 h))
  have := ends_ok l (and1 (and1 h)) i.toNat (by omega) n
  rw [show ((i.toNat : Nat) : Int) = i by omega] at this
  exact this

/-! ### functions of the library, by the shelf's contracts -/
/-- A callee that gives back no slice and leaves what was there. -/
theorem sound_ext {P : Program} {f : FuncId} {S : List L6 → Option E6} {I : Inv} (henter : ∀ args w, (callFunc f args).run P w = .ok (.enter f args) w)
    (h : ∀ ls r, S ls = some r → owns0 ls = false ∧ r.isIter = false ∧ (∀ d, r.has d = false) ∧ ∀ (w : World) (g : Gh) (vs : List Value), I w g.wm → LsRep U6 w g ls vs →
      ∃ v, (∀ (w' : World) (g' : Gh), ERep U6 w' g' r v) ∧ Calls P f vs.toArray w fun e w' => e = .returned v ∧ Below w.heap.size w w') : Sound P U6 I f S := by
  refine ⟨henter, fun ls r hS w g vs hI hz hrep _ _ => ?_⟩
  obtain ⟨h1, h2, h3, h4⟩ := h ls r hS
  obtain ⟨v, hv, hc⟩ := h4 w g vs hI hrep
  refine hc.mono fun e w' ⟨he, hb⟩ => ⟨v, g, he, ?_⟩
  rw [h1]
  refine { os := hb.os, tape := hb.tape, output := hb.output, size := hb.size, frame := fun b hb' _ => ⟨hb.block b hb', rfl⟩, ext := ⟨fun b off ho => ?_, fun _ => Nat.le_refl _⟩, zero := fun b hb' => hz b (Nat.le_trans hb.size hb'), rep := hv _ _, nit := h2, tip := fun d hd => ?_, disj := fun d e b hd => ?_, mine := fun d b hd => ?_ }
  · have ho' : off < g.wm b := ho
    have hlt : b < w.heap.size := by
      rcases Nat.lt_or_ge b w.heap.size with h5 | h5
      · exact h5
      · have := hz b h5; omega
    simp only [World.cell?, hb.block b hlt]
  · rw [h3] at hd; cases hd
  · rw [h3] at hd; cases hd
  · rw [h3] at hd; cases hd
theorem rep_str1 {w : World} {g : Gh} {s : List UInt8} {vs : List Value} (h : LsRep U6 w g [.str s] vs) : vs = [.string ⟨s.toArray⟩] := by
  match vs, h with
  | [v], h => rw [CRep.str_inv h.1.1]
theorem rep_str2 {w : World} {g : Gh} {s t : List UInt8} {vs : List Value} (h : LsRep U6 w g [.str s, .str t] vs) : vs = [.string ⟨s.toArray⟩, .string ⟨t.toArray⟩] := by
  match vs, h with
  | [v, u], h => rw [CRep.str_inv h.1.1, CRep.str_inv h.2.1.1]
theorem rep_str3 {w : World} {g : Gh} {s t u : List UInt8} {vs : List Value} (h : LsRep U6 w g [.str s, .str t, .str u] vs) : vs = [.string ⟨s.toArray⟩, .string ⟨t.toArray⟩, .string ⟨u.toArray⟩] := by
  match vs, h with
  | [v, x, y], h => rw [CRep.str_inv h.1.1, CRep.str_inv h.2.1.1, CRep.str_inv h.2.2.1.1]
theorem rep_strint {w : World} {g : Gh} {s : List UInt8} {k : IntKind} {n : Int} {vs : List Value} (h : LsRep U6 w g [.str s, .int k n] vs) : vs = [.string ⟨s.toArray⟩, .int k n] := by
  match vs, h with
  | [v, x], h => rw [CRep.str_inv h.1.1, CRep.int_inv h.2.1.1]
theorem szB (s : List UInt8) : (ByteArray.mk s.toArray).size = s.length := by simp [ByteArray.size]

theorem snd217 : Sound Tryd.prog U6 IB 17 (opt S217) := by
  refine sound_ext Tryd.call17 fun ls r h => ?_
  obtain ⟨e, h1, rfl⟩ := opt_some h
  unfold S217 at h1
  split at h1
  · rename_i a0 a1
    simp only [Option.some.injEq, Prod.mk.injEq] at h1
    obtain ⟨hg, rfl⟩ := h1
    refine ⟨rfl, rfl, fun d => rfl, fun w g vs _ hr => ?_⟩
    rw [rep_str2 hr]
    exact ⟨_, fun w' g' => LRep.bool _, (Tryd.strings_HasPrefix ⟨a0.toArray⟩ ⟨a1.toArray⟩ w).mono fun e w' ⟨he, hw⟩ => ⟨he, hw ▸ Below.refl _ _⟩⟩
  · cases h1
theorem snd237 : Sound Tryd.prog U6 IB 37 (opt S237) := by
  refine sound_ext Tryd.call37 fun ls r h => ?_
  obtain ⟨e, h1, rfl⟩ := opt_some h
  unfold S237 at h1
  split at h1
  · rename_i a0 a1
    simp only [Option.some.injEq, Prod.mk.injEq] at h1
    obtain ⟨hg, rfl⟩ := h1
    have hl := smS_iff.1 (and1 hg)
    refine ⟨rfl, rfl, fun d => rfl, fun w g vs _ hr => ?_⟩
    rw [rep_str2 hr]
    exact ⟨_, fun w' g' => LRep.bool _, (Tryd.strings_HasSuffix ⟨a0.toArray⟩ ⟨a1.toArray⟩ w (by rw [szB]; omega)).mono fun e w' ⟨he, hw⟩ => ⟨he, hw ▸ Below.refl _ _⟩⟩
  · cases h1
theorem snd219 : Sound Tryd.prog U6 IB 19 (opt S219) := by
  refine sound_ext Tryd.call19 fun ls r h => ?_
  obtain ⟨e, h1, rfl⟩ := opt_some h
  unfold S219 at h1
  split at h1
  · rename_i a0 a1
    simp only [Option.some.injEq, Prod.mk.injEq] at h1
    obtain ⟨hg, rfl⟩ := h1
    have c1 := dec1 (and1 (and1 hg))
    have c2 := dec1 (and2 (and1 hg))
    have c3 := dec1 (and2 hg)
    refine ⟨rfl, rfl, fun d => rfl, fun w g vs _ hr => ?_⟩
    rw [rep_strint hr]
    have hsz : (ByteArray.mk a0.toArray).size * a1.toNat ≤ 140737488355328 := by
      rw [szB]
      have : a0.length * a1.toNat ≤ 1 * 1000 := Nat.mul_le_mul c1 (by omega)
      omega
    have := Tryd.strings_Repeat ⟨a0.toArray⟩ a1.toNat w (by omega) hsz
    rw [show ((a1.toNat : Nat) : Int) = a1 by omega] at this
    exact ⟨_, fun w' g' => LRep.str _, this⟩
  · cases h1
theorem snd249 : Sound Tryd.prog U6 IB 49 (opt S249) := by
  refine sound_ext Tryd.call49 fun ls r h => ?_
  obtain ⟨e, h1, rfl⟩ := opt_some h
  unfold S249 at h1
  split at h1
  · rename_i a0
    simp only [Option.some.injEq, Prod.mk.injEq] at h1
    obtain ⟨hg, rfl⟩ := h1
    refine ⟨rfl, rfl, fun d => rfl, fun w g vs hI hr => ?_⟩
    rw [rep_str1 hr]
    exact ⟨_, fun w' g' => ⟨[.int .i32 (Lib.decodeGo ⟨a0.toArray⟩).1, .int .i64 (Lib.decodeGo ⟨a0.toArray⟩).2], rfl, LRep.int _ _, LRep.int _ _, trivial⟩, Tryd.utf8_DecodeRuneInString ⟨a0.toArray⟩ w hI.1⟩
  · cases h1
theorem snd215 : Sound Tryd.prog U6 IB 15 (opt S215) := by
  refine sound_ext Tryd.call15 fun ls r h => ?_
  obtain ⟨e, h1, rfl⟩ := opt_some h
  unfold S215 at h1
  split at h1
  · rename_i a0
    simp only [Option.some.injEq, Prod.mk.injEq] at h1
    obtain ⟨hg, rfl⟩ := h1
    have hl := smS_iff.1 hg
    refine ⟨rfl, rfl, fun d => rfl, fun w g vs hI hr => ?_⟩
    rw [rep_str1 hr]
    exact ⟨_, fun w' g' => LRep.bool _, Tryd.utf8_ValidString ⟨a0.toArray⟩ w (by rw [szB]; omega) hI.1⟩
  · cases h1

theorem snd41 : Sound Tryd.prog U6 IB 28 (opt S41) := by
  refine sound_of_ev (E := E41) ⟨u6_ok, tb6_ok, fun g ls r h => ?_, IB_mono⟩ Tryd.func28 rfl Tryd.call28 (fun ls r h => ?_)
  · change T41 g ls = some (true, r) at h
    unfold T41 at h
    cases h
  · obtain ⟨e, h1, h2⟩ := opt_some h
    unfold S41 at h1
    split at h1
    · rename_i a0
      simp only [Option.some.injEq, Prod.mk.injEq] at h1
      obtain ⟨hg, rfl⟩ := h1
      subst h2
      exact ⟨0, white_ok a0 _⟩
    · cases h1

theorem snd56 : Sound Tryd.prog U6 IB 33 (opt S56) := by
  refine sound_of_ev (E := E56) ⟨u6_ok, tb6_ok, fun g ls r h => ?_, IB_mono⟩ Tryd.func33 rfl Tryd.call33 (fun ls r h => ?_)
  · change T56 g ls = some (true, r) at h
    unfold T56 at h
    cases h
  · obtain ⟨e, h1, h2⟩ := opt_some h
    unfold S56 at h1
    split at h1
    · rename_i a0
      simp only [Option.some.injEq, Prod.mk.injEq] at h1
      obtain ⟨hg, rfl⟩ := h1
      subst h2
      exact ⟨0, white2_ok a0 _⟩
    · cases h1

theorem snd28 : Sound Tryd.prog U6 IB 66 (opt S28) := by
  refine sound_of_ev (E := E28) ⟨u6_ok, tb6_ok, fun g ls r h => ?_, IB_mono⟩ Tryd.func66 rfl Tryd.call66 (fun ls r h => ?_)
  · change T28 g ls = some (true, r) at h
    unfold T28 at h
    split at h
    · exact of_sound snd41 h
    · cases h
  · obtain ⟨e, h1, h2⟩ := opt_some h
    unfold S28 at h1
    split at h1
    · rename_i a0
      simp only [Option.some.injEq, Prod.mk.injEq] at h1
      obtain ⟨hg, rfl⟩ := h1
      subst h2
      exact ⟨List.length a0 + 1, indent_ok a0 hg _ (Nat.lt_succ_self _)⟩
    · cases h1

theorem snd42 : Sound Tryd.prog U6 IB 63 (opt S42) := by
  refine sound_of_ev (E := E42) ⟨u6_ok, tb6_ok, fun g ls r h => ?_, IB_mono⟩ Tryd.func63 rfl Tryd.call63 (fun ls r h => ?_)
  · change T42 g ls = some (true, r) at h
    unfold T42 at h
    split at h
    · exact of_sound snd56 h
    · cases h
  · obtain ⟨e, h1, h2⟩ := opt_some h
    unfold S42 at h1
    split at h1
    · rename_i a0
      simp only [Option.some.injEq, Prod.mk.injEq] at h1
      obtain ⟨hg, rfl⟩ := h1
      subst h2
      exact ⟨List.length a0 + 1, indent2_ok a0 hg _ (Nat.lt_succ_self _)⟩
    · cases h1

theorem snd27 : Sound Tryd.prog U6 IB 58 (opt S27) := by
  refine sound_of_ev (E := E27) ⟨u6_ok, tb6_ok, fun g ls r h => ?_, IB_mono⟩ Tryd.func58 rfl Tryd.call58 (fun ls r h => ?_)
  · change T27 g ls = some (true, r) at h
    unfold T27 at h
    split at h
    · exact of_sound snd28 h
    · cases h
  · obtain ⟨e, h1, h2⟩ := opt_some h
    unfold S27 at h1
    split at h1
    · rename_i a0
      simp only [Option.some.injEq, Prod.mk.injEq] at h1
      obtain ⟨hg, rfl⟩ := h1
      subst h2
      exact ⟨0, blank_ok a0 hg _⟩
    · cases h1

theorem snd30 : Sound Tryd.prog U6 IB 62 (opt S30) := by
  refine sound_of_ev (E := E30) ⟨u6_ok, tb6_ok, fun g ls r h => ?_, IB_mono⟩ Tryd.func62 rfl Tryd.call62 (fun ls r h => ?_)
  · change T30 g ls = some (true, r) at h
    unfold T30 at h
    split at h
    · exact of_sound snd42 h
    · cases h
  · obtain ⟨e, h1, h2⟩ := opt_some h
    unfold S30 at h1
    split at h1
    · rename_i a0
      simp only [Option.some.injEq, Prod.mk.injEq] at h1
      obtain ⟨hg, rfl⟩ := h1
      subst h2
      exact ⟨0, blank2_ok a0 hg _⟩
    · cases h1

theorem snd13 : Sound Tryd.prog U6 IB 36 (opt S13) := by
  refine sound_of_ev (E := E13) ⟨u6_ok, tb6_ok, fun g ls r h => ?_, IB_mono⟩ Tryd.func36 rfl Tryd.call36 (fun ls r h => ?_)
  · change T13 g ls = some (true, r) at h
    unfold T13 at h
    cases h
  · obtain ⟨e, h1, h2⟩ := opt_some h
    unfold S13 at h1
    split at h1
    · rename_i a0
      simp only [Option.some.injEq, Prod.mk.injEq] at h1
      obtain ⟨hg, rfl⟩ := h1
      subst h2
      exact ⟨0, runes_ok a0 hg _⟩
    · cases h1

theorem snd20 : Sound Tryd.prog U6 IB 14 (opt S20) := by
  refine sound_of_ev (E := E20) ⟨u6_ok, tb6_ok, fun g ls r h => ?_, IB_mono⟩ Tryd.func14 rfl Tryd.call14 (fun ls r h => ?_)
  · change T20 g ls = some (true, r) at h
    unfold T20 at h
    cases h
  · obtain ⟨e, h1, h2⟩ := opt_some h
    unfold S20 at h1
    split at h1
    · rename_i a0
      simp only [Option.some.injEq, Prod.mk.injEq] at h1
      obtain ⟨hg, rfl⟩ := h1
      subst h2
      exact ⟨0, copied_ok a0 hg _⟩
    · cases h1

theorem snd12 : Sound Tryd.prog U6 IB 39 (opt S12) := by
  refine sound_of_ev (E := E12) ⟨u6_ok, tb6_ok, fun g ls r h => ?_, IB_mono⟩ Tryd.func39 rfl Tryd.call39 (fun ls r h => ?_)
  · change T12 g ls = some (true, r) at h
    unfold T12 at h
    split at h
    · exact of_sound snd27 h
    · exact of_sound snd28 h
    · cases h
  · obtain ⟨e, h1, h2⟩ := opt_some h
    unfold S12 at h1
    split at h1
    · rename_i a0
      simp only [Option.some.injEq, Prod.mk.injEq] at h1
      obtain ⟨hg, rfl⟩ := h1
      subst h2
      exact ⟨List.length a0 + 1, dedent_ok a0 hg _ (Nat.lt_succ_self _)⟩
    · cases h1

theorem snd64 : Sound Tryd.prog U6 IB 90 (opt S64) := by
  refine sound_of_ev (E := E64) ⟨u6_ok, tb6_ok, fun g ls r h => ?_, IB_mono⟩ Tryd.func90 rfl Tryd.call90 (fun ls r h => ?_)
  · change T64 g ls = some (true, r) at h
    unfold T64 at h
    cases h
  · obtain ⟨e, h1, h2⟩ := opt_some h
    unfold S64 at h1
    split at h1
    · rename_i a0
      simp only [Option.some.injEq, Prod.mk.injEq] at h1
      obtain ⟨hg, rfl⟩ := h1
      subst h2
      exact ⟨0, digit_ok a0 _⟩
    · cases h1

theorem snd63 : Sound Tryd.prog U6 IB 85 (opt S63) := by
  refine sound_of_ev (E := E63) ⟨u6_ok, tb6_ok, fun g ls r h => ?_, IB_mono⟩ Tryd.func85 rfl Tryd.call85 (fun ls r h => ?_)
  · change T63 g ls = some (true, r) at h
    unfold T63 at h
    split at h
    · exact of_sound snd64 h
    · cases h
  · obtain ⟨e, h1, h2⟩ := opt_some h
    unfold S63 at h1
    split at h1
    · rename_i a0
      simp only [Option.some.injEq, Prod.mk.injEq] at h1
      obtain ⟨hg, rfl⟩ := h1
      subst h2
      exact ⟨0, hex_ok a0 _⟩
    · cases h1

theorem snd57 : Sound Tryd.prog U6 IB 78 (opt S57) := by
  refine sound_of_ev (E := E57) ⟨u6_ok, tb6_ok, fun g ls r h => ?_, IB_mono⟩ Tryd.func78 rfl Tryd.call78 (fun ls r h => ?_)
  · change T57 g ls = some (true, r) at h
    unfold T57 at h
    split at h
    · exact of_sound snd63 h
    · cases h
  · obtain ⟨e, h1, h2⟩ := opt_some h
    unfold S57 at h1
    split at h1
    · rename_i a0
      simp only [Option.some.injEq, Prod.mk.injEq] at h1
      obtain ⟨hg, rfl⟩ := h1
      subst h2
      exact ⟨4 + 1, hex4_ok a0 hg _ (Nat.lt_succ_self _)⟩
    · cases h1

theorem snd58 : Sound Tryd.prog U6 IB 79 (opt S58) := by
  refine sound_of_ev (E := E58) ⟨u6_ok, tb6_ok, fun g ls r h => ?_, IB_mono⟩ Tryd.func79 rfl Tryd.call79 (fun ls r h => ?_)
  · change T58 g ls = some (true, r) at h
    unfold T58 at h
    cases h
  · obtain ⟨e, h1, h2⟩ := opt_some h
    unfold S58 at h1
    split at h1
    · rename_i a0 a1
      simp only [Option.some.injEq, Prod.mk.injEq] at h1
      obtain ⟨hg, rfl⟩ := h1
      subst h2
      exact ⟨0, join_ok a0 a1 _⟩
    · cases h1

theorem snd43 : Sound Tryd.prog U6 IB 67 (opt S43) := by
  refine sound_of_ev (E := E43) ⟨u6_ok, tb6_ok, fun g ls r h => ?_, IB_mono⟩ Tryd.func67 rfl Tryd.call67 (fun ls r h => ?_)
  · change T43 g ls = some (true, r) at h
    unfold T43 at h
    split at h
    · exact of_sound snd57 h
    · exact of_sound snd58 h
    · cases h
  · obtain ⟨e, h1, h2⟩ := opt_some h
    unfold S43 at h1
    split at h1
    · rename_i a0
      simp only [Option.some.injEq, Prod.mk.injEq] at h1
      obtain ⟨hg, rfl⟩ := h1
      subst h2
      exact ⟨0, coded_ok a0 (and1 hg) (dec1 (and2 hg)) _⟩
    · cases h1

theorem snd31 : Sound Tryd.prog U6 IB 41 (opt S31) := by
  refine sound_of_ev (E := E31) ⟨u6_ok, tb6_ok, fun g ls r h => ?_, IB_mono⟩ Tryd.func41 rfl Tryd.call41 (fun ls r h => ?_)
  · change T31 g ls = some (true, r) at h
    unfold T31 at h
    split at h
    · exact of_sound snd43 h
    · cases h
  · obtain ⟨e, h1, h2⟩ := opt_some h
    unfold S31 at h1
    split at h1
    · rename_i a0
      simp only [Option.some.injEq, Prod.mk.injEq] at h1
      obtain ⟨hg, rfl⟩ := h1
      subst h2
      exact ⟨0, esc_ok a0 hg _⟩
    · cases h1

theorem snd32 : Sound Tryd.prog U6 IB 25 (opt S32) := by
  refine sound_of_ev (E := E32) ⟨u6_ok, tb6_ok, fun g ls r h => ?_, IB_mono⟩ Tryd.func25 rfl Tryd.call25 (fun ls r h => ?_)
  · change T32 g ls = some (true, r) at h
    unfold T32 at h
    cases h
  · obtain ⟨e, h1, h2⟩ := opt_some h
    unfold S32 at h1
    split at h1
    · rename_i a0
      simp only [Option.some.injEq, Prod.mk.injEq] at h1
      obtain ⟨hg, rfl⟩ := h1
      subst h2
      exact ⟨0, source_ok a0 _⟩
    · cases h1

theorem snd61 : Sound Tryd.prog U6 IB 60 (opt S61) := by
  refine sound_of_ev (E := E61) ⟨u6_ok, tb6_ok, fun g ls r h => ?_, IB_mono⟩ Tryd.func60 rfl Tryd.call60 (fun ls r h => ?_)
  · change T61 g ls = some (true, r) at h
    unfold T61 at h
    cases h
  · obtain ⟨e, h1, h2⟩ := opt_some h
    unfold S61 at h1
    split at h1
    · rename_i a0
      simp only [Option.some.injEq, Prod.mk.injEq] at h1
      obtain ⟨hg, rfl⟩ := h1
      subst h2
      exact ⟨0, scalar_ok a0 _⟩
    · cases h1

theorem snd62 : Sound Tryd.prog U6 IB 59 (opt S62) := by
  refine sound_of_ev (E := E62) ⟨u6_ok, tb6_ok, fun g ls r h => ?_, IB_mono⟩ Tryd.func59 rfl Tryd.call59 (fun ls r h => ?_)
  · change T62 g ls = some (true, r) at h
    unfold T62 at h
    cases h
  · obtain ⟨e, h1, h2⟩ := opt_some h
    unfold S62 at h1
    split at h1
    · rename_i a0 a1
      simp only [Option.some.injEq, Prod.mk.injEq] at h1
      obtain ⟨hg, rfl⟩ := h1
      subst h2
      exact ⟨List.length a1 + 1, in_ok a0 a1 hg _ (Nat.lt_succ_self _)⟩
    · cases h1

theorem snd53 : Sound Tryd.prog U6 IB 30 (opt S53) := by
  refine sound_of_ev (E := E53) ⟨u6_ok, tb6_ok, fun g ls r h => ?_, IB_mono⟩ Tryd.func30 rfl Tryd.call30 (fun ls r h => ?_)
  · change T53 g ls = some (true, r) at h
    unfold T53 at h
    split at h
    · exact of_sound snd62 h
    · exact of_sound snd61 h
    · cases h
  · obtain ⟨e, h1, h2⟩ := opt_some h
    unfold S53 at h1
    split at h1
    · rename_i a0
      simp only [Option.some.injEq, Prod.mk.injEq] at h1
      obtain ⟨hg, rfl⟩ := h1
      subst h2
      exact ⟨0, rsource_ok a0 _⟩
    · cases h1

theorem snd44 : Sound Tryd.prog U6 IB 52 (opt S44) := by
  refine sound_of_ev (E := E44) ⟨u6_ok, tb6_ok, fun g ls r h => ?_, IB_mono⟩ Tryd.func52 rfl Tryd.call52 (fun ls r h => ?_)
  · change T44 g ls = some (true, r) at h
    unfold T44 at h
    cases h
  · obtain ⟨e, h1, h2⟩ := opt_some h
    unfold S44 at h1
    split at h1
    · rename_i a0
      simp only [Option.some.injEq, Prod.mk.injEq] at h1
      obtain ⟨hg, rfl⟩ := h1
      subst h2
      exact ⟨0, valid_ok a0 _⟩
    · cases h1

theorem snd59 : Sound Tryd.prog U6 IB 75 (opt S59) := by
  refine sound_of_ev (E := E59) ⟨u6_ok, tb6_ok, fun g ls r h => ?_, IB_mono⟩ Tryd.func75 rfl Tryd.call75 (fun ls r h => ?_)
  · change T59 g ls = some (true, r) at h
    unfold T59 at h
    cases h
  · obtain ⟨e, h1, h2⟩ := opt_some h
    unfold S59 at h1
    split at h1
    · rename_i a0 a1
      simp only [Option.some.injEq, Prod.mk.injEq] at h1
      obtain ⟨hg, rfl⟩ := h1
      subst h2
      exact ⟨0, appendNon_ok a0 a1 (and1 (and1 hg)) (and2 (and1 hg)) (dec1 (and2 hg)) _⟩
    · cases h1

theorem snd45 : Sound Tryd.prog U6 IB 53 (opt S45) := by
  refine sound_of_ev (E := E45) ⟨u6_ok, tb6_ok, fun g ls r h => ?_, IB_mono⟩ Tryd.func53 rfl Tryd.call53 (fun ls r h => ?_)
  · change T45 g ls = some (true, r) at h
    unfold T45 at h
    split at h
    · exact of_sound snd59 h
    · cases h
  · obtain ⟨e, h1, h2⟩ := opt_some h
    unfold S45 at h1
    split at h1
    · rename_i a0 a1
      simp only [Option.some.injEq, Prod.mk.injEq] at h1
      obtain ⟨hg, rfl⟩ := h1
      subst h2
      exact ⟨0, append_ok a0 a1 (and1 hg) (and2 hg) _⟩
    · cases h1

theorem snd50 : Sound Tryd.prog U6 IB 64 (opt S50) := by
  refine sound_of_ev (E := E50) ⟨u6_ok, tb6_ok, fun g ls r h => ?_, IB_mono⟩ Tryd.func64 rfl Tryd.call64 (fun ls r h => ?_)
  · change T50 g ls = some (true, r) at h
    unfold T50 at h
    split at h
    · exact of_sound snd61 h
    · cases h
  · obtain ⟨e, h1, h2⟩ := opt_some h
    unfold S50 at h1
    split at h1
    · rename_i a0
      simp only [Option.some.injEq, Prod.mk.injEq] at h1
      obtain ⟨hg, rfl⟩ := h1
      subst h2
      exact ⟨0, put_ok a0 _⟩
    · cases h1

theorem snd33 : Sound Tryd.prog U6 IB 22 (opt S33) := by
  refine sound_of_ev (E := E33) ⟨u6_ok, tb6_ok, fun g ls r h => ?_, IB_mono⟩ Tryd.func22 rfl Tryd.call22 (fun ls r h => ?_)
  · change T33 g ls = some (true, r) at h
    unfold T33 at h
    split at h
    · exact of_sound snd44 h
    · exact of_sound snd45 h
    · cases h
  · obtain ⟨e, h1, h2⟩ := opt_some h
    unfold S33 at h1
    split at h1
    · rename_i a0
      simp only [Option.some.injEq, Prod.mk.injEq] at h1
      obtain ⟨hg, rfl⟩ := h1
      subst h2
      exact ⟨List.length a0 + 1, enc_ok a0 hg _ (Nat.lt_succ_self _)⟩
    · cases h1

theorem snd35 : Sound Tryd.prog U6 IB 35 (opt S35) := by
  refine sound_of_ev (E := E35) ⟨u6_ok, tb6_ok, fun g ls r h => ?_, IB_mono⟩ Tryd.func35 rfl Tryd.call35 (fun ls r h => ?_)
  · change T35 g ls = some (true, r) at h
    unfold T35 at h
    split at h
    · exact of_sound snd50 h
    · cases h
  · obtain ⟨e, h1, h2⟩ := opt_some h
    unfold S35 at h1
    split at h1
    · rename_i a0
      simp only [Option.some.injEq, Prod.mk.injEq] at h1
      obtain ⟨hg, rfl⟩ := h1
      subst h2
      exact ⟨List.length a0 + 1, renc_ok a0 hg _ (Nat.lt_succ_self _)⟩
    · cases h1

theorem snd19 : Sound Tryd.prog U6 IB 16 (opt S19) := by
  refine sound_of_ev (E := E19) ⟨u6_ok, tb6_ok, fun g ls r h => ?_, IB_mono⟩ Tryd.func16 rfl Tryd.call16 (fun ls r h => ?_)
  · change T19 g ls = some (true, r) at h
    unfold T19 at h
    split at h
    · exact of_sound snd33 h
    · exact of_sound snd32 h
    · exact of_sound snd31 h
    · cases h
  · obtain ⟨e, h1, h2⟩ := opt_some h
    unfold S19 at h1
    split at h1
    · rename_i a0
      simp only [Option.some.injEq, Prod.mk.injEq] at h1
      obtain ⟨hg, rfl⟩ := h1
      subst h2
      exact ⟨List.length a0 + 1, quoted_ok a0 hg _ (Nat.lt_succ_self _)⟩
    · cases h1

theorem snd51 : Sound Tryd.prog U6 IB 29 (opt S51) := by
  refine sound_of_ev (E := E51) ⟨u6_ok, tb6_ok, fun g ls r h => ?_, IB_mono⟩ Tryd.func29 rfl Tryd.call29 (fun ls r h => ?_)
  · change T51 g ls = some (true, r) at h
    unfold T51 at h
    cases h
  · obtain ⟨e, h1, h2⟩ := opt_some h
    unfold S51 at h1
    split at h1
    · rename_i a0
      simp only [Option.some.injEq, Prod.mk.injEq] at h1
      obtain ⟨hg, rfl⟩ := h1
      subst h2
      exact ⟨0, quotes_ok a0 hg _⟩
    · cases h1

theorem snd52 : Sound Tryd.prog U6 IB 57 (opt S52) := by
  refine sound_of_ev (E := E52) ⟨u6_ok, tb6_ok, fun g ls r h => ?_, IB_mono⟩ Tryd.func57 rfl Tryd.call57 (fun ls r h => ?_)
  · change T52 g ls = some (true, r) at h
    unfold T52 at h
    cases h
  · obtain ⟨e, h1, h2⟩ := opt_some h
    unfold S52 at h1
    split at h1
    · rename_i a0 a1
      simp only [Option.some.injEq, Prod.mk.injEq] at h1
      obtain ⟨hg, rfl⟩ := h1
      subst h2
      exact ⟨0, ends_ok' a0 a1 hg _⟩
    · cases h1

theorem snd36 : Sound Tryd.prog U6 IB 38 (opt S36) := by
  refine sound_of_ev (E := E36) ⟨u6_ok, tb6_ok, fun g ls r h => ?_, IB_mono⟩ Tryd.func38 rfl Tryd.call38 (fun ls r h => ?_)
  · change T36 g ls = some (true, r) at h
    unfold T36 at h
    split at h
    · exact of_sound snd32 h
    · exact of_sound snd51 h
    · cases h
  · obtain ⟨e, h1, h2⟩ := opt_some h
    unfold S36 at h1
    split at h1
    · rename_i a0
      simp only [Option.some.injEq, Prod.mk.injEq] at h1
      obtain ⟨hg, rfl⟩ := h1
      subst h2
      exact ⟨List.length a0 + 1, unmasked_ok a0 hg _ (Nat.lt_succ_self _)⟩
    · cases h1

theorem snd37 : Sound Tryd.prog U6 IB 26 (opt S37) := by
  refine sound_of_ev (E := E37) ⟨u6_ok, tb6_ok, fun g ls r h => ?_, IB_mono⟩ Tryd.func26 rfl Tryd.call26 (fun ls r h => ?_)
  · change T37 g ls = some (true, r) at h
    unfold T37 at h
    split at h
    · exact of_sound snd52 h
    · cases h
  · obtain ⟨e, h1, h2⟩ := opt_some h
    unfold S37 at h1
    split at h1
    · rename_i a0
      simp only [Option.some.injEq, Prod.mk.injEq] at h1
      obtain ⟨hg, rfl⟩ := h1
      subst h2
      exact ⟨List.length a0 + 1, lines_ok a0 hg _ (Nat.lt_succ_self _)⟩
    · cases h1

theorem snd55 : Sound Tryd.prog U6 IB 61 (opt S55) := by
  refine sound_of_ev (E := E55) ⟨u6_ok, tb6_ok, fun g ls r h => ?_, IB_mono⟩ Tryd.func61 rfl Tryd.call61 (fun ls r h => ?_)
  · change T55 g ls = some (true, r) at h
    unfold T55 at h
    cases h
  · obtain ⟨e, h1, h2⟩ := opt_some h
    unfold S55 at h1
    split at h1
    · rename_i a0
      simp only [Option.some.injEq, Prod.mk.injEq] at h1
      obtain ⟨hg, rfl⟩ := h1
      subst h2
      exact ⟨List.length a0 + 1, starts_ok a0 hg _ (Nat.lt_succ_self _)⟩
    · cases h1

theorem snd39 : Sound Tryd.prog U6 IB 31 (opt S39) := by
  refine sound_of_ev (E := E39) ⟨u6_ok, tb6_ok, fun g ls r h => ?_, IB_mono⟩ Tryd.func31 rfl Tryd.call31 (fun ls r h => ?_)
  · change T39 g ls = some (true, r) at h
    unfold T39 at h
    split at h
    · exact of_sound snd55 h
    · cases h
  · obtain ⟨e, h1, h2⟩ := opt_some h
    unfold S39 at h1
    split at h1
    · rename_i a0
      simp only [Option.some.injEq, Prod.mk.injEq] at h1
      obtain ⟨hg, rfl⟩ := h1
      subst h2
      exact ⟨List.length a0 + 2 + 1, rlines_ok a0 hg _ (Nat.lt_succ_self _)⟩
    · cases h1

theorem snd22 : Sound Tryd.prog U6 IB 13 (opt S22) := by
  refine sound_of_ev (E := E22) ⟨u6_ok, tb6_ok, fun g ls r h => ?_, IB_mono⟩ Tryd.func13 rfl Tryd.call13 (fun ls r h => ?_)
  · change T22 g ls = some (true, r) at h
    unfold T22 at h
    split at h
    · exact of_sound snd33 h
    · exact of_sound snd37 h
    · exact of_sound snd36 h
    · exact of_sound snd12 h
    · cases h
  · obtain ⟨e, h1, h2⟩ := opt_some h
    unfold S22 at h1
    split at h1
    · rename_i a0
      simp only [Option.some.injEq, Prod.mk.injEq] at h1
      obtain ⟨hg, rfl⟩ := h1
      subst h2
      exact ⟨List.length a0 + 2 + 1, block_ok a0 hg _ (Nat.lt_succ_self _)⟩
    · cases h1

theorem snd18 : Sound Tryd.prog U6 IB 11 (opt S18) := by
  refine sound_of_ev (E := E18) ⟨u6_ok, tb6_ok, fun g ls r h => ?_, IB_mono⟩ Tryd.func11 rfl Tryd.call11 (fun ls r h => ?_)
  · change T18 g ls = some (true, r) at h
    unfold T18 at h
    split at h
    · exact of_sound snd22 h
    · exact of_sound snd19 h
    · exact of_sound snd13 h
    · cases h
  · obtain ⟨e, h1, h2⟩ := opt_some h
    unfold S18 at h1
    split at h1
    · simp only [Option.some.injEq, Prod.mk.injEq] at h1
      obtain ⟨hg, rfl⟩ := h1
      subst h2
      exact ⟨0, reads_ok _⟩
    · cases h1

theorem snd220 : Sound Tryd.prog U6 IB 20 (opt S220) := by
  refine sound_of_ev (E := E220) ⟨u6_ok, tb6_ok, fun g ls r h => ?_, IB_mono⟩ Tryd.func20 rfl Tryd.call20 (fun ls r h => ?_)
  · change T220 g ls = some (true, r) at h
    unfold T220 at h
    split at h
    · exact of_sound snd249 h
    · cases h
  · obtain ⟨e, h1, h2⟩ := opt_some h
    unfold S220 at h1
    split at h1
    · rename_i a0
      simp only [Option.some.injEq, Prod.mk.injEq] at h1
      obtain ⟨hg, rfl⟩ := h1
      subst h2
      exact ⟨List.length a0 + 1, dec_ok a0 hg _ (Nat.lt_succ_self _)⟩
    · cases h1

theorem snd277 : Sound Tryd.prog U6 IB 77 (opt S277) := by
  refine sound_of_ev (E := E277) ⟨u6_ok, tb6_ok, fun g ls r h => ?_, IB_mono⟩ Tryd.func77 rfl Tryd.call77 (fun ls r h => ?_)
  · change T277 g ls = some (true, r) at h
    unfold T277 at h
    cases h
  · obtain ⟨e, h1, h2⟩ := opt_some h
    unfold S277 at h1
    split at h1
    · rename_i a0 a1
      simp only [Option.some.injEq, Prod.mk.injEq] at h1
      obtain ⟨hg, rfl⟩ := h1
      subst h2
      exact ⟨List.length a0 + 1, same8_ok a0 a1 (and1 hg) (and2 hg) _ (Nat.lt_succ_self _)⟩
    · cases h1

theorem snd276 : Sound Tryd.prog U6 IB 76 (opt S276) := by
  refine sound_of_ev (E := E276) ⟨u6_ok, tb6_ok, fun g ls r h => ?_, IB_mono⟩ Tryd.func76 rfl Tryd.call76 (fun ls r h => ?_)
  · change T276 g ls = some (true, r) at h
    unfold T276 at h
    cases h
  · obtain ⟨e, h1, h2⟩ := opt_some h
    unfold S276 at h1
    split at h1
    · rename_i a0
      simp only [Option.some.injEq, Prod.mk.injEq] at h1
      obtain ⟨hg, rfl⟩ := h1
      subst h2
      exact ⟨4 + 1, num_ok a0 (and1 (and1 hg)) (dec1 (and2 (and1 hg))) (dec1 (and2 hg)) _ (Nat.lt_succ_self _)⟩
    · cases h1

theorem snd254 : Sound Tryd.prog U6 IB 54 (opt S254) := by
  refine sound_of_ev (E := E254) ⟨u6_ok, tb6_ok, fun g ls r h => ?_, IB_mono⟩ Tryd.func54 rfl Tryd.call54 (fun ls r h => ?_)
  · change T254 g ls = some (true, r) at h
    unfold T254 at h
    split at h
    · exact of_sound snd50 h
    · exact of_sound snd276 h
    · exact of_sound snd277 h
    · cases h
  · obtain ⟨e, h1, h2⟩ := opt_some h
    unfold S254 at h1
    split at h1
    · rename_i a0
      simp only [Option.some.injEq, Prod.mk.injEq] at h1
      obtain ⟨hg, rfl⟩ := h1
      subst h2
      exact ⟨5 + 1, one_ok a0 (and1 (and1 hg)) (dec1 (and2 (and1 hg))) (and2 hg) _ (Nat.lt_succ_self _)⟩
    · cases h1

theorem snd223 : Sound Tryd.prog U6 IB 23 (opt S223) := by
  refine sound_of_ev (E := E223) ⟨u6_ok, tb6_ok, fun g ls r h => ?_, IB_mono⟩ Tryd.func23 rfl Tryd.call23 (fun ls r h => ?_)
  · change T223 g ls = some (true, r) at h
    unfold T223 at h
    split at h
    · exact of_sound snd254 h
    · cases h
  · obtain ⟨e, h1, h2⟩ := opt_some h
    unfold S223 at h1
    split at h1
    · rename_i a0
      simp only [Option.some.injEq, Prod.mk.injEq] at h1
      obtain ⟨hg, rfl⟩ := h1
      subst h2
      exact ⟨List.length a0 + 1, rdec_ok a0 (and1 hg) (and2 hg) _ (Nat.lt_succ_self _)⟩
    · cases h1

theorem snd250 : Sound Tryd.prog U6 IB 50 (opt S250) := by
  refine sound_of_ev (E := E250) ⟨u6_ok, tb6_ok, fun g ls r h => ?_, IB_mono⟩ Tryd.func50 rfl Tryd.call50 (fun ls r h => ?_)
  · change T250 g ls = some (true, r) at h
    unfold T250 at h
    cases h
  · obtain ⟨e, h1, h2⟩ := opt_some h
    unfold S250 at h1
    split at h1
    · rename_i a0
      simp only [Option.some.injEq, Prod.mk.injEq] at h1
      obtain ⟨hg, rfl⟩ := h1
      subst h2
      exact ⟨0, split_ok a0 _⟩
    · cases h1

theorem snd256 : Sound Tryd.prog U6 IB 56 (opt S256) := by
  refine sound_of_ev (E := E256) ⟨u6_ok, tb6_ok, fun g ls r h => ?_, IB_mono⟩ Tryd.func56 rfl Tryd.call56 (fun ls r h => ?_)
  · change T256 g ls = some (true, r) at h
    unfold T256 at h
    cases h
  · obtain ⟨e, h1, h2⟩ := opt_some h
    unfold S256 at h1
    split at h1
    · rename_i a0
      simp only [Option.some.injEq, Prod.mk.injEq] at h1
      obtain ⟨hg, rfl⟩ := h1
      subst h2
      exact ⟨0, rsplit_ok a0 _⟩
    · cases h1

theorem snd251 : Sound Tryd.prog U6 IB 51 (opt S251) := by
  refine sound_of_ev (E := E251) ⟨u6_ok, tb6_ok, fun g ls r h => ?_, IB_mono⟩ Tryd.func51 rfl Tryd.call51 (fun ls r h => ?_)
  · change T251 g ls = some (true, r) at h
    unfold T251 at h
    cases h
  · obtain ⟨e, h1, h2⟩ := opt_some h
    unfold S251 at h1
    split at h1
    · rename_i a0 a1
      simp only [Option.some.injEq, Prod.mk.injEq] at h1
      obtain ⟨hg, rfl⟩ := h1
      subst h2
      exact ⟨5 + 1, code_ok a0 a1 (and1 (and1 hg)) (dec1 (and2 (and1 hg))) (dec1 (and2 hg)) _ (Nat.lt_succ_self _)⟩
    · cases h1

theorem snd221 : Sound Tryd.prog U6 IB 21 (opt S221) := by
  refine sound_of_ev (E := E221) ⟨u6_ok, tb6_ok, fun g ls r h => ?_, IB_mono⟩ Tryd.func21 rfl Tryd.call21 (fun ls r h => ?_)
  · change T221 g ls = some (true, r) at h
    unfold T221 at h
    split at h
    · exact of_sound snd250 h
    · exact of_sound snd251 h
    · cases h
  · obtain ⟨e, h1, h2⟩ := opt_some h
    unfold S221 at h1
    split at h1
    · rename_i a0 a1
      simp only [Option.some.injEq, Prod.mk.injEq] at h1
      obtain ⟨hg, rfl⟩ := h1
      subst h2
      exact ⟨0, put2_ok a0 a1 (and1 hg) (and2 hg) _⟩
    · cases h1

theorem snd255 : Sound Tryd.prog U6 IB 55 (opt S255) := by
  refine sound_of_ev (E := E255) ⟨u6_ok, tb6_ok, fun g ls r h => ?_, IB_mono⟩ Tryd.func55 rfl Tryd.call55 (fun ls r h => ?_)
  · change T255 g ls = some (true, r) at h
    unfold T255 at h
    cases h
  · obtain ⟨e, h1, h2⟩ := opt_some h
    unfold S255 at h1
    split at h1
    · rename_i a0
      simp only [Option.some.injEq, Prod.mk.injEq] at h1
      obtain ⟨hg, rfl⟩ := h1
      subst h2
      exact ⟨5 + 1, rhex4_ok a0 (dec1 (and1 hg)) (dec1 (and2 hg)) _ (Nat.lt_succ_self _)⟩
    · cases h1

theorem snd224 : Sound Tryd.prog U6 IB 24 (opt S224) := by
  refine sound_of_ev (E := E224) ⟨u6_ok, tb6_ok, fun g ls r h => ?_, IB_mono⟩ Tryd.func24 rfl Tryd.call24 (fun ls r h => ?_)
  · change T224 g ls = some (true, r) at h
    unfold T224 at h
    split at h
    · exact of_sound snd35 h
    · exact of_sound snd255 h
    · exact of_sound snd256 h
    · cases h
  · obtain ⟨e, h1, h2⟩ := opt_some h
    unfold S224 at h1
    split at h1
    · rename_i a0
      simp only [Option.some.injEq, Prod.mk.injEq] at h1
      obtain ⟨hg, rfl⟩ := h1
      subst h2
      exact ⟨7 + 1, written_ok a0 hg _ (Nat.lt_succ_self _)⟩
    · cases h1

theorem snd207 : Sound Tryd.prog U6 IB 7 (opt S207) := by
  refine sound_of_ev (E := E207) ⟨u6_ok, tb6_ok, fun g ls r h => ?_, IB_mono⟩ Tryd.func7 rfl Tryd.call7 (fun ls r h => ?_)
  · change T207 g ls = some (true, r) at h
    unfold T207 at h
    split at h
    · exact of_sound snd220 h
    · exact of_sound snd221 h
    · exact of_sound snd33 h
    · cases h
  · obtain ⟨e, h1, h2⟩ := opt_some h
    unfold S207 at h1
    split at h1
    · rename_i a0
      simp only [Option.some.injEq, Prod.mk.injEq] at h1
      obtain ⟨hg, rfl⟩ := h1
      subst h2
      exact ⟨List.length a0 + 1, quoteText_ok a0 hg _ (Nat.lt_succ_self _)⟩
    · cases h1

theorem snd208 : Sound Tryd.prog U6 IB 8 (opt S208) := by
  refine sound_of_ev (E := E208) ⟨u6_ok, tb6_ok, fun g ls r h => ?_, IB_mono⟩ Tryd.func8 rfl Tryd.call8 (fun ls r h => ?_)
  · change T208 g ls = some (true, r) at h
    unfold T208 at h
    split at h
    · exact of_sound snd223 h
    · exact of_sound snd224 h
    · cases h
  · obtain ⟨e, h1, h2⟩ := opt_some h
    unfold S208 at h1
    split at h1
    · rename_i a0
      simp only [Option.some.injEq, Prod.mk.injEq] at h1
      obtain ⟨hg, rfl⟩ := h1
      subst h2
      exact ⟨List.length a0 + 1, rquoteText_ok a0 hg _ (Nat.lt_succ_self _)⟩
    · cases h1

theorem snd227 : Sound Tryd.prog U6 IB 27 (opt S227) := by
  refine sound_of_ev (E := E227) ⟨u6_ok, tb6_ok, fun g ls r h => ?_, IB_mono⟩ Tryd.func27 rfl Tryd.call27 (fun ls r h => ?_)
  · change T227 g ls = some (true, r) at h
    unfold T227 at h
    split at h
    · exact of_sound snd41 h
    · exact of_sound snd27 h
    · cases h
  · obtain ⟨e, h1, h2⟩ := opt_some h
    unfold S227 at h1
    split at h1
    · rename_i a0
      simp only [Option.some.injEq, Prod.mk.injEq] at h1
      obtain ⟨hg, rfl⟩ := h1
      subst h2
      exact ⟨List.length a0 + 1, fit_ok a0 (and1 hg) (dec1 (and2 hg)) _ (Nat.lt_succ_self _)⟩
    · cases h1

theorem snd232 : Sound Tryd.prog U6 IB 32 (opt S232) := by
  refine sound_of_ev (E := E232) ⟨u6_ok, tb6_ok, fun g ls r h => ?_, IB_mono⟩ Tryd.func32 rfl Tryd.call32 (fun ls r h => ?_)
  · change T232 g ls = some (true, r) at h
    unfold T232 at h
    split at h
    · exact of_sound snd30 h
    · exact of_sound snd42 h
    · cases h
  · obtain ⟨e, h1, h2⟩ := opt_some h
    unfold S232 at h1
    split at h1
    · rename_i a0
      simp only [Option.some.injEq, Prod.mk.injEq] at h1
      obtain ⟨hg, rfl⟩ := h1
      subst h2
      exact ⟨List.length a0 + 1, possible_ok a0 (and1 hg) (dec1 (and2 hg)) _ (Nat.lt_succ_self _)⟩
    · cases h1

theorem snd234 : Sound Tryd.prog U6 IB 34 (opt S234) := by
  refine sound_of_ev (E := E234) ⟨u6_ok, tb6_ok, fun g ls r h => ?_, IB_mono⟩ Tryd.func34 rfl Tryd.call34 (fun ls r h => ?_)
  · change T234 g ls = some (true, r) at h
    unfold T234 at h
    cases h
  · obtain ⟨e, h1, h2⟩ := opt_some h
    unfold S234 at h1
    split at h1
    · rename_i a0
      simp only [Option.some.injEq, Prod.mk.injEq] at h1
      obtain ⟨hg, rfl⟩ := h1
      subst h2
      exact ⟨List.length a0 + 1, guarded_ok a0 hg _ (Nat.lt_succ_self _)⟩
    · cases h1

theorem snd209 : Sound Tryd.prog U6 IB 9 (opt S209) := by
  refine sound_of_ev (E := E209) ⟨u6_ok, tb6_ok, fun g ls r h => ?_, IB_mono⟩ Tryd.func9 rfl Tryd.call9 (fun ls r h => ?_)
  · change T209 g ls = some (true, r) at h
    unfold T209 at h
    split at h
    · exact of_sound snd220 h
    · exact of_sound snd33 h
    · exact of_sound snd32 h
    · exact of_sound snd37 h
    · exact of_sound snd227 h
    · exact of_sound snd41 h
    · exact of_sound snd51 h
    · cases h
  · obtain ⟨e, h1, h2⟩ := opt_some h
    unfold S209 at h1
    split at h1
    · rename_i a0
      simp only [Option.some.injEq, Prod.mk.injEq] at h1
      obtain ⟨hg, rfl⟩ := h1
      subst h2
      exact ⟨List.length a0 + 1, blockText_ok a0 hg _ (Nat.lt_succ_self _)⟩
    · cases h1

theorem snd210 : Sound Tryd.prog U6 IB 10 (opt S210) := by
  refine sound_of_ev (E := E210) ⟨u6_ok, tb6_ok, fun g ls r h => ?_, IB_mono⟩ Tryd.func10 rfl Tryd.call10 (fun ls r h => ?_)
  · change T210 g ls = some (true, r) at h
    unfold T210 at h
    split at h
    · exact of_sound snd223 h
    · exact of_sound snd53 h
    · exact of_sound snd39 h
    · exact of_sound snd232 h
    · exact of_sound snd56 h
    · exact of_sound snd234 h
    · exact of_sound snd35 h
    · cases h
  · obtain ⟨e, h1, h2⟩ := opt_some h
    unfold S210 at h1
    split at h1
    · rename_i a0
      simp only [Option.some.injEq, Prod.mk.injEq] at h1
      obtain ⟨hg, rfl⟩ := h1
      subst h2
      exact ⟨List.length a0 + 2 + 1, rblockText_ok a0 hg _ (Nat.lt_succ_self _)⟩
    · cases h1

theorem snd212 : Sound Tryd.prog U6 IB 12 (opt S212) := by
  refine sound_of_ev (E := E212) ⟨u6_ok, tb6_ok, fun g ls r h => ?_, IB_mono⟩ Tryd.func12 rfl Tryd.call12 (fun ls r h => ?_)
  · change T212 g ls = some (true, r) at h
    unfold T212 at h
    split at h
    · exact of_sound snd217 h
    · exact of_sound snd219 h
    · exact of_sound snd237 h
    · cases h
  · obtain ⟨e, h1, h2⟩ := opt_some h
    unfold S212 at h1
    split at h1
    · rename_i a0 a1
      simp only [Option.some.injEq, Prod.mk.injEq] at h1
      obtain ⟨hg, rfl⟩ := h1
      subst h2
      exact ⟨0, inside_ok a0 a1 (and1 (and1 hg)) (dec1 (and2 (and1 hg))) (dec1 (and2 hg)) _⟩
    · cases h1

theorem snd203 : Sound Tryd.prog U6 IB 3 (opt S203) := by
  refine sound_of_ev (E := E203) ⟨u6_ok, tb6_ok, fun g ls r h => ?_, IB_mono⟩ Tryd.func3 rfl Tryd.call3 (fun ls r h => ?_)
  · change T203 g ls = some (true, r) at h
    unfold T203 at h
    split at h
    · exact of_sound snd207 h
    · exact of_sound snd208 h
    · exact of_sound snd209 h
    · exact of_sound snd210 h
    · cases h
  · obtain ⟨e, h1, h2⟩ := opt_some h
    unfold S203 at h1
    split at h1
    · rename_i a0
      simp only [Option.some.injEq, Prod.mk.injEq] at h1
      obtain ⟨hg, rfl⟩ := h1
      subst h2
      exact ⟨0, texts_law a0 hg _⟩
    · cases h1

end Go.Aev
end
