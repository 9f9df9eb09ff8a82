/- Proved here: lemmas of an evaluator over the model's code that the claim's text uses (P38 P39). Conditions: those that each lemma states. -/
import Derived.Test.YtemaknoadiaieaaDoorBpF
import Derived.Lib.IndexBytes
import Derived.Lib.ReplaceLaws
import Derived.Shelf.LaysM
section
set_option linter.unusedVariables false
namespace Go.Aev
open Go.Proofs Go.Lib

/-! ### one byte replaced everywhere -/
theorem repK (c : UInt8) (new : List UInt8) : ∀ s : List UInt8, replaceK [c] new (s.count c) s = s.flatMap fun b => if b = c then new else [b]
  | [] => rfl
  | b :: l => by
    by_cases h : b = c
    · subst h
      have hi : index (b :: l) [b] = ((0 : Nat) : Int) := by unfold index; simp
      rw [List.count_cons_self, replaceK_hit [b] new _ _ 0 hi, List.flatMap_cons, if_pos rfl]
      show [] ++ new ++ replaceK [b] new (l.count b) l = _
      rw [repK b new l]; rfl
    · have hcnt : (b :: l).count c = l.count c := List.count_cons_of_ne (fun e => h e)
      rw [hcnt, List.flatMap_cons, if_neg h, ← repK c new l]
      have hp : ([c].isPrefixOf (b :: l)) = false := by
        show (c == b && _) = false
        rw [beq_false_of_ne (fun e => h e.symm)]; rfl
      cases hk : l.count c with
      | zero => rfl
      | succ k =>
        obtain ⟨i, hi⟩ := index_of_count (s := l) (old := [c]) (by rw [count_one, hk]; omega)
        have hi2 : index (b :: l) [c] = ((i + 1 : Nat) : Int) := by
          show (if [c].isPrefixOf (b :: l) then (0 : Int) else if index l [c] == -1 then -1 else index l [c] + 1) = _
          rw [hp, hi, if_neg (by simp), if_neg (by simp)]; omega
        rw [replaceK_hit [c] new k _ _ hi2, replaceK_hit [c] new k _ _ hi]
        simp
theorem u8_no10 {c : Int} (hv : validF c = true) (h : c ≠ 10) : ∀ b ∈ toB (u8F c), b ≠ 10 := by
  intro b hb
  obtain ⟨x, hx, rfl⟩ := List.mem_map.1 hb
  have hr : 0 ≤ x ∧ x ≤ 255 := isB_iff.1 (u8F_isB hv) x hx
  have hx10 : x ≠ 10 := by
    have hv' := validF_iff.1 hv
    unfold u8F at hx
    split at hx
    · rcases List.mem_singleton.1 hx with rfl; exact h
    · split at hx
      · simp only [List.mem_cons, List.not_mem_nil, or_false] at hx; omega
      · split at hx
        · simp only [List.mem_cons, List.not_mem_nil, or_false] at hx; omega
        · simp only [List.mem_cons, List.not_mem_nil, or_false] at hx; omega
  intro e
  have := congrArg UInt8.toNat e
  rw [ofNatN (by omega)] at this
  have h10 : (10 : UInt8).toNat = 10 := rfl
  omega
theorem flat_id {α : Type} (f : α → List α) (l : List α) (h : ∀ b ∈ l, f b = [b]) : l.flatMap f = l := by
  induction l with
  | nil => rfl
  | cons b r ih => rw [List.flatMap_cons, h b List.mem_cons_self, ih fun x hx => h x (List.mem_cons_of_mem _ hx)]; rfl
theorem enc_spF (B : List Int) : ∀ (m : List Int), m.all validF = true → ((encB m).flatMap fun b => if b = 10 then 10 :: encB B else [b]) = encB (spF B m)
  | [], _ => rfl
  | c :: m, h => by
    simp only [List.all_cons, Bool.and_eq_true] at h
    have e1 : encB (c :: m) = toB (u8F c) ++ encB m := encB_cons c m
    rw [e1, List.flatMap_append, enc_spF B m h.2]
    by_cases hc : c = 10
    · subst hc
      rw [spF_10, ← List.cons_append, encB_append]
      congr 1
      have e2 : toB (u8F 10) = [10] := rfl
      rw [encB_cons, e2]; simp
    · rw [spF_cons _ _ hc, encB_cons]
      congr 1
      refine flat_id _ _ fun b hb => ?_
      rw [if_neg (u8_no10 h.1 hc b hb)]
theorem enc_rep (k : Nat) : encB (List.replicate k 32) = repeatL [32] k := by
  induction k with
  | zero => rfl
  | succ k ih => rw [List.replicate_succ, encB_cons, ih]; rfl
theorem rep_enc {m : List Int} (hv : m.all validF = true) (k : Nat) : replaceAll (encB m) [10] ([10] ++ repeatL [32] k) = encB (spF (List.replicate k 32) m) := by
  unfold replaceAll replace
  cases k with
  | zero =>
    have : ([10] == [10] ++ repeatL [32] 0) = true := rfl
    rw [if_pos this]
    exact congrArg encB (spF_empty m).symm
  | succ k =>
    have hne : ¬ (([10] : List UInt8) == [10] ++ repeatL [32] (k + 1)) = true := by
      intro e
      have := congrArg List.length (eq_of_beq e)
      rw [List.length_append, repeatL_length] at this
      simp at this
    have hn : replaceNum (encB m) [10] (-1) = (encB m).count 10 := by
      unfold replaceNum
      rw [if_pos (.inl (by omega)), count_one]
    rw [if_neg hne, hn, repK, ← enc_spF _ m hv, enc_rep]
    rfl
theorem spF_len (B : List Int) (l : List Int) : (spF B l).length ≤ l.length * (B.length + 1) := by
  induction l with
  | nil => simp [spF]
  | cons c r ih =>
    by_cases hc : c = 10
    · subst hc
      rw [spF_10]
      simp only [List.length_cons, List.length_append, Nat.succ_mul]; omega
    · rw [spF_cons _ _ hc]
      simp only [List.length_cons, Nat.succ_mul]; omega
theorem spF_valid {B l : List Int} (hB : B.all validF = true) (h : l.all validF = true) : (spF B l).all validF = true := by
  induction l with
  | nil => rfl
  | cons c r ih =>
    simp only [List.all_cons, Bool.and_eq_true] at h
    by_cases hc : c = 10
    · subst hc
      rw [spF_10, List.all_cons, List.all_append, h.1, hB, ih h.2]; rfl
    · rw [spF_cons _ _ hc, List.all_cons, h.1, ih h.2]; rfl
theorem sp32_rep (k : Nat) : sp32 (List.replicate k 32) := fun x hx => (List.mem_replicate.1 hx).2

theorem indented_ok (s : List UInt8) (a : Int) (hs : smS1 s = true) (h0 : 0 ≤ a) (h1 : a ≤ 255) (n : Nat) : evFn E206 n Tryd.f6 [.str s, .int .u8 a] = some (.one (.bool true)) := by
  have hlen : s.length ≤ 1048576 := by simpa [smS1] using hs
  have hS : smS s = true := smS_iff.2 (by omega)
  have d3 : (Int.toNat 3) = 3 := rfl
  have hw : IntKind.wrap .i64 a = a := wrap64 (by omega) (by omega)
  rw [ev206, hS, hw]
  cases hb : (btF s).2 with
  | false => rfl
  | true =>
    obtain ⟨c1, c2, c3, c4⟩ := block_back hb
    obtain ⟨_, _, hle, hcl⟩ := decF_enc s.length s (Nat.le_refl _)
    have hS2 : smS (btF s).1 = true := smS_iff.2 (by omega)
    have hS3 : smS [34, 34, 34, 10] = true := by decide
    rw [hS2, hS3, d3, c1]
    cases hp : hasPrefix (btF s).1 [34, 34, 34, 10] with
    | false => rfl
    | true =>
      rcases btF_parts hb with rfl | ⟨h0', e1, e2, e3, e4⟩
      · rw [btF_nil] at hp; exact absurd hp (by decide)
      · have hpre : (decide (1 < (linesF (decF s).1).length) || !whiteF ((decF s).1.headD 0)) = true := by
          cases hq : (decide (1 < (linesF (decF s).1).length) || !whiteF ((decF s).1.headD 0)) with
          | true => rfl
          | false =>
            exfalso
            rw [e4, btC_mid] at hp
            unfold midB at hp
            rw [hq, if_neg (by simp), List.nil_append] at hp
            simp only [Bool.or_eq_false_iff, Bool.not_eq_false'] at hq
            match hcs : (decF s).1, hq, hp with
            | [], hq, hp => exact absurd hq.2 (by decide)
            | c :: r, hq, hp =>
              have hc : c = 9 ∨ c = 32 := by simpa [whiteF] using hq.2
              have hm : maskF (c :: r) = c :: maskF r := maskF_cons (quotesF_not (by omega))
              rw [hm] at hp
              have e : [34, 34, 34] ++ (c :: maskF r ++ [10]) ++ [34, 34, 34] = [34, 34, 34, c] ++ (maskF r ++ [10, 34, 34, 34]) := by simp
              rw [e, encB_append] at hp
              have e2 : encB [34, 34, 34, c] = [34, 34, 34, UInt8.ofNat c.toNat] := by
                rcases hc with rfl | rfl <;> decide
              rw [e2] at hp
              unfold hasPrefix at hp
              rw [List.isPrefixOf_iff_prefix] at hp
              obtain ⟨z, hz⟩ := hp
              simp only [List.cons_append, List.nil_append, List.cons.injEq] at hz
              have := hz.2.2.2.1
              rcases hc with rfl | rfl <;> exact absurd this (by decide)
        have hmid : (insF (btF s).1 3).1 = midB (decF s).1 := by
          rw [e4, btC_mid, (ins_enc (midB_valid e2)).2]
        have hmv := midB_valid e2
        have hB := sp32_rep a.toNat
        have hBv : (List.replicate a.toNat (32 : Int)).all validF = true := List.all_eq_true.2 fun x hx => by rw [hB x hx]; decide
        have hmd : midB (decF s).1 = 10 :: (maskF (decF s).1 ++ [10]) := by
          unfold midB; rw [hpre, if_pos rfl]; rfl
        have hsp : spF (List.replicate a.toNat 32) (midB (decF s).1) = 10 :: (List.replicate a.toNat 32 ++ (spF (List.replicate a.toNat 32) (maskF (decF s).1) ++ 10 :: List.replicate a.toNat 32)) := by
          rw [hmd, spF_10]
          congr 2
          have : spF (List.replicate a.toNat 32) (maskF (decF s).1 ++ [10]) = spF (List.replicate a.toNat 32) (maskF (decF s).1) ++ spF (List.replicate a.toNat 32) [10] := List.flatMap_append
          rw [this, spF_10, spF_nil, List.append_nil]
        have hblk : blockF (spF (List.replicate a.toNat 32) (midB (decF s).1)) = (s, 0) := by
          rw [hsp, block_sp hB e2 e3 (fit_any e2 e3 hpre), e1]
        have hsv := spF_valid hBv hmv
        have hml := midB_len (decF s).1
        have hsl := spF_len (List.replicate a.toNat 32) (midB (decF s).1)
        rw [List.length_replicate] at hsl
        have hsl2 : (spF (List.replicate a.toNat 32) (midB (decF s).1)).length ≤ 536871424 := by
          have : (midB (decF s).1).length * (a.toNat + 1) ≤ 2097154 * 256 := Nat.mul_le_mul (by omega) (by omega)
          omega
        have hel := encB_len (midB (decF s).1)
        have hel2 := encB_len (spF (List.replicate a.toNat 32) (midB (decF s).1))
        have hrl : (repeatL [32] a.toNat).length = a.toNat := by rw [repeatL_length]; simp
        have hnew : ([10] ++ repeatL [32] a.toNat).length = a.toNat + 1 := by rw [List.length_append, hrl]; simp; omega
        have hra : raOk (encB (midB (decF s).1)) [10] ([10] ++ repeatL [32] a.toNat) = true := by
          unfold raOk
          rw [hnew, decide_eq_true (by omega), decide_eq_true (by omega : a.toNat + 1 ≤ 1000)]; rfl
        rw [hmid, runesB_valid hmv, hra, rep_enc hmv, runes6_encB hsv, hblk, hrl, smL_len' (by omega), room_iff.2 (by omega), decide_eq_true h0, decide_eq_true (by omega : a ≤ 1000)]
        rw [decide_eq_true (by simp; omega : List.length [(10 : Nat)] + a.toNat ≤ 9223372036854775807)]
        dsimp only
        rw [beq_self_eq_true]
        rfl
end Go.Aev
end

section
set_option linter.unusedVariables false
namespace Go.Aev
open Go.Proofs Go.RowKit

/-- The tables, and some number in internal/bytealg.MaxLen. -/
def IC : Inv := fun w wm => IB w wm ∧ (∃ m, w.cell? ⟨2, 0, none⟩ = some (.int .i64 m)) ∧ 1 ≤ wm 2
theorem IC_mono : ∀ w m w' m', IC w m → Ext w m w' m' → IC w' m' := by
  intro w m w' m' ⟨h1, ⟨k, h2⟩, h3⟩ hx
  exact ⟨IB_mono w m w' m' h1 hx, ⟨k, by rw [hx.cell 2 0 (by omega)]; exact h2⟩, Nat.le_trans h3 (hx.le 2)⟩
theorem weaken {f : FuncId} {S : List L6 → Option E6} (h : Sound Tryd.prog U6 IB f S) : Sound Tryd.prog U6 IC f S :=
  ⟨h.enter, fun ls r hS w g vs hI => h.ok ls r hS w g vs hI.1⟩
theorem of_soundC {f : FuncId} {S : List L6 → Option (Bool × E6)} (h : Sound Tryd.prog U6 IC f (opt S)) {ls : List L6} {r : E6} (hr : S ls = some (true, r)) :
    (∀ args w, (callFunc f args).run Tryd.prog w = .ok (.enter f args) w) ∧ CallOk Tryd.prog U6 IC f ls r :=
  ⟨h.enter, h.ok ls r (by unfold opt; rw [hr])⟩
theorem snd218 : Sound Tryd.prog U6 IC 18 (opt S218) := by
  refine sound_ext Tryd.call18 fun ls r h => ?_
  obtain ⟨e, h1, rfl⟩ := opt_some h
  unfold S218 at h1
  split at h1
  · rename_i a0 a1 a2
    simp only [Option.some.injEq, Prod.mk.injEq] at h1
    obtain ⟨hg, rfl⟩ := h1
    unfold raOk at hg
    have c1 := dec1 (and1 hg)
    have c2 := dec1 (and1 (and2 hg))
    have c3 := dec1 (and2 (and2 hg))
    refine ⟨rfl, rfl, fun d => rfl, fun w g vs hI hr => ?_⟩
    rw [rep_str3 hr]
    obtain ⟨_, ⟨m, hm⟩, _⟩ := hI
    have hs1 := szB a0
    have hs2 := szB a1
    have hs3 := szB a2
    have hmul := Lib.countB_mul_le ⟨a1.toArray⟩ (by rw [hs2]; omega) _ ⟨a0.toArray⟩ (Nat.le_refl _)
    rw [hs1, hs2, c2, Nat.mul_one] at hmul
    have hsz : (ByteArray.mk a0.toArray).size + Lib.countB ⟨a0.toArray⟩ ⟨a1.toArray⟩ * (ByteArray.mk a2.toArray).size ≤ 140737488355328 := by
      rw [hs1, hs3]
      have : Lib.countB ⟨a0.toArray⟩ ⟨a1.toArray⟩ * a2.length ≤ 16777216 * 1000 := Nat.mul_le_mul (by omega) c3
      omega
    exact ⟨_, fun w' g' => LRep.str _, Tryd.strings_ReplaceAll ⟨a0.toArray⟩ ⟨a1.toArray⟩ ⟨a2.toArray⟩ m w (by rw [hs1]; omega) hm (by rw [hs2]; omega) hsz⟩
  · cases h1
theorem snd206 : Sound Tryd.prog U6 IC 6 (opt S206) := by
  refine sound_of_ev (E := E206) ⟨u6_ok, tb6_ok, fun g ls r h => ?_, IC_mono⟩ Tryd.func6 rfl Tryd.call6 (fun ls r h => ?_)
  · change T206 g ls = some (true, r) at h
    unfold T206 at h
    split at h
    · exact of_soundC (weaken snd209) h
    · exact of_soundC (weaken snd18) h
    · exact of_soundC (weaken snd212) h
    · exact of_soundC (weaken snd22) h
    · exact of_soundC (weaken snd217) h
    · exact of_soundC snd218 h
    · exact of_soundC (weaken snd219) h
    · cases h
  · obtain ⟨e, h1, h2⟩ := opt_some h
    unfold S206 at h1
    split at h1
    · rename_i a0 a1
      simp only [Option.some.injEq, Prod.mk.injEq] at h1
      obtain ⟨hg, rfl⟩ := h1
      subst h2
      exact ⟨0, indented_ok a0 a1 (and1 (and1 hg)) (dec1 (and2 (and1 hg))) (dec1 (and2 hg)) _⟩
    · cases h1
end Go.Aev
end
