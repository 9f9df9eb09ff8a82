/- Proved here: lemmas of an evaluator over the model's code that the claim's text uses (P33 P34). Conditions: those that each lemma states. -/
import Derived.Test.YtemaknoadiaieaaDoorBpC
import Derived.Test.YtemaknoadiaieaaDoorBpD
section
set_option linter.unusedVariables false
namespace Go.Aev
open Go.Proofs Go.Lib

/-! ### what is written reads back -/
theorem hexF_digC {d : Int} (h0 : 0 ≤ d) (h1 : d < 16) : hexF (digC d) = d := by
  have : ∀ i : Fin 16, hexF (digC (i.1 : Int)) = i.1 := by decide
  have h := this ⟨d.toNat, by omega⟩
  rw [show ((d.toNat : Nat) : Int) = d by omega] at h
  exact h
theorem hexAcc_digC {m d : Int} {r : List Int} (h0 : 0 ≤ d) (h1 : d < 16) : hexAcc m (digC d :: r) = hexAcc (m * 16 + d) r := by
  rw [hexAcc_cons, hexF_digC h0 h1, if_neg (by omega)]
theorem hex4F_codeD {x : Int} (h0 : 0 ≤ x) (h1 : x ≤ 65535) (t : List Int) : hex4F (codeD x ++ t) = x := by
  unfold hex4F
  have hl : ¬ (codeD x ++ t).length < 4 := by simp [codeD]
  rw [if_neg hl, List.take_append_of_le_length (by simp [codeD]), List.take_of_length_le (by simp [codeD])]
  unfold codeD
  rw [hexAcc_digC (by omega) (by omega), hexAcc_digC (by omega) (by omega), hexAcc_digC (by omega) (by omega), hexAcc_digC (by omega) (by omega), hexAcc_nil]
  omega
theorem joinF_split {c : Int} (h1 : 65536 ≤ c) (h2 : c ≤ 1114111) : joinF (55296 + (c - 65536) / 1024) (56320 + (c - 65536) % 1024) = (c, true) := by
  unfold joinF
  rw [decide_eq_false (by omega), decide_eq_false (by omega), decide_eq_false (by omega), decide_eq_false (by omega)]
  rw [if_neg (by simp)]
  congr 1
  omega
theorem piece_92 (r : List Int) : pieceF (92 :: r) = escF (92 :: r) := by
  unfold pieceF
  dsimp only
  rw [if_neg (by decide), if_pos rfl]
theorem piece_short {x : Int} (r : List Int) (h : 0 ≤ shortF x) : pieceF (92 :: x :: r) = (shortF x, 2) := by
  rw [piece_92]; unfold escF; dsimp only; rw [if_pos h]
theorem piece_code (r : List Int) : pieceF (92 :: 117 :: r) = codedF r := by
  rw [piece_92]; unfold escF; dsimp only; rw [if_neg (by decide), if_pos rfl]
theorem codedF_code {x : Int} (h0 : 0 ≤ x) (h1 : x ≤ 65535) (h : x < 55296 ∨ 57343 < x) (t : List Int) : codedF (codeD x ++ t) = (x, 6) := by
  have h4 := hex4F_codeD h0 h1 t
  rw [codedF_plain _ (by omega) (by omega), h4]
theorem codedF_two {a b : Int} (ha : 55296 ≤ a) (ha2 : a ≤ 56319) (hb : 0 ≤ b) (hb2 : b ≤ 65535) (hj : (joinF a b).2 = true) (t : List Int) : codedF (codeD a ++ (92 :: 117 :: (codeD b ++ t))) = ((joinF a b).1, 12) := by
  have h4 := hex4F_codeD (x := a) (by omega) (by omega) (92 :: 117 :: (codeD b ++ t))
  have hd : (codeD a ++ (92 :: 117 :: (codeD b ++ t))).drop 6 = codeD b ++ t := by simp [codeD]
  rw [codedF_join _ (by omega) (by omega) (by omega), hd, hex4F_codeD hb hb2, h4]
  rw [if_pos ⟨by simp [codeD], by simp [codeD], by simp [codeD], hj⟩]
theorem wr_piece {c : Int} (hv : validF c = true) (t : List Int) : pieceF (wrF c ++ t) = (c, ((wrF c).length : Int)) := by
  have hv' := validF_iff.1 hv
  by_cases h1 : c = 34 ∨ c = 92
  · rcases h1 with rfl | rfl
    · exact piece_short t (by decide)
    · exact piece_short t (by decide)
  by_cases h2 : c = 8
  · subst h2; exact piece_short t (by decide)
  by_cases h3 : c = 9
  · subst h3; exact piece_short t (by decide)
  by_cases h4 : c = 10
  · subst h4; exact piece_short t (by decide)
  by_cases h5 : c = 12
  · subst h5; exact piece_short t (by decide)
  by_cases h6 : c = 13
  · subst h6; exact piece_short t (by decide)
  rw [wrF_rest ⟨by omega, by omega, h2, h3, h4, h5, h6⟩]
  by_cases h7 : 65536 ≤ c
  · have hs := splitF_yes h7 (by omega)
    rw [hs]
    dsimp only
    rw [if_pos rfl]
    have hj := joinF_split h7 (by omega)
    have := codedF_two (a := 55296 + (c - 65536) / 1024) (b := 56320 + (c - 65536) % 1024) (by omega) (by omega) (by omega) (by omega) (by rw [hj]) t
    rw [hj] at this
    refine Eq.trans ?_ this
    exact piece_code _
  · have hs := splitF_no (c := c) (.inl (by omega))
    rw [hs]
    dsimp only
    rw [if_neg (by simp)]
    by_cases h8 : c < 32 ∨ c = 127
    · rw [if_pos h8]
      exact (piece_code _).trans (codedF_code (by omega) (by omega) (by omega) t)
    · rw [if_neg h8]
      have hp : plainF c = true := by
        unfold plainF sourceF
        rw [if_neg (by omega), decide_eq_true (by omega : c ≤ 65535), beqF (by omega : c ≠ 34), beqF (by omega : c ≠ 92), beqF h4, beqF h6]
        rcases hv' with hv' | hv'
        · rw [decide_eq_true (by omega : c < 55296)]; rfl
        · rw [decide_eq_true (by omega : 57344 ≤ c), Bool.or_true]; rfl
      show pieceF (c :: t) = _
      unfold pieceF
      dsimp only
      rw [if_pos hp]; rfl
theorem quoted_wr : ∀ (cs : List Int), cs.all validF = true → quotedL (cs.flatMap wrF) = some cs
  | [], _ => rfl
  | c :: cs, h => by
    rw [List.all_cons, Bool.and_eq_true] at h
    rw [List.flatMap_cons]
    have hp := wr_piece h.1 (cs.flatMap wrF)
    have hl := wrF_len c
    have hne : wrF c ++ cs.flatMap wrF ≠ [] := fun e => by
      have := congrArg List.length e
      rw [List.length_append, List.length_nil] at this
      omega
    rw [quotedL_step hne, hp]
    dsimp only
    rw [if_neg (by omega), Int.toNat_natCast, List.drop_left, quoted_wr cs h.2]
    rfl
theorem digC_char {d : Int} (h0 : 0 ≤ d) (h1 : d < 16) : 32 ≤ digC d ∧ digC d < 127 := by unfold digC; split <;> omega
theorem codeF_char {x y : Int} (h : y ∈ codeF x) : 32 ≤ y ∧ y < 127 := by
  unfold codeF at h
  simp only [List.mem_cons, List.not_mem_nil, or_false] at h
  rcases h with rfl | rfl | rfl | rfl | rfl | rfl
  · omega
  · omega
  all_goals exact digC_char (by omega) (by omega)
theorem wrF_char {c y : Int} (hv : validF c = true) (h : y ∈ wrF c) : 32 ≤ y ∧ y ≠ 127 ∧ y ≤ 65535 := by
  have hv' := validF_iff.1 hv
  have two : ∀ a b : Int, y ∈ [a, b] → y = a ∨ y = b := fun a b h => by simpa using h
  by_cases h1 : c = 34 ∨ c = 92
  · have e : wrF c = [92, c] := by unfold wrF; rw [if_pos h1]
    rw [e] at h
    rcases two _ _ h with rfl | rfl <;> omega
  by_cases h2 : c = 8
  · subst h2; rcases two 92 98 h with rfl | rfl <;> omega
  by_cases h3 : c = 9
  · subst h3; rcases two 92 116 h with rfl | rfl <;> omega
  by_cases h4 : c = 10
  · subst h4; rcases two 92 110 h with rfl | rfl <;> omega
  by_cases h5 : c = 12
  · subst h5; rcases two 92 102 h with rfl | rfl <;> omega
  by_cases h6 : c = 13
  · subst h6; rcases two 92 114 h with rfl | rfl <;> omega
  rw [wrF_rest ⟨by omega, by omega, h2, h3, h4, h5, h6⟩] at h
  by_cases h7 : 65536 ≤ c
  · rw [splitF_yes h7 (by omega)] at h
    dsimp only at h
    rw [if_pos rfl, List.mem_append] at h
    rcases h with h | h
    · have := codeF_char h; omega
    · have := codeF_char h; omega
  · rw [splitF_no (c := c) (.inl (by omega))] at h
    dsimp only at h
    rw [if_neg (by simp)] at h
    by_cases h8 : c < 32 ∨ c = 127
    · rw [if_pos h8] at h
      have := codeF_char h; omega
    · rw [if_neg h8] at h
      rcases List.mem_singleton.1 h with rfl
      omega

/-! ### what stands between the quotes -/
theorem repeatL_34 : repeatL [34] 1 = [34] ∧ repeatL [34] 3 = [34, 34, 34] := ⟨rfl, rfl⟩
theorem insF_of {q m : List UInt8} {n : Nat} (hq : repeatL [34] n = q) : insF (q ++ m ++ q) n = (runes6 m, true) := by
  have hn : q.length = n := by rw [← hq, repeatL_length]; simp
  have h1 : hasPrefix (q ++ m ++ q) q = true := by
    unfold hasPrefix
    rw [List.isPrefixOf_iff_prefix, List.append_assoc]
    exact List.prefix_append _ _
  have h2 : hasSuffix (q ++ m ++ q) q = true := by
    unfold hasSuffix
    rw [List.isSuffixOf_iff_suffix]
    exact List.suffix_append _ _
  have hl : (q ++ m ++ q).length = n + m.length + n := by simp [hn]; omega
  unfold insF
  rw [hq, h1, h2, decide_eq_false (by omega)]
  rw [if_neg (by simp)]
  have e1 : (q ++ m ++ q).drop n = m ++ q := by rw [List.append_assoc, ← hn, List.drop_left]
  have e2 : (q ++ m ++ q).length - n - n = m.length := by omega
  rw [e1, e2, List.take_left]
theorem ins_enc {m : List Int} (h : m.all validF = true) : insF (encB (34 :: m ++ [34])) 1 = (m, true) ∧ insF (encB ([34, 34, 34] ++ m ++ [34, 34, 34])) 3 = (m, true) := by
  have e1 : encB (34 :: m ++ [34]) = [34] ++ encB m ++ [34] := by
    rw [encB_append, show (34 :: m) = [34] ++ m from rfl, encB_append]; rfl
  have e2 : encB ([34, 34, 34] ++ m ++ [34, 34, 34]) = [34, 34, 34] ++ encB m ++ [34, 34, 34] := by
    rw [encB_append, encB_append]; rfl
  constructor
  · rw [e1, insF_of (q := [34]) rfl, runes6_encB h]
  · rw [e2, insF_of (q := [34, 34, 34]) rfl, runes6_encB h]
theorem lim4_of {l : List Int} (h : l.length ≤ 1073741824) : lim4 l = true := lim4_iff.2 (by omega)
theorem validD_enc {cs : List Int} (h : cs.all validF = true) : validD (encB cs) = true := by
  rw [validD_decF _ _ (Nat.le_refl _), decF_encB cs h]; simp

theorem quotedBack_ok (s : List UInt8) (hs : smS1 s = true) (n : Nat) (hn : 12 * s.length < n) : evFn E205 n Tryd.f5 [.str s] = some (.one (.bool true)) := by
  have hlen : s.length ≤ 1048576 := by simpa [smS1] using hs
  have hS : smS s = true := smS_iff.2 (by omega)
  obtain ⟨henc, hval, hle, hcl⟩ := decF_enc s.length s (Nat.le_refl _)
  rw [ev205, hS, cond_true, cond_true, validD_decF _ _ (Nat.le_refl _)]
  by_cases hfull : (decF s).2 = s.length
  · have hq : qtF s = (encB (qtC (decF s).1), 0) := by unfold qtF; rw [if_neg (by omega)]
    have hcs : encB (decF s).1 = s := by rw [henc, hfull, List.take_length]
    have hw := flatW_valid hval
    have hwl := flatW_len (decF s).1
    have hins := (ins_enc hw).1
    have hqv := qtC_valid hval
    have hS2 : smS (encB (qtC (decF s).1)) = true := smS_iff.2 (by
      have := encB_len (qtC (decF s).1)
      have e : (qtC (decF s).1).length = ((decF s).1.flatMap wrF).length + 2 := by simp [qtC]
      omega)
    have e1 : insF (encB (qtC (decF s).1)) (Int.toNat 1) = ((decF s).1.flatMap wrF, true) := hins
    rw [decide_eq_true hfull, hq]
    dsimp only
    rw [hS2, e1, validD_enc hqv]
    dsimp only
    show evLoop _ n _ _ = _
    refine loop_rule (fun i : Nat => st205_10 s ((decF s).1.flatMap wrF) ((decF s).1.flatMap wrF) (((decF s).1.flatMap wrF).length : Int) i) (fun i => i ≤ ((decF s).1.flatMap wrF).length) (fun i => ((decF s).1.flatMap wrF).length - i) (fun i => (some (.one (.bool true)) : Option E6)) ?_ n 0 (Nat.zero_le _) (by omega)
    intro i hi K hke hkr hnx
    rw [lb205_10_eq]
    by_cases h : i < ((decF s).1.flatMap wrF).length
    · rw [decide_eq_true (by omega : (i : Int) < ((((decF s).1.flatMap wrF).length : Nat) : Int)), cond_true, idx_lt h, wrapSucc (by omega)]
      dsimp only
      obtain ⟨c, hc, hy⟩ := List.mem_flatMap.1 (List.getElem_mem h)
      have hch := wrF_char (List.all_eq_true.1 hval c hc) hy
      rw [decide_eq_false (by omega : ¬ ((decF s).1.flatMap wrF)[i] < 32), beqF hch.2.1, decide_eq_false (by omega : ¬ ((decF s).1.flatMap wrF)[i] > 65535)]
      exact hnx (i + 1) (by omega) (by omega)
    · rw [decide_eq_false (by omega : ¬ (i : Int) < ((((decF s).1.flatMap wrF).length : Nat) : Int)), cond_false, hke, ex205_10_0, lim4_of (by omega), cond_true]
      have hqf : quotedF ((decF s).1.flatMap wrF) = (s, 0) := by
        unfold quotedF finF
        rw [quoted_wr _ hval]
        dsimp only
        rw [encF_valid hval]
        dsimp only
        rw [hcs]
      rw [hqf]
      dsimp only
      rw [beq_self_eq_true]
      rfl
  · have hq : qtF s = ([], 1) := by unfold qtF; rw [if_pos (by omega)]
    rw [decide_eq_false hfull, hq]
    rfl
end Go.Aev
end

section
set_option linter.unusedVariables false
namespace Go.Aev
open Go.Proofs Go.RowKit

theorem snd205 : Sound Tryd.prog U6 IB 5 (opt S205) := by
  refine sound_of_ev (E := E205) ⟨u6_ok, tb6_ok, fun g ls r h => ?_, IB_mono⟩ Tryd.func5 rfl Tryd.call5 (fun ls r h => ?_)
  · change T205 g ls = some (true, r) at h
    unfold T205 at h
    split at h
    · exact of_sound snd207 h
    · exact of_sound snd18 h
    · exact of_sound snd212 h
    · exact of_sound snd215 h
    · exact of_sound snd19 h
    · cases h
  · obtain ⟨e, h1, h2⟩ := opt_some h
    unfold S205 at h1
    split at h1
    · rename_i a0
      simp only [Option.some.injEq, Prod.mk.injEq] at h1
      obtain ⟨hg, rfl⟩ := h1
      subst h2
      exact ⟨12 * List.length a0 + 1, quotedBack_ok a0 hg _ (Nat.lt_succ_self _)⟩
    · cases h1
end Go.Aev
end
