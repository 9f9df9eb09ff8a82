/- Proved here: lemmas of an evaluator over the model's code that the claim's text uses (P35 P36 P37). Conditions: those that each lemma states. -/
import Derived.Test.YtemaknoadiaieaaDoorBpE
section
set_option linter.unusedVariables false
namespace Go.Aev
open Go.Proofs Go.Lib

/-! ### a block string whose lines are set in -/
/-- Each line end gets `B` behind it. -/
def spF (B l : List Int) : List Int := l.flatMap fun c => if c = 10 then 10 :: B else [c]
theorem spF_nil (B : List Int) : spF B [] = [] := rfl
theorem spF_10 (B r : List Int) : spF B (10 :: r) = 10 :: (B ++ spF B r) := by simp [spF]
theorem spF_cons {c : Int} (B r : List Int) (h : c ≠ 10) : spF B (c :: r) = c :: spF B r := by simp [spF, h]
theorem spF_empty (l : List Int) : spF [] l = l := by
  induction l with
  | nil => rfl
  | cons c r ih =>
    by_cases h : c = 10
    · subst h; rw [spF_10, ih]; rfl
    · rw [spF_cons _ _ h, ih]
theorem quotesF_not {c : Int} {r : List Int} (h : c ≠ 34) : quotesF (c :: r) = false := by
  cases hq : quotesF (c :: r) with
  | false => rfl
  | true => obtain ⟨z, hz⟩ := quotesF_iff.1 hq; simp only [List.cons.injEq] at hz; exact absurd hz.1 h
theorem isEsc_not {c : Int} {r : List Int} (h : c ≠ 92) : isEsc (c :: r) = false := by
  cases hq : isEsc (c :: r) with
  | false => rfl
  | true => obtain ⟨z, hz⟩ := isEsc_iff.1 hq; simp only [List.cons.injEq] at hz; exact absurd hz.1 h

theorem sp_34 (B b : List Int) : ∀ {r y : List Int}, spF B (maskF r) ++ 10 :: b = 34 :: y → ∃ r', r = 34 :: r' ∧ y = spF B (maskF r') ++ 10 :: b
  | [], y, h => by
    have h' : (10 : Int) :: b = 34 :: y := h
    simp at h'
  | c :: r', y, h => by
    cases hq : quotesF (c :: r') with
    | true =>
      obtain ⟨z, hz⟩ := quotesF_iff.1 hq
      rw [hz, maskF_q, spF_cons _ _ (by decide)] at h
      simp at h
    | false =>
      rw [maskF_cons hq] at h
      by_cases hc : c = 10
      · subst hc; rw [spF_10] at h; simp at h
      · rw [spF_cons _ _ hc, List.cons_append, List.cons.injEq] at h
        exact ⟨r', by rw [h.1], h.2.symm⟩
theorem sp_quotes (B b l : List Int) : quotesF (spF B (maskF l) ++ 10 :: b) = false := by
  cases hq : quotesF (spF B (maskF l) ++ 10 :: b) with
  | false => rfl
  | true =>
    obtain ⟨z, hz⟩ := quotesF_iff.1 hq
    obtain ⟨r1, rfl, h1⟩ := sp_34 B b hz
    obtain ⟨r2, rfl, h2⟩ := sp_34 B b h1.symm
    obtain ⟨r3, rfl, h3⟩ := sp_34 B b h2.symm
    rw [maskF_q, spF_cons _ _ (by decide)] at hz
    simp at hz
theorem sp_esc {c : Int} {B b r : List Int} : isEsc (c :: (spF B (maskF r) ++ 10 :: b)) = false := by
  cases hq : isEsc (c :: (spF B (maskF r) ++ 10 :: b)) with
  | false => rfl
  | true =>
    obtain ⟨z, hz⟩ := isEsc_iff.1 hq
    simp only [List.cons.injEq] at hz
    have := sp_quotes B b r
    rw [hz.2] at this
    cases this
def sp32 (B : List Int) : Prop := ∀ x ∈ B, x = 32
theorem mid_32 {B : List Int} (hB : sp32 B) (x : List Int) : midF (B ++ x) = midF x := by
  induction B with
  | nil => rfl
  | cons c r ih =>
    have hc : c = 32 := hB c List.mem_cons_self
    subst hc
    rw [List.cons_append, midF_cons (isEsc_not (by decide)), quotesF_not (by decide), show sourceF 32 = true by decide]
    exact ih fun x hx => hB x (List.mem_cons_of_mem _ hx)
theorem open_32 {B : List Int} (hB : sp32 B) (x : List Int) : openF (B ++ x) = B ++ openF x := by
  induction B with
  | nil => rfl
  | cons c r ih =>
    have hc : c = 32 := hB c List.mem_cons_self
    subst hc
    rw [List.cons_append, openF_cons (isEsc_not (by decide)), ih fun x hx => hB x (List.mem_cons_of_mem _ hx)]; rfl
theorem mid_10 (x : List Int) : midF (10 :: x) = midF x := by
  rw [midF_cons (isEsc_not (by decide)), quotesF_not (by decide), show sourceF 10 = true by decide]; rfl
theorem open_10 (x : List Int) : openF (10 :: x) = 10 :: openF x := openF_cons (isEsc_not (by decide))
theorem not_q {c : Int} {r : List Int} (hne : ∀ z, c = 34 → r = 34 :: 34 :: z → False) : quotesF (c :: r) = false := by
  cases hq : quotesF (c :: r) with
  | false => rfl
  | true =>
    obtain ⟨z, hz⟩ := quotesF_iff.1 hq
    simp only [List.cons.injEq] at hz
    exact absurd hz.2 (fun e => hne z hz.1 e)
theorem mid_sp {B b : List Int} (hB : sp32 B) (l : List Int) (h : l.all sourceF = true) : midF (spF B (maskF l) ++ 10 :: b) = midF b := by
  fun_induction maskF l with
  | case1 r ih =>
    simp only [List.all_cons, Bool.and_eq_true] at h
    rw [spF_cons _ _ (by decide), spF_cons _ _ (by decide), spF_cons _ _ (by decide), spF_cons _ _ (by decide)]
    exact ih h.2.2.2
  | case2 c r hne ih =>
    simp only [List.all_cons, Bool.and_eq_true] at h
    have hq := not_q hne
    have h1 := sp_quotes B b (c :: r)
    rw [maskF_cons hq] at h1
    by_cases hc : c = 10
    · subst hc
      rw [spF_10, List.cons_append, mid_10, List.append_assoc, mid_32 hB]
      exact ih h.2
    · rw [spF_cons _ _ hc, List.cons_append] at h1 ⊢
      rw [midF_cons sp_esc, h1, h.1]
      exact ih h.2
  | case3 => exact mid_10 b
theorem open_sp {B b : List Int} (hB : sp32 B) (l : List Int) : openF (spF B (maskF l) ++ 10 :: b) = spF B l ++ 10 :: openF b := by
  fun_induction maskF l with
  | case1 r ih =>
    have e : spF B (34 :: 34 :: 34 :: r) = 34 :: 34 :: 34 :: spF B r := by rw [spF_cons _ _ (by decide), spF_cons _ _ (by decide), spF_cons _ _ (by decide)]
    rw [spF_cons _ _ (by decide), spF_cons _ _ (by decide), spF_cons _ _ (by decide), spF_cons _ _ (by decide), e]
    exact congrArg (fun z => 34 :: 34 :: 34 :: z) ih
  | case2 c r hne ih =>
    by_cases hc : c = 10
    · subst hc
      rw [spF_10, spF_10, List.cons_append, open_10, List.append_assoc, open_32 hB, ih]
      simp
    · rw [spF_cons _ _ hc, spF_cons _ _ hc, List.cons_append, openF_cons sp_esc, ih]; rfl
  | case3 => exact open_10 b
theorem last_10 (b : List Int) : ∀ (n : Nat) (l : List Int) (x : Int), l.length ≤ n → lastF x (l ++ 10 :: b) = lastF 10 b
  | _, [], x, _ => lastF_cons (isEsc_not (by decide))
  | 0, c :: r, x, h => by simp at h
  | n + 1, c :: r, x, h => by
    cases he : isEsc (c :: r ++ 10 :: b) with
    | false =>
      rw [List.cons_append] at he ⊢
      rw [lastF_cons he]
      exact last_10 b n r c (by simpa using h)
    | true =>
      obtain ⟨z, hz⟩ := isEsc_iff.1 he
      match r, hz, h with
      | [], hz, h => simp at hz
      | [x1], hz, h => simp at hz
      | [x1, x2], hz, h => simp at hz
      | x1 :: x2 :: x3 :: r', hz, h =>
        simp only [List.cons_append, List.cons.injEq] at hz
        obtain ⟨rfl, rfl, rfl, rfl, _⟩ := hz
        simp only [List.length_cons] at h
        exact last_10 b n r' 0 (by omega)
theorem last_32 {B : List Int} (hB : sp32 B) : ∀ x, okEnd x = true → okEnd (lastF x B) = true := by
  induction B with
  | nil => exact fun x h => h
  | cons c r ih =>
    intro x h
    have hc : c = 32 := hB c List.mem_cons_self
    subst hc
    rw [lastF_cons (isEsc_not (by decide))]
    exact ih (fun x hx => hB x (List.mem_cons_of_mem _ hx)) 32 (by decide)

/-! ### its lines -/
theorem lineF_10 (cur x : List Int) : lineF cur (10 :: x) = cur :: lineF [] x := by rw [lineF_cons, endsF_cons]; simp
theorem lineF_32 {B : List Int} (hB : sp32 B) : ∀ (cur x : List Int), lineF cur (B ++ x) = lineF (cur ++ B) x := by
  induction B with
  | nil => intro cur x; simp
  | cons c r ih =>
    intro cur x
    have hc : c = 32 := hB c List.mem_cons_self
    subst hc
    rw [List.cons_append, lineF_skip _ _ _ (by decide) (by decide), ih (fun x hx => hB x (List.mem_cons_of_mem _ hx))]
    simp
theorem lineF_pre (a : List Int) : ∀ (m cur : List Int), lineF (a ++ cur) m = (a ++ (lineF cur m).headD []) :: (lineF cur m).tail
  | [], cur => by simp [lineF]
  | c :: r, cur => by
    rw [lineF_cons, lineF_cons]
    split
    · simp
    · split
      · exact lineF_pre a r cur
      · rw [List.append_assoc]; exact lineF_pre a r (cur ++ [c])
def idt (B : List Int) (ls : List (List Int)) : List (List Int) := ls.headD [] :: ls.tail.map (B ++ ·)
theorem line_sp {B : List Int} (hB : sp32 B) : ∀ (m cur : List Int), m.all no13 = true → lineF cur (spF B m ++ 10 :: B) = idt B (lineF cur m) ++ [B]
  | [], cur, _ => by
    have h1 := lineF_32 hB [] []
    rw [List.append_nil, List.nil_append] at h1
    show lineF cur (10 :: B) = _
    rw [lineF_10, h1]
    simp [lineF, idt]
  | c :: r, cur, h => by
    simp only [List.all_cons, Bool.and_eq_true] at h
    have hc13 : c ≠ 13 := fun e => by have := h.1; rw [e] at this; cases this
    by_cases hc : c = 10
    · subst hc
      rw [spF_10, List.cons_append, lineF_10, List.append_assoc, lineF_32 hB, List.nil_append, line_sp hB r B h.2, lineF_10]
      have h2 := lineF_pre B r []
      rw [List.append_nil] at h2
      rw [h2]
      have hne := lineF_ne r []
      match hL : lineF [] r, hne with
      | a :: t, _ => simp [idt]
    · rw [spF_cons _ _ hc, List.cons_append, lineF_skip _ _ _ hc hc13, line_sp hB r _ h.2, lineF_skip _ _ _ hc hc13]
theorem lines_sp {B m : List Int} (hB : sp32 B) (h : m.all no13 = true) : linesF (10 :: (B ++ (spF B m ++ 10 :: B))) = [] :: ((linesF m).map (B ++ ·) ++ [B]) := by
  unfold linesF
  rw [lineF_10, lineF_32 hB, List.nil_append, line_sp hB m B h]
  have h2 := lineF_pre B m []
  rw [List.append_nil] at h2
  rw [h2]
  have hne := lineF_ne m []
  match hL : lineF [] m, hne with
  | a :: t, _ => simp [idt]

/-! ### and its dedent -/
theorem indentN_32 {B : List Int} (hB : sp32 B) (l : List Int) : indentN (B ++ l) = B.length + indentN l := by
  induction B with
  | nil => simp
  | cons c r ih =>
    have hc : c = 32 := hB c List.mem_cons_self
    subst hc
    rw [List.cons_append, indentN_cons, if_pos (by decide), ih fun x hx => hB x (List.mem_cons_of_mem _ hx), List.length_cons]; omega
theorem blankF_32 {B : List Int} (hB : sp32 B) (l : List Int) : blankF (B ++ l) = blankF l := by
  unfold blankF
  rw [List.all_append]
  have : B.all whiteF = true := List.all_eq_true.2 fun x hx => by rw [hB x hx]; decide
  rw [this, Bool.true_and]
theorem leastF_ge (k : Int) : ∀ (ls : List (List Int)) (m : Int), (m < 0 ∨ k ≤ m) → (∀ l ∈ ls, blankF l = false → k ≤ indentF l) → leastF m ls < 0 ∨ k ≤ leastF m ls
  | [], m, hm, _ => hm
  | x :: ls, m, hm, h => by
    rw [leastF_cons]
    refine leastF_ge k ls _ ?_ fun l hl => h l (List.mem_cons_of_mem _ hl)
    split
    · rename_i hc
      simp only [Bool.and_eq_true, Bool.not_eq_true'] at hc
      exact .inr (h x List.mem_cons_self hc.1)
    · exact hm
theorem trim_wrap {L : List (List Int)} (h : L ≠ []) (h1 : blankF (L.headD []) = false) (h2 : blankF (L.getLastD []) = false) : trimF ([] :: (L ++ [[]])) = L := by
  match L, h with
  | a :: t, _ =>
    have h1' : blankF a = false := h1
    have e1 : ([] :: (a :: t ++ [[]])).dropWhile blankF = a :: t ++ [[]] := by
      rw [List.dropWhile_cons_of_pos rfl, List.cons_append, List.dropWhile_cons_of_neg (by rw [h1']; simp)]
    unfold trimF
    rw [e1, List.reverse_append, List.reverse_cons, List.reverse_nil, List.nil_append, List.singleton_append, List.dropWhile_cons_of_pos rfl]
    have hr : (a :: t).reverse.headD [] = (a :: t).getLastD [] := by
      rw [List.getLastD_eq_getLast?, List.getLast?_eq_head?_reverse, List.headD_eq_head?_getD]
    have hne : (a :: t).reverse ≠ [] := by simp
    match hR : (a :: t).reverse, hne with
    | x :: y, _ =>
      rw [hR] at hr
      have hx : blankF x = false := by rw [← h2, ← hr]; rfl
      rw [List.dropWhile_cons_of_neg (by rw [hx]; simp), ← hR, List.reverse_reverse]
theorem fitF_parts {L : List (List Int)} (h : fitF L = true) : blankF (L.headD []) = false ∧ blankF (L.getLastD []) = false ∧ (decide (L.length = 1) || L.any hasFit) = true := by
  unfold fitF at h
  simp only [Bool.and_eq_true, Bool.not_eq_true'] at h
  exact ⟨h.1, h.2.1, h.2.2⟩
theorem dedent_sp {B : List Int} {L : List (List Int)} (hB : sp32 B) (hne : L ≠ []) (hf : fitF L = true) (ha : L.any hasFit = true) : dedentF ([] :: (L.map (B ++ ·) ++ [B])) = L := by
  obtain ⟨h1, h2, _⟩ := fitF_parts hf
  obtain ⟨l, hl, hfit⟩ := List.any_eq_true.1 ha
  unfold hasFit at hfit
  simp only [Bool.and_eq_true, Bool.not_eq_true', decide_eq_true_eq] at hfit
  have hbB : blankF B = true := by have := blankF_32 hB []; rw [List.append_nil] at this; rw [this]; rfl
  have hmem : B ++ l ∈ L.map (B ++ ·) ++ [B] := List.mem_append_left _ (List.mem_map.2 ⟨l, hl, rfl⟩)
  have s1 := (leastF_spec (L.map (B ++ ·) ++ [B]) (-1)).2 (B ++ l) hmem (by rw [blankF_32 hB]; exact hfit.1)
  have s2 := leastF_ge B.length (L.map (B ++ ·) ++ [B]) (-1) (.inl (by omega)) fun x hx hb => by
    rcases List.mem_append.1 hx with hx | hx
    · obtain ⟨y, hy, rfl⟩ := List.mem_map.1 hx
      unfold indentF; rw [indentN_32 hB]; omega
    · rcases List.mem_singleton.1 hx with rfl
      rw [hbB] at hb; cases hb
  have s3 : indentF (B ++ l) = (B.length : Int) := by
    have := hfit.2
    unfold indentF at this ⊢
    rw [indentN_32 hB]; omega
  have hc : leastF (-1) (L.map (B ++ ·) ++ [B]) = (B.length : Int) := by omega
  have hcut : cutF ([] :: (L.map (B ++ ·) ++ [B])) = [] :: (L ++ [[]]) := by
    rw [cutF_eq]
    show cutC (leastF (-1) (L.map (B ++ ·) ++ [B])) _ = _
    rw [hc]
    unfold cutC
    have e : L.map ((fun l => List.drop B.length l) ∘ fun x => B ++ x) = L := by
      conv => rhs; rw [← List.map_id L]
      exact List.map_congr_left fun x _ => by simp
    simp [e]
  unfold dedentF
  rw [hcut, trim_wrap hne h1 h2]
theorem okC_source {cs : List Int} (h : cs.all okC = true) : cs.all sourceF = true := List.all_eq_true.2 fun x hx => by
  have := List.all_eq_true.1 h x hx
  unfold okC at this
  exact (Bool.and_eq_true _ _ ▸ this).1
theorem block_sp {B cs : List Int} (hB : sp32 B) (ho : cs.all okC = true) (hf : fitF (linesF cs) = true) (ha : (linesF cs).any hasFit = true) :
    blockF (10 :: (B ++ (spF B (maskF cs) ++ 10 :: B))) = (encB cs, 0) := by
  have hm : midF (10 :: (B ++ (spF B (maskF cs) ++ 10 :: B))) = true := by
    have := mid_32 hB []
    rw [List.append_nil] at this
    rw [mid_10, mid_32 hB, mid_sp hB cs (okC_source ho), this]; rfl
  have hl : okEnd (lastF 0 (10 :: (B ++ (spF B (maskF cs) ++ 10 :: B)))) = true := by
    have := last_10 B _ (10 :: (B ++ spF B (maskF cs))) 0 (Nat.le_refl _)
    rw [List.cons_append, List.append_assoc] at this
    rw [this]
    exact last_32 hB 10 (by decide)
  have hop : openF (10 :: (B ++ (spF B (maskF cs) ++ 10 :: B))) = 10 :: (B ++ (spF B cs ++ 10 :: B)) := by
    have := open_32 hB []
    rw [List.append_nil] at this
    rw [open_10, open_32 hB, open_sp hB cs, this]
    simp [openF]
  rw [blockF_eq, hm, hl, hop, lines_sp hB (okC_no13 ho), dedent_sp (L := linesF cs) hB (lineF_ne cs []) hf ha, join_lines (okC_no13 ho), encF_valid (okC_valid ho)]
  rfl
theorem block_one {cs : List Int} (ho : cs.all okC = true) (hL : linesF cs = [cs]) (hb : blankF cs = false) : blockF (maskF cs ++ [10]) = (encB cs, 0) := by
  have hB : sp32 [] := fun x hx => by cases hx
  have h1 := mid_sp (b := []) hB cs (okC_source ho)
  have h2 := open_sp (b := []) hB cs
  have h3 := last_10 [] _ (maskF cs) 0 (Nat.le_refl _)
  have h4 := line_sp hB cs [] (okC_no13 ho)
  rw [spF_empty] at h1 h2 h4
  rw [spF_empty] at h2
  have hl : linesF (cs ++ [10]) = [cs, []] := by
    show lineF [] _ = _
    have hL' : lineF [] cs = [cs] := hL
    rw [h4, hL']; rfl
  have hd : dedentF [cs, []] = [cs] := by
    unfold dedentF
    have : cutF [cs, []] = [cs, []] := by unfold cutF commonF; simp
    rw [this]
    unfold trimF
    rw [List.dropWhile_cons_of_neg (by rw [hb]; simp)]
    show (List.dropWhile blankF ([] :: [cs])).reverse = _
    rw [List.dropWhile_cons_of_pos rfl, List.dropWhile_cons_of_neg (by rw [hb]; simp)]; rfl
  have h2' : openF (maskF cs ++ [10]) = cs ++ [10] := h2
  have hj : joinLF [cs] = cs := by simp [joinLF]
  rw [blockF_eq, h1, h3, h2', hl, hd, hj, encF_valid (okC_valid ho)]
  rfl
end Go.Aev
end

section
set_option linter.unusedVariables false
namespace Go.Aev
open Go.Proofs Go.Lib

theorem lines_one {cs : List Int} (ho : cs.all okC = true) (h : (linesF cs).length = 1) : linesF cs = [cs] := by
  have hj := join_lines (okC_no13 ho)
  match hL : linesF cs, h with
  | [x], _ =>
    rw [hL] at hj
    have : x = cs := by simpa [joinLF] using hj
    rw [this]
theorem fit_any {cs : List Int} (ho : cs.all okC = true) (hf : fitF (linesF cs) = true) (h : (decide (1 < (linesF cs).length) || !whiteF (cs.headD 0)) = true) : (linesF cs).any hasFit = true := by
  obtain ⟨h1, h2, h3⟩ := fitF_parts hf
  rw [Bool.or_eq_true] at h3
  rcases h3 with h3 | h3
  · have h4 := of_decide_eq_true h3
    rw [h4] at h
    have hw : whiteF (cs.headD 0) = false := by simpa using h
    have hL := lines_one ho h4
    rw [hL] at h1 ⊢
    have hb : blankF cs = false := h1
    match cs, hb, hw with
    | c :: r, hb, hw =>
      have hi : indentF (c :: r) = 0 := by
        unfold indentF
        rw [indentN_cons, if_neg (by have hw' : whiteF c = false := hw; rw [hw']; simp)]; rfl
      simp [hasFit, hb, hi]
  · exact h3
def midB (cs : List Int) : List Int := (if decide (1 < (linesF cs).length) || !whiteF (cs.headD 0) then [10] else []) ++ maskF cs ++ [10]
theorem btC_mid (cs : List Int) : btC cs = [34, 34, 34] ++ midB cs ++ [34, 34, 34] := by unfold btC midB; simp
theorem midB_len (cs : List Int) : (midB cs).length ≤ 2 * cs.length + 2 := by
  have := maskF_len cs
  unfold midB
  split <;> simp <;> omega
theorem midB_block {cs : List Int} (ho : cs.all okC = true) (hf : fitF (linesF cs) = true) : blockF (midB cs) = (encB cs, 0) := by
  unfold midB
  cases hp : (decide (1 < (linesF cs).length) || !whiteF (cs.headD 0)) with
  | true =>
    have := block_sp (B := []) (fun x hx => by cases hx) ho hf (fit_any ho hf hp)
    rw [spF_empty] at this
    rw [if_pos rfl]
    exact this
  | false =>
    rw [if_neg (by simp), List.nil_append]
    simp only [Bool.or_eq_false_iff, decide_eq_false_iff_not] at hp
    have hne := lineF_ne cs []
    have h1 : (linesF cs).length = 1 := by
      have : (linesF cs).length ≠ 0 := fun e => hne (List.eq_nil_of_length_eq_zero e)
      omega
    have hL := lines_one ho h1
    obtain ⟨hb, _, _⟩ := fitF_parts hf
    rw [hL] at hb
    exact block_one ho hL hb
theorem midB_valid {cs : List Int} (h : cs.all okC = true) : (midB cs).all validF = true := by
  have := btC_valid h
  rw [btC_mid, List.all_append, List.all_append, Bool.and_eq_true, Bool.and_eq_true] at this
  exact this.1.2
/-- What a block string's text is made of. -/
theorem btF_parts {v : List UInt8} (h : (btF v).2 = true) : v = [] ∨ (v ≠ [] ∧ encB (decF v).1 = v ∧ (decF v).1.all okC = true ∧ fitF (linesF (decF v).1) = true ∧ btF v = (encB (btC (decF v).1), true)) := by
  rw [btF_eq] at h ⊢
  by_cases h0 : v = []
  · exact .inl h0
  rw [if_neg h0] at h ⊢
  by_cases h1 : (decF v).2 < v.length
  · rw [if_pos h1] at h; cases h
  rw [if_neg h1] at h ⊢
  cases h2 : (decF v).1.all okC with
  | false => rw [h2] at h; cases h
  | true =>
    rw [h2] at h
    cases h3 : fitF (linesF (decF v).1) with
    | false => rw [h3] at h; cases h
    | true =>
      obtain ⟨henc, _, hle, _⟩ := decF_enc v.length v (Nat.le_refl _)
      refine .inr ⟨h0, ?_, rfl, rfl, rfl⟩
      rw [henc, show (decF v).2 = v.length by omega, List.take_length]
theorem blockF_nil : blockF [] = ([], 0) := by decide
theorem btF_nil : btF [] = ([34, 34, 34, 34, 34, 34], true) := by rw [btF_eq, if_pos rfl]
/-- A block string's text reads back. -/
theorem block_back {v : List UInt8} (h : (btF v).2 = true) : (insF (btF v).1 3).2 = true ∧ blockF (insF (btF v).1 3).1 = (v, 0) ∧ (insF (btF v).1 3).1.length ≤ 2 * (decF v).1.length + 2 ∧ (btF v).1.length ≤ 8 * (decF v).1.length + 32 := by
  rcases btF_parts h with rfl | ⟨h0, h1, h2, h3, h4⟩
  · rw [btF_nil]
    have : insF [34, 34, 34, 34, 34, 34] 3 = ([], true) := insF_of (q := [34, 34, 34]) (m := []) rfl
    dsimp only
    rw [this]
    exact ⟨rfl, blockF_nil, by simp, by simp⟩
  · rw [h4, btC_mid]
    dsimp only
    rw [(ins_enc (midB_valid h2)).2]
    have hl := midB_len (decF v).1
    refine ⟨rfl, ?_, hl, ?_⟩
    · rw [midB_block h2 h3, h1]
    · have := encB_len ([34, 34, 34] ++ midB (decF v).1 ++ [34, 34, 34])
      simp only [List.length_append, List.length_cons, List.length_nil] at this ⊢
      omega

/-! ### what is read is written again -/
theorem mid_open (l : List Int) (h : midF l = true) : (openF l).all sourceF = true := by
  fun_induction openF l with
  | case1 r ih => exact ih h
  | case2 c r hne ih =>
    have he : isEsc (c :: r) = false := by
      cases he : isEsc (c :: r) with
      | false => rfl
      | true =>
        obtain ⟨z, hz⟩ := isEsc_iff.1 he
        simp only [List.cons.injEq] at hz
        exact absurd hz.2 (fun e => hne z hz.1 e)
    rw [midF_cons he] at h
    split at h
    · cases h
    · rename_i hc
      simp only [Bool.or_eq_true, Bool.not_eq_true', not_or, Bool.not_eq_false] at hc
      rw [List.all_cons, hc.1, ih h]; rfl
  | case3 => rfl
def clean (c : Int) : Bool := sourceF c && (!(c == 10) && !(c == 13))
theorem lineF_clean : ∀ (m cur : List Int), cur.all clean = true → m.all sourceF = true → ∀ l ∈ lineF cur m, l.all clean = true
  | [], cur, hc, _, l, hl => by simp [lineF] at hl; rw [hl]; exact hc
  | c :: r, cur, hc, hm, l, hl => by
    simp only [List.all_cons, Bool.and_eq_true] at hm
    rw [lineF_cons, endsF_cons] at hl
    by_cases h10 : c = 10
    · rw [if_pos h10] at hl
      simp only [if_true] at hl
      rcases List.mem_cons.1 hl with rfl | hl
      · exact hc
      · exact lineF_clean r [] rfl hm.2 l hl
    · rw [if_neg h10] at hl
      by_cases h13 : c = 13
      · rw [if_pos h13, if_pos h13] at hl
        split at hl
        · rcases List.mem_cons.1 hl with rfl | hl
          · exact hc
          · exact lineF_clean r [] rfl hm.2 l hl
        · exact lineF_clean r cur hc hm.2 l hl
      · rw [if_neg h13, if_neg h13] at hl
        simp only [Bool.false_eq_true, if_false] at hl
        refine lineF_clean r _ ?_ hm.2 l hl
        rw [List.all_append, hc]
        simp [clean, hm.1, h10, h13]
theorem lineF_run : ∀ (l cur x : List Int), l.all clean = true → lineF cur (l ++ x) = lineF (cur ++ l) x
  | [], cur, x, _ => by simp
  | c :: r, cur, x, h => by
    simp only [List.all_cons, Bool.and_eq_true] at h
    have hc := h.1
    simp only [clean, Bool.and_eq_true, Bool.not_eq_true', beq_eq_false_iff_ne] at hc
    rw [List.cons_append, lineF_skip _ _ _ hc.2.1 hc.2.2, lineF_run r _ x h.2]
    simp
theorem lines_join : ∀ (D : List (List Int)), D ≠ [] → (∀ x ∈ D, x.all clean = true) → linesF (joinLF D) = D
  | [l], _, h => by
    have e : joinLF [l] = l ++ [] := by simp [joinLF]
    have := lineF_run l [] [] (h l List.mem_cons_self)
    rw [e]
    unfold linesF
    rw [this]; simp [lineF]
  | l :: x :: r, _, h => by
    rw [joinLF_cons (by simp)]
    have ih := lines_join (x :: r) (by simp) fun y hy => h y (List.mem_cons_of_mem _ hy)
    unfold linesF at ih ⊢
    rw [lineF_run l [] _ (h l List.mem_cons_self), lineF_10, ih]; simp
theorem joinLF_all {p : Int → Bool} (h10 : p 10 = true) : ∀ (D : List (List Int)), (∀ x ∈ D, x.all p = true) → (joinLF D).all p = true
  | [], _ => rfl
  | [l], h => by
    have e : joinLF [l] = l := by simp [joinLF]
    rw [e]; exact h l List.mem_cons_self
  | l :: x :: r, h => by
    rw [joinLF_cons (by simp), List.all_append, List.all_cons, h l List.mem_cons_self, h10, joinLF_all h10 (x :: r) fun y hy => h y (List.mem_cons_of_mem _ hy)]; rfl
theorem cutC_mem {c : Int} {ls : List (List Int)} {x : List Int} (h : x ∈ cutC c ls) : ∃ y ∈ ls, ∃ n, x = y.drop n := by
  unfold cutC at h
  rcases List.mem_append.1 h with h | h
  · exact ⟨x, List.mem_of_mem_take h, 0, by simp⟩
  · obtain ⟨y, hy, rfl⟩ := List.mem_map.1 h
    exact ⟨y, List.mem_of_mem_drop hy, _, rfl⟩
theorem dedent_all {p : Int → Bool} {ls : List (List Int)} (h : ∀ x ∈ ls, x.all p = true) : ∀ x ∈ dedentF ls, x.all p = true := by
  intro x hx
  have h1 := (trimF_sub (cutF ls)).subset hx
  rw [cutF_eq] at h1
  obtain ⟨y, hy, n, rfl⟩ := cutC_mem h1
  exact List.all_eq_true.2 fun z hz => List.all_eq_true.1 (h y hy) z (List.mem_of_mem_drop hz)

/-! ### what a trim leaves -/
theorem trim_keeps {X : List (List Int)} {x : List Int} (h : x ∈ X) (hb : blankF x = false) : x ∈ trimF X := by
  have keep : ∀ (l : List (List Int)), x ∈ l → x ∈ l.dropWhile blankF := fun l hl => by
    rw [← List.takeWhile_append_dropWhile (p := blankF) (l := l)] at hl
    rcases List.mem_append.1 hl with hl | hl
    · have := List.all_eq_true.1 (List.all_takeWhile (p := blankF) (l := l)) x hl
      rw [hb] at this; cases this
    · exact hl
  unfold trimF
  exact List.mem_reverse.2 (keep _ (List.mem_reverse.2 (keep _ h)))
theorem dw_head {l : List (List Int)} {x : List Int} {r : List (List Int)} (h : l.dropWhile blankF = x :: r) : blankF x = false := by
  induction l with
  | nil => cases h
  | cons a t ih =>
    cases hb : blankF a with
    | true => rw [List.dropWhile_cons_of_pos hb] at h; exact ih h
    | false =>
      rw [List.dropWhile_cons_of_neg (by rw [hb]; simp)] at h
      simp only [List.cons.injEq] at h
      rw [← h.1]; exact hb
theorem trim_ends {X : List (List Int)} (h : trimF X ≠ []) : blankF ((trimF X).headD []) = false ∧ blankF ((trimF X).getLastD []) = false := by
  have hsplit : X.dropWhile blankF = trimF X ++ ((X.dropWhile blankF).reverse.takeWhile blankF).reverse := by
    unfold trimF
    rw [← List.reverse_append, List.takeWhile_append_dropWhile, List.reverse_reverse]
  constructor
  · match hD : trimF X, h with
    | a :: t, _ =>
      rw [hD, List.cons_append] at hsplit
      exact dw_head hsplit
  · have hr : (trimF X).reverse = (X.dropWhile blankF).reverse.dropWhile blankF := by unfold trimF; rw [List.reverse_reverse]
    have hne : (trimF X).reverse ≠ [] := by simpa using h
    rw [List.getLastD_eq_getLast?, List.getLast?_eq_head?_reverse]
    match hZ : (trimF X).reverse, hne with
    | a :: t, _ =>
      rw [hZ] at hr
      exact dw_head hr.symm
theorem trim_one {x : List Int} {r : List (List Int)} (h : ∀ y ∈ r, blankF y = true) : (trimF (x :: r)).length ≤ 1 := by
  unfold trimF
  rw [List.length_reverse]
  cases hb : blankF x with
  | true =>
    have : (x :: r).dropWhile blankF = [] := by
      rw [List.dropWhile_cons_of_pos hb]
      have := List.dropWhile_append_of_pos (p := blankF) (l₁ := r) (l₂ := []) h
      simpa using this
    rw [this]; simp
  | false =>
    rw [List.dropWhile_cons_of_neg (by rw [hb]; simp), List.reverse_cons, List.dropWhile_append_of_pos (fun y hy => h y (List.mem_reverse.1 hy)), List.dropWhile_cons_of_neg (by rw [hb]; simp)]
    simp
theorem leastF_att : ∀ (ls : List (List Int)) (m : Int), leastF m ls = m ∨ ∃ l ∈ ls, blankF l = false ∧ indentF l = leastF m ls
  | [], m => .inl rfl
  | x :: ls, m => by
    rw [leastF_cons]
    rcases leastF_att ls (if !blankF x && (decide (m < 0) || decide (indentF x < m)) then indentF x else m) with h | ⟨l, hl, h1, h2⟩
    · rw [h]
      split
      · rename_i hc
        simp only [Bool.and_eq_true, Bool.not_eq_true'] at hc
        exact .inr ⟨x, List.mem_cons_self, hc.1, rfl⟩
      · exact .inl rfl
    · exact .inr ⟨l, List.mem_cons_of_mem _ hl, h1, h2⟩
theorem indentN_drop (l : List Int) : indentN (l.drop (indentN l)) = 0 := by
  induction l with
  | nil => rfl
  | cons x r ih =>
    cases hw : whiteF x with
    | true =>
      have e : indentN (x :: r) = indentN r + 1 := by rw [indentN_cons, if_pos hw]
      rw [e, List.drop_succ_cons]; exact ih
    | false =>
      have e : indentN (x :: r) = 0 := by rw [indentN_cons, if_neg (by rw [hw]; simp)]
      rw [e]; exact e
theorem dedent_fit {ls : List (List Int)} (hne : dedentF ls ≠ []) : fitF (dedentF ls) = true := by
  obtain ⟨h1, h2⟩ := trim_ends (X := cutF ls) hne
  have h3 : (decide ((dedentF ls).length = 1) || (dedentF ls).any hasFit) = true := by
    have hs := (leastF_spec (ls.drop 1) (-1)).2
    rcases leastF_att (ls.drop 1) (-1) with h | ⟨l, hl, hb, hi⟩
    · have hall : ∀ y ∈ ls.drop 1, blankF y = true := fun y hy => by
        cases hb : blankF y with
        | true => rfl
        | false => have := hs y hy hb; omega
      have hlen : (dedentF ls).length ≤ 1 := by
        match ls, hall with
        | [], _ => exact Nat.le_of_lt_succ (by decide)
        | x :: r, hall =>
          have hall' : ∀ y ∈ r, blankF y = true := hall
          have hc : cutF (x :: r) = x :: r.map fun l => l.drop (commonF (x :: r)).toNat := rfl
          show (trimF (cutF (x :: r))).length ≤ 1
          rw [hc]
          refine trim_one fun y hy => ?_
          obtain ⟨z, hz, rfl⟩ := List.mem_map.1 hy
          exact List.all_eq_true.2 fun a ha => List.all_eq_true.1 (hall' z hz) a (List.mem_of_mem_drop ha)
      have : (dedentF ls).length ≠ 0 := fun e => hne (List.eq_nil_of_length_eq_zero e)
      rw [decide_eq_true (by omega)]; rfl
    · have hmem : l.drop (indentN l) ∈ cutF ls := by
        rw [cutF_eq]
        unfold cutC
        refine List.mem_append_right _ (List.mem_map.2 ⟨l, hl, ?_⟩)
        rw [← hi]; rfl
      have hb2 : blankF (l.drop (indentN l)) = false := by rw [blank_drop fun _ => Nat.le_refl _]; exact hb
      have hin : l.drop (indentN l) ∈ dedentF ls := trim_keeps hmem hb2
      have hfit : hasFit (l.drop (indentN l)) = true := by
        unfold hasFit indentF
        rw [hb2, indentN_drop]; rfl
      rw [List.any_eq_true.2 ⟨_, hin, hfit⟩, Bool.or_true]
  unfold fitF
  have e1 : blankF ((dedentF ls).headD []) = false := h1
  have e2 : blankF ((dedentF ls).getLastD []) = false := h2
  rw [e1, e2]
  exact h3
theorem clean_okC {l : List Int} (h : l.all clean = true) : l.all okC = true := List.all_eq_true.2 fun x hx => by
  have := List.all_eq_true.1 h x hx
  simp only [clean, Bool.and_eq_true] at this
  simp only [okC, Bool.and_eq_true]
  exact ⟨this.1, this.2.2⟩
/-- What a block string says can be written. -/
theorem block_again {l : List Int} (h : (blockF l).2 = 0) : (btF (blockF l).1).2 = true ∧ (decF (blockF l).1).1.length ≤ 2 * l.length + 1 ∧ (blockF l).1.length ≤ 8 * l.length + 4 := by
  rw [blockF_eq] at h ⊢
  cases hm : midF l with
  | false => rw [hm] at h; cases h
  | true =>
    rw [hm] at h
    cases ho : okEnd (lastF 0 l) with
    | false => rw [ho] at h; cases h
    | true =>
      have hcl : ∀ x ∈ dedentF (linesF (openF l)), x.all clean = true := dedent_all (lineF_clean _ [] rfl (mid_open l hm))
      have hok : (joinLF (dedentF (linesF (openF l)))).all okC = true := joinLF_all (by decide) _ fun x hx => clean_okC (hcl x hx)
      have hv := okC_valid hok
      have hd := decF_encB _ hv
      have t1 := dedent_tot (linesF (openF l))
      have t2 := linesF_tot (openF l)
      have t3 := joinLF_len (dedentF (linesF (openF l)))
      have t4 : (openF l).length ≤ l.length := openF_len l
      have t5 := encB_len (joinLF (dedentF (linesF (openF l))))
      simp only [Bool.and_self, if_true]
      rw [encF_valid hv]
      dsimp only
      refine ⟨?_, ?_, by omega⟩
      · by_cases hD : dedentF (linesF (openF l)) = []
        · rw [hD]; exact congrArg Prod.snd btF_nil
        · have hlj := lines_join _ hD hcl
          have hfit := dedent_fit hD
          rw [btF_eq, hd]
          dsimp only
          rw [hok, hlj, hfit]
          have hne : encB (joinLF (dedentF (linesF (openF l)))) ≠ [] := fun e => by
            have hj : joinLF (dedentF (linesF (openF l))) = [] := by
              have := encB_len_ge (joinLF (dedentF (linesF (openF l))))
              rw [e] at this
              exact List.eq_nil_of_length_eq_zero (by simpa using this)
            rw [hj] at hlj
            have hb := (trim_ends (X := cutF (linesF (openF l))) hD).1
            have hb' : blankF ((dedentF (linesF (openF l))).headD []) = false := hb
            rw [← hlj] at hb'
            cases hb'
          rw [if_neg hne, if_neg (Nat.lt_irrefl _)]
          rfl
      · rw [hd]; dsimp only; omega

theorem smL_len' {l : List Int} (h : l.length ≤ 1073741824) : smL l = true := by simpa [smL] using h
theorem blockBack_ok (s : List UInt8) (l : List Int) (hs : smS1 s = true) (hl : smL1 l = true) (n : Nat) : evFn E204 n Tryd.f4 [.str s, .sl .i32 l none] = some (.one (.bool true)) := by
  have hlen : s.length ≤ 1048576 := by simpa [smS1] using hs
  have hlen2 : l.length ≤ 1048576 := by simpa [smL1] using hl
  have hS : smS s = true := smS_iff.2 (by omega)
  have hl4 : lim4 l = true := lim4_of (by omega)
  have hlL : smL l = true := smL_len' (by omega)
  have d3 : (Int.toNat 3) = 3 := rfl
  have second : (bif lim4 l then (bif smL l then (bif ((blockF l).2) != 0 then (some (.one (.bool (((blockF l).1) == [])))) else (bif smS ((blockF l).1) then (bif !((btF ((blockF l).1)).2) then (some (.one (.bool false))) else (bif smS ((btF ((blockF l).1)).1) && decide ((0 : Int) ≤ 3) && decide ((3 : Int) ≤ 1000) then (bif !((insF ((btF ((blockF l).1)).1) (Int.toNat 3)).2) then (some (.one (.bool false))) else (bif smL ((insF ((btF ((blockF l).1)).1) (Int.toNat 3)).1) then (bif (((blockF ((insF ((btF ((blockF l).1)).1) (Int.toNat 3)).1)).1) == ((blockF l).1)) == true then (some (.one (.bool (((blockF ((insF ((btF ((blockF l).1)).1) (Int.toNat 3)).1)).2) == 0)))) else (some (.one (.bool false)))) else none)) else none)) else none)) else none) else (none : Option E6)) = some (.one (.bool true)) := by
    rw [hl4, hlL, d3]
    by_cases h0 : (blockF l).2 = 0
    · obtain ⟨b1, b2, b3⟩ := block_again h0
      obtain ⟨c1, c2, c3, c4⟩ := block_back b1
      rw [bneF h0, smS_iff.2 (by omega : (blockF l).1.length ≤ _), b1, smS_iff.2 (by omega : (btF (blockF l).1).1.length ≤ _), c1, smL_len' (by omega), c2]
      dsimp only
      rw [beq_self_eq_true]; rfl
    · have he : (blockF l).1 = [] := by
        rw [blockF_eq] at h0 ⊢
        split
        · rename_i hc; rw [if_pos hc] at h0; exact absurd rfl h0
        · rfl
      rw [bneT h0, he]; rfl
  rw [ev204, hS]
  cases hb : (btF s).2 with
  | true =>
    obtain ⟨c1, c2, c3, c4⟩ := block_back hb
    obtain ⟨_, _, hle, hcl⟩ := decF_enc s.length s (Nat.le_refl _)
    rw [smS_iff.2 (by omega : (btF s).1.length ≤ _), d3, c1, smL_len' (by omega), c2]
    dsimp only
    rw [beq_self_eq_true]
    exact second
  | false => exact second
end Go.Aev
end

section
set_option linter.unusedVariables false
namespace Go.Aev
open Go.Proofs Go.RowKit

theorem snd204 : Sound Tryd.prog U6 IB 4 (opt S204) := by
  refine sound_of_ev (E := E204) ⟨u6_ok, tb6_ok, fun g ls r h => ?_, IB_mono⟩ Tryd.func4 rfl Tryd.call4 (fun ls r h => ?_)
  · change T204 g ls = some (true, r) at h
    unfold T204 at h
    split at h
    · exact of_sound snd209 h
    · exact of_sound snd18 h
    · exact of_sound snd212 h
    · exact of_sound snd22 h
    · exact of_sound snd20 h
    · cases h
  · obtain ⟨e, h1, h2⟩ := opt_some h
    unfold S204 at h1
    split at h1
    · rename_i a0 a1
      simp only [Option.some.injEq, Prod.mk.injEq] at h1
      obtain ⟨hg, rfl⟩ := h1
      subst h2
      exact ⟨0, blockBack_ok a0 a1 (and1 hg) (and2 hg) _⟩
    · cases h1
end Go.Aev
end
