/- Proved here: lemmas of an evaluator over the model's code that the claim's text uses (P20 P21 P22 P23). Conditions: those that each lemma states. -/
import Derived.Test.YtljnggaaohddnaaCbA
import Derived.Test.YtljnggaaohddnaaCdedB
section
set_option linter.unusedVariables false
namespace Go.Aev
open Go.Proofs

/-! ### sizes -/
def totL (ls : List (List Int)) : Nat := (ls.map List.length).sum
theorem totL_cons (l : List Int) (ls : List (List Int)) : totL (l :: ls) = l.length + totL ls := by simp [totL]
theorem totL_append (a b : List (List Int)) : totL (a ++ b) = totL a + totL b := by simp [totL]
theorem totL_sub {a b : List (List Int)} (h : a.Sublist b) : totL a ≤ totL b := by
  induction h with
  | slnil => simp
  | cons x _ ih => rw [totL_cons]; omega
  | cons_cons x _ ih => rw [totL_cons, totL_cons]; omega
theorem totL_mem {a : List (List Int)} {x : List Int} (h : x ∈ a) : x.length ≤ totL a := by
  have := totL_sub (List.singleton_sublist.2 h)
  simpa [totL] using this
theorem totL_map {f : List Int → List Int} (hf : ∀ l, (f l).length ≤ l.length) (a : List (List Int)) : totL (a.map f) ≤ totL a := by
  induction a with
  | nil => simp
  | cons l r ih => have := hf l; rw [List.map_cons, totL_cons, totL_cons]; omega
theorem lineF_tot : ∀ (m cur : List Int), totL (lineF cur m) ≤ cur.length + m.length ∧ (lineF cur m).length ≤ m.length + 1
  | [], cur => by simp [lineF, totL]
  | c :: r, cur => by
    rw [lineF_cons]
    split
    · have := lineF_tot r []
      rw [totL_cons]
      simp at this ⊢
      omega
    · split
      · have := lineF_tot r cur
        simp; omega
      · have := lineF_tot r (cur ++ [c])
        simp at this ⊢
        omega
theorem linesF_tot (l : List Int) : totL (linesF l) ≤ l.length ∧ (linesF l).length ≤ l.length + 1 := by
  have := lineF_tot l []
  simpa [linesF] using this
theorem trimF_sub (ls : List (List Int)) : (trimF ls).Sublist ls := by
  unfold trimF
  have h1 := (List.dropWhile_sublist (l := (List.dropWhile blankF ls).reverse) blankF).reverse
  rw [List.reverse_reverse] at h1
  exact h1.trans (List.dropWhile_sublist _)
theorem dedent_tot (ls : List (List Int)) : totL (dedentF ls) ≤ totL ls ∧ (dedentF ls).length ≤ ls.length := by
  unfold dedentF
  have h1 := totL_sub (trimF_sub (cutF ls))
  have h2 := (trimF_sub (cutF ls)).length_le
  have h3 : totL (cutF ls) ≤ totL ls := by
    unfold cutF
    rw [totL_append]
    have := totL_map (f := fun l => l.drop (commonF ls).toNat) (fun l => by simp) (ls.drop 1)
    have h4 : totL (ls.take 1) + totL (ls.drop 1) = totL ls := by rw [← totL_append, List.take_append_drop]
    omega
  have h4 : (cutF ls).length = ls.length := by unfold cutF; simp; omega
  omega
theorem limL_tot {ls : List (List Int)} (h1 : totL ls ≤ 4194304) (h2 : ls.length ≤ 4194305) : limL ls = true := by
  unfold limL
  simp only [Bool.and_eq_true, List.all_eq_true]
  exact ⟨room_iff.2 (by omega), fun x hx => lim4_iff.2 (by have := totL_mem hx; omega)⟩

/-! ### joining -/
theorem joinLF_len (ls : List (List Int)) : (joinLF ls).length ≤ totL ls + ls.length := by
  cases ls with
  | nil => simp [joinLF]
  | cons l r =>
    unfold joinLF
    rw [totL_cons]
    have : (r.flatMap (10 :: ·)).length ≤ totL r + r.length := by
      induction r with
      | nil => simp
      | cons x r ih => rw [List.flatMap_cons, List.length_append, totL_cons]; simp only [List.length_cons]; omega
    rw [List.length_append, List.length_cons]
    omega
theorem joinLF_take {ls : List (List Int)} {i : Nat} (h : i < ls.length) (h0 : 0 < i) : joinLF (ls.take (i + 1)) = joinLF (ls.take i) ++ [10] ++ ls[i] := by
  match ls, i, h, h0 with
  | l :: r, i + 1, h, _ =>
    simp only [List.length_cons, Nat.add_lt_add_iff_right] at h
    rw [List.take_succ_cons, List.take_succ_cons, List.take_succ_eq_append_getElem h]
    show l ++ (r.take i ++ [r[i]]).flatMap (10 :: ·) = (l ++ (r.take i).flatMap (10 :: ·)) ++ [10] ++ r[i]
    rw [List.flatMap_append]
    simp
theorem joinLF_take1 {ls : List (List Int)} (h : 0 < ls.length) : joinLF (ls.take 1) = ls[0] := by
  match ls, h with
  | l :: r, _ => simp [joinLF]

/-! ### lines of an opened text -/
theorem openF_head (r : List Int) : ((openF r).head? == some 10) = (r.head? == some 10) := by
  fun_cases openF r with
  | case1 r => rfl
  | case2 c r h => rfl
  | case3 => rfl
theorem endsF_cons (c : Int) (r : List Int) : endsF (c :: r) = if c = 10 then true else if c = 13 then !(r.head? == some 10) else false := by
  by_cases h1 : c = 10
  · subst h1; rfl
  · rw [if_neg h1]
    by_cases h2 : c = 13
    · subst h2; rfl
    · rw [if_neg h2]
      unfold endsF
      split
      · rename_i heq; simp only [List.cons.injEq] at heq; exact absurd heq.1 h1
      · rename_i heq; simp only [List.cons.injEq] at heq; exact absurd heq.1 h2
      · rfl
theorem quotesF_pre {x y : List Int} (h : x <+: y) (hx : quotesF x = true) : quotesF y = true := by
  obtain ⟨z, rfl⟩ := h
  obtain ⟨r, rfl⟩ := quotesF_iff.1 hx
  rfl
theorem isEsc_pre {x y : List Int} (h : x <+: y) (hx : isEsc y = false) : isEsc x = false := by
  cases hq : isEsc x with
  | false => rfl
  | true =>
    obtain ⟨z, rfl⟩ := h
    obtain ⟨r, rfl⟩ := isEsc_iff.1 hq
    rw [show isEsc (92 :: 34 :: 34 :: 34 :: r ++ z) = true from rfl] at hx
    cases hx
theorem lineF_skip (cur : List Int) (c : Int) (r : List Int) (h1 : c ≠ 10) (h2 : c ≠ 13) : lineF cur (c :: r) = lineF (cur ++ [c]) r := by
  rw [lineF_cons, endsF_cons, if_neg h1, if_neg h2]; simp [h2]
theorem lineF_open : ∀ (l cur cur' : List Int), (∀ x, x <+: l → openF (cur ++ x) = cur' ++ openF x) → lineF cur' (openF l) = (lineF cur l).map openF := by
  intro l
  fun_induction openF l with
  | case1 r ih =>
    intro cur cur' h
    rw [lineF_skip _ _ _ (by decide) (by decide), lineF_skip _ _ _ (by decide) (by decide), lineF_skip _ _ _ (by decide) (by decide),
      lineF_skip cur _ _ (by decide) (by decide), lineF_skip _ _ _ (by decide) (by decide), lineF_skip _ _ _ (by decide) (by decide), lineF_skip _ _ _ (by decide) (by decide)]
    refine ih _ _ (fun x hx => ?_)
    have := h (92 :: 34 :: 34 :: 34 :: x) (by simpa using hx)
    rw [openF_esc] at this
    simpa using this
  | case2 c r hne ih =>
    intro cur cur' h
    have he : isEsc (c :: r) = false := by
      cases hq : isEsc (c :: r) with
      | false => rfl
      | true =>
        obtain ⟨r', hr⟩ := isEsc_iff.1 hq
        simp only [List.cons.injEq] at hr
        exact absurd hr.2 (fun e => hne r' hr.1 e)
    have hends : endsF (c :: openF r) = endsF (c :: r) := by rw [endsF_cons, endsF_cons, openF_head]
    rw [lineF_cons, lineF_cons, hends]
    cases hq : endsF (c :: r) with
    | true =>
      simp only [if_true, List.map_cons]
      rw [ih [] [] (fun x _ => rfl)]
      have := h [] (List.nil_prefix)
      rw [List.append_nil, show openF [] = [] from rfl, List.append_nil] at this
      rw [this]
    | false =>
      simp only [Bool.false_eq_true, if_false]
      by_cases hc : c = 13
      · rw [if_pos hc, if_pos hc]
        subst hc
        -- the line end goes on with the next character
        have h10 : r.head? = some 10 := by
          rw [endsF_cons] at hq
          simpa using hq
        match r, h10 with
        | 10 :: r', _ =>
          have ih' := ih [] [] (fun x _ => rfl)
          have hr2 : openF (10 :: r') = 10 :: openF r' := openF_cons (by rw [isEsc_cons]; rfl)
          rw [hr2] at ih' ⊢
          rw [lineF_cons, show endsF (10 :: openF r') = true from rfl, lineF_cons, show endsF (10 :: r') = true from rfl] at ih' ⊢
          simp only [if_true, List.map_cons, List.cons.injEq] at ih' ⊢
          refine ⟨?_, ih'.2⟩
          have := h [] (List.nil_prefix)
          rw [List.append_nil, show openF [] = [] from rfl, List.append_nil] at this
          exact this.symm
      · rw [if_neg hc, if_neg hc]
        refine ih _ _ (fun x hx => ?_)
        have hcx : c :: x <+: c :: r := by simpa using hx
        have := h (c :: x) hcx
        rw [openF_cons (isEsc_pre hcx he)] at this
        simpa using this
  | case3 =>
    intro cur cur' h
    have := h [] (List.nil_prefix)
    rw [List.append_nil, show openF [] = [] from rfl, List.append_nil] at this
    simp [lineF, this]
theorem lines_open (l : List Int) : linesF (openF l) = (linesF l).map openF := lineF_open l [] [] (fun x _ => rfl)
end Go.Aev
end

section
set_option linter.unusedVariables false
namespace Go.Aev
open Go.Proofs

theorem blockF_eq (l : List Int) : blockF l = if midF l && okEnd (lastF 0 l) then ((encF (joinLF (dedentF (linesF (openF l))))).1, 0) else ([], 60) := rfl

/-- The loop that joins lines. -/
theorem join_loop {ls : List (List Int)} (h1 : totL ls ≤ 4194304) (h2 : ls.length ≤ 4194305) {n : Nat} (hn : ls.length < n) {body : S6 → (Ex → S6 → Option E6) → Option E6} {k : Ex → S6 → Option E6} {st : List Int → Int → S6}
    (hexit : ∀ (out : List Int) (i : Nat), ls.length ≤ i → lim4 out = true → ∀ K : Ex → S6 → Option E6, (∀ j s, K (.exit j) s = k (.exit j) s) → body (st out i) K = some (.tup [.str (encF out).1, .int .i64 0]))
    (hstep : ∀ (out : List Int) (i : Nat) (h : i < ls.length), room (out.length + 1) 4 = true → room ((out ++ [10]).length + ls[i].length) 4 = true → room (out.length + ls[i].length) 4 = true → ∀ K : Ex → S6 → Option E6,
      body (st out i) K = K .normal (st (if 0 < i then (out ++ [10]) ++ ls[i] else out ++ ls[i]) ((i + 1 : Nat) : Int))) :
    evLoop body n (st [] 0) k = some (.tup [.str (encF (joinLF ls)).1, .int .i64 0]) := by
  refine (loop_rule (fun i : Nat => st (joinLF (ls.take i)) i) (fun i => i ≤ ls.length) (fun i => ls.length - i) (fun i => (some (.tup [.str (encF (joinLF ls)).1, .int .i64 0]) : Option E6)) ?_ n 0 (Nat.zero_le _) (by omega))
  intro i hi K hke hkr hnx
  have hj := joinLF_len (ls.take i)
  have ht := totL_sub (List.take_sublist i ls)
  have hl : (ls.take i).length ≤ i := List.length_take_le _ _
  by_cases h : i < ls.length
  · have hm := totL_mem (List.getElem_mem h)
    rw [hstep _ i h (room_iff.2 (by omega)) (room_iff.2 (by simp; omega)) (room_iff.2 (by omega)) K]
    have : (if 0 < i then (joinLF (ls.take i) ++ [10]) ++ ls[i] else joinLF (ls.take i) ++ ls[i]) = joinLF (ls.take (i + 1)) := by
      by_cases h0 : 0 < i
      · rw [if_pos h0, joinLF_take h h0]
      · have : i = 0 := by omega
        subst this
        rw [if_neg h0, joinLF_take1 h]; rfl
    rw [this]
    exact hnx (i + 1) (by omega) (by omega)
  · rw [hexit _ i (by omega) (lim4_iff.2 (by omega)) K hke, List.take_of_length_le (by omega)]

theorem block_sizes {l : List Int} (hl : smL l = true) : totL (dedentF (linesF (openF l))) ≤ 4194304 ∧ (dedentF (linesF (openF l))).length ≤ l.length + 1 := by
  have h0 := smL_len hl
  have h1 := openF_len l
  have h2 := linesF_tot (openF l)
  have h3 := dedent_tot (linesF (openF l))
  omega
theorem block_ok (l : List Int) (hl : smL l = true) (n : Nat) (hn : l.length + 2 < n) : evFn E22 n Try.f22 [.sl .i32 l none] = some (.tup [.str (blockF l).1, .int .i64 (blockF l).2]) := by
  have hlen := smL_len hl
  rw [ev22, hl, cond_true, blockF_eq]
  unfold unmF
  cases hm : midF l with
  | false => rfl
  | true =>
    cases hk : okEnd (lastF 0 l) with
    | false => rfl
    | true =>
      have h1 := openF_len l
      have h2 := linesF_tot (openF l)
      have h3 := block_sizes hl
      have h5 : smL (openF l) = true := smL_iff.2 (by omega)
      rw [if_pos rfl, if_pos (show (true && true) = true from rfl)]
      dsimp only
      rw [h5, limL_tot (by omega) (by omega)]
      show evLoop _ n _ _ = _
      generalize dedentF (linesF (openF l)) = ls at h3
      refine join_loop (n := n) h3.1 (by omega) (by omega) (st := fun out i => st22_6 out ls (ls.length : Int) i) (fun out i hi ho K hke => ?_) (fun out i h r1 r2 r3 K => ?_)
      · rw [lb22_6_eq, decide_eq_false (by omega : ¬ (i : Int) < (ls.length : Int)), cond_false, hke, ex22_6_0, ho]; rfl
      · rw [lb22_6_eq, decide_eq_true (by omega : (i : Int) < (ls.length : Int)), cond_true, idx_lt h, wrapSucc (by omega)]
        dsimp only
        rw [r1, r2, r3]
        by_cases h0 : 0 < i
        · rw [decide_eq_true (by omega : (i : Int) > 0), if_pos h0]; rfl
        · rw [decide_eq_false (by omega : ¬ (i : Int) > 0), if_neg h0]; rfl

theorem rblock_ok (l : List Int) (hl : smL l = true) (n : Nat) (hn : l.length + 2 < n) : evFn E23 n Try.f23 [.sl .i32 l none] = some (.tup [.str (blockF l).1, .int .i64 (blockF l).2]) := by
  have hlen := smL_len hl
  rw [ev23, hl, cond_true, blockF_eq]
  have hb : blockOkF 0 l = (midF l && okEnd (lastF 0 l)) := rfl
  rw [hb]
  cases hm : midF l && okEnd (lastF 0 l) with
  | false => rfl
  | true =>
    have h1 := linesF_tot l
    have h3 := block_sizes hl
    rw [lines_open] at h3 ⊢
    rw [if_pos rfl]
    show evLoop _ n _ _ = _
    refine (loop_rule (fun i : Nat => st23_7 (linesF l) (((linesF l).take i).map openF) i) (fun i => i ≤ (linesF l).length) (fun i => (linesF l).length - i) (fun i => (some (.tup [.str (encF (joinLF (dedentF ((linesF l).map openF)))).1, .int .i64 0]) : Option E6)) ?_ n 0 (Nat.zero_le _) (by omega))
    intro i hi K hke hkr hnx
    rw [lb23_7_eq]
    by_cases h : i < (linesF l).length
    · have hm := totL_mem (List.getElem_mem h)
      rw [decide_eq_true (by omega : (i : Int) < ((linesF l).length : Int)), cond_true, idx_lt h, wrapSucc (by omega)]
      dsimp only
      rw [smL_iff.2 (by omega), room_iff.2 (by rw [List.length_map, List.length_take]; omega)]
      have e : ((linesF l).take i).map openF ++ [openF (linesF l)[i]] = ((linesF l).take (i + 1)).map openF := by
        rw [List.take_succ_eq_append_getElem h, List.map_append]; rfl
      rw [e]
      exact hnx (i + 1) (by omega) (by omega)
    · rw [decide_eq_false (by omega : ¬ (i : Int) < ((linesF l).length : Int)), cond_false, hke, ex23_7_0, List.take_of_length_le (by omega)]
      have h2 := totL_map openF_len (linesF l)
      rw [limL_tot (by omega) (by rw [List.length_map]; omega), cond_true]
      generalize dedentF ((linesF l).map openF) = ls at h3
      refine join_loop (n := n) h3.1 (by omega) (by omega) (st := fun out i => st23_14 ls out i) (fun out i hi ho K hke => ?_) (fun out i h r1 r2 r3 K => ?_)
      · rw [lb23_14_eq, decide_eq_false (by omega : ¬ (i : Int) < (ls.length : Int)), cond_false, hke, ex23_14_2, ho]; rfl
      · rw [lb23_14_eq, decide_eq_true (by omega : (i : Int) < (ls.length : Int)), cond_true, idx_lt h, wrapSucc (by omega)]
        dsimp only
        rw [r1, r2, r3]
        by_cases h0 : 0 < i
        · rw [decide_eq_true (by omega : (i : Int) > 0), if_pos h0]; rfl
        · rw [decide_eq_false (by omega : ¬ (i : Int) > 0), if_neg h0]; rfl

theorem reads_ok (n : Nat) : evFn E18 n Try.f18 [] = some (.one (.bool true)) := by
  rw [ev18]
  have r1 : runes6 [92, 117, 48, 48, 52, 49, 92, 110, 92, 117, 68, 56, 51, 68, 92, 117, 68, 69, 48, 48] = [92, 117, 48, 48, 52, 49, 92, 110, 92, 117, 68, 56, 51, 68, 92, 117, 68, 69, 48, 48] := by decide +kernel
  have r2 : runes6 [10, 32, 32, 97, 10, 32, 32, 32, 32, 98, 10] = [10, 32, 32, 97, 10, 32, 32, 32, 32, 98, 10] := by decide +kernel
  have q : quotedF [92, 117, 48, 48, 52, 49, 92, 110, 92, 117, 68, 56, 51, 68, 92, 117, 68, 69, 48, 48] = ([65, 10, 240, 159, 152, 128], 0) := by decide +kernel
  have b : blockF [10, 32, 32, 97, 10, 32, 32, 32, 32, 98, 10] = ([97, 10, 32, 32, 98], 0) := by decide +kernel
  rw [r1, r2, q, b]
  rfl

theorem quoted_law (ls : List (List Int)) (hl : limL ls = true) (n : Nat) (hn : ls.length < n) : evFn E7 n Try.f7 [.sl .rs ls none] = some (.one (.bool true)) := by
  have hlen := limL_len hl
  rw [ev7]
  refine (loop_rule (fun i : Nat => st7_4 ls (ls.length : Int) i) (fun i => i ≤ ls.length) (fun i => ls.length - i) (fun i => (some (.one (.bool true)) : Option E6)) ?_ n 0 (Nat.zero_le _) (by omega))
  intro i hi K hke hkr hnx
  rw [lb7_4_eq]
  by_cases h : i < ls.length
  · rw [decide_eq_true (by omega : (i : Int) < (ls.length : Int)), cond_true, idx_lt h, wrapSucc (by omega)]
    dsimp only
    rw [limL_mem hl (List.getElem_mem h), bne_self_eq_false, BEq.rfl]
    exact hnx (i + 1) (by omega) (by omega)
  · rw [decide_eq_false (by omega : ¬ (i : Int) < (ls.length : Int)), cond_false, hke, ex7_4_0]

theorem smLL_iff {ls : List (List Int)} : smLL ls = true ↔ ls.length ≤ 4194304 ∧ ∀ x ∈ ls, smL x = true := by
  simp [smLL]
theorem block_law (ls : List (List Int)) (hl : smLL ls = true) (n : Nat) (hn : ls.length < n) : evFn E8 n Try.f8 [.sl .rs ls none] = some (.one (.bool true)) := by
  obtain ⟨hlen, hall⟩ := smLL_iff.1 hl
  rw [ev8]
  refine (loop_rule (fun i : Nat => st8_4 ls (ls.length : Int) i) (fun i => i ≤ ls.length) (fun i => ls.length - i) (fun i => (some (.one (.bool true)) : Option E6)) ?_ n 0 (Nat.zero_le _) (by omega))
  intro i hi K hke hkr hnx
  rw [lb8_4_eq]
  by_cases h : i < ls.length
  · have hs := hall _ (List.getElem_mem h)
    rw [decide_eq_true (by omega : (i : Int) < (ls.length : Int)), cond_true, idx_lt h, wrapSucc (by omega)]
    dsimp only
    rw [hs, smL_lim hs, bne_self_eq_false, BEq.rfl]
    exact hnx (i + 1) (by omega) (by omega)
  · rw [decide_eq_false (by omega : ¬ (i : Int) < (ls.length : Int)), cond_false, hke, ex8_4_0]
end Go.Aev
end

section
set_option linter.unusedVariables false
namespace Go.Aev
open Go.Proofs

/-! ### what stands behind a piece -/
theorem hex4F_append {l : List Int} (b : List Int) (h : 0 ≤ hex4F l) : hex4F (l ++ b) = hex4F l ∧ 4 ≤ l.length := by
  have h4 : 4 ≤ l.length := by
    rcases Nat.lt_or_ge l.length 4 with h5 | h5
    · rw [hex4F_short h5] at h; omega
    · exact h5
  refine ⟨?_, h4⟩
  unfold hex4F
  rw [if_neg (by simp; omega), if_neg (by omega), List.take_append_of_le_length h4]
theorem codedF_append {l : List Int} (b : List Int) (h : (codedF l).2 ≠ 0) : codedF (l ++ b) = codedF l ∧ (codedF l).2.toNat ≤ l.length + 2 := by
  by_cases c1 : hex4F l < 0 ∨ (56320 ≤ hex4F l ∧ hex4F l ≤ 57343)
  · rw [codedF_bad l c1] at h; exact absurd rfl h
  obtain ⟨e, hlen⟩ := hex4F_append (l := l) b (by omega)
  by_cases c2 : hex4F l < 55296 ∨ 57343 < hex4F l
  · rw [codedF_plain l (by omega) c2, codedF_plain (l ++ b) (by omega) (by omega), e]
    exact ⟨rfl, by simp only; omega⟩
  · rw [codedF_join l (by omega) (by omega) (by omega)] at h ⊢
    by_cases c3 : 10 ≤ l.length ∧ l[4]? = some 92 ∧ l[5]? = some 117 ∧ (joinF (hex4F l) (hex4F (l.drop 6))).2 = true
    · rw [if_pos c3]
      obtain ⟨d1, d2, d3, d4⟩ := c3
      have hx : 0 ≤ hex4F (l.drop 6) := by
        rcases Int.lt_or_le (hex4F (l.drop 6)) 0 with h5 | h5
        · rw [join_low (by omega)] at d4; cases d4
        · exact h5
      obtain ⟨e2, _⟩ := hex4F_append (l := l.drop 6) b hx
      have hdr : (l ++ b).drop 6 = l.drop 6 ++ b := List.drop_append_of_le_length (by omega)
      rw [codedF_join (l ++ b) (by omega) (by omega) (by omega), hdr, e, e2, if_pos ⟨by simp; omega, by rw [List.getElem?_append_left (by omega)]; exact d2, by rw [List.getElem?_append_left (by omega)]; exact d3, d4⟩]
      exact ⟨rfl, by simp only; omega⟩
    · rw [if_neg c3] at h; exact absurd rfl h
theorem escF_append {l : List Int} (b : List Int) (h : (escF l).2 ≠ 0) : escF (l ++ b) = escF l ∧ (escF l).2.toNat ≤ l.length := by
  by_cases h2 : l.length < 2
  · rw [escF_one h2] at h; exact absurd rfl h
  rw [escF_two 0 l (by omega)] at h ⊢
  rw [escF_two 0 (l ++ b) (by simp; omega)]
  have e1 : (l ++ b)[1]'(by simp; omega) = l[1] := List.getElem_append_left (by omega)
  have hdr : (l ++ b).drop 2 = l.drop 2 ++ b := List.drop_append_of_le_length (by omega)
  rw [e1, hdr]
  by_cases c1 : 0 ≤ shortF l[1]
  · rw [if_pos c1, if_pos c1]; exact ⟨rfl, by simp only; omega⟩
  · rw [if_neg c1] at h
    rw [if_neg c1, if_neg c1]
    by_cases c2 : l[1] = 117
    · rw [if_pos c2] at h
      rw [if_pos c2, if_pos c2]
      obtain ⟨d1, d2⟩ := codedF_append b h
      rw [d1]
      rw [List.length_drop] at d2
      exact ⟨rfl, by omega⟩
    · rw [if_neg c2] at h; exact absurd rfl h
theorem pieceF_append {l : List Int} (b : List Int) (h : (pieceF l).2 ≠ 0) : pieceF (l ++ b) = pieceF l ∧ (pieceF l).2.toNat ≤ l.length := by
  cases l with
  | nil => exact absurd rfl h
  | cons c r =>
    have hp : ∀ r, pieceF (c :: r) = if plainF c then (c, 1) else if c = 92 then escF (c :: r) else (0, 0) := fun _ => rfl
    rw [List.cons_append, hp (r ++ b)]
    rw [hp r] at h ⊢
    by_cases c1 : plainF c = true
    · rw [if_pos c1, if_pos c1]; exact ⟨rfl, by simp⟩
    · rw [if_neg c1] at h
      rw [if_neg c1, if_neg c1]
      by_cases c2 : c = 92
      · rw [if_pos c2] at h
        rw [if_pos c2, if_pos c2]
        exact escF_append b h
      · rw [if_neg c2] at h; exact absurd rfl h

theorem quotedL_append (b : List Int) : ∀ (n : Nat) (l va : List Int), l.length ≤ n → quotedL l = some va → quotedL (l ++ b) = (quotedL b).map (va ++ ·) := by
  intro n
  induction n with
  | zero =>
    intro l va hl h
    have : l = [] := List.eq_nil_of_length_eq_zero (by omega)
    subst this
    rw [quotedL_nil] at h
    cases h
    show quotedL b = _
    cases hb : quotedL b <;> simp
  | succ n ih =>
    intro l va hl h
    by_cases hne : l = []
    · subst hne
      rw [quotedL_nil] at h
      cases h
      show quotedL b = _
      cases hb : quotedL b <;> simp
    · rw [quotedL_step hne] at h
      have hr := pieceF_range l
      by_cases hp : (pieceF l).2 = 0
      · rw [if_pos hp] at h; cases h
      · rw [if_neg hp] at h
        obtain ⟨v, hv, rfl⟩ := Option.map_eq_some_iff.1 h
        obtain ⟨e1, e2⟩ := pieceF_append b hp
        rw [quotedL_step (by simp [hne]), e1, if_neg hp, List.drop_append_of_le_length e2, ih _ v (by rw [List.length_drop]; omega) hv]
        cases quotedL b <;> simp

theorem joinF_valid {a b : Int} (h : (joinF a b).2 = true) : validF (joinF a b).1 = true := by
  unfold joinF at h ⊢
  split at h
  · cases h
  · rename_i hc
    rw [if_neg hc]
    simp at hc
    rw [validF_iff]
    dsimp only
    omega
theorem codedF_valid {l : List Int} (h : (codedF l).2 ≠ 0) : validF (codedF l).1 = true := by
  have hr := hex4F_range l
  by_cases c1 : hex4F l < 0 ∨ (56320 ≤ hex4F l ∧ hex4F l ≤ 57343)
  · rw [codedF_bad l c1] at h; exact absurd rfl h
  by_cases c2 : hex4F l < 55296 ∨ 57343 < hex4F l
  · rw [codedF_plain l (by omega) c2, validF_iff]; dsimp only; omega
  · rw [codedF_join l (by omega) (by omega) (by omega)] at h ⊢
    by_cases c3 : 10 ≤ l.length ∧ l[4]? = some 92 ∧ l[5]? = some 117 ∧ (joinF (hex4F l) (hex4F (l.drop 6))).2 = true
    · rw [if_pos c3]; exact joinF_valid c3.2.2.2
    · rw [if_neg c3] at h; exact absurd rfl h
theorem shortF_valid {c : Int} (h : 0 ≤ shortF c) : validF (shortF c) = true := by
  rcases (shortF_iff c).1 h with rfl | rfl | rfl | rfl | rfl | rfl | rfl | rfl <;> decide
theorem sourceF_valid {c : Int} (h : sourceF c = true) : validF c = true := by
  unfold sourceF at h
  rw [validF_iff]
  split at h
  · simp at h; omega
  · simp at h; omega
theorem pieceF_valid {l : List Int} (h : (pieceF l).2 ≠ 0) : validF (pieceF l).1 = true := by
  cases l with
  | nil => exact absurd rfl h
  | cons c r =>
    have hp : pieceF (c :: r) = if plainF c then (c, 1) else if c = 92 then escF (c :: r) else (0, 0) := rfl
    rw [hp] at h ⊢
    by_cases c1 : plainF c = true
    · rw [if_pos c1]
      refine sourceF_valid ?_
      unfold plainF at c1
      simp only [Bool.and_eq_true] at c1
      exact c1.1.1.1.1
    · rw [if_neg c1] at h ⊢
      by_cases c2 : c = 92
      · rw [if_pos c2] at h ⊢
        by_cases h2 : (c :: r).length < 2
        · rw [escF_one h2] at h; exact absurd rfl h
        rw [escF_two 0 _ (by omega)] at h ⊢
        by_cases c3 : 0 ≤ shortF (c :: r)[1]
        · rw [if_pos c3]; exact shortF_valid c3
        · rw [if_neg c3] at h ⊢
          by_cases c4 : (c :: r)[1] = 117
          · rw [if_pos c4] at h ⊢; exact codedF_valid h
          · rw [if_neg c4] at h; exact absurd rfl h
      · rw [if_neg c2] at h; exact absurd rfl h
theorem quotedL_valid : ∀ (n : Nat) (l va : List Int), l.length ≤ n → quotedL l = some va → va.all validF = true ∧ va.length ≤ l.length := by
  intro n
  induction n with
  | zero =>
    intro l va hl h
    have : l = [] := List.eq_nil_of_length_eq_zero (by omega)
    subst this
    rw [quotedL_nil] at h
    cases h
    exact ⟨rfl, Nat.le_refl _⟩
  | succ n ih =>
    intro l va hl h
    by_cases hne : l = []
    · subst hne
      rw [quotedL_nil] at h
      cases h
      exact ⟨rfl, Nat.le_refl _⟩
    · rw [quotedL_step hne] at h
      have hr := pieceF_range l
      by_cases hp : (pieceF l).2 = 0
      · rw [if_pos hp] at h; cases h
      · rw [if_neg hp] at h
        obtain ⟨v, hv, rfl⟩ := Option.map_eq_some_iff.1 h
        have hl0 : 0 < l.length := List.length_pos_iff.2 hne
        obtain ⟨i1, i2⟩ := ih _ v (by rw [List.length_drop]; omega) hv
        rw [List.length_drop] at i2
        exact ⟨by rw [List.all_cons, pieceF_valid hp, i1]; rfl, by simp; omega⟩

theorem encF_valid {l : List Int} (h : l.all validF = true) : encF l = (encB l, true) := by unfold encF; rw [if_pos h]
theorem encB_append (a b : List Int) : encB (a ++ b) = encB a ++ encB b := by unfold encB toB; simp
theorem encB_len (l : List Int) : (encB l).length ≤ 4 * l.length := by
  have := flat_u8F_len l
  unfold encB toB
  rw [List.length_map]; exact this

theorem joined_law (a b : List Int) (ha : smL a = true) (hb : smL b = true) (n : Nat) : evFn E9 n Try.f9 [.sl .i32 a none, .sl .i32 b none] = some (.one (.bool true)) := by
  have h1 := smL_len ha
  have h2 := smL_len hb
  rw [ev9, smL_lim ha, smL_lim hb, room_iff.2 (by omega), lim4_iff.2 (by rw [List.length_append]; omega)]
  simp only [cond_true]
  unfold quotedF
  cases hqa : quotedL a with
  | none => rfl
  | some va =>
    rw [quotedL_append b _ a va (Nat.le_refl _) hqa]
    obtain ⟨va1, va2⟩ := quotedL_valid _ a va (Nat.le_refl _) hqa
    cases hqb : quotedL b with
    | none => rfl
    | some vb =>
      obtain ⟨vb1, vb2⟩ := quotedL_valid _ b vb (Nat.le_refl _) hqb
      have hab : (va ++ vb).all validF = true := by rw [List.all_append, va1, vb1]; rfl
      have q1 : finF (some va) = (encB va, 0) := by unfold finF; dsimp only; rw [encF_valid va1]
      have q2 : finF (some vb) = (encB vb, 0) := by unfold finF; dsimp only; rw [encF_valid vb1]
      have q3 : finF ((some vb).map (va ++ ·)) = (encB va ++ encB vb, 0) := by
        rw [Option.map_some]; unfold finF; dsimp only; rw [encF_valid hab, encB_append]
      have l1 := encB_len va
      have l2 := encB_len vb
      have l3 : decide ((encB va).length + (encB vb).length ≤ 9223372036854775807) = true := decide_eq_true (by omega)
      simp only [q1, q2, q3, l3, BEq.rfl]
      rfl
end Go.Aev
end

section
set_option linter.unusedVariables false
namespace Go.Aev
open Go.Proofs

theorem and1 {a b : Bool} (h : (a && b) = true) : a = true := (Bool.and_eq_true _ _ ▸ h).1
theorem and2 {a b : Bool} (h : (a && b) = true) : b = true := (Bool.and_eq_true _ _ ▸ h).2
theorem dec1 {p : Prop} [Decidable p] (h : decide p = true) : p := of_decide_eq_true h
theorem ends_ok' (l : List Int) (i : Int) (h : (lim4 l && decide (0 ≤ i) && decide (i < (l.length : Int))) = true) (n : Nat) : evFn E52 n Try.f52 [.sl .i32 l none, .int .i64 i] = some (.one (.bool (endsF (l.drop i.toNat)))) := by
  have h1 := dec1 (and2 h); have h2 := dec1 (and2 (and1 h))
  have := ends_ok l (and1 (and1 h)) i.toNat (by omega) n
  rw [show ((i.toNat : Nat) : Int) = i by omega] at this
  exact this
theorem escaped_ok' (l : List Int) (i : Int) (h : (lim4 l && decide (0 ≤ i) && decide (i < (l.length : Int))) = true) (n : Nat) : evFn E54 n Try.f54 [.sl .i32 l none, .int .i64 i] = some (.one (.bool (isEsc (l.drop i.toNat)))) := by
  have h1 := dec1 (and2 h); have h2 := dec1 (and2 (and1 h))
  have := escaped_ok l (and1 (and1 h)) i.toNat (by omega) n
  rw [show ((i.toNat : Nat) : Int) = i by omega] at this
  exact this
theorem piece_ok' (l : List Int) (i : Int) (h : (lim4 l && decide (0 ≤ i) && decide (i < (l.length : Int))) = true) (n : Nat) : evFn E34 n Try.f34 [.sl .i32 l none, .int .i64 i] = some (.tup [.int .i32 (pieceF (l.drop i.toNat)).1, .int .i64 (pieceF (l.drop i.toNat)).2]) := by
  have h1 := dec1 (and2 h); have h2 := dec1 (and2 (and1 h))
  have := piece_ok l (and1 (and1 h)) i.toNat (by omega) n
  rw [show ((i.toNat : Nat) : Int) = i by omega] at this
  exact this
theorem unit_ok' (l : List Int) (i : Int) (h : (lim4 l && decide (0 ≤ i) && decide (i ≤ (l.length : Int) + 12)) = true) (n : Nat) (hn : 4 < n) : evFn E48 n Try.f48 [.sl .i32 l none, .int .i64 i] = some (.one (.int .i32 (unitF (l.drop i.toNat)))) := by
  have h1 := dec1 (and2 h); have h2 := dec1 (and2 (and1 h))
  have := unit_ok l (and1 (and1 h)) i.toNat (by omega) n hn
  rw [show ((i.toNat : Nat) : Int) = i by omega] at this
  exact this

theorem snd64 : Sound Try.prog U6 64 (opt S64) := by
  refine sound_of_ev (E := E64) ⟨u6_ok, tb6_ok, fun g ls r h => ?_⟩ Try.func64 rfl Try.call64 (fun ls r h => ?_)
  · change T64 g ls = some (true, r) at h
    unfold T64 at h
    cases h
  · obtain ⟨e, h1, h2⟩ := opt_some h
    unfold S64 at h1
    split at h1
    · rename_i a0
      simp only [Option.some.injEq, Prod.mk.injEq] at h1
      obtain ⟨hg, rfl⟩ := h1
      subst h2
      exact ⟨0, digit_ok a0 _⟩
    · cases h1

theorem snd63 : Sound Try.prog U6 63 (opt S63) := by
  refine sound_of_ev (E := E63) ⟨u6_ok, tb6_ok, fun g ls r h => ?_⟩ Try.func63 rfl Try.call63 (fun ls r h => ?_)
  · change T63 g ls = some (true, r) at h
    unfold T63 at h
    split at h
    · exact of_sound snd64 h
    · cases h
  · obtain ⟨e, h1, h2⟩ := opt_some h
    unfold S63 at h1
    split at h1
    · rename_i a0
      simp only [Option.some.injEq, Prod.mk.injEq] at h1
      obtain ⟨hg, rfl⟩ := h1
      subst h2
      exact ⟨0, hex_ok a0 _⟩
    · cases h1

theorem snd60 : Sound Try.prog U6 60 (opt S60) := by
  refine sound_of_ev (E := E60) ⟨u6_ok, tb6_ok, fun g ls r h => ?_⟩ Try.func60 rfl Try.call60 (fun ls r h => ?_)
  · change T60 g ls = some (true, r) at h
    unfold T60 at h
    cases h
  · obtain ⟨e, h1, h2⟩ := opt_some h
    unfold S60 at h1
    split at h1
    · rename_i a0
      simp only [Option.some.injEq, Prod.mk.injEq] at h1
      obtain ⟨hg, rfl⟩ := h1
      subst h2
      exact ⟨16 + 1, rhex_ok a0 _ (Nat.lt_succ_self _)⟩
    · cases h1

theorem snd57 : Sound Try.prog U6 57 (opt S57) := by
  refine sound_of_ev (E := E57) ⟨u6_ok, tb6_ok, fun g ls r h => ?_⟩ Try.func57 rfl Try.call57 (fun ls r h => ?_)
  · change T57 g ls = some (true, r) at h
    unfold T57 at h
    split at h
    · exact of_sound snd63 h
    · cases h
  · obtain ⟨e, h1, h2⟩ := opt_some h
    unfold S57 at h1
    split at h1
    · rename_i a0
      simp only [Option.some.injEq, Prod.mk.injEq] at h1
      obtain ⟨hg, rfl⟩ := h1
      subst h2
      exact ⟨4 + 1, hex4_ok a0 hg _ (Nat.lt_succ_self _)⟩
    · cases h1

theorem snd58 : Sound Try.prog U6 58 (opt S58) := by
  refine sound_of_ev (E := E58) ⟨u6_ok, tb6_ok, fun g ls r h => ?_⟩ Try.func58 rfl Try.call58 (fun ls r h => ?_)
  · change T58 g ls = some (true, r) at h
    unfold T58 at h
    cases h
  · obtain ⟨e, h1, h2⟩ := opt_some h
    unfold S58 at h1
    split at h1
    · rename_i a0 a1
      simp only [Option.some.injEq, Prod.mk.injEq] at h1
      obtain ⟨hg, rfl⟩ := h1
      subst h2
      exact ⟨0, join_ok a0 a1 _⟩
    · cases h1

theorem snd49 : Sound Try.prog U6 49 (opt S49) := by
  refine sound_of_ev (E := E49) ⟨u6_ok, tb6_ok, fun g ls r h => ?_⟩ Try.func49 rfl Try.call49 (fun ls r h => ?_)
  · change T49 g ls = some (true, r) at h
    unfold T49 at h
    cases h
  · obtain ⟨e, h1, h2⟩ := opt_some h
    unfold S49 at h1
    split at h1
    · rename_i a0 a1
      simp only [Option.some.injEq, Prod.mk.injEq] at h1
      obtain ⟨hg, rfl⟩ := h1
      subst h2
      exact ⟨0, rjoin_ok a0 a1 _⟩
    · cases h1

theorem snd43 : Sound Try.prog U6 43 (opt S43) := by
  refine sound_of_ev (E := E43) ⟨u6_ok, tb6_ok, fun g ls r h => ?_⟩ Try.func43 rfl Try.call43 (fun ls r h => ?_)
  · change T43 g ls = some (true, r) at h
    unfold T43 at h
    split at h
    · exact of_sound snd57 h
    · exact of_sound snd58 h
    · cases h
  · obtain ⟨e, h1, h2⟩ := opt_some h
    unfold S43 at h1
    split at h1
    · rename_i a0
      simp only [Option.some.injEq, Prod.mk.injEq] at h1
      obtain ⟨hg, rfl⟩ := h1
      subst h2
      exact ⟨0, coded_ok a0 (and1 hg) (dec1 (and2 hg)) _⟩
    · cases h1

theorem snd31 : Sound Try.prog U6 31 (opt S31) := by
  refine sound_of_ev (E := E31) ⟨u6_ok, tb6_ok, fun g ls r h => ?_⟩ Try.func31 rfl Try.call31 (fun ls r h => ?_)
  · change T31 g ls = some (true, r) at h
    unfold T31 at h
    split at h
    · exact of_sound snd43 h
    · cases h
  · obtain ⟨e, h1, h2⟩ := opt_some h
    unfold S31 at h1
    split at h1
    · rename_i a0
      simp only [Option.some.injEq, Prod.mk.injEq] at h1
      obtain ⟨hg, rfl⟩ := h1
      subst h2
      exact ⟨0, esc_ok a0 hg _⟩
    · cases h1

theorem snd32 : Sound Try.prog U6 32 (opt S32) := by
  refine sound_of_ev (E := E32) ⟨u6_ok, tb6_ok, fun g ls r h => ?_⟩ Try.func32 rfl Try.call32 (fun ls r h => ?_)
  · change T32 g ls = some (true, r) at h
    unfold T32 at h
    cases h
  · obtain ⟨e, h1, h2⟩ := opt_some h
    unfold S32 at h1
    split at h1
    · rename_i a0
      simp only [Option.some.injEq, Prod.mk.injEq] at h1
      obtain ⟨hg, rfl⟩ := h1
      subst h2
      exact ⟨0, source_ok a0 _⟩
    · cases h1

theorem snd61 : Sound Try.prog U6 61 (opt S61) := by
  refine sound_of_ev (E := E61) ⟨u6_ok, tb6_ok, fun g ls r h => ?_⟩ Try.func61 rfl Try.call61 (fun ls r h => ?_)
  · change T61 g ls = some (true, r) at h
    unfold T61 at h
    cases h
  · obtain ⟨e, h1, h2⟩ := opt_some h
    unfold S61 at h1
    split at h1
    · rename_i a0
      simp only [Option.some.injEq, Prod.mk.injEq] at h1
      obtain ⟨hg, rfl⟩ := h1
      subst h2
      exact ⟨0, scalar_ok a0 _⟩
    · cases h1

theorem snd62 : Sound Try.prog U6 62 (opt S62) := by
  refine sound_of_ev (E := E62) ⟨u6_ok, tb6_ok, fun g ls r h => ?_⟩ Try.func62 rfl Try.call62 (fun ls r h => ?_)
  · change T62 g ls = some (true, r) at h
    unfold T62 at h
    cases h
  · obtain ⟨e, h1, h2⟩ := opt_some h
    unfold S62 at h1
    split at h1
    · rename_i a0 a1
      simp only [Option.some.injEq, Prod.mk.injEq] at h1
      obtain ⟨hg, rfl⟩ := h1
      subst h2
      exact ⟨List.length a1 + 1, in_ok a0 a1 hg _ (Nat.lt_succ_self _)⟩
    · cases h1

theorem snd53 : Sound Try.prog U6 53 (opt S53) := by
  refine sound_of_ev (E := E53) ⟨u6_ok, tb6_ok, fun g ls r h => ?_⟩ Try.func53 rfl Try.call53 (fun ls r h => ?_)
  · change T53 g ls = some (true, r) at h
    unfold T53 at h
    split at h
    · exact of_sound snd61 h
    · exact of_sound snd62 h
    · cases h
  · obtain ⟨e, h1, h2⟩ := opt_some h
    unfold S53 at h1
    split at h1
    · rename_i a0
      simp only [Option.some.injEq, Prod.mk.injEq] at h1
      obtain ⟨hg, rfl⟩ := h1
      subst h2
      exact ⟨0, rsource_ok a0 _⟩
    · cases h1

theorem snd44 : Sound Try.prog U6 44 (opt S44) := by
  refine sound_of_ev (E := E44) ⟨u6_ok, tb6_ok, fun g ls r h => ?_⟩ Try.func44 rfl Try.call44 (fun ls r h => ?_)
  · change T44 g ls = some (true, r) at h
    unfold T44 at h
    cases h
  · obtain ⟨e, h1, h2⟩ := opt_some h
    unfold S44 at h1
    split at h1
    · rename_i a0
      simp only [Option.some.injEq, Prod.mk.injEq] at h1
      obtain ⟨hg, rfl⟩ := h1
      subst h2
      exact ⟨0, valid_ok a0 _⟩
    · cases h1

theorem snd59 : Sound Try.prog U6 59 (opt S59) := by
  refine sound_of_ev (E := E59) ⟨u6_ok, tb6_ok, fun g ls r h => ?_⟩ Try.func59 rfl Try.call59 (fun ls r h => ?_)
  · change T59 g ls = some (true, r) at h
    unfold T59 at h
    cases h
  · obtain ⟨e, h1, h2⟩ := opt_some h
    unfold S59 at h1
    split at h1
    · rename_i a0 a1
      simp only [Option.some.injEq, Prod.mk.injEq] at h1
      obtain ⟨hg, rfl⟩ := h1
      subst h2
      exact ⟨0, appendNon_ok a0 a1 (and1 (and1 hg)) (and2 (and1 hg)) (dec1 (and2 hg)) _⟩
    · cases h1

theorem snd45 : Sound Try.prog U6 45 (opt S45) := by
  refine sound_of_ev (E := E45) ⟨u6_ok, tb6_ok, fun g ls r h => ?_⟩ Try.func45 rfl Try.call45 (fun ls r h => ?_)
  · change T45 g ls = some (true, r) at h
    unfold T45 at h
    split at h
    · exact of_sound snd59 h
    · cases h
  · obtain ⟨e, h1, h2⟩ := opt_some h
    unfold S45 at h1
    split at h1
    · rename_i a0 a1
      simp only [Option.some.injEq, Prod.mk.injEq] at h1
      obtain ⟨hg, rfl⟩ := h1
      subst h2
      exact ⟨0, append_ok a0 a1 (and1 hg) (and2 hg) _⟩
    · cases h1

theorem snd50 : Sound Try.prog U6 50 (opt S50) := by
  refine sound_of_ev (E := E50) ⟨u6_ok, tb6_ok, fun g ls r h => ?_⟩ Try.func50 rfl Try.call50 (fun ls r h => ?_)
  · change T50 g ls = some (true, r) at h
    unfold T50 at h
    split at h
    · exact of_sound snd61 h
    · cases h
  · obtain ⟨e, h1, h2⟩ := opt_some h
    unfold S50 at h1
    split at h1
    · rename_i a0
      simp only [Option.some.injEq, Prod.mk.injEq] at h1
      obtain ⟨hg, rfl⟩ := h1
      subst h2
      exact ⟨0, put_ok a0 _⟩
    · cases h1

theorem snd33 : Sound Try.prog U6 33 (opt S33) := by
  refine sound_of_ev (E := E33) ⟨u6_ok, tb6_ok, fun g ls r h => ?_⟩ Try.func33 rfl Try.call33 (fun ls r h => ?_)
  · change T33 g ls = some (true, r) at h
    unfold T33 at h
    split at h
    · exact of_sound snd44 h
    · exact of_sound snd45 h
    · cases h
  · obtain ⟨e, h1, h2⟩ := opt_some h
    unfold S33 at h1
    split at h1
    · rename_i a0
      simp only [Option.some.injEq, Prod.mk.injEq] at h1
      obtain ⟨hg, rfl⟩ := h1
      subst h2
      exact ⟨List.length a0 + 1, enc_ok a0 hg _ (Nat.lt_succ_self _)⟩
    · cases h1

theorem snd35 : Sound Try.prog U6 35 (opt S35) := by
  refine sound_of_ev (E := E35) ⟨u6_ok, tb6_ok, fun g ls r h => ?_⟩ Try.func35 rfl Try.call35 (fun ls r h => ?_)
  · change T35 g ls = some (true, r) at h
    unfold T35 at h
    split at h
    · exact of_sound snd50 h
    · cases h
  · obtain ⟨e, h1, h2⟩ := opt_some h
    unfold S35 at h1
    split at h1
    · rename_i a0
      simp only [Option.some.injEq, Prod.mk.injEq] at h1
      obtain ⟨hg, rfl⟩ := h1
      subst h2
      exact ⟨List.length a0 + 1, renc_ok a0 hg _ (Nat.lt_succ_self _)⟩
    · cases h1

theorem snd46 : Sound Try.prog U6 46 (opt S46) := by
  refine sound_of_ev (E := E46) ⟨u6_ok, tb6_ok, fun g ls r h => ?_⟩ Try.func46 rfl Try.call46 (fun ls r h => ?_)
  · change T46 g ls = some (true, r) at h
    unfold T46 at h
    split at h
    · exact of_sound snd53 h
    · cases h
  · obtain ⟨e, h1, h2⟩ := opt_some h
    unfold S46 at h1
    split at h1
    · rename_i a0
      simp only [Option.some.injEq, Prod.mk.injEq] at h1
      obtain ⟨hg, rfl⟩ := h1
      subst h2
      exact ⟨0, plain_ok a0 _⟩
    · cases h1

theorem snd47 : Sound Try.prog U6 47 (opt S47) := by
  refine sound_of_ev (E := E47) ⟨u6_ok, tb6_ok, fun g ls r h => ?_⟩ Try.func47 rfl Try.call47 (fun ls r h => ?_)
  · change T47 g ls = some (true, r) at h
    unfold T47 at h
    cases h
  · obtain ⟨e, h1, h2⟩ := opt_some h
    unfold S47 at h1
    split at h1
    · rename_i a0
      simp only [Option.some.injEq, Prod.mk.injEq] at h1
      obtain ⟨hg, rfl⟩ := h1
      subst h2
      exact ⟨8 + 1, short_ok a0 _ (Nat.lt_succ_self _)⟩
    · cases h1

theorem snd48 : Sound Try.prog U6 48 (opt S48) := by
  refine sound_of_ev (E := E48) ⟨u6_ok, tb6_ok, fun g ls r h => ?_⟩ Try.func48 rfl Try.call48 (fun ls r h => ?_)
  · change T48 g ls = some (true, r) at h
    unfold T48 at h
    split at h
    · exact of_sound snd60 h
    · cases h
  · obtain ⟨e, h1, h2⟩ := opt_some h
    unfold S48 at h1
    split at h1
    · rename_i a0 a1
      simp only [Option.some.injEq, Prod.mk.injEq] at h1
      obtain ⟨hg, rfl⟩ := h1
      subst h2
      exact ⟨4 + 1, unit_ok' a0 a1 hg _ (Nat.lt_succ_self _)⟩
    · cases h1

theorem snd34 : Sound Try.prog U6 34 (opt S34) := by
  refine sound_of_ev (E := E34) ⟨u6_ok, tb6_ok, fun g ls r h => ?_⟩ Try.func34 rfl Try.call34 (fun ls r h => ?_)
  · change T34 g ls = some (true, r) at h
    unfold T34 at h
    split at h
    · exact of_sound snd46 h
    · exact of_sound snd47 h
    · exact of_sound snd48 h
    · exact of_sound snd49 h
    · cases h
  · obtain ⟨e, h1, h2⟩ := opt_some h
    unfold S34 at h1
    split at h1
    · rename_i a0 a1
      simp only [Option.some.injEq, Prod.mk.injEq] at h1
      obtain ⟨hg, rfl⟩ := h1
      subst h2
      exact ⟨0, piece_ok' a0 a1 hg _⟩
    · cases h1

theorem snd19 : Sound Try.prog U6 19 (opt S19) := by
  refine sound_of_ev (E := E19) ⟨u6_ok, tb6_ok, fun g ls r h => ?_⟩ Try.func19 rfl Try.call19 (fun ls r h => ?_)
  · change T19 g ls = some (true, r) at h
    unfold T19 at h
    split at h
    · exact of_sound snd31 h
    · exact of_sound snd32 h
    · exact of_sound snd33 h
    · cases h
  · obtain ⟨e, h1, h2⟩ := opt_some h
    unfold S19 at h1
    split at h1
    · rename_i a0
      simp only [Option.some.injEq, Prod.mk.injEq] at h1
      obtain ⟨hg, rfl⟩ := h1
      subst h2
      exact ⟨List.length a0 + 1, quoted_ok a0 hg _ (Nat.lt_succ_self _)⟩
    · cases h1

theorem snd21 : Sound Try.prog U6 21 (opt S21) := by
  refine sound_of_ev (E := E21) ⟨u6_ok, tb6_ok, fun g ls r h => ?_⟩ Try.func21 rfl Try.call21 (fun ls r h => ?_)
  · change T21 g ls = some (true, r) at h
    unfold T21 at h
    split at h
    · exact of_sound snd34 h
    · exact of_sound snd35 h
    · cases h
  · obtain ⟨e, h1, h2⟩ := opt_some h
    unfold S21 at h1
    split at h1
    · rename_i a0
      simp only [Option.some.injEq, Prod.mk.injEq] at h1
      obtain ⟨hg, rfl⟩ := h1
      subst h2
      exact ⟨List.length a0 + 1, rquoted_ok a0 hg _ (Nat.lt_succ_self _)⟩
    · cases h1

theorem snd51 : Sound Try.prog U6 51 (opt S51) := by
  refine sound_of_ev (E := E51) ⟨u6_ok, tb6_ok, fun g ls r h => ?_⟩ Try.func51 rfl Try.call51 (fun ls r h => ?_)
  · change T51 g ls = some (true, r) at h
    unfold T51 at h
    cases h
  · obtain ⟨e, h1, h2⟩ := opt_some h
    unfold S51 at h1
    split at h1
    · rename_i a0
      simp only [Option.some.injEq, Prod.mk.injEq] at h1
      obtain ⟨hg, rfl⟩ := h1
      subst h2
      exact ⟨0, quotes_ok a0 hg _⟩
    · cases h1

theorem snd52 : Sound Try.prog U6 52 (opt S52) := by
  refine sound_of_ev (E := E52) ⟨u6_ok, tb6_ok, fun g ls r h => ?_⟩ Try.func52 rfl Try.call52 (fun ls r h => ?_)
  · change T52 g ls = some (true, r) at h
    unfold T52 at h
    cases h
  · obtain ⟨e, h1, h2⟩ := opt_some h
    unfold S52 at h1
    split at h1
    · rename_i a0 a1
      simp only [Option.some.injEq, Prod.mk.injEq] at h1
      obtain ⟨hg, rfl⟩ := h1
      subst h2
      exact ⟨0, ends_ok' a0 a1 hg _⟩
    · cases h1

theorem snd54 : Sound Try.prog U6 54 (opt S54) := by
  refine sound_of_ev (E := E54) ⟨u6_ok, tb6_ok, fun g ls r h => ?_⟩ Try.func54 rfl Try.call54 (fun ls r h => ?_)
  · change T54 g ls = some (true, r) at h
    unfold T54 at h
    cases h
  · obtain ⟨e, h1, h2⟩ := opt_some h
    unfold S54 at h1
    split at h1
    · rename_i a0 a1
      simp only [Option.some.injEq, Prod.mk.injEq] at h1
      obtain ⟨hg, rfl⟩ := h1
      subst h2
      exact ⟨0, escaped_ok' a0 a1 hg _⟩
    · cases h1

theorem snd36 : Sound Try.prog U6 36 (opt S36) := by
  refine sound_of_ev (E := E36) ⟨u6_ok, tb6_ok, fun g ls r h => ?_⟩ Try.func36 rfl Try.call36 (fun ls r h => ?_)
  · change T36 g ls = some (true, r) at h
    unfold T36 at h
    split at h
    · exact of_sound snd32 h
    · exact of_sound snd51 h
    · cases h
  · obtain ⟨e, h1, h2⟩ := opt_some h
    unfold S36 at h1
    split at h1
    · rename_i a0
      simp only [Option.some.injEq, Prod.mk.injEq] at h1
      obtain ⟨hg, rfl⟩ := h1
      subst h2
      exact ⟨List.length a0 + 1, unmasked_ok a0 hg _ (Nat.lt_succ_self _)⟩
    · cases h1

theorem snd37 : Sound Try.prog U6 37 (opt S37) := by
  refine sound_of_ev (E := E37) ⟨u6_ok, tb6_ok, fun g ls r h => ?_⟩ Try.func37 rfl Try.call37 (fun ls r h => ?_)
  · change T37 g ls = some (true, r) at h
    unfold T37 at h
    split at h
    · exact of_sound snd52 h
    · cases h
  · obtain ⟨e, h1, h2⟩ := opt_some h
    unfold S37 at h1
    split at h1
    · rename_i a0
      simp only [Option.some.injEq, Prod.mk.injEq] at h1
      obtain ⟨hg, rfl⟩ := h1
      subst h2
      exact ⟨List.length a0 + 1, lines_ok a0 hg _ (Nat.lt_succ_self _)⟩
    · cases h1

theorem snd38 : Sound Try.prog U6 38 (opt S38) := by
  refine sound_of_ev (E := E38) ⟨u6_ok, tb6_ok, fun g ls r h => ?_⟩ Try.func38 rfl Try.call38 (fun ls r h => ?_)
  · change T38 g ls = some (true, r) at h
    unfold T38 at h
    split at h
    · exact of_sound snd53 h
    · exact of_sound snd54 h
    · cases h
  · obtain ⟨e, h1, h2⟩ := opt_some h
    unfold S38 at h1
    split at h1
    · rename_i a0
      simp only [Option.some.injEq, Prod.mk.injEq] at h1
      obtain ⟨hg, rfl⟩ := h1
      subst h2
      exact ⟨List.length a0 + 1, standing_ok a0 hg _ (Nat.lt_succ_self _)⟩
    · cases h1

theorem snd55 : Sound Try.prog U6 55 (opt S55) := by
  refine sound_of_ev (E := E55) ⟨u6_ok, tb6_ok, fun g ls r h => ?_⟩ Try.func55 rfl Try.call55 (fun ls r h => ?_)
  · change T55 g ls = some (true, r) at h
    unfold T55 at h
    cases h
  · obtain ⟨e, h1, h2⟩ := opt_some h
    unfold S55 at h1
    split at h1
    · rename_i a0
      simp only [Option.some.injEq, Prod.mk.injEq] at h1
      obtain ⟨hg, rfl⟩ := h1
      subst h2
      exact ⟨List.length a0 + 1, starts_ok a0 hg _ (Nat.lt_succ_self _)⟩
    · cases h1

theorem snd39 : Sound Try.prog U6 39 (opt S39) := by
  refine sound_of_ev (E := E39) ⟨u6_ok, tb6_ok, fun g ls r h => ?_⟩ Try.func39 rfl Try.call39 (fun ls r h => ?_)
  · change T39 g ls = some (true, r) at h
    unfold T39 at h
    split at h
    · exact of_sound snd55 h
    · cases h
  · obtain ⟨e, h1, h2⟩ := opt_some h
    unfold S39 at h1
    split at h1
    · rename_i a0
      simp only [Option.some.injEq, Prod.mk.injEq] at h1
      obtain ⟨hg, rfl⟩ := h1
      subst h2
      exact ⟨List.length a0 + 2 + 1, rlines_ok a0 hg _ (Nat.lt_succ_self _)⟩
    · cases h1

theorem snd40 : Sound Try.prog U6 40 (opt S40) := by
  refine sound_of_ev (E := E40) ⟨u6_ok, tb6_ok, fun g ls r h => ?_⟩ Try.func40 rfl Try.call40 (fun ls r h => ?_)
  · change T40 g ls = some (true, r) at h
    unfold T40 at h
    split at h
    · exact of_sound snd54 h
    · cases h
  · obtain ⟨e, h1, h2⟩ := opt_some h
    unfold S40 at h1
    split at h1
    · rename_i a0
      simp only [Option.some.injEq, Prod.mk.injEq] at h1
      obtain ⟨hg, rfl⟩ := h1
      subst h2
      exact ⟨List.length a0 + 1, opened_ok a0 hg _ (Nat.lt_succ_self _)⟩
    · cases h1

theorem snd22 : Sound Try.prog U6 22 (opt S22) := by
  refine sound_of_ev (E := E22) ⟨u6_ok, tb6_ok, fun g ls r h => ?_⟩ Try.func22 rfl Try.call22 (fun ls r h => ?_)
  · change T22 g ls = some (true, r) at h
    unfold T22 at h
    split at h
    · exact of_sound snd12 h
    · exact of_sound snd33 h
    · exact of_sound snd36 h
    · exact of_sound snd37 h
    · cases h
  · obtain ⟨e, h1, h2⟩ := opt_some h
    unfold S22 at h1
    split at h1
    · rename_i a0
      simp only [Option.some.injEq, Prod.mk.injEq] at h1
      obtain ⟨hg, rfl⟩ := h1
      subst h2
      exact ⟨List.length a0 + 2 + 1, block_ok a0 hg _ (Nat.lt_succ_self _)⟩
    · cases h1

theorem snd23 : Sound Try.prog U6 23 (opt S23) := by
  refine sound_of_ev (E := E23) ⟨u6_ok, tb6_ok, fun g ls r h => ?_⟩ Try.func23 rfl Try.call23 (fun ls r h => ?_)
  · change T23 g ls = some (true, r) at h
    unfold T23 at h
    split at h
    · exact of_sound snd16 h
    · exact of_sound snd35 h
    · exact of_sound snd38 h
    · exact of_sound snd39 h
    · exact of_sound snd40 h
    · cases h
  · obtain ⟨e, h1, h2⟩ := opt_some h
    unfold S23 at h1
    split at h1
    · rename_i a0
      simp only [Option.some.injEq, Prod.mk.injEq] at h1
      obtain ⟨hg, rfl⟩ := h1
      subst h2
      exact ⟨List.length a0 + 2 + 1, rblock_ok a0 hg _ (Nat.lt_succ_self _)⟩
    · cases h1

theorem snd18 : Sound Try.prog U6 18 (opt S18) := by
  refine sound_of_ev (E := E18) ⟨u6_ok, tb6_ok, fun g ls r h => ?_⟩ Try.func18 rfl Try.call18 (fun ls r h => ?_)
  · change T18 g ls = some (true, r) at h
    unfold T18 at h
    split at h
    · exact of_sound snd13 h
    · exact of_sound snd19 h
    · exact of_sound snd22 h
    · cases h
  · obtain ⟨e, h1, h2⟩ := opt_some h
    unfold S18 at h1
    split at h1
    · simp only [Option.some.injEq, Prod.mk.injEq] at h1
      obtain ⟨hg, rfl⟩ := h1
      subst h2
      exact ⟨0, reads_ok _⟩
    · cases h1

theorem snd7 : Sound Try.prog U6 7 (opt S7) := by
  refine sound_of_ev (E := E7) ⟨u6_ok, tb6_ok, fun g ls r h => ?_⟩ Try.func7 rfl Try.call7 (fun ls r h => ?_)
  · change T7 g ls = some (true, r) at h
    unfold T7 at h
    split at h
    · exact of_sound snd18 h
    · exact of_sound snd19 h
    · exact of_sound snd20 h
    · exact of_sound snd21 h
    · cases h
  · obtain ⟨e, h1, h2⟩ := opt_some h
    unfold S7 at h1
    split at h1
    · rename_i a0
      simp only [Option.some.injEq, Prod.mk.injEq] at h1
      obtain ⟨hg, rfl⟩ := h1
      subst h2
      exact ⟨List.length a0 + 1, quoted_law a0 hg _ (Nat.lt_succ_self _)⟩
    · cases h1

theorem snd8 : Sound Try.prog U6 8 (opt S8) := by
  refine sound_of_ev (E := E8) ⟨u6_ok, tb6_ok, fun g ls r h => ?_⟩ Try.func8 rfl Try.call8 (fun ls r h => ?_)
  · change T8 g ls = some (true, r) at h
    unfold T8 at h
    split at h
    · exact of_sound snd18 h
    · exact of_sound snd20 h
    · exact of_sound snd22 h
    · exact of_sound snd23 h
    · cases h
  · obtain ⟨e, h1, h2⟩ := opt_some h
    unfold S8 at h1
    split at h1
    · rename_i a0
      simp only [Option.some.injEq, Prod.mk.injEq] at h1
      obtain ⟨hg, rfl⟩ := h1
      subst h2
      exact ⟨List.length a0 + 1, block_law a0 hg _ (Nat.lt_succ_self _)⟩
    · cases h1

theorem snd9 : Sound Try.prog U6 9 (opt S9) := by
  refine sound_of_ev (E := E9) ⟨u6_ok, tb6_ok, fun g ls r h => ?_⟩ Try.func9 rfl Try.call9 (fun ls r h => ?_)
  · change T9 g ls = some (true, r) at h
    unfold T9 at h
    split at h
    · exact of_sound snd18 h
    · exact of_sound snd19 h
    · exact of_sound snd20 h
    · cases h
  · obtain ⟨e, h1, h2⟩ := opt_some h
    unfold S9 at h1
    split at h1
    · rename_i a0 a1
      simp only [Option.some.injEq, Prod.mk.injEq] at h1
      obtain ⟨hg, rfl⟩ := h1
      subst h2
      exact ⟨0, joined_law a0 a1 (and1 hg) (and2 hg) _⟩
    · cases h1

end Go.Aev
end
