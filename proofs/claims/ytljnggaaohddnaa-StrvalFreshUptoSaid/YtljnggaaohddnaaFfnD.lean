/- Proved here: lemmas of an evaluator over the model's code that the claim's text uses (P1 P2 P3 P4 P5). Conditions: those that each lemma states. -/
import Derived.Test.YtljnggaaohddnaaFfnB
import Derived.Test.YtljnggaaohddnaaFfnA
section
set_option linter.unusedVariables false
namespace Go.Aev
open Go.Proofs

theorem white_ok (c : Int) (n : Nat) : evFn E41 n Try.f41 [.int .i32 c] = some (.one (.bool (whiteF c))) := by
  rw [ev41]
  unfold whiteF
  cases h : c == 9 <;> simp [h]
theorem white2_ok (c : Int) (n : Nat) : evFn E56 n Try.f56 [.int .i32 c] = some (.one (.bool (whiteF c))) := by
  rw [ev56]
  unfold whiteF
  cases h : c == 9 <;> simp [h]

theorem indentN_cons (x : Int) (l : List Int) : indentN (x :: l) = if whiteF x then indentN l + 1 else 0 := by
  unfold indentN
  rw [List.takeWhile_cons]
  split <;> simp
theorem indentN_at {l : List Int} {i : Nat} (h : i < l.length) : i + indentN (l.drop i) = if whiteF l[i] then (i + 1) + indentN (l.drop (i + 1)) else i := by
  rw [List.drop_eq_getElem_cons h, indentN_cons]
  split <;> omega
theorem indentN_le (l : List Int) : indentN l ≤ l.length := by
  induction l with
  | nil => simp [indentN]
  | cons x l ih => rw [indentN_cons]; split <;> simp <;> omega
theorem blank_eq (l : List Int) : (indentF l == (l.length : Int)) = blankF l := by
  have h : indentN l = l.length ↔ blankF l = true := by
    induction l with
    | nil => simp [indentN, blankF]
    | cons x l ih =>
      rw [indentN_cons]
      unfold blankF at ih ⊢
      cases hx : whiteF x with
      | true => simp [hx, ← ih]
      | false => simp [hx]
  unfold indentF
  cases hb : blankF l with
  | true => rw [h.2 hb]; simp
  | false =>
    have : indentN l ≠ l.length := fun e => by rw [h.1 e] at hb; cases hb
    simp; omega

theorem indent_ok (l : List Int) (hl : lim4 l = true) (n : Nat) (hn : l.length < n) : evFn E28 n Try.f28 [.sl .i32 l none] = some (.one (.int .i64 (indentF l))) := by
  have hlen := lim4_len hl
  rw [ev28]
  refine (loop_rule (fun i : Nat => st28_2 l i) (fun i => i ≤ l.length) (fun i => l.length - i) (fun i => some (.one (.int .i64 ((i + indentN (l.drop i) : Nat) : Int)))) ?_ n 0 (Nat.zero_le _) (by omega)).trans (by simp [indentF])
  intro i hi K hke hkr hn
  rw [lb28_2_eq]
  simp only [bT, Bool.cond_decide]
  by_cases h : i < l.length
  · rw [if_pos (by omega), idx_lt h, indentN_at h]
    dsimp only
    cases hw : whiteF l[i] with
    | true =>
      simp only [cond_true, if_true]
      rw [wrapSucc (by omega), hn (i + 1) (by omega) (by omega)]
    | false => simp only [cond_false, hke, ex28_2_0]; rfl
  · rw [if_neg (by omega), hke, ex28_2_0_2, List.drop_eq_nil_of_le (by omega)]
    rfl
theorem indent2_ok (l : List Int) (hl : lim4 l = true) (n : Nat) (hn : l.length < n) : evFn E42 n Try.f42 [.sl .i32 l none] = some (.one (.int .i64 (indentF l))) := by
  have hlen := lim4_len hl
  rw [ev42]
  refine (loop_rule (fun i : Nat => st42_2 l i) (fun i => i ≤ l.length) (fun i => l.length - i) (fun i => some (.one (.int .i64 ((i + indentN (l.drop i) : Nat) : Int)))) ?_ n 0 (Nat.zero_le _) (by omega)).trans (by simp [indentF])
  intro i hi K hke hkr hn
  rw [lb42_2_eq]
  simp only [bT, Bool.cond_decide]
  by_cases h : i < l.length
  · rw [if_pos (by omega), idx_lt h, indentN_at h]
    dsimp only
    cases hw : whiteF l[i] with
    | true =>
      simp only [cond_true, if_true]
      rw [wrapSucc (by omega), hn (i + 1) (by omega) (by omega)]
    | false => simp only [cond_false, hke, ex42_2_0]; rfl
  · rw [if_neg (by omega), hke, ex42_2_0_2, List.drop_eq_nil_of_le (by omega)]
    rfl
theorem whites_ok (l : List Int) (hl : lim4 l = true) (n : Nat) (hn : l.length < n) : evFn E17 n Try.f17 [.sl .i32 l none] = some (.one (.int .i64 (indentF l))) := by
  have hlen := lim4_len hl
  rw [ev17]
  refine (loop_rule (fun i : Nat => st17_2 l i) (fun i => i ≤ l.length) (fun i => l.length - i) (fun i => some (.one (.int .i64 ((i + indentN (l.drop i) : Nat) : Int)))) ?_ n 0 (Nat.zero_le _) (by omega)).trans (by simp [indentF])
  intro i hi K hke hkr hn
  rw [lb17_2_eq]
  simp only [bT, Bool.cond_decide]
  by_cases h : i < l.length
  · rw [if_pos (by omega), idx_lt h, indentN_at h]
    dsimp only
    unfold whiteF
    cases h1 : l[i] == 32 with
    | true =>
      simp only [Bool.or_true, if_true, BEq.rfl, bF, Bool.not_true, cond_false]
      rw [wrapSucc (by omega), hn (i + 1) (by omega) (by omega)]
    | false =>
      simp only [Bool.or_false, bF, Bool.not_false, cond_true]
      cases h2 : l[i] == 9 with
      | true =>
        simp only [cond_true, if_true]
        rw [wrapSucc (by omega), hn (i + 1) (by omega) (by omega)]
      | false => simp only [cond_false, hke, ex17_2_0]; rfl
  · rw [if_neg (by omega), hke, ex17_2_0_2, List.drop_eq_nil_of_le (by omega)]
    rfl
theorem blank_ok (l : List Int) (hl : lim4 l = true) (n : Nat) : evFn E27 n Try.f27 [.sl .i32 l none] = some (.one (.bool (blankF l))) := by
  rw [ev27, hl, blank_eq]; rfl
theorem blank2_ok (l : List Int) (hl : lim4 l = true) (n : Nat) : evFn E30 n Try.f30 [.sl .i32 l none] = some (.one (.bool (blankF l))) := by
  rw [ev30, hl, blank_eq]; rfl
theorem runes_ok (s : List UInt8) (h : room s.length 1 = true) (n : Nat) : evFn E13 n Try.f13 [.str s] = some (.one (.sl .i32 (runes6 s) (some 1))) := by
  rw [ev13, h]; rfl
theorem copied_ok (l : List Int) (h : lim4 l = true) (n : Nat) : evFn E20 n Try.f20 [.sl .i32 l none] = some (.one (.sl .i32 l (some 1))) := by
  rw [ev20, Nat.zero_add, show room l.length 4 = true from h]; rfl
end Go.Aev
end

section
set_option linter.unusedVariables false
namespace Go.Aev
open Go.Proofs

theorem blank_lt (l : List Int) : decide (indentF l < (l.length : Int)) = !blankF l := by
  rw [← blank_eq]
  have := indentN_le l
  unfold indentF
  by_cases h : indentN l = l.length
  · rw [h]; simp
  · have h1 : ((indentN l : Int) == (l.length : Int)) = false := by simp; omega
    rw [h1]; simp; omega

theorem leastF_cons (m : Int) (l : List Int) (r : List (List Int)) : leastF m (l :: r) = leastF (if !blankF l && (decide (m < 0) || decide (indentF l < m)) then indentF l else m) r := rfl

theorem common_ok (ls : List (List Int)) (hl : limL ls = true) (n : Nat) (hn : ls.length < n) : evFn E29 n Try.f29 [.sl .rs ls none] = some (.one (.int .i64 (commonF ls))) := by
  have hlen := limL_len hl
  rw [ev29]
  refine (loop_rule (fun p : Int × Nat => st29_3 ls p.1 p.2) (fun p => 1 ≤ p.2) (fun p => ls.length - p.2) (fun p => some (.one (.int .i64 (if leastF p.1 (ls.drop p.2) < 0 then 0 else leastF p.1 (ls.drop p.2))))) ?_ n (-1, 1) (Nat.le_refl _) (by simp only; omega)).trans rfl
  rintro ⟨m, i⟩ hi K hke hkr hn
  dsimp only at hi hn ⊢
  rw [lb29_3_eq]
  simp only [bT, Bool.cond_decide]
  by_cases h : i < ls.length
  · rw [if_pos (by omega), idx_lt h, List.drop_eq_getElem_cons h, leastF_cons]
    dsimp only
    rw [limL_mem hl (List.getElem_mem h)]
    simp only [cond_true, Bool.cond_decide]
    have hb := blank_lt ls[i]
    have hw : IntKind.wrap .i64 ((i : Int) + 1) = ((i + 1 : Nat) : Int) := wrapSucc (by omega)
    rw [hw]
    have h1 := fun m' => hn (m', i + 1) (by simp) (by dsimp only; omega)
    dsimp only at h1
    simp only [h1, bF]
    by_cases c1 : indentF ls[i] < (ls[i].length : Int)
    · rw [if_pos c1]
      rw [decide_eq_true c1] at hb
      rw [← hb]
      by_cases c2 : m < 0
      · simp [c2]
      · by_cases c3 : indentF ls[i] < m <;> simp [c2, c3]
    · rw [if_neg c1]
      rw [decide_eq_false c1] at hb
      rw [← hb]
      simp
  · rw [if_neg (by omega), hke, ex29_3_0, List.drop_eq_nil_of_le (by omega)]
    simp only [leastF, Bool.cond_decide]
    by_cases hm : m < 0 <;> simp [hm]

theorem copiedLines_ok (ls : List (List Int)) (hl : limL ls = true) (n : Nat) (hn : ls.length < n) : evFn E15 n Try.f15 [.sl .rs ls none] = some (.one (.sl .rs ls (some 1000001))) := by
  have hlen := limL_len hl
  rw [ev15]
  refine (loop_rule (fun i : Nat => st15_3 (ls.take i) ls (ls.length : Int) i) (fun i => i ≤ ls.length) (fun i => ls.length - i) (fun _ => (some (.one (.sl .rs ls (some 1000001))) : Option E6)) ?_ n 0 (Nat.zero_le _) (by omega))
  intro i hi K hke hkr hn
  rw [lb15_3_eq]
  simp only [Bool.cond_decide]
  by_cases h : i < ls.length
  · rw [if_pos (by omega), idx_lt h]
    dsimp only
    rw [limL_mem hl (List.getElem_mem h), wrapSucc (by omega)]
    have hroom : room ((ls.take i).length + 1) 24 = true := room_iff.2 (by rw [List.length_take]; omega)
    rw [hroom, List.take_append_getElem h]
    simp only [cond_true]
    exact hn (i + 1) (by omega) (by omega)
  · rw [if_neg (by omega), hke, ex15_3_0, List.take_of_length_le (by omega)]

theorem same_inner (a b : List (List Int)) (i : Nat) (ha : i < a.length) (hb : i < b.length) (hlen : a[i].length = b[i].length) (h4 : lim4 a[i] = true) (n : Nat) (x13 : Int) (k : Ex → S6 → Option E6) (hn : a[i].length < n)
    (rk : Option E6) (hk : ∀ x33 x34, k (.exit 2) ⟨[(0, .one (.sl .rs a none)), (1, .one (.sl .rs b none)), (5, .one (.int .i64 i)), (13, .one (.int .i64 x13)), (14, .one (.int .i64 i)), (32, .one (.int .i64 (a[i].length : Int))), (33, .one (.int .i64 x33)), (34, .one (.bool x34))], []⟩ = rk) :
    evLoop (lbC E14 (cdAt Try.f14 [1, 1, 0, 1, 0, 0, 1, 1, 0, 0, 1, 1, 1, 0, 0]) 10009 n) n (st14_9 a b i x13 i (a[i].length : Int) 0) k = if a[i] = b[i] then rk else k .ret ⟨[(4, .one (.bool false))], []⟩ := by
  have hl4 := lim4_len h4
  refine (loop_rule (fun j : Nat => st14_9 a b i x13 i (a[i].length : Int) j) (fun j => j ≤ a[i].length ) (fun j => a[i].length - j) (fun j => if a[i].drop j = b[i].drop j then rk else k .ret ⟨[(4, .one (.bool false))], []⟩) ?_ n 0 (Nat.zero_le _) (by omega)).trans (by simp)
  intro j hj K hke hkr hn
  rw [lb14_9_eq]
  simp only [Bool.cond_decide]
  by_cases h : j < a[i].length
  · have h2 : j < b[i].length := by omega
    rw [if_pos (by omega), idx_lt ha]
    dsimp only
    rw [idx_lt h]
    dsimp only
    rw [idx_lt hb]
    dsimp only
    rw [idx_lt h2]
    dsimp only
    rw [List.drop_eq_getElem_cons h, List.drop_eq_getElem_cons h2, wrapSucc (by omega), hn (j + 1) (by omega) (by omega)]
    by_cases he : a[i][j] = b[i][j]
    · have h3 : (a[i][j] != b[i][j]) = false := by simp [he]
      rw [h3]
      simp only [cond_false, he, List.cons.injEq, true_and]
    · have h3 : (a[i][j] != b[i][j]) = true := by simp [he]
      rw [h3, cond_true, hkr, if_neg (fun e => he (List.cons.inj e).1)]
  · rw [if_neg (by omega), hke, List.drop_eq_nil_of_le (by omega), List.drop_eq_nil_of_le (by omega), if_pos rfl]
    exact hk _ _

theorem same_ok (a b : List (List Int)) (ha : limL a = true) (hb : limL b = true) (n : Nat) (hn : a.length < n) (hn2 : ∀ x ∈ a, x.length < n) : evFn E14 n Try.f14 [.sl .rs a none, .sl .rs b none] = some (.one (.bool (sameF a b))) := by
  have hlen := limL_len ha
  rw [ev14]
  by_cases hl : a.length = b.length
  · have h1 : ((a.length : Int) != (b.length : Int)) = false := by simp [hl]
    rw [h1, cond_false]
    refine (loop_rule (fun i : Nat => st14_4 a b (a.length : Int) i) (fun i => i ≤ a.length) (fun i => a.length - i) (fun i => some (.one (.bool (a.drop i == b.drop i)))) ?_ n 0 (Nat.zero_le _) (by omega)).trans (by simp [sameF])
    intro i hi K hke hkr hnx
    rw [lb14_4_eq]
    simp only [Bool.cond_decide]
    by_cases h : i < a.length
    · have h2 : i < b.length := by omega
      rw [if_pos (by omega), idx_lt h]
      dsimp only
      rw [idx_lt h2]
      dsimp only
      rw [List.drop_eq_getElem_cons h, List.drop_eq_getElem_cons h2]
      by_cases he : a[i].length = b[i].length
      · have h3 : ((a[i].length : Int) != (b[i].length : Int)) = false := by simp [he]
        rw [h3, cond_false]
        rw [same_inner a b i h h2 he (limL_mem ha (List.getElem_mem h)) n _ _ (hn2 _ (List.getElem_mem h)) (some (.one (.bool (a.drop (i + 1) == b.drop (i + 1))))) (fun x33 x34 => by
          rw [ex14_9_2, wrapSucc (by omega)]
          exact hnx (i + 1) (by omega) (by omega))]
        by_cases hab : a[i] = b[i]
        · rw [if_pos hab, hab]; simp only [List.cons_beq_cons, BEq.rfl, Bool.true_and]
        · rw [if_neg hab]
          refine (hkr _).trans ?_
          have : (a[i] :: a.drop (i + 1) == b[i] :: b.drop (i + 1)) = false := by rw [List.cons_beq_cons, beq_false_of_ne hab]; rfl
          rw [this]; rfl
      · have h3 : ((a[i].length : Int) != (b[i].length : Int)) = true := by simp; omega
        rw [h3, cond_true, hkr]
        have hab : a[i] ≠ b[i] := fun e => he (by rw [e])
        have : (a[i] :: a.drop (i + 1) == b[i] :: b.drop (i + 1)) = false := by rw [List.cons_beq_cons, beq_false_of_ne hab]; rfl
        rw [this]; rfl
    · rw [if_neg (by omega), hke, ex14_4_0, List.drop_eq_nil_of_le (by omega), List.drop_eq_nil_of_le (by omega)]
      rfl
  · have h1 : ((a.length : Int) != (b.length : Int)) = true := by simp; omega
    rw [h1, cond_true]
    have : sameF a b = false := by
      unfold sameF
      cases he : a == b with
      | false => rfl
      | true => exact absurd (by rw [eq_of_beq he]) hl
    rw [this]
end Go.Aev
end

section
set_option linter.unusedVariables false
namespace Go.Aev
open Go.Proofs

/-! ### the plain law of Dedent -/
section
variable {α : Type} (p : α → Bool)
def tw (l : List α) : Nat := (l.takeWhile p).length
def rt (l : List α) : Nat := (l.reverse.dropWhile p).length
theorem tw_cons (x : α) (l : List α) : tw p (x :: l) = if p x then tw p l + 1 else 0 := by
  unfold tw; rw [List.takeWhile_cons]; split <;> simp
theorem tw_le (l : List α) : tw p l ≤ l.length := by
  induction l with
  | nil => simp [tw]
  | cons x l ih => rw [tw_cons]; split <;> simp <;> omega
theorem tw_at {l : List α} {i : Nat} (h : i < l.length) : i + tw p (l.drop i) = if p l[i] then (i + 1) + tw p (l.drop (i + 1)) else i := by
  rw [List.drop_eq_getElem_cons h, tw_cons]
  split <;> omega
theorem rt_le (l : List α) : rt p l ≤ l.length := by
  unfold rt
  have := (List.dropWhile_suffix (l := l.reverse) p).length_le
  simpa using this
theorem rt_take {l : List α} {i : Nat} (h : i < l.length) : rt p (l.take (i + 1)) = if p l[i] then rt p (l.take i) else i + 1 := by
  unfold rt
  rw [← List.take_append_getElem h, List.reverse_append, List.reverse_singleton, List.singleton_append, List.dropWhile_cons]
  split
  · rfl
  · simp; omega
theorem drop_tw (l : List α) : l.drop (tw p l) = l.dropWhile p := by
  induction l with
  | nil => simp [tw]
  | cons x l ih =>
    rw [tw_cons, List.dropWhile_cons]
    cases h : p x <;> simp [ih]
theorem take_rt (l : List α) : l.take (rt p l) = (l.reverse.dropWhile p).reverse := by
  have h : l.reverse = l.reverse.takeWhile p ++ l.reverse.dropWhile p := (List.takeWhile_append_dropWhile ..).symm
  have h2 : l = (l.reverse.dropWhile p).reverse ++ (l.reverse.takeWhile p).reverse := by
    have h3 := congrArg List.reverse h
    rw [List.reverse_reverse, List.reverse_append] at h3
    exact h3
  unfold rt
  have h4 : (l.reverse.dropWhile p).length = (l.reverse.dropWhile p).reverse.length := by simp
  rw [h4]
  generalize (l.reverse.dropWhile p).reverse = a at *
  generalize (l.reverse.takeWhile p).reverse = b at *
  subst h2
  rw [List.take_left']
  rfl
theorem tw_map {β : Type} (q : β → Bool) : ∀ {l : List α} {m : List β}, l.map p = m.map q → tw p l = tw q m
  | [], [], _ => rfl
  | [], _ :: _, h => by simp at h
  | _ :: _, [], h => by simp at h
  | x :: l, y :: m, h => by
    simp only [List.map_cons, List.cons.injEq] at h
    rw [tw_cons, tw_cons, h.1, tw_map q h.2]
theorem dw_map {β : Type} (q : β → Bool) : ∀ {l : List α} {m : List β}, l.map p = m.map q → (l.dropWhile p).length = (m.dropWhile q).length
  | [], [], _ => rfl
  | [], _ :: _, h => by simp at h
  | _ :: _, [], h => by simp at h
  | x :: l, y :: m, h => by
    have h0 := h
    simp only [List.map_cons, List.cons.injEq] at h
    rw [List.dropWhile_cons, List.dropWhile_cons, h.1]
    cases q y with
    | true => exact dw_map q h.2
    | false => simpa using congrArg List.length h0
theorem rt_map {β : Type} (q : β → Bool) {l : List α} {m : List β} (h : l.map p = m.map q) : rt p l = rt q m := by
  unfold rt
  exact dw_map p q (by rw [List.map_reverse, List.map_reverse, h])
end

theorem trim_eq {l m : List (List Int)} (h : m.map blankF = l.map blankF) : (l.drop (tw blankF m)).take (rt blankF (m.drop (tw blankF m))) = trimF l := by
  rw [tw_map blankF blankF h]
  rw [rt_map blankF blankF (l := m.drop (tw blankF l)) (m := l.drop (tw blankF l)) (by rw [List.map_drop, List.map_drop, h])]
  rw [take_rt, drop_tw]
  rfl

theorem leastF_spec : ∀ (ls : List (List Int)) (m : Int), (0 ≤ m → 0 ≤ leastF m ls ∧ leastF m ls ≤ m) ∧ (∀ l ∈ ls, blankF l = false → 0 ≤ leastF m ls ∧ leastF m ls ≤ indentF l)
  | [], m => ⟨fun h => ⟨h, Int.le_refl _⟩, fun l hl => by cases hl⟩
  | x :: ls, m => by
    rw [leastF_cons]
    have hx : 0 ≤ indentF x := by unfold indentF; omega
    by_cases hb : blankF x = true
    · have h1 : (if !blankF x && (decide (m < 0) || decide (indentF x < m)) then indentF x else m) = m := by simp [hb]
      rw [h1]
      obtain ⟨a, b⟩ := leastF_spec ls m
      refine ⟨a, fun l hl hnb => ?_⟩
      rcases List.mem_cons.1 hl with rfl | hl
      · rw [hb] at hnb; cases hnb
      · exact b l hl hnb
    · have hb' : blankF x = false := by simpa using hb
      generalize hm : (if !blankF x && (decide (m < 0) || decide (indentF x < m)) then indentF x else m) = m'
      have h0 : 0 ≤ m' ∧ m' ≤ indentF x ∧ (0 ≤ m → m' ≤ m) := by
        rw [hb'] at hm
        by_cases c1 : m < 0
        · simp [c1] at hm; omega
        · by_cases c2 : indentF x < m
          · simp [c2] at hm; omega
          · simp [c1, c2] at hm; omega
      obtain ⟨a, b⟩ := leastF_spec ls m'
      have a' := a h0.1
      refine ⟨fun h => ⟨a'.1, by have := h0.2.2 h; omega⟩, fun l hl hnb => ?_⟩
      rcases List.mem_cons.1 hl with rfl | hl
      · exact ⟨a'.1, by omega⟩
      · exact b l hl hnb

theorem blank_drop {l : List Int} {n : Nat} (h : blankF l = false → n ≤ indentN l) : blankF (l.drop n) = blankF l := by
  cases hb : blankF l with
  | true =>
    unfold blankF at hb ⊢
    simp only [List.all_eq_true] at hb ⊢
    exact fun x hx => hb x (List.mem_of_mem_drop hx)
  | false =>
    have hn := h hb
    have hsplit : blankF l = (blankF (l.take n) && blankF (l.drop n)) := by
      unfold blankF
      rw [← List.all_append, List.take_append_drop]
    have htake : blankF (l.take n) = true := by
      clear hsplit hb h
      induction l generalizing n with
      | nil => simp [blankF]
      | cons x l ih =>
        cases n with
        | zero => rfl
        | succ n =>
          rw [indentN_cons] at hn
          cases hw : whiteF x with
          | false => rw [hw] at hn; simp at hn
          | true =>
            rw [hw] at hn
            simp only [if_true] at hn
            have := ih (n := n) (by omega)
            unfold blankF at this ⊢
            simp [hw, this]
    rw [htake, hb] at hsplit
    simpa using hsplit.symm

def cutC (c : Int) (ls : List (List Int)) : List (List Int) := ls.take 1 ++ (ls.drop 1).map fun l => l.drop c.toNat
theorem cutF_eq (ls : List (List Int)) : cutF ls = cutC (leastF (-1) (ls.drop 1)) ls := by
  unfold cutF cutC commonF
  have : (if leastF (-1) (ls.drop 1) < 0 then (0 : Int) else leastF (-1) (ls.drop 1)).toNat = (leastF (-1) (ls.drop 1)).toNat := by split <;> omega
  simp only [this]
theorem cutC_length (c : Int) (ls : List (List Int)) : (cutC c ls).length = ls.length := by
  unfold cutC; simp; omega
theorem cutC_get {c : Int} {ls : List (List Int)} {i : Nat} (h : i < ls.length) : (cutC c ls)[i]'(by rw [cutC_length]; exact h) = if 0 < i then ls[i].drop c.toNat else ls[i] := by
  unfold cutC
  by_cases hi : 0 < i
  · rw [if_pos hi, List.getElem_append_right (by simp; omega)]
    simp
    congr 2
    omega
  · have : i = 0 := by omega
    subst this
    rw [if_neg hi, List.getElem_append_left (by simp; omega)]
    simp
theorem cut_blank (ls : List (List Int)) : ls.map blankF = (cutF ls).map blankF := by
  rw [cutF_eq]
  have hs := (leastF_spec (ls.drop 1) (-1)).2
  unfold cutC
  conv => lhs; rw [← List.take_append_drop 1 ls]
  rw [List.map_append, List.map_append, List.map_map]
  congr 1
  refine List.map_congr_left fun l hl => ?_
  simp only [Function.comp]
  refine (blank_drop fun hb => ?_).symm
  have := hs l hl hb
  unfold indentF at this
  omega
theorem limL_cutC {c : Int} {ls : List (List Int)} (h : limL ls = true) : limL (cutC c ls) = true := by
  unfold limL
  rw [cutC_length]
  have h0 := h
  simp only [limL, Bool.and_eq_true] at h
  rw [h.1, Bool.true_and, List.all_eq_true]
  intro x hx
  obtain ⟨i, hi, rfl⟩ := List.getElem_of_mem hx
  have hi2 : i < ls.length := by rw [cutC_length] at hi; exact hi
  rw [cutC_get hi2]
  have := lim4_iff.1 (limL_mem h0 (List.getElem_mem hi2))
  split
  · rw [lim4_iff, List.length_drop]; omega
  · exact limL_mem h0 (List.getElem_mem hi2)
theorem cut_blank_get {ls : List (List Int)} {i : Nat} (h : i < ls.length) : blankF ((cutF ls)[i]'(by rw [cutF_eq, cutC_length]; exact h)) = blankF ls[i] := by
  have h1 := cut_blank ls
  have h2 : (ls.map blankF)[i]'(by simpa using h) = ((cutF ls).map blankF)[i]'(by rw [List.length_map, cutF_eq, cutC_length]; exact h) := by simp only [h1]
  simpa using h2.symm
end Go.Aev
end

section
set_option linter.unusedVariables false
namespace Go.Aev
open Go.Proofs

theorem min_max_drop (c : Int) (l : List Int) : sub l (if (l.length : Int) < (if 0 > c then 0 else c) then (l.length : Int) else (if 0 > c then 0 else c)) (l.length : Int) = some (l.drop c.toNat) := by
  have h : (if (l.length : Int) < (if 0 > c then 0 else c) then (l.length : Int) else (if 0 > c then 0 else c)) = ((min c.toNat l.length : Nat) : Int) := by
    split <;> split <;> omega
  rw [h, sub_from (Nat.min_le_right _ _)]
  congr 1
  rcases Nat.le_total c.toNat l.length with h1 | h1
  · rw [Nat.min_eq_left h1]
  · rw [Nat.min_eq_right h1, List.drop_eq_nil_of_le h1, List.drop_eq_nil_of_le (Nat.le_refl _)]

/-- The lines' last loop. -/
theorem dedent_out (ls : List (List Int)) (hl : limL ls = true) (c : Int) (f b : Nat) (hfb : f ≤ b) (hb : b ≤ ls.length) (n : Nat) (hn : ls.length < n) :
    evLoop (lbC E12 (cdAt Try.f12 [1, 1, 1, 1, 1, 1, 1, 0, 1, 0, 0]) 10015 n) n (st12_15 ls c b [] f) (blockK 6 (seqK (evCode E12 n (cdAt Try.f12 [1, 1, 1, 1, 1, 1, 1, 1])) (retK Try.f12.results.toList))) =
      some (.one (.sl .rs (((cutC c ls).drop f).take (b - f)) (some 1000001))) := by
  have hlen := limL_len hl
  refine (loop_rule (fun x : Nat × List (List Int) => st12_15 ls c b x.2 x.1) (fun x => x.1 ≤ b ∧ x.2.length ≤ x.1) (fun x => b - x.1) (fun x => (some (.one (.sl .rs (x.2 ++ ((cutC c ls).drop x.1).take (b - x.1)) (some 1000001))) : Option E6)) ?_ n (f, []) ⟨hfb, by simp⟩ (by dsimp only; omega)).trans rfl
  rintro ⟨i, out⟩ ⟨hi, ho⟩ K hke hkr hnx
  dsimp only at hi ho hnx ⊢
  rw [lb12_15_eq]
  simp only [Bool.cond_decide]
  have hlc := cutC_length c ls
  by_cases h : i < b
  · have hil : i < ls.length := by omega
    rw [if_pos (by omega), idx_lt hil]
    dsimp only
    have hget := cutC_get (c := c) hil
    have hl4 := lim4_iff.1 (limL_mem hl (List.getElem_mem hil))
    have hr : room (out.length + 1) 24 = true := room_iff.2 (by omega)
    have hw : IntKind.wrap .i64 ((i : Int) + 1) = ((i + 1 : Nat) : Int) := wrapSucc (by omega)
    have hstep : ∀ y : List Int, y = (cutC c ls)[i]'(by rw [hlc]; exact hil) → y.length ≤ ls[i].length →
        (bif true && decide True then (match sub y 0 (y.length : Int) with | none => none | some y6 => (bif room (0 + List.length y6) 4 then (bif room (List.length out + 1) 24 then (K .normal (st12_15 ls c b (out ++ [y6]) (IntKind.wrap .i64 (i + 1)))) else none) else none)) else none) = some (.one (.sl .rs (out ++ ((cutC c ls).drop i).take (b - i)) (some 1000001))) := by
      intro y hy hle
      have h1 : (true && decide True) = true := by simp
      rw [h1, sub_all, cond_true]
      dsimp only
      have h2 : room (0 + y.length) 4 = true := room_iff.2 (by omega)
      rw [h2, hr, hw, cond_true, cond_true]
      rw [hnx (i + 1, out ++ [y]) ⟨by dsimp only; omega, by simp; omega⟩ (by dsimp only; omega)]
      dsimp only
      rw [List.drop_eq_getElem_cons (by rw [hlc]; exact hil : i < (cutC c ls).length)]
      have h3 : b - i = (b - (i + 1)) + 1 := by omega
      rw [h3, List.take_succ_cons, ← hy, List.append_assoc, List.singleton_append]
    by_cases h0 : i > 0
    · rw [if_pos (by omega), min_max_drop]
      rw [if_pos h0] at hget
      exact hstep _ hget.symm (by simp)
    · rw [if_neg (by omega)]
      rw [if_neg h0] at hget
      exact hstep _ hget.symm (Nat.le_refl _)
  · rw [if_neg (by omega), hke, ex12_15_6]
    have : b - i = 0 := by omega
    rw [this, List.take_zero, List.append_nil]

theorem dedent_behind (ls : List (List Int)) (hl : limL ls = true) (c : Int) (f : Nat) (hf : f ≤ ls.length) (n : Nat) (hn : ls.length < n) :
    evLoop (lbC E12 (cdAt Try.f12 [1, 1, 1, 1, 1, 0, 0, 0]) 10011 n) n (st12_11 ls c f (ls.length : Int)) (blockK 4 (seqK (evCode E12 n (cdAt Try.f12 [1, 1, 1, 1, 1, 1])) (retK Try.f12.results.toList))) =
      some (.one (.sl .rs (((cutC c ls).drop f).take (rt blankF (ls.drop f))) (some 1000001))) := by
  have hlen := limL_len hl
  have e0 : (ls.length : Int) = ((f + (ls.length - f) : Nat) : Int) := by omega
  rw [e0]
  refine (loop_rule (fun t : Nat => st12_11 ls c f ((f + t : Nat) : Int)) (fun t => f + t ≤ ls.length) (fun t => t) (fun t => (some (.one (.sl .rs (((cutC c ls).drop f).take (rt blankF ((ls.drop f).take t))) (some 1000001))) : Option E6)) ?_ n (ls.length - f) (by omega) (by omega)).trans (by rw [List.take_of_length_le (l := ls.drop f) (by simp)])
  intro t ht K hke hkr hnx
  rw [lb12_11_eq]
  simp only [bT, Bool.cond_decide]
  cases t with
  | zero =>
    rw [if_neg (by omega), hke, ex12_11_4_2, dedent_out ls hl c f (f + 0) (by omega) ht n hn]
    simp [rt]
  | succ t =>
    rw [if_pos (by omega)]
    have e : ((f + (t + 1) : Nat) : Int) = ((f + t + 1 : Nat) : Int) := by omega
    have hlt : f + t < ls.length := by omega
    have hlt2 : t < (ls.drop f).length := by simp; omega
    rw [e, wrapPred (by omega), idx_lt hlt]
    dsimp only
    rw [limL_mem hl (List.getElem_mem hlt), cond_true, rt_take blankF hlt2]
    have hg : (ls.drop f)[t] = ls[f + t] := by simp
    rw [hg]
    cases hb : blankF ls[f + t] with
    | true =>
      simp only [cond_true, if_true]
      exact hnx t (by omega) (by omega)
    | false =>
      simp only [cond_false]
      rw [hke, ex12_11_4, dedent_out ls hl c f (f + t + 1) (by omega) (by omega) n hn]
      have : f + t + 1 - f = t + 1 := by omega
      rw [this]
      simp

theorem dedent_first (ls : List (List Int)) (hl : limL ls = true) (c : Int) (n : Nat) (hn : ls.length < n) :
    evLoop (lbC E12 (cdAt Try.f12 [1, 1, 1, 1, 0, 0, 0]) 10009 n) n (st12_9 ls c 0 (ls.length : Int)) (blockK 2 (seqK (evCode E12 n (cdAt Try.f12 [1, 1, 1, 1, 1])) (retK Try.f12.results.toList))) =
      some (.one (.sl .rs (((cutC c ls).drop (tw blankF ls)).take (rt blankF (ls.drop (tw blankF ls)))) (some 1000001))) := by
  have hlen := limL_len hl
  refine (loop_rule (fun i : Nat => st12_9 ls c i (ls.length : Int)) (fun i => i ≤ ls.length) (fun i => ls.length - i) (fun i => (some (.one (.sl .rs (((cutC c ls).drop (i + tw blankF (ls.drop i))).take (rt blankF (ls.drop (i + tw blankF (ls.drop i))))) (some 1000001))) : Option E6)) ?_ n 0 (Nat.zero_le _) (by omega)).trans (by simp)
  intro i hi K hke hkr hnx
  rw [lb12_9_eq]
  simp only [bT, Bool.cond_decide]
  by_cases h : i < ls.length
  · rw [if_pos (by omega), idx_lt h]
    dsimp only
    rw [limL_mem hl (List.getElem_mem h), cond_true, tw_at blankF h]
    cases hb : blankF ls[i] with
    | true =>
      simp only [cond_true, if_true]
      rw [wrapSucc (by omega)]
      exact hnx (i + 1) (by omega) (by omega)
    | false =>
      simp only [cond_false]
      rw [hke, ex12_9_2]
      exact dedent_behind ls hl c i hi n hn
  · rw [if_neg (by omega), hke, ex12_9_2_2]
    have h2 : tw blankF (ls.drop i) = 0 := by rw [List.drop_eq_nil_of_le (by omega)]; rfl
    rw [h2]
    exact dedent_behind ls hl c i hi n hn

theorem dedent_ok (ls : List (List Int)) (hl : limL ls = true) (n : Nat) (hn : ls.length < n) : evFn E12 n Try.f12 [.sl .rs ls none] = some (.one (.sl .rs (dedentF ls) (some 1000001))) := by
  have hlen := limL_len hl
  have hgoal : ∀ c : Int, c = leastF (-1) (ls.drop 1) → some (.one (.sl .rs (((cutC c ls).drop (tw blankF ls)).take (rt blankF (ls.drop (tw blankF ls)))) (some 1000001))) = (some (.one (.sl .rs (dedentF ls) (some 1000001))) : Option E6) := by
    intro c hc
    subst hc
    rw [← cutF_eq]
    exact congrArg (fun x : List (List Int) => (some (.one (.sl .rs x (some 1000001))) : Option E6)) (trim_eq (cut_blank ls))
  rw [ev12]
  refine (loop_rule (fun x : Int × Nat => st12_3 ls x.1 ls (ls.length : Int) x.2) (fun x => leastF x.1 (ls.drop (max x.2 1)) = leastF (-1) (ls.drop 1)) (fun x => ls.length - x.2) (fun x => (some (.one (.sl .rs (dedentF ls) (some 1000001))) : Option E6)) ?_ n (-1, 0) rfl (by dsimp only; omega))
  rintro ⟨c, i⟩ hinv K hke hkr hnx
  dsimp only at hinv hnx ⊢
  rw [lb12_3_eq]
  simp only [bT, bF, Bool.cond_decide]
  by_cases h : i < ls.length
  · rw [if_pos (by omega), idx_lt h]
    dsimp only
    have hw : IntKind.wrap .i64 ((i : Int) + 1) = ((i + 1 : Nat) : Int) := wrapSucc (by omega)
    rw [limL_mem hl (List.getElem_mem h), hw]
    have hm : max (i + 1) 1 = i + 1 := by omega
    have h1 := fun c' (hc : leastF c' (ls.drop (i + 1)) = leastF (-1) (ls.drop 1)) => hnx (c', i + 1) (by dsimp only; rw [hm]; exact hc) (by dsimp only; omega)
    dsimp only at h1
    simp only [cond_true]
    by_cases h0 : i > 0
    · have hm2 : max i 1 = i := by omega
      rw [hm2, List.drop_eq_getElem_cons h, leastF_cons] at hinv
      rw [if_pos (by omega)]
      cases hb : blankF ls[i] with
      | true =>
        rw [hb] at hinv
        simp only [Bool.not_true, Bool.false_and, Bool.false_eq_true, if_false] at hinv
        simp only [Bool.not_true, cond_false]
        exact h1 _ hinv
      | false =>
        rw [hb] at hinv
        simp only [Bool.not_false, Bool.true_and] at hinv
        simp only [Bool.not_false, cond_true]
        by_cases c1 : c < 0
        · simp only [c1, decide_true, Bool.true_or, if_true] at hinv
          simp only [c1, decide_true, Bool.not_true, cond_false]
          exact h1 _ hinv
        · simp only [c1, decide_false, Bool.false_or] at hinv
          simp only [c1, decide_false, Bool.not_false, cond_true]
          by_cases c2 : indentF ls[i] < c
          · simp only [c2, decide_true, if_true] at hinv
            rw [if_pos c2]
            exact h1 _ hinv
          · simp only [c2, decide_false, Bool.false_eq_true, if_false] at hinv
            rw [if_neg c2]
            exact h1 _ hinv
    · have : i = 0 := by omega
      subst this
      rw [if_neg (by omega)]
      exact h1 _ hinv
  · rw [if_neg (by omega), hke, ex12_3_0, dedent_first ls hl c n hn]
    refine hgoal c ?_
    rw [List.drop_eq_nil_of_le (by omega)] at hinv
    exact hinv
end Go.Aev
end

section
set_option linter.unusedVariables false
namespace Go.Aev
open Go.Proofs

theorem rdedent_behind (ls : List (List Int)) (hl : limL ls = true) (f : Nat) (hf : f ≤ ls.length) (n : Nat) (hn : ls.length < n) :
    evLoop (lbC E16 (cdAt Try.f16 [1, 1, 1, 1, 1, 1, 1, 0, 0, 0]) 10018 n) n (st16_18 ls f (ls.length : Int)) (blockK 4 (seqK (evCode E16 n (cdAt Try.f16 [1, 1, 1, 1, 1, 1, 1, 1])) (retK Try.f16.results.toList))) =
      some (.one (.sl .rs ((ls.drop f).take (rt blankF (ls.drop f))) none)) := by
  have hlen := limL_len hl
  have e0 : (ls.length : Int) = ((f + (ls.length - f) : Nat) : Int) := by omega
  rw [e0]
  refine (loop_rule (fun t : Nat => st16_18 ls f ((f + t : Nat) : Int)) (fun t => f + t ≤ ls.length) (fun t => t) (fun t => (some (.one (.sl .rs ((ls.drop f).take (rt blankF ((ls.drop f).take t))) none)) : Option E6)) ?_ n (ls.length - f) (by omega) (by omega)).trans (by rw [List.take_of_length_le (l := ls.drop f) (by simp)])
  intro t ht K hke hkr hnx
  have hsub : ∀ t, f + t ≤ ls.length → sub ls (f : Int) ((f + t : Nat) : Int) = some ((ls.drop f).take t) := fun t ht => by
    rw [sub_nat (by omega) ht]
    have : f + t - f = t := by omega
    rw [this]
  rw [lb16_18_eq]
  simp only [bT, Bool.cond_decide]
  cases t with
  | zero =>
    rw [if_neg (by omega), hke, ex16_18_4_2, hsub 0 ht]
    rfl
  | succ t =>
    rw [if_pos (by omega)]
    have e : ((f + (t + 1) : Nat) : Int) = ((f + t + 1 : Nat) : Int) := by omega
    have hlt : f + t < ls.length := by omega
    have hlt2 : t < (ls.drop f).length := by simp; omega
    rw [e, wrapPred (by omega), idx_lt hlt]
    dsimp only
    rw [limL_mem hl (List.getElem_mem hlt), cond_true, rt_take blankF hlt2]
    have hg : (ls.drop f)[t] = ls[f + t] := by simp
    rw [hg]
    cases hb : blankF ls[f + t] with
    | true =>
      simp only [cond_true, if_true]
      exact hnx t (by omega) (by omega)
    | false =>
      simp only [cond_false]
      have h2 := hsub (t + 1) ht
      rw [← Nat.add_assoc] at h2
      rw [hke, ex16_18_4, h2]
      rfl

theorem rdedent_first (ls : List (List Int)) (hl : limL ls = true) (n : Nat) (hn : ls.length < n) :
    evLoop (lbC E16 (cdAt Try.f16 [1, 1, 1, 1, 1, 0, 0, 0]) 10015 n) n (st16_15 ls 0) (blockK 2 (seqK (evCode E16 n (cdAt Try.f16 [1, 1, 1, 1, 1, 1])) (retK Try.f16.results.toList))) =
      some (.one (.sl .rs (trimF ls) none)) := by
  have hlen := limL_len hl
  refine (loop_rule (fun i : Nat => st16_15 ls i) (fun i => i ≤ ls.length) (fun i => ls.length - i) (fun i => (some (.one (.sl .rs ((ls.drop (i + tw blankF (ls.drop i))).take (rt blankF (ls.drop (i + tw blankF (ls.drop i))))) none)) : Option E6)) ?_ n 0 (Nat.zero_le _) (by omega)).trans ?_
  · intro i hi K hke hkr hnx
    rw [lb16_15_eq]
    simp only [bT, Bool.cond_decide]
    by_cases h : i < ls.length
    · rw [if_pos (by omega), idx_lt h]
      dsimp only
      rw [limL_mem hl (List.getElem_mem h), cond_true, tw_at blankF h]
      cases hb : blankF ls[i] with
      | true =>
        simp only [cond_true, if_true]
        rw [wrapSucc (by omega)]
        exact hnx (i + 1) (by omega) (by omega)
      | false =>
        simp only [cond_false]
        rw [hke, ex16_15_2]
        exact rdedent_behind ls hl i hi n hn
    · rw [if_neg (by omega), hke, ex16_15_2_2]
      have h2 : tw blankF (ls.drop i) = 0 := by rw [List.drop_eq_nil_of_le (by omega)]; rfl
      rw [h2]
      exact rdedent_behind ls hl i hi n hn
  · have h0 : 0 + tw blankF (ls.drop 0) = tw blankF ls := by simp
    rw [h0]
    exact congrArg (fun x : List (List Int) => (some (.one (.sl .rs x none)) : Option E6)) (trim_eq rfl)

theorem commonF_nonneg (ls : List (List Int)) : 0 ≤ commonF ls := by
  unfold commonF
  dsimp only
  split <;> omega

theorem rdedent_ok (ls : List (List Int)) (hl : limL ls = true) (n : Nat) (hn : ls.length < n) : evFn E16 n Try.f16 [.sl .rs ls none] = some (.one (.sl .rs (dedentF ls) none)) := by
  have hlen := limL_len hl
  rw [ev16, hl, cond_true]
  have hcut : ∀ {i : Nat} (h : i < ls.length), (cutF ls)[i]'(by rw [cutF_eq, cutC_length]; exact h) = if 0 < i then ls[i].drop (commonF ls).toNat else ls[i] := by
    intro i h
    have h1 : cutF ls = cutC (commonF ls) ls := rfl
    simp only [h1]
    exact cutC_get h
  have hlc : (cutF ls).length = ls.length := by rw [cutF_eq, cutC_length]
  have hc0 := commonF_nonneg ls
  refine (loop_rule (fun i : Nat => st16_4 ls (commonF ls) ((cutF ls).take i) i) (fun i => i ≤ ls.length) (fun i => ls.length - i) (fun i => (some (.one (.sl .rs (dedentF ls) none)) : Option E6)) ?_ n 0 (Nat.zero_le _) (by omega))
  intro i hi K hke hkr hnx
  rw [lb16_4_eq]
  simp only [bT, Bool.cond_decide]
  by_cases h : i < ls.length
  · rw [if_pos (by omega), idx_lt h]
    dsimp only
    have hl4 := lim4_iff.1 (limL_mem hl (List.getElem_mem h))
    have hr : room (((cutF ls).take i).length + 1) 24 = true := room_iff.2 (by rw [List.length_take]; omega)
    have hw : IntKind.wrap .i64 ((i : Int) + 1) = ((i + 1 : Nat) : Int) := wrapSucc (by omega)
    have hstep : ∀ y : List Int, y = (cutF ls)[i]'(by rw [hlc]; exact h) → K .normal (st16_4 ls (commonF ls) ((cutF ls).take i ++ [y]) ((i + 1 : Nat) : Int)) = some (.one (.sl .rs (dedentF ls) none)) := by
      intro y hy
      rw [hy, List.take_append_getElem (by rw [hlc]; exact h)]
      exact hnx (i + 1) (by omega) (by omega)
    have hget := hcut h
    have hrm : ∀ k : Nat, k ≤ ls[i].length → room (0 + k) 4 = true := fun k hk => room_iff.2 (by omega)
    rw [hr, hw]
    simp only [cond_true]
    by_cases h0 : 0 < i
    · rw [if_pos h0] at hget
      rw [if_pos (by omega)]
      by_cases h1 : (ls[i].length : Int) ≤ commonF ls
      · rw [if_pos h1, hrm 0 (Nat.zero_le _), cond_true]
        refine hstep [] ?_
        rw [hget, List.drop_eq_nil_of_le (by omega)]
      · rw [if_neg h1, if_pos (by omega)]
        have h2 : commonF ls = ((commonF ls).toNat : Int) := by omega
        rw [h2, sub_from (by omega), ← h2]
        dsimp only
        rw [hrm _ (by simp), cond_true]
        exact hstep _ hget.symm
    · rw [if_neg h0] at hget
      rw [if_neg (by omega), if_neg (by omega), hrm _ (Nat.le_refl _), cond_true]
      exact hstep _ hget.symm
  · rw [if_neg (by omega), hke, ex16_4_0, List.take_of_length_le (by omega)]
    have hlc2 : limL (cutF ls) = true := limL_cutC hl
    exact rdedent_first (cutF ls) hlc2 n (by omega)

theorem limL_dedent {ls : List (List Int)} (h : limL ls = true) : limL (dedentF ls) = true := by
  have h1 : limL (cutF ls) = true := limL_cutC h
  have h2 : ∀ x ∈ dedentF ls, x ∈ cutF ls := by
    intro x hx
    unfold dedentF trimF at hx
    have h3 := (List.dropWhile_suffix blankF).subset (List.mem_reverse.1 hx)
    exact (List.dropWhile_suffix blankF).subset (List.mem_reverse.1 h3)
  have h3 : (dedentF ls).length ≤ (cutF ls).length := by
    unfold dedentF trimF
    have a := (List.dropWhile_suffix (l := (List.dropWhile blankF (cutF ls)).reverse) blankF).length_le
    have b := (List.dropWhile_suffix (l := cutF ls) blankF).length_le
    simp only [List.length_reverse] at a ⊢
    omega
  have h4 := limL_len h1
  unfold limL
  simp only [Bool.and_eq_true, List.all_eq_true]
  exact ⟨room_iff.2 (by omega), fun x hx => limL_mem h1 (h2 x hx)⟩

end Go.Aev
end
