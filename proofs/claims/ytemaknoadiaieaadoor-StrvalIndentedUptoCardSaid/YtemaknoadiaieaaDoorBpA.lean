/- Proved here: lemmas of an evaluator over the model's code that the claim's text uses (P1 P2 P3 P4 P5 P11 P12 P13 P14 P15 P16). Conditions: those that each lemma states. -/
import Derived.Test.YtemaknoadiaieaaDoorBevE
import Derived.Test.YtemaknoadiaieaaDoorBevF
section
set_option linter.unusedVariables false
namespace Go.Aev
open Go.Proofs

theorem white_ok (c : Int) (n : Nat) : evFn E41 n Tryd.f28 [.int .i32 c] = some (.one (.bool (whiteF c))) := by
  rw [ev41]
  unfold whiteF
  cases h : c == 9 <;> simp [h]
theorem white2_ok (c : Int) (n : Nat) : evFn E56 n Tryd.f33 [.int .i32 c] = some (.one (.bool (whiteF c))) := by
  rw [ev56]
  unfold whiteF
  cases h : c == 9 <;> simp [h]

theorem indentN_cons (x : Int) (l : List Int) : indentN (x :: l) = if whiteF x then indentN l + 1 else 0 := by
  unfold indentN
  rw [List.takeWhile_cons]
  split <;> simp
theorem indentN_at {l : List Int} {i : Nat} (h : i < l.length) : i + indentN (l.drop i) = if whiteF l[i] then (i + 1) + indentN (l.drop (i + 1)) else i := by
  rw [List.drop_eq_getElem_cons h, indentN_cons]
  split <;> omega
theorem indentN_le (l : List Int) : indentN l ≤ l.length := by
  induction l with
  | nil => simp [indentN]
  | cons x l ih => rw [indentN_cons]; split <;> simp <;> omega
theorem blank_eq (l : List Int) : (indentF l == (l.length : Int)) = blankF l := by
  have h : indentN l = l.length ↔ blankF l = true := by
    induction l with
    | nil => simp [indentN, blankF]
    | cons x l ih =>
      rw [indentN_cons]
      unfold blankF at ih ⊢
      cases hx : whiteF x with
      | true => simp [hx, ← ih]
      | false => simp [hx]
  unfold indentF
  cases hb : blankF l with
  | true => rw [h.2 hb]; simp
  | false =>
    have : indentN l ≠ l.length := fun e => by rw [h.1 e] at hb; cases hb
    simp; omega

theorem indent_ok (l : List Int) (hl : lim4 l = true) (n : Nat) (hn : l.length < n) : evFn E28 n Tryd.f66 [.sl .i32 l none] = some (.one (.int .i64 (indentF l))) := by
  have hlen := lim4_len hl
  rw [ev28]
  refine (loop_rule (fun i : Nat => st28_2 l i) (fun i => i ≤ l.length) (fun i => l.length - i) (fun i => some (.one (.int .i64 ((i + indentN (l.drop i) : Nat) : Int)))) ?_ n 0 (Nat.zero_le _) (by omega)).trans (by simp [indentF])
  intro i hi K hke hkr hn
  rw [lb28_2_eq]
  simp only [bT, Bool.cond_decide]
  by_cases h : i < l.length
  · rw [if_pos (by omega), idx_lt h, indentN_at h]
    dsimp only
    cases hw : whiteF l[i] with
    | true =>
      simp only [cond_true, if_true]
      rw [wrapSucc (by omega), hn (i + 1) (by omega) (by omega)]
    | false => simp only [cond_false, hke, ex28_2_0]; rfl
  · rw [if_neg (by omega), hke, ex28_2_0_2, List.drop_eq_nil_of_le (by omega)]
    rfl
theorem indent2_ok (l : List Int) (hl : lim4 l = true) (n : Nat) (hn : l.length < n) : evFn E42 n Tryd.f63 [.sl .i32 l none] = some (.one (.int .i64 (indentF l))) := by
  have hlen := lim4_len hl
  rw [ev42]
  refine (loop_rule (fun i : Nat => st42_2 l i) (fun i => i ≤ l.length) (fun i => l.length - i) (fun i => some (.one (.int .i64 ((i + indentN (l.drop i) : Nat) : Int)))) ?_ n 0 (Nat.zero_le _) (by omega)).trans (by simp [indentF])
  intro i hi K hke hkr hn
  rw [lb42_2_eq]
  simp only [bT, Bool.cond_decide]
  by_cases h : i < l.length
  · rw [if_pos (by omega), idx_lt h, indentN_at h]
    dsimp only
    cases hw : whiteF l[i] with
    | true =>
      simp only [cond_true, if_true]
      rw [wrapSucc (by omega), hn (i + 1) (by omega) (by omega)]
    | false => simp only [cond_false, hke, ex42_2_0]; rfl
  · rw [if_neg (by omega), hke, ex42_2_0_2, List.drop_eq_nil_of_le (by omega)]
    rfl
theorem blank_ok (l : List Int) (hl : lim4 l = true) (n : Nat) : evFn E27 n Tryd.f58 [.sl .i32 l none] = some (.one (.bool (blankF l))) := by
  rw [ev27, hl, blank_eq]; rfl
theorem blank2_ok (l : List Int) (hl : lim4 l = true) (n : Nat) : evFn E30 n Tryd.f62 [.sl .i32 l none] = some (.one (.bool (blankF l))) := by
  rw [ev30, hl, blank_eq]; rfl
theorem runes_ok (s : List UInt8) (h : room s.length 1 = true) (n : Nat) : evFn E13 n Tryd.f36 [.str s] = some (.one (.sl .i32 (runes6 s) (some 1))) := by
  rw [ev13, h]; rfl
theorem copied_ok (l : List Int) (h : lim4 l = true) (n : Nat) : evFn E20 n Tryd.f14 [.sl .i32 l none] = some (.one (.sl .i32 l (some 1))) := by
  rw [ev20, Nat.zero_add, show room l.length 4 = true from h]; rfl
end Go.Aev
end

section
set_option linter.unusedVariables false
namespace Go.Aev
open Go.Proofs

theorem blank_lt (l : List Int) : decide (indentF l < (l.length : Int)) = !blankF l := by
  rw [← blank_eq]
  have := indentN_le l
  unfold indentF
  by_cases h : indentN l = l.length
  · rw [h]; simp
  · have h1 : ((indentN l : Int) == (l.length : Int)) = false := by simp; omega
    rw [h1]; simp; omega

theorem leastF_cons (m : Int) (l : List Int) (r : List (List Int)) : leastF m (l :: r) = leastF (if !blankF l && (decide (m < 0) || decide (indentF l < m)) then indentF l else m) r := rfl

end Go.Aev
end

section
set_option linter.unusedVariables false
namespace Go.Aev
open Go.Proofs

/-! ### the plain law of Dedent -/
section
variable {α : Type} (p : α → Bool)
def tw (l : List α) : Nat := (l.takeWhile p).length
def rt (l : List α) : Nat := (l.reverse.dropWhile p).length
theorem tw_cons (x : α) (l : List α) : tw p (x :: l) = if p x then tw p l + 1 else 0 := by
  unfold tw; rw [List.takeWhile_cons]; split <;> simp
theorem tw_le (l : List α) : tw p l ≤ l.length := by
  induction l with
  | nil => simp [tw]
  | cons x l ih => rw [tw_cons]; split <;> simp <;> omega
theorem tw_at {l : List α} {i : Nat} (h : i < l.length) : i + tw p (l.drop i) = if p l[i] then (i + 1) + tw p (l.drop (i + 1)) else i := by
  rw [List.drop_eq_getElem_cons h, tw_cons]
  split <;> omega
theorem rt_le (l : List α) : rt p l ≤ l.length := by
  unfold rt
  have := (List.dropWhile_suffix (l := l.reverse) p).length_le
  simpa using this
theorem rt_take {l : List α} {i : Nat} (h : i < l.length) : rt p (l.take (i + 1)) = if p l[i] then rt p (l.take i) else i + 1 := by
  unfold rt
  rw [← List.take_append_getElem h, List.reverse_append, List.reverse_singleton, List.singleton_append, List.dropWhile_cons]
  split
  · rfl
  · simp; omega
theorem drop_tw (l : List α) : l.drop (tw p l) = l.dropWhile p := by
  induction l with
  | nil => simp [tw]
  | cons x l ih =>
    rw [tw_cons, List.dropWhile_cons]
    cases h : p x <;> simp [ih]
theorem take_rt (l : List α) : l.take (rt p l) = (l.reverse.dropWhile p).reverse := by
  have h : l.reverse = l.reverse.takeWhile p ++ l.reverse.dropWhile p := (List.takeWhile_append_dropWhile ..).symm
  have h2 : l = (l.reverse.dropWhile p).reverse ++ (l.reverse.takeWhile p).reverse := by
    have h3 := congrArg List.reverse h
    rw [List.reverse_reverse, List.reverse_append] at h3
    exact h3
  unfold rt
  have h4 : (l.reverse.dropWhile p).length = (l.reverse.dropWhile p).reverse.length := by simp
  rw [h4]
  generalize (l.reverse.dropWhile p).reverse = a at *
  generalize (l.reverse.takeWhile p).reverse = b at *
  subst h2
  rw [List.take_left']
  rfl
theorem tw_map {β : Type} (q : β → Bool) : ∀ {l : List α} {m : List β}, l.map p = m.map q → tw p l = tw q m
  | [], [], _ => rfl
  | [], _ :: _, h => by simp at h
  | _ :: _, [], h => by simp at h
  | x :: l, y :: m, h => by
    simp only [List.map_cons, List.cons.injEq] at h
    rw [tw_cons, tw_cons, h.1, tw_map q h.2]
theorem dw_map {β : Type} (q : β → Bool) : ∀ {l : List α} {m : List β}, l.map p = m.map q → (l.dropWhile p).length = (m.dropWhile q).length
  | [], [], _ => rfl
  | [], _ :: _, h => by simp at h
  | _ :: _, [], h => by simp at h
  | x :: l, y :: m, h => by
    have h0 := h
    simp only [List.map_cons, List.cons.injEq] at h
    rw [List.dropWhile_cons, List.dropWhile_cons, h.1]
    cases q y with
    | true => exact dw_map q h.2
    | false => simpa using congrArg List.length h0
theorem rt_map {β : Type} (q : β → Bool) {l : List α} {m : List β} (h : l.map p = m.map q) : rt p l = rt q m := by
  unfold rt
  exact dw_map p q (by rw [List.map_reverse, List.map_reverse, h])
end

theorem trim_eq {l m : List (List Int)} (h : m.map blankF = l.map blankF) : (l.drop (tw blankF m)).take (rt blankF (m.drop (tw blankF m))) = trimF l := by
  rw [tw_map blankF blankF h]
  rw [rt_map blankF blankF (l := m.drop (tw blankF l)) (m := l.drop (tw blankF l)) (by rw [List.map_drop, List.map_drop, h])]
  rw [take_rt, drop_tw]
  rfl

theorem leastF_spec : ∀ (ls : List (List Int)) (m : Int), (0 ≤ m → 0 ≤ leastF m ls ∧ leastF m ls ≤ m) ∧ (∀ l ∈ ls, blankF l = false → 0 ≤ leastF m ls ∧ leastF m ls ≤ indentF l)
  | [], m => ⟨fun h => ⟨h, Int.le_refl _⟩, fun l hl => by cases hl⟩
  | x :: ls, m => by
    rw [leastF_cons]
    have hx : 0 ≤ indentF x := by unfold indentF; omega
    by_cases hb : blankF x = true
    · have h1 : (if !blankF x && (decide (m < 0) || decide (indentF x < m)) then indentF x else m) = m := by simp [hb]
      rw [h1]
      obtain ⟨a, b⟩ := leastF_spec ls m
      refine ⟨a, fun l hl hnb => ?_⟩
      rcases List.mem_cons.1 hl with rfl | hl
      · rw [hb] at hnb; cases hnb
      · exact b l hl hnb
    · have hb' : blankF x = false := by simpa using hb
      generalize hm : (if !blankF x && (decide (m < 0) || decide (indentF x < m)) then indentF x else m) = m'
      have h0 : 0 ≤ m' ∧ m' ≤ indentF x ∧ (0 ≤ m → m' ≤ m) := by
        rw [hb'] at hm
        by_cases c1 : m < 0
        · simp [c1] at hm; omega
        · by_cases c2 : indentF x < m
          · simp [c2] at hm; omega
          · simp [c1, c2] at hm; omega
      obtain ⟨a, b⟩ := leastF_spec ls m'
      have a' := a h0.1
      refine ⟨fun h => ⟨a'.1, by have := h0.2.2 h; omega⟩, fun l hl hnb => ?_⟩
      rcases List.mem_cons.1 hl with rfl | hl
      · exact ⟨a'.1, by omega⟩
      · exact b l hl hnb

theorem blank_drop {l : List Int} {n : Nat} (h : blankF l = false → n ≤ indentN l) : blankF (l.drop n) = blankF l := by
  cases hb : blankF l with
  | true =>
    unfold blankF at hb ⊢
    simp only [List.all_eq_true] at hb ⊢
    exact fun x hx => hb x (List.mem_of_mem_drop hx)
  | false =>
    have hn := h hb
    have hsplit : blankF l = (blankF (l.take n) && blankF (l.drop n)) := by
      unfold blankF
      rw [← List.all_append, List.take_append_drop]
    have htake : blankF (l.take n) = true := by
      clear hsplit hb h
      induction l generalizing n with
      | nil => simp [blankF]
      | cons x l ih =>
        cases n with
        | zero => rfl
        | succ n =>
          rw [indentN_cons] at hn
          cases hw : whiteF x with
          | false => rw [hw] at hn; simp at hn
          | true =>
            rw [hw] at hn
            simp only [if_true] at hn
            have := ih (n := n) (by omega)
            unfold blankF at this ⊢
            simp [hw, this]
    rw [htake, hb] at hsplit
    simpa using hsplit.symm

def cutC (c : Int) (ls : List (List Int)) : List (List Int) := ls.take 1 ++ (ls.drop 1).map fun l => l.drop c.toNat
theorem cutF_eq (ls : List (List Int)) : cutF ls = cutC (leastF (-1) (ls.drop 1)) ls := by
  unfold cutF cutC commonF
  have : (if leastF (-1) (ls.drop 1) < 0 then (0 : Int) else leastF (-1) (ls.drop 1)).toNat = (leastF (-1) (ls.drop 1)).toNat := by split <;> omega
  simp only [this]
theorem cutC_length (c : Int) (ls : List (List Int)) : (cutC c ls).length = ls.length := by
  unfold cutC; simp; omega
theorem cutC_get {c : Int} {ls : List (List Int)} {i : Nat} (h : i < ls.length) : (cutC c ls)[i]'(by rw [cutC_length]; exact h) = if 0 < i then ls[i].drop c.toNat else ls[i] := by
  unfold cutC
  by_cases hi : 0 < i
  · rw [if_pos hi, List.getElem_append_right (by simp; omega)]
    simp
    congr 2
    omega
  · have : i = 0 := by omega
    subst this
    rw [if_neg hi, List.getElem_append_left (by simp; omega)]
    simp
theorem cut_blank (ls : List (List Int)) : ls.map blankF = (cutF ls).map blankF := by
  rw [cutF_eq]
  have hs := (leastF_spec (ls.drop 1) (-1)).2
  unfold cutC
  conv => lhs; rw [← List.take_append_drop 1 ls]
  rw [List.map_append, List.map_append, List.map_map]
  congr 1
  refine List.map_congr_left fun l hl => ?_
  simp only [Function.comp]
  refine (blank_drop fun hb => ?_).symm
  have := hs l hl hb
  unfold indentF at this
  omega
theorem limL_cutC {c : Int} {ls : List (List Int)} (h : limL ls = true) : limL (cutC c ls) = true := by
  unfold limL
  rw [cutC_length]
  have h0 := h
  simp only [limL, Bool.and_eq_true] at h
  rw [h.1, Bool.true_and, List.all_eq_true]
  intro x hx
  obtain ⟨i, hi, rfl⟩ := List.getElem_of_mem hx
  have hi2 : i < ls.length := by rw [cutC_length] at hi; exact hi
  rw [cutC_get hi2]
  have := lim4_iff.1 (limL_mem h0 (List.getElem_mem hi2))
  split
  · rw [lim4_iff, List.length_drop]; omega
  · exact limL_mem h0 (List.getElem_mem hi2)
theorem cut_blank_get {ls : List (List Int)} {i : Nat} (h : i < ls.length) : blankF ((cutF ls)[i]'(by rw [cutF_eq, cutC_length]; exact h)) = blankF ls[i] := by
  have h1 := cut_blank ls
  have h2 : (ls.map blankF)[i]'(by simpa using h) = ((cutF ls).map blankF)[i]'(by rw [List.length_map, cutF_eq, cutC_length]; exact h) := by simp only [h1]
  simpa using h2.symm
end Go.Aev
end

section
set_option linter.unusedVariables false
namespace Go.Aev
open Go.Proofs

theorem min_max_drop (c : Int) (l : List Int) : sub l (if (l.length : Int) < (if 0 > c then 0 else c) then (l.length : Int) else (if 0 > c then 0 else c)) (l.length : Int) = some (l.drop c.toNat) := by
  have h : (if (l.length : Int) < (if 0 > c then 0 else c) then (l.length : Int) else (if 0 > c then 0 else c)) = ((min c.toNat l.length : Nat) : Int) := by
    split <;> split <;> omega
  rw [h, sub_from (Nat.min_le_right _ _)]
  congr 1
  rcases Nat.le_total c.toNat l.length with h1 | h1
  · rw [Nat.min_eq_left h1]
  · rw [Nat.min_eq_right h1, List.drop_eq_nil_of_le h1, List.drop_eq_nil_of_le (Nat.le_refl _)]

/-- The lines' last loop. -/
theorem dedent_out (ls : List (List Int)) (hl : limL ls = true) (c : Int) (f b : Nat) (hfb : f ≤ b) (hb : b ≤ ls.length) (n : Nat) (hn : ls.length < n) :
    evLoop (lbC E12 (cdAt Tryd.f39 [1, 1, 1, 1, 1, 1, 1, 0, 1, 0, 0]) 10015 n) n (st12_15 ls c b [] f) (blockK 6 (seqK (evCode E12 n (cdAt Tryd.f39 [1, 1, 1, 1, 1, 1, 1, 1])) (retK Tryd.f39.results.toList))) =
      some (.one (.sl .rs (((cutC c ls).drop f).take (b - f)) (some 1))) := by
  have hlen := limL_len hl
  refine (loop_rule (fun x : Nat × List (List Int) => st12_15 ls c b x.2 x.1) (fun x => x.1 ≤ b ∧ x.2.length ≤ x.1) (fun x => b - x.1) (fun x => (some (.one (.sl .rs (x.2 ++ ((cutC c ls).drop x.1).take (b - x.1)) (some 1))) : Option E6)) ?_ n (f, []) ⟨hfb, by simp⟩ (by dsimp only; omega)).trans rfl
  rintro ⟨i, out⟩ ⟨hi, ho⟩ K hke hkr hnx
  dsimp only at hi ho hnx ⊢
  rw [lb12_15_eq]
  simp only [Bool.cond_decide]
  have hlc := cutC_length c ls
  by_cases h : i < b
  · have hil : i < ls.length := by omega
    rw [if_pos (by omega), idx_lt hil]
    dsimp only
    have hget := cutC_get (c := c) hil
    have hl4 := lim4_iff.1 (limL_mem hl (List.getElem_mem hil))
    have hr : room (out.length + 1) 24 = true := room_iff.2 (by omega)
    have hw : IntKind.wrap .i64 ((i : Int) + 1) = ((i + 1 : Nat) : Int) := wrapSucc (by omega)
    have hstep : ∀ y : List Int, y = (cutC c ls)[i]'(by rw [hlc]; exact hil) → y.length ≤ ls[i].length →
        (bif true && decide True then (match sub y 0 (y.length : Int) with | none => none | some y6 => (bif room (0 + List.length y6) 4 then (bif room (List.length out + 1) 24 then (K .normal (st12_15 ls c b (out ++ [y6]) (IntKind.wrap .i64 (i + 1)))) else none) else none)) else none) = some (.one (.sl .rs (out ++ ((cutC c ls).drop i).take (b - i)) (some 1))) := by
      intro y hy hle
      have h1 : (true && decide True) = true := by simp
      rw [h1, sub_all, cond_true]
      dsimp only
      have h2 : room (0 + y.length) 4 = true := room_iff.2 (by omega)
      rw [h2, hr, hw, cond_true, cond_true]
      rw [hnx (i + 1, out ++ [y]) ⟨by dsimp only; omega, by simp; omega⟩ (by dsimp only; omega)]
      dsimp only
      rw [List.drop_eq_getElem_cons (by rw [hlc]; exact hil : i < (cutC c ls).length)]
      have h3 : b - i = (b - (i + 1)) + 1 := by omega
      rw [h3, List.take_succ_cons, ← hy, List.append_assoc, List.singleton_append]
    by_cases h0 : i > 0
    · rw [if_pos (by omega), min_max_drop]
      rw [if_pos h0] at hget
      exact hstep _ hget.symm (by simp)
    · rw [if_neg (by omega)]
      rw [if_neg h0] at hget
      exact hstep _ hget.symm (Nat.le_refl _)
  · rw [if_neg (by omega), hke, ex12_15_6]
    have : b - i = 0 := by omega
    rw [this, List.take_zero, List.append_nil]

theorem dedent_behind (ls : List (List Int)) (hl : limL ls = true) (c : Int) (f : Nat) (hf : f ≤ ls.length) (n : Nat) (hn : ls.length < n) :
    evLoop (lbC E12 (cdAt Tryd.f39 [1, 1, 1, 1, 1, 0, 0, 0]) 10011 n) n (st12_11 ls c f (ls.length : Int)) (blockK 4 (seqK (evCode E12 n (cdAt Tryd.f39 [1, 1, 1, 1, 1, 1])) (retK Tryd.f39.results.toList))) =
      some (.one (.sl .rs (((cutC c ls).drop f).take (rt blankF (ls.drop f))) (some 1))) := by
  have hlen := limL_len hl
  have e0 : (ls.length : Int) = ((f + (ls.length - f) : Nat) : Int) := by omega
  rw [e0]
  refine (loop_rule (fun t : Nat => st12_11 ls c f ((f + t : Nat) : Int)) (fun t => f + t ≤ ls.length) (fun t => t) (fun t => (some (.one (.sl .rs (((cutC c ls).drop f).take (rt blankF ((ls.drop f).take t))) (some 1))) : Option E6)) ?_ n (ls.length - f) (by omega) (by omega)).trans (by rw [List.take_of_length_le (l := ls.drop f) (by simp)])
  intro t ht K hke hkr hnx
  rw [lb12_11_eq]
  simp only [bT, Bool.cond_decide]
  cases t with
  | zero =>
    rw [if_neg (by omega), hke, ex12_11_4_2, dedent_out ls hl c f (f + 0) (by omega) ht n hn]
    simp [rt]
  | succ t =>
    rw [if_pos (by omega)]
    have e : ((f + (t + 1) : Nat) : Int) = ((f + t + 1 : Nat) : Int) := by omega
    have hlt : f + t < ls.length := by omega
    have hlt2 : t < (ls.drop f).length := by simp; omega
    rw [e, wrapPred (by omega), idx_lt hlt]
    dsimp only
    rw [limL_mem hl (List.getElem_mem hlt), cond_true, rt_take blankF hlt2]
    have hg : (ls.drop f)[t] = ls[f + t] := by simp
    rw [hg]
    cases hb : blankF ls[f + t] with
    | true =>
      simp only [cond_true, if_true]
      exact hnx t (by omega) (by omega)
    | false =>
      simp only [cond_false]
      rw [hke, ex12_11_4, dedent_out ls hl c f (f + t + 1) (by omega) (by omega) n hn]
      have : f + t + 1 - f = t + 1 := by omega
      rw [this]
      simp

theorem dedent_first (ls : List (List Int)) (hl : limL ls = true) (c : Int) (n : Nat) (hn : ls.length < n) :
    evLoop (lbC E12 (cdAt Tryd.f39 [1, 1, 1, 1, 0, 0, 0]) 10009 n) n (st12_9 ls c 0 (ls.length : Int)) (blockK 2 (seqK (evCode E12 n (cdAt Tryd.f39 [1, 1, 1, 1, 1])) (retK Tryd.f39.results.toList))) =
      some (.one (.sl .rs (((cutC c ls).drop (tw blankF ls)).take (rt blankF (ls.drop (tw blankF ls)))) (some 1))) := by
  have hlen := limL_len hl
  refine (loop_rule (fun i : Nat => st12_9 ls c i (ls.length : Int)) (fun i => i ≤ ls.length) (fun i => ls.length - i) (fun i => (some (.one (.sl .rs (((cutC c ls).drop (i + tw blankF (ls.drop i))).take (rt blankF (ls.drop (i + tw blankF (ls.drop i))))) (some 1))) : Option E6)) ?_ n 0 (Nat.zero_le _) (by omega)).trans (by simp)
  intro i hi K hke hkr hnx
  rw [lb12_9_eq]
  simp only [bT, Bool.cond_decide]
  by_cases h : i < ls.length
  · rw [if_pos (by omega), idx_lt h]
    dsimp only
    rw [limL_mem hl (List.getElem_mem h), cond_true, tw_at blankF h]
    cases hb : blankF ls[i] with
    | true =>
      simp only [cond_true, if_true]
      rw [wrapSucc (by omega)]
      exact hnx (i + 1) (by omega) (by omega)
    | false =>
      simp only [cond_false]
      rw [hke, ex12_9_2]
      exact dedent_behind ls hl c i hi n hn
  · rw [if_neg (by omega), hke, ex12_9_2_2]
    have h2 : tw blankF (ls.drop i) = 0 := by rw [List.drop_eq_nil_of_le (by omega)]; rfl
    rw [h2]
    exact dedent_behind ls hl c i hi n hn

theorem dedent_ok (ls : List (List Int)) (hl : limL ls = true) (n : Nat) (hn : ls.length < n) : evFn E12 n Tryd.f39 [.sl .rs ls none] = some (.one (.sl .rs (dedentF ls) (some 1))) := by
  have hlen := limL_len hl
  have hgoal : ∀ c : Int, c = leastF (-1) (ls.drop 1) → some (.one (.sl .rs (((cutC c ls).drop (tw blankF ls)).take (rt blankF (ls.drop (tw blankF ls)))) (some 1))) = (some (.one (.sl .rs (dedentF ls) (some 1))) : Option E6) := by
    intro c hc
    subst hc
    rw [← cutF_eq]
    exact congrArg (fun x : List (List Int) => (some (.one (.sl .rs x (some 1))) : Option E6)) (trim_eq (cut_blank ls))
  rw [ev12]
  refine (loop_rule (fun x : Int × Nat => st12_3 ls x.1 ls (ls.length : Int) x.2) (fun x => leastF x.1 (ls.drop (max x.2 1)) = leastF (-1) (ls.drop 1)) (fun x => ls.length - x.2) (fun x => (some (.one (.sl .rs (dedentF ls) (some 1))) : Option E6)) ?_ n (-1, 0) rfl (by dsimp only; omega))
  rintro ⟨c, i⟩ hinv K hke hkr hnx
  dsimp only at hinv hnx ⊢
  rw [lb12_3_eq]
  simp only [bT, bF, Bool.cond_decide]
  by_cases h : i < ls.length
  · rw [if_pos (by omega), idx_lt h]
    dsimp only
    have hw : IntKind.wrap .i64 ((i : Int) + 1) = ((i + 1 : Nat) : Int) := wrapSucc (by omega)
    rw [limL_mem hl (List.getElem_mem h), hw]
    have hm : max (i + 1) 1 = i + 1 := by omega
    have h1 := fun c' (hc : leastF c' (ls.drop (i + 1)) = leastF (-1) (ls.drop 1)) => hnx (c', i + 1) (by dsimp only; rw [hm]; exact hc) (by dsimp only; omega)
    dsimp only at h1
    simp only [cond_true]
    by_cases h0 : i > 0
    · have hm2 : max i 1 = i := by omega
      rw [hm2, List.drop_eq_getElem_cons h, leastF_cons] at hinv
      rw [if_pos (by omega)]
      cases hb : blankF ls[i] with
      | true =>
        rw [hb] at hinv
        simp only [Bool.not_true, Bool.false_and, Bool.false_eq_true, if_false] at hinv
        simp only [Bool.not_true, cond_false]
        exact h1 _ hinv
      | false =>
        rw [hb] at hinv
        simp only [Bool.not_false, Bool.true_and] at hinv
        simp only [Bool.not_false, cond_true]
        by_cases c1 : c < 0
        · simp only [c1, decide_true, Bool.true_or, if_true] at hinv
          simp only [c1, decide_true, Bool.not_true, cond_false]
          exact h1 _ hinv
        · simp only [c1, decide_false, Bool.false_or] at hinv
          simp only [c1, decide_false, Bool.not_false, cond_true]
          by_cases c2 : indentF ls[i] < c
          · simp only [c2, decide_true, if_true] at hinv
            rw [if_pos c2]
            exact h1 _ hinv
          · simp only [c2, decide_false, Bool.false_eq_true, if_false] at hinv
            rw [if_neg c2]
            exact h1 _ hinv
    · have : i = 0 := by omega
      subst this
      rw [if_neg (by omega)]
      exact h1 _ hinv
  · rw [if_neg (by omega), hke, ex12_3_0, dedent_first ls hl c n hn]
    refine hgoal c ?_
    rw [List.drop_eq_nil_of_le (by omega)] at hinv
    exact hinv
end Go.Aev
end

section
set_option linter.unusedVariables false
namespace Go.Aev
open Go.Proofs

theorem commonF_nonneg (ls : List (List Int)) : 0 ≤ commonF ls := by
  unfold commonF
  dsimp only
  split <;> omega

theorem limL_dedent {ls : List (List Int)} (h : limL ls = true) : limL (dedentF ls) = true := by
  have h1 : limL (cutF ls) = true := limL_cutC h
  have h2 : ∀ x ∈ dedentF ls, x ∈ cutF ls := by
    intro x hx
    unfold dedentF trimF at hx
    have h3 := (List.dropWhile_suffix blankF).subset (List.mem_reverse.1 hx)
    exact (List.dropWhile_suffix blankF).subset (List.mem_reverse.1 h3)
  have h3 : (dedentF ls).length ≤ (cutF ls).length := by
    unfold dedentF trimF
    have a := (List.dropWhile_suffix (l := (List.dropWhile blankF (cutF ls)).reverse) blankF).length_le
    have b := (List.dropWhile_suffix (l := cutF ls) blankF).length_le
    simp only [List.length_reverse] at a ⊢
    omega
  have h4 := limL_len h1
  unfold limL
  simp only [Bool.and_eq_true, List.all_eq_true]
  exact ⟨room_iff.2 (by omega), fun x hx => limL_mem h1 (h2 x hx)⟩

end Go.Aev
end

section
set_option linter.unusedVariables false
namespace Go.Aev
open Go.Proofs

theorem w32 {n : Int} (h : -2147483648 ≤ n) (h2 : n ≤ 2147483647) : IntKind.wrap .i32 n = n := Go.IntWalk.i32_in n ⟨h, h2⟩
theorem w8 {n : Int} (h : 0 ≤ n) (h2 : n ≤ 255) : IntKind.wrap .u8 n = n := Go.IntWalk.u8_in n ⟨h, h2⟩
theorem wu32 {n : Int} (h : 0 ≤ n) (h2 : n ≤ 4294967295) : IntKind.wrap .u32 n = n := Go.IntWalk.u32_in n ⟨h, h2⟩

theorem digit_ok (c : Int) (n : Nat) : evFn E64 n Tryd.f90 [.int .i32 c] = some (.one (.bool (digitF c))) := by
  rw [ev64]
  unfold digitF
  by_cases h : 48 ≤ c <;> simp [h]
theorem digitF_iff {c : Int} : digitF c = true ↔ 48 ≤ c ∧ c ≤ 57 := by simp [digitF]
theorem hexF_range (c : Int) : -1 ≤ hexF c ∧ hexF c ≤ 15 := by
  unfold hexF
  split
  · rename_i h; have := digitF_iff.1 h; omega
  · split
    · rename_i h; simp at h; omega
    · split
      · rename_i h; simp at h; omega
      · omega
theorem hex_ok (c : Int) (n : Nat) : evFn E63 n Tryd.f85 [.int .i32 c] = some (.one (.int .i64 (hexF c))) := by
  rw [ev63]
  unfold hexF
  cases hd : digitF c with
  | true =>
    have h := digitF_iff.1 hd
    simp only [cond_true, if_true]
    rw [w32 (by omega) (by omega), wrap64 (by omega) (by omega)]
  | false =>
    by_cases h1 : 97 ≤ c
    · by_cases h2 : c ≤ 102
      · simp [h1, h2]
        rw [w32 (by omega) (by omega), wrap64 (n := c - 97) (by omega) (by omega), wrap64 (by omega) (by omega)]
        omega
      · have h3 : ¬ c ≤ 70 := by omega
        simp [h1, h2, h3]
    · by_cases h3 : 65 ≤ c
      · by_cases h4 : c ≤ 70
        · simp [h1, h3, h4]
          rw [w32 (by omega) (by omega), wrap64 (n := c - 65) (by omega) (by omega), wrap64 (by omega) (by omega)]
          omega
        · simp [h1, h3, h4]
      · simp [h1, h3]
theorem join_ok (a b : Int) (n : Nat) : evFn E58 n Tryd.f79 [.int .i32 a, .int .i32 b] = some (.tup [.int .i32 (joinF a b).1, .bool (joinF a b).2]) := by
  rw [ev58]
  unfold joinF
  by_cases h1 : a < 55296
  · simp [h1]
  · by_cases h2 : 56320 ≤ a
    · simp [h1, h2]
    · by_cases h3 : b < 56320
      · simp [h1, h2, h3]
      · by_cases h4 : 57344 ≤ b
        · simp [h1, h2, h3, h4]
        · simp [h1, h2, h3, h4]
          rw [w32 (n := a - 55296) (by omega) (by omega), w32 (n := (a - 55296) * 1024) (by omega) (by omega), w32 (n := 65536 + _) (by omega) (by omega), w32 (n := b - 56320) (by omega) (by omega), w32 (by omega) (by omega)]
theorem source_ok (c : Int) (n : Nat) : evFn E32 n Tryd.f25 [.int .i32 c] = some (.one (.bool (sourceF c))) := by
  rw [ev32]
  unfold sourceF
  by_cases h : c < 32
  · cases h1 : c == 9 <;> cases h2 : c == 10 <;> simp [h, h1, h2]
  · by_cases h1 : c ≤ 65535
    · by_cases h2 : c < 55296 <;> simp [h, h1, h2]
    · simp [h, h1]
theorem valid_ok (c : Int) (n : Nat) : evFn E44 n Tryd.f52 [.int .i32 c] = some (.one (.bool (validF c))) := by
  rw [ev44]
  unfold validF
  by_cases h1 : 0 ≤ c
  · by_cases h2 : c < 55296
    · simp [h1, h2]
    · by_cases h3 : 57343 < c
      · by_cases h4 : c ≤ 1114111 <;> simp [h1, h2, h3, h4]
      · simp [h1, h2, h3]
  · have h3 : ¬ 57343 < c := by omega
    simp [h1, h3]
theorem scalar_ok (c : Int) (n : Nat) : evFn E61 n Tryd.f60 [.int .i32 c] = some (.one (.bool (validF c))) := by
  rw [ev61]
  unfold validF
  by_cases h1 : 55296 ≤ c
  · by_cases h2 : c ≤ 57343
    · have h3 : ¬ 57343 < c := by omega
      have h4 : ¬ c < 55296 := by omega
      simp [h1, h2, h3, h4]
    · have h3 : 57343 < c := by omega
      have h4 : ¬ c < 55296 := by omega
      have h5 : 0 ≤ c := by omega
      simp [h1, h2, h3, h4, h5]
  · have h4 : c < 55296 := by omega
    have h3 : ¬ 57343 < c := by omega
    by_cases h5 : 0 ≤ c
    · have h6 : c ≤ 1114111 := by omega
      simp [h1, h4, h5, h6]
    · simp [h1, h4, h5, h3]
theorem rsource_ok (c : Int) (n : Nat) : evFn E53 n Tryd.f30 [.int .i32 c] = some (.one (.bool (sourceF c))) := by
  rw [ev53]
  unfold sourceF
  by_cases h : c < 32
  · have e : inF c [9, 10, 13] = (c == 9 || (c == 10 || c == 13)) := by
      simp only [inF, List.any_cons, List.any_nil, Bool.or_false, show ((9 : UInt8).toNat : Int) = 9 from rfl, show ((10 : UInt8).toNat : Int) = 10 from rfl, show ((13 : UInt8).toNat : Int) = 13 from rfl]
      rw [BEq.comm (a := 9) (b := c), BEq.comm (a := 10) (b := c), BEq.comm (a := 13) (b := c)]
    simp only [h, decide_true, cond_true, if_true]
    rw [e]
    rfl
  · by_cases h1 : c ≤ 65535
    · have h2 : c < 65536 := by omega
      have e : validF c = (decide (c < 55296) || decide (57344 ≤ c)) := by
        unfold validF
        rw [Bool.eq_iff_iff]
        simp
        omega
      simp [h, h1, h2, e]
    · have h2 : ¬ c < 65536 := by omega
      simp [h, h1, h2]
theorem u8byte (b : UInt8) : 0 ≤ (b.toNat : Int) ∧ (b.toNat : Int) ≤ 255 := by have := b.toNat_lt; omega
theorem in_ok (c : Int) (t : List UInt8) (hl : room t.length 1 = true) (n : Nat) (hn : t.length < n) : evFn E62 n Tryd.f59 [.int .i32 c, .str t] = some (.one (.bool (inF c t))) := by
  have hlen := room_iff.1 hl
  rw [ev62]
  refine (loop_rule (fun i : Nat => st62_2 c t i) (fun i => i ≤ t.length) (fun i => t.length - i) (fun i => (some (.one (.bool (inF c (t.drop i)))) : Option E6)) ?_ n 0 (Nat.zero_le _) (by omega))
  intro i hi K hke hkr hnx
  rw [lb62_2_eq]
  by_cases h : i < t.length
  · rw [decide_eq_true (by omega : (i : Int) < (t.length : Int)), cond_true, idx_lt h]
    dsimp only
    have hb := u8byte t[i]
    rw [w32 (by omega) (by omega), List.drop_eq_getElem_cons h]
    unfold inF
    rw [List.any_cons]
    cases hc : (t[i].toNat : Int) == c with
    | true => rw [cond_true, Bool.true_or]; exact (hkr _).trans rfl
    | false =>
      rw [cond_false, wrapSucc (by omega), hnx (i + 1) (by omega) (by omega)]
      simp [inF]
  · rw [decide_eq_false (by omega : ¬ (i : Int) < (t.length : Int)), cond_false, hke, ex62_2_0, List.drop_eq_nil_of_le (by omega)]
    rfl
end Go.Aev
end

section
set_option linter.unusedVariables false
namespace Go.Aev
open Go.Proofs

/-! ### hex digits by a table -/
def smallT : List UInt8 := [48, 49, 50, 51, 52, 53, 54, 55, 56, 57, 97, 98, 99, 100, 101, 102]
def largeT : List UInt8 := [48, 49, 50, 51, 52, 53, 54, 55, 56, 57, 65, 66, 67, 68, 69, 70]
theorem hexT : ∀ i : Fin 16, hexF ((smallT[i.1]'i.2).toNat : Int) = i.1 ∧ hexF ((largeT[i.1]'i.2).toNat : Int) = i.1 := by decide
theorem hex_found {c : Int} (h : 0 ≤ hexF c) : ∃ j : Nat, ∃ hj : j < 16, ((smallT[j]'hj).toNat : Int) = c ∨ ((largeT[j]'hj).toNat : Int) = c := by
  have : (c = 48 ∨ c = 49 ∨ c = 50 ∨ c = 51 ∨ c = 52 ∨ c = 53 ∨ c = 54 ∨ c = 55 ∨ c = 56 ∨ c = 57) ∨ (c = 97 ∨ c = 98 ∨ c = 99 ∨ c = 100 ∨ c = 101 ∨ c = 102) ∨ (c = 65 ∨ c = 66 ∨ c = 67 ∨ c = 68 ∨ c = 69 ∨ c = 70) := by
    unfold hexF at h
    split at h
    · rename_i h1; have := digitF_iff.1 h1; left; omega
    · split at h
      · rename_i h1; simp at h1; right; left; omega
      · split at h
        · rename_i h1; simp at h1; right; right; omega
        · omega
  rcases this with (h | h | h | h | h | h | h | h | h | h) | (h | h | h | h | h | h) | (h | h | h | h | h | h)
  · exact ⟨0, by omega, .inl (by rw [h]; rfl)⟩
  · exact ⟨1, by omega, .inl (by rw [h]; rfl)⟩
  · exact ⟨2, by omega, .inl (by rw [h]; rfl)⟩
  · exact ⟨3, by omega, .inl (by rw [h]; rfl)⟩
  · exact ⟨4, by omega, .inl (by rw [h]; rfl)⟩
  · exact ⟨5, by omega, .inl (by rw [h]; rfl)⟩
  · exact ⟨6, by omega, .inl (by rw [h]; rfl)⟩
  · exact ⟨7, by omega, .inl (by rw [h]; rfl)⟩
  · exact ⟨8, by omega, .inl (by rw [h]; rfl)⟩
  · exact ⟨9, by omega, .inl (by rw [h]; rfl)⟩
  · exact ⟨10, by omega, .inl (by rw [h]; rfl)⟩
  · exact ⟨11, by omega, .inl (by rw [h]; rfl)⟩
  · exact ⟨12, by omega, .inl (by rw [h]; rfl)⟩
  · exact ⟨13, by omega, .inl (by rw [h]; rfl)⟩
  · exact ⟨14, by omega, .inl (by rw [h]; rfl)⟩
  · exact ⟨15, by omega, .inl (by rw [h]; rfl)⟩
  · exact ⟨10, by omega, .inr (by rw [h]; rfl)⟩
  · exact ⟨11, by omega, .inr (by rw [h]; rfl)⟩
  · exact ⟨12, by omega, .inr (by rw [h]; rfl)⟩
  · exact ⟨13, by omega, .inr (by rw [h]; rfl)⟩
  · exact ⟨14, by omega, .inr (by rw [h]; rfl)⟩
  · exact ⟨15, by omega, .inr (by rw [h]; rfl)⟩

/-! ### four hex digits -/
theorem hexAcc_nil (m : Int) : hexAcc m [] = m := rfl
theorem hexAcc_cons (m c : Int) (r : List Int) : hexAcc m (c :: r) = if hexF c < 0 then -1 else hexAcc (m * 16 + hexF c) r := rfl

theorem hex4_ok (l : List Int) (hl : lim4 l = true) (n : Nat) (hn : 4 < n) : evFn E57 n Tryd.f78 [.sl .i32 l none] = some (.one (.int .i32 (hex4F l))) := by
  have hlen := lim4_len hl
  rw [ev57]
  unfold hex4F
  by_cases h : l.length < 4
  · rw [decide_eq_true (by omega : (l.length : Int) < 4), cond_true, if_pos h]
  · rw [decide_eq_false (by omega : ¬ (l.length : Int) < 4), cond_false, if_neg h, show (4 : Int) = ((4 : Nat) : Int) from rfl, show (0 : Int) = ((0 : Nat) : Int) from rfl, sub_nat (by omega) (by omega)]
    dsimp only
    simp only [List.drop_zero, Nat.sub_zero]
    generalize hm : l.take 4 = m
    have hml : m.length = 4 := by rw [← hm, List.length_take]; omega
    refine (loop_rule (fun p : Int × Nat => st57_5 p.1 m (m.length : Int) p.2) (fun p => p.2 ≤ 4 ∧ 0 ≤ p.1 ∧ p.1 < 16 ^ p.2) (fun p => 4 - p.2) (fun p => (some (.one (.int .i32 (hexAcc p.1 (m.drop p.2)))) : Option E6)) ?_ n (0, 0) (by simp) (by simp only; omega)).trans rfl
    rintro ⟨a, i⟩ ⟨hi, ha, ha2⟩ K hke hkr hnx
    dsimp only at hi ha ha2 hnx ⊢
    rw [lb57_5_eq]
    by_cases hlt : i < 4
    · rw [decide_eq_true (by omega : (i : Int) < (m.length : Int)), cond_true, idx_lt (by omega)]
      dsimp only
      rw [List.drop_eq_getElem_cons (by omega), hexAcc_cons]
      have hr := hexF_range m[i]
      have hp : (16 : Int) ^ i ≤ 16 ^ 3 := by
        have : i = 0 ∨ i = 1 ∨ i = 2 ∨ i = 3 := by omega
        rcases this with rfl | rfl | rfl | rfl <;> decide
      by_cases hx : hexF m[i] < 0
      · rw [decide_eq_true hx, cond_true, if_pos hx]
        exact (hkr _).trans rfl
      · rw [decide_eq_false hx, cond_false, if_neg hx, w32 (n := a * 16) (by omega) (by omega), w32 (n := hexF m[i]) (by omega) (by omega), w32 (by omega) (by omega), wrapSucc (by omega)]
        refine hnx (a * 16 + hexF m[i], i + 1) ⟨by simp; omega, by simp; omega, ?_⟩ (by simp; omega)
        show a * 16 + hexF m[i] < 16 ^ (i + 1)
        rw [Int.pow_succ]; omega
    · rw [decide_eq_false (by omega : ¬ (i : Int) < (m.length : Int)), cond_false, hke, ex57_5_0, List.drop_eq_nil_of_le (by omega)]
      rfl

theorem hexAcc_range (m : List Int) : ∀ (a : Int) (k : Nat), 0 ≤ a → a < 16 ^ k → -1 ≤ hexAcc a m ∧ hexAcc a m < 16 ^ (k + m.length) := by
  induction m with
  | nil => intro a k h1 h2; simp [hexAcc]; omega
  | cons c r ih =>
    intro a k h1 h2
    rw [hexAcc_cons]
    have hr := hexF_range c
    have hp : (0 : Int) < 16 ^ (k + (c :: r).length) := Int.pow_pos (by omega)
    split
    · omega
    · have := ih (a * 16 + hexF c) (k + 1) (by omega) (by rw [Int.pow_succ]; omega)
      rw [List.length_cons, show k + (r.length + 1) = k + 1 + r.length by omega]
      exact this
theorem hex4F_range (l : List Int) : -1 ≤ hex4F l ∧ hex4F l ≤ 65535 := by
  unfold hex4F
  split
  · omega
  · rename_i h
    have := hexAcc_range (l.take 4) 0 0 (by omega) (by simp)
    have hl : (l.take 4).length = 4 := by rw [List.length_take]; omega
    rw [hl] at this
    simp at this
    omega
theorem hex4F_short {l : List Int} (h : l.length < 4) : hex4F l = -1 := by unfold hex4F; rw [if_pos h]

/-! ### escapes -/
theorem get_drop {l : List Int} {i : Nat} (h : i < l.length) : l.drop i = l[i] :: l.drop (i + 1) := List.drop_eq_getElem_cons h
theorem codedF_join (l : List Int) (h1 : ¬ hex4F l < 0) (h2 : 55296 ≤ hex4F l) (h3 : hex4F l ≤ 56319) : codedF l = if 10 ≤ l.length ∧ l[4]? = some 92 ∧ l[5]? = some 117 ∧ (joinF (hex4F l) (hex4F (l.drop 6))).2 = true then ((joinF (hex4F l) (hex4F (l.drop 6))).1, 12) else (0, 0) := by
  unfold codedF
  dsimp only
  rw [if_neg (by omega), if_neg (by omega)]
theorem codedF_bad (l : List Int) (h : hex4F l < 0 ∨ (56320 ≤ hex4F l ∧ hex4F l ≤ 57343)) : codedF l = (0, 0) := by
  unfold codedF
  dsimp only
  rw [if_pos h]
theorem codedF_plain (l : List Int) (h1 : ¬ hex4F l < 0) (h : hex4F l < 55296 ∨ 57343 < hex4F l) : codedF l = (hex4F l, 6) := by
  unfold codedF
  dsimp only
  rw [if_neg (by omega), if_pos h]
end Go.Aev
end

section
set_option linter.unusedVariables false
namespace Go.Aev
open Go.Proofs

theorem lim4_drop {l : List Int} (h : lim4 l = true) (k : Nat) : lim4 (l.drop k) = true := by
  have := lim4_iff.1 h
  exact lim4_iff.2 (by rw [List.length_drop]; omega)
theorem bneT {a b : Int} (h : a ≠ b) : (a != b) = true := bne_iff_ne.2 h
theorem bneF {a b : Int} (h : a = b) : (a != b) = false := by rw [h]; exact bne_self_eq_false _
theorem beqT {a b : Int} (h : a = b) : (a == b) = true := beq_iff_eq.2 h
theorem beqF {a b : Int} (h : a ≠ b) : (a == b) = false := beq_false_of_ne h

theorem coded_ok (l : List Int) (hl : lim4 l = true) (h2 : 2 ≤ l.length) (n : Nat) : evFn E43 n Tryd.f67 [.sl .i32 l none] = some (.tup [.int .i32 (codedF (l.drop 2)).1, .int .i64 (codedF (l.drop 2)).2]) := by
  have hlen := lim4_len hl
  rw [ev43, show (2 : Int) = ((2 : Nat) : Int) from rfl, sub_from h2]
  dsimp only
  rw [lim4_drop hl 2, cond_true]
  have hlm : (l.drop 2).length = l.length - 2 := List.length_drop
  generalize hm : l.drop 2 = m at hlm ⊢
  have hr := hex4F_range m
  by_cases c1 : hex4F m < 0
  · rw [codedF_bad m (.inl c1), decide_eq_true c1]; rfl
  rw [decide_eq_false c1]
  by_cases c2 : 56320 ≤ hex4F m
  · by_cases c3 : hex4F m ≤ 57343
    · rw [codedF_bad m (.inr ⟨c2, c3⟩), decide_eq_true (show hex4F m ≥ 56320 from c2), decide_eq_true c3]; rfl
    · rw [codedF_plain m c1 (.inr (by omega)), decide_eq_true (show hex4F m ≥ 56320 from c2), decide_eq_false c3, decide_eq_false (by omega : ¬ hex4F m < 55296), decide_eq_true (by omega : hex4F m > 57343)]; rfl
  · rw [decide_eq_false (show ¬ hex4F m ≥ 56320 from c2)]
    by_cases c3 : hex4F m < 55296
    · rw [codedF_plain m c1 (.inl c3), decide_eq_true c3]; rfl
    · rw [decide_eq_false c3, decide_eq_false (by omega : ¬ hex4F m > 57343), codedF_join m c1 (by omega) (by omega)]
      by_cases c4 : l.length < 12
      · rw [decide_eq_true (by omega : (l.length : Int) < 12), if_neg (fun h => by omega)]; rfl
      · rw [decide_eq_false (by omega : ¬ (l.length : Int) < 12)]
        have e6 : idx l 6 = some (m[4]'(by omega)) := by
          rw [show (6 : Int) = ((6 : Nat) : Int) from rfl, idx_lt (by omega)]
          subst hm
          simp
        have e7 : idx l 7 = some (m[5]'(by omega)) := by
          rw [show (7 : Int) = ((7 : Nat) : Int) from rfl, idx_lt (by omega)]
          subst hm
          simp
        have e8 : sub l 8 (l.length : Int) = some (m.drop 6) := by
          rw [show (8 : Int) = ((8 : Nat) : Int) from rfl, sub_from (by omega)]
          subst hm
          simp
        have hl8 : lim4 (m.drop 6) = true := by rw [← hm]; exact lim4_drop (lim4_drop hl 2) 6
        rw [e6, e7, e8, List.getElem?_eq_getElem (by omega : 4 < m.length), List.getElem?_eq_getElem (by omega : 5 < m.length)]
        generalize m[4] = x
        generalize m[5] = y
        by_cases d1 : x = 92
        · subst d1
          by_cases d2 : y = 117
          · subst d2
            dsimp only
            rw [hl8]
            cases hj : (joinF (hex4F m) (hex4F (m.drop 6))).2 with
            | true => rw [if_pos ⟨by omega, rfl, rfl, rfl⟩]; rfl
            | false => rw [if_neg (fun h => by cases h.2.2.2)]; rfl
          · dsimp only
            rw [bneT d2, if_neg (fun h => d2 (Option.some.inj h.2.2.1))]; rfl
        · dsimp only
          rw [bneT d1, if_neg (fun h => d1 (Option.some.inj h.2.1))]; rfl

theorem escF_two (c : Int) (l : List Int) (h : 2 ≤ l.length) : escF l = if 0 ≤ shortF l[1] then (shortF l[1], 2) else if l[1] = 117 then codedF (l.drop 2) else (0, 0) := by
  match l, h with
  | _ :: _ :: _, _ => rfl
theorem escF_one {l : List Int} (h : l.length < 2) : escF l = (0, 0) := by
  match l, h with
  | [], _ => rfl
  | [_], _ => rfl

theorem esc_ok (l : List Int) (hl : lim4 l = true) (n : Nat) : evFn E31 n Tryd.f41 [.sl .i32 l none] = some (.tup [.int .i32 (escF l).1, .int .i64 (escF l).2]) := by
  have hlen := lim4_len hl
  rw [ev31]
  by_cases h : l.length < 2
  · rw [decide_eq_true (by omega : (l.length : Int) < 2), cond_true, escF_one h]
  · rw [decide_eq_false (by omega : ¬ (l.length : Int) < 2), cond_false, show (1 : Int) = ((1 : Nat) : Int) from rfl, idx_lt (by omega), escF_two 0 l (by omega), hl, decide_eq_true (by omega : 2 ≤ l.length)]
    dsimp only
    generalize l[1] = c
    by_cases c1 : c = 34
    · subst c1; rfl
    rw [beqF c1]
    by_cases c2 : c = 92
    · subst c2; rfl
    rw [beqF c2]
    by_cases c3 : c = 47
    · subst c3; rfl
    rw [beqF c3]
    by_cases c4 : c = 98
    · subst c4; rfl
    rw [beqF c4]
    by_cases c5 : c = 102
    · subst c5; rfl
    rw [beqF c5]
    by_cases c6 : c = 110
    · subst c6; rfl
    rw [beqF c6]
    by_cases c7 : c = 114
    · subst c7; rfl
    rw [beqF c7]
    by_cases c8 : c = 116
    · subst c8; rfl
    rw [beqF c8]
    have hs : shortF c = -1 := by unfold shortF; rw [if_neg (by omega), if_neg c4, if_neg c5, if_neg c6, if_neg c7, if_neg c8]
    rw [hs]
    by_cases c9 : c = 117
    · subst c9; rfl
    · rw [beqF c9, if_neg c9]; rfl

def namesT : List UInt8 := [34, 92, 47, 98, 102, 110, 114, 116]
def meansT : List UInt8 := [34, 92, 47, 8, 12, 10, 13, 9]
theorem shortT : ∀ i : Fin 8, shortF ((namesT[i.1]'i.2).toNat : Int) = ((meansT[i.1]'i.2).toNat : Int) := by decide
theorem short_none {c : Int} (h : ∀ j : Nat, ∀ hj : j < 8, ((namesT[j]'hj).toNat : Int) ≠ c) : shortF c = -1 := by
  have h0 : (34 : Int) ≠ c := h 0 (by omega)
  have h1 : (92 : Int) ≠ c := h 1 (by omega)
  have h2 : (47 : Int) ≠ c := h 2 (by omega)
  have h3 : (98 : Int) ≠ c := h 3 (by omega)
  have h4 : (102 : Int) ≠ c := h 4 (by omega)
  have h5 : (110 : Int) ≠ c := h 5 (by omega)
  have h6 : (114 : Int) ≠ c := h 6 (by omega)
  have h7 : (116 : Int) ≠ c := h 7 (by omega)
  unfold shortF
  rw [if_neg (by omega), if_neg (by omega), if_neg (by omega), if_neg (by omega), if_neg (by omega), if_neg (by omega)]
end Go.Aev
end

section
set_option linter.unusedVariables false
namespace Go.Aev
open Go.Proofs

/-! ### the bytes of a character -/
theorem t2B : ∀ x : Fin 32, bits .or .u8 192 (x.1 : Int) = 192 + x.1 := by decide +kernel
theorem t3B : ∀ x : Fin 16, bits .or .u8 224 (x.1 : Int) = 224 + x.1 := by decide +kernel
theorem t4B : ∀ x : Fin 8, bits .or .u8 240 (x.1 : Int) = 240 + x.1 := by decide +kernel
theorem txB : ∀ x : Fin 256, bits .or .u8 128 (bits .and .u8 (x.1 : Int) 63) = 128 + (x.1 : Int) % 64 := by decide +kernel
theorem t2I {x : Int} (h : 0 ≤ x) (h2 : x < 32) : bits .or .u8 192 (IntKind.wrap .u8 x) = 192 + x := by
  rw [w8 h (by omega)]
  have := t2B ⟨x.toNat, by omega⟩
  dsimp only at this
  rw [show ((x.toNat : Nat) : Int) = x by omega] at this
  exact this
theorem t3I {x : Int} (h : 0 ≤ x) (h2 : x < 16) : bits .or .u8 224 (IntKind.wrap .u8 x) = 224 + x := by
  rw [w8 h (by omega)]
  have := t3B ⟨x.toNat, by omega⟩
  dsimp only at this
  rw [show ((x.toNat : Nat) : Int) = x by omega] at this
  exact this
theorem t4I {x : Int} (h : 0 ≤ x) (h2 : x < 8) : bits .or .u8 240 (IntKind.wrap .u8 x) = 240 + x := by
  rw [w8 h (by omega)]
  have := t4B ⟨x.toNat, by omega⟩
  dsimp only at this
  rw [show ((x.toNat : Nat) : Int) = x by omega] at this
  exact this
theorem txI {x : Int} : bits .or .u8 128 (bits .and .u8 (IntKind.wrap .u8 x) 63) = 128 + x % 64 := by
  rw [IntKind.wrap_u8]
  have := txB ⟨(x % 256).toNat, by omega⟩
  dsimp only at this
  rw [show (((x % 256).toNat : Nat) : Int) = x % 256 by omega] at this
  rw [this]
  omega
theorem validF_iff {c : Int} : validF c = true ↔ (0 ≤ c ∧ c < 55296) ∨ (57343 < c ∧ c ≤ 1114111) := by simp [validF]
theorem u8F_len (c : Int) : 1 ≤ (u8F c).length ∧ (u8F c).length ≤ 4 := by
  unfold u8F
  split
  · simp
  · split
    · simp
    · split <;> simp
theorem room_le {n m b : Nat} (h : room m b = true) (hn : n ≤ m) : room n b = true := by
  have := room_iff.1 h
  exact room_iff.2 (Nat.le_trans (Nat.mul_le_mul_right b hn) this)

theorem appendNon_ok (l : List Int) (c : Int) (hr : room (l.length + 4) 1 = true) (hv : validF c = true) (hc : 128 ≤ c) (n : Nat) :
    evFn E59 n Tryd.f75 [.sl .u8 l (some 0), .int .i32 c] = some (.one (.sl .u8 (catI l (u8F c)) (some 0))) := by
  have h := validF_iff.1 hv
  rw [ev59, wu32 (by omega) (by omega), room_le hr (by omega : l.length + 2 ≤ l.length + 4), room_le hr (by omega : l.length + 3 ≤ l.length + 4), hr]
  have e6 : c / 2 ^ (Int.toNat 6) = c / 64 := rfl
  have e12 : c / 2 ^ (Int.toNat 12) = c / 4096 := rfl
  have e18 : c / 2 ^ (Int.toNat 18) = c / 262144 := rfl
  rw [e6, e12, e18, txI, txI, txI]
  unfold u8F catI
  rw [if_neg (by omega)]
  by_cases h1 : c < 2048
  · rw [decide_eq_true (by omega : c ≤ 2047), if_pos h1, t2I (by omega) (by omega)]; rfl
  rw [decide_eq_false (by omega : ¬ c ≤ 2047), if_neg h1]
  by_cases h2 : c < 65536
  · rw [if_pos h2, t3I (by omega) (by omega), decide_eq_false (by omega : ¬ c > 65535), decide_eq_true (by omega : c ≤ 65535)]
    by_cases h3 : c < 55296
    · rw [decide_eq_true h3]; rfl
    · rw [decide_eq_false h3, decide_eq_true (by omega : 57343 < c)]; rfl
  · rw [if_neg h2, t4I (by omega) (by omega), decide_eq_false (by omega : ¬ c < 55296), decide_eq_true (by omega : 57343 < c), decide_eq_false (by omega : ¬ c ≤ 65535), decide_eq_true (by omega : c > 65535), decide_eq_true (by omega : c ≤ 1114111)]
    rfl
theorem append_ok (l : List Int) (c : Int) (hr : room (l.length + 4) 1 = true) (hv : validF c = true) (n : Nat) :
    evFn E45 n Tryd.f53 [.sl .u8 l (some 0), .int .i32 c] = some (.one (.sl .u8 (catI l (u8F c)) (some 0))) := by
  have h := validF_iff.1 hv
  rw [ev45, wu32 (by omega) (by omega), room_le hr (by omega : l.length + 1 ≤ l.length + 4), hr, hv]
  by_cases h1 : c < 128
  · rw [decide_eq_true (by omega : c ≤ 127), w8 (by omega) (by omega)]
    unfold u8F catI
    rw [if_pos h1]; rfl
  · rw [decide_eq_false (by omega : ¬ c ≤ 127), decide_eq_true (by omega : 128 ≤ c)]; rfl

theorem put_ok (c : Int) (n : Nat) : evFn E50 n Tryd.f64 [.int .i32 c] = some (.one (.sl .u8 (putF c) (some 1))) := by
  rw [ev50]
  unfold putF
  cases hv : validF c with
  | false => rfl
  | true =>
    have h := validF_iff.1 hv
    have d1 : Int.tdiv c 64 = c / 64 := Int.tdiv_eq_ediv_of_nonneg (by omega)
    have d2 : Int.tdiv c 4096 = c / 4096 := Int.tdiv_eq_ediv_of_nonneg (by omega)
    have d3 : Int.tdiv c 262144 = c / 262144 := Int.tdiv_eq_ediv_of_nonneg (by omega)
    rw [d1, d2, d3, w32 (n := c / 64) (by omega) (by omega), w32 (n := c / 4096) (by omega) (by omega), w32 (n := c / 262144) (by omega) (by omega)]
    have m1 : Int.tmod c 64 = c % 64 := Int.tmod_eq_emod_of_nonneg (by omega)
    have m2 : Int.tmod (c / 64) 64 = c / 64 % 64 := Int.tmod_eq_emod_of_nonneg (by omega)
    have m3 : Int.tmod (c / 4096) 64 = c / 4096 % 64 := Int.tmod_eq_emod_of_nonneg (by omega)
    rw [m1, m2, m3, w32 (n := 128 + c % 64) (by omega) (by omega), w32 (n := 128 + c / 64 % 64) (by omega) (by omega), w32 (n := 128 + c / 4096 % 64) (by omega) (by omega), w32 (n := 192 + c / 64) (by omega) (by omega), w32 (n := 224 + c / 4096) (by omega) (by omega), w32 (n := 240 + c / 262144) (by omega) (by omega),
      w8 (n := 128 + c % 64) (by omega) (by omega), w8 (n := 128 + c / 64 % 64) (by omega) (by omega), w8 (n := 128 + c / 4096 % 64) (by omega) (by omega)]
    unfold u8F
    show (bif false then _ else _) = _
    rw [cond_false, if_pos rfl]
    by_cases h1 : c < 128
    · rw [decide_eq_true h1, if_pos h1, w8 (by omega) (by omega)]; rfl
    rw [decide_eq_false h1, if_neg h1]
    by_cases h2 : c < 2048
    · rw [decide_eq_true h2, if_pos h2, w8 (n := 192 + c / 64) (by omega) (by omega)]; rfl
    rw [decide_eq_false h2, if_neg h2]
    by_cases h3 : c < 65536
    · rw [decide_eq_true h3, if_pos h3, w8 (n := 224 + c / 4096) (by omega) (by omega)]; rfl
    · rw [decide_eq_false h3, if_neg h3, w8 (n := 240 + c / 262144) (by omega) (by omega)]; rfl

/-! ### texts -/
theorem flat_u8F_len (l : List Int) : (l.flatMap u8F).length ≤ 4 * l.length := by
  induction l with
  | nil => simp
  | cons c l ih => have := u8F_len c; simp only [List.flatMap_cons, List.length_append, List.length_cons]; omega
theorem encF_go (l : List Int) (i : Nat) (h : i ≤ l.length) (hp : (l.take i).all validF = true) : (if (l.drop i).all validF then (encB l, true) else (([] : List UInt8), false)) = encF l := by
  unfold encF
  have : l.all validF = ((l.take i).all validF && (l.drop i).all validF) := by rw [← List.all_append, List.take_append_drop]
  rw [this, hp, Bool.true_and]
theorem take_flat {l : List Int} {i : Nat} (h : i < l.length) : (l.take (i + 1)).flatMap u8F = (l.take i).flatMap u8F ++ u8F l[i] := by
  rw [List.take_succ_eq_append_getElem h, List.flatMap_append]; simp
theorem flat_take_len (l : List Int) (i : Nat) : ((l.take i).flatMap u8F).length ≤ 4 * i := by
  have := flat_u8F_len (l.take i)
  have h2 : (l.take i).length ≤ i := List.length_take_le _ _
  omega

theorem enc_ok (l : List Int) (hl : lim4 l = true) (n : Nat) (hn : l.length < n) : evFn E33 n Tryd.f22 [.sl .i32 l none] = some (.tup [.str (encF l).1, .bool (encF l).2]) := by
  have hlen := lim4_iff.1 hl
  rw [ev33]
  refine (loop_rule (fun i : Nat => st33_3 ((l.take i).flatMap u8F) l (l.length : Int) i) (fun i => i ≤ l.length ∧ (l.take i).all validF = true) (fun i => l.length - i) (fun i => (some (.tup [.str (encF l).1, .bool (encF l).2]) : Option E6)) ?_ n 0 ⟨Nat.zero_le _, rfl⟩ (by omega))
  intro i ⟨hi, hp⟩ K hke hkr hnx
  have hfl := flat_take_len l i
  have hgo := encF_go l i hi hp
  rw [lb33_3_eq]
  by_cases h : i < l.length
  · rw [decide_eq_true (by omega : (i : Int) < (l.length : Int)), cond_true, idx_lt h]
    dsimp only
    rw [List.drop_eq_getElem_cons h, List.all_cons] at hgo
    cases hv : validF l[i] with
    | false =>
      rw [hv] at hgo
      show (bif true then _ else _) = _
      rw [cond_true, ← hgo]
      exact (hkr _).trans rfl
    | true =>
      show (bif false then _ else (bif _ && true then _ else _)) = _
      rw [cond_false, room_iff.2 (by omega), Bool.and_true, cond_true, wrapSucc (by omega)]
      unfold catI
      rw [← take_flat h]
      exact hnx (i + 1) ⟨by omega, by rw [List.take_succ_eq_append_getElem h, List.all_append, hp]; simp [hv]⟩ (by omega)
  · rw [List.drop_eq_nil_of_le (by omega)] at hgo
    rw [decide_eq_false (by omega : ¬ (i : Int) < (l.length : Int)), cond_false, hke, ex33_3_0, ← hgo, List.take_of_length_le (by omega)]
    rfl

theorem renc_ok (l : List Int) (hl : lim4 l = true) (n : Nat) (hn : l.length < n) : evFn E35 n Tryd.f35 [.sl .i32 l none] = some (.tup [.str (encF l).1, .bool (encF l).2]) := by
  have hlen := lim4_iff.1 hl
  rw [ev35]
  refine (loop_rule (fun i : Nat => st35_3 l ((l.take i).flatMap u8F) i) (fun i => i ≤ l.length ∧ (l.take i).all validF = true) (fun i => l.length - i) (fun i => (some (.tup [.str (encF l).1, .bool (encF l).2]) : Option E6)) ?_ n 0 ⟨Nat.zero_le _, rfl⟩ (by omega))
  intro i ⟨hi, hp⟩ K hke hkr hnx
  have hfl := flat_take_len l i
  have hgo := encF_go l i hi hp
  rw [lb35_3_eq]
  by_cases h : i < l.length
  · rw [decide_eq_true (by omega : (i : Int) < (l.length : Int)), cond_true, idx_lt h]
    dsimp only
    rw [List.drop_eq_getElem_cons h, List.all_cons] at hgo
    unfold putF
    cases hv : validF l[i] with
    | false =>
      rw [hv] at hgo
      rw [← hgo]
      exact (hkr _).trans rfl
    | true =>
      have hu := u8F_len l[i]
      rw [if_pos rfl, beqF (by omega), cond_false, room_iff.2 (by omega), cond_true, wrapSucc (by omega)]
      rw [← take_flat h]
      exact hnx (i + 1) ⟨by omega, by rw [List.take_succ_eq_append_getElem h, List.all_append, hp]; simp [hv]⟩ (by omega)
  · rw [List.drop_eq_nil_of_le (by omega)] at hgo
    rw [decide_eq_false (by omega : ¬ (i : Int) < (l.length : Int)), cond_false, hke, ex35_3_0, ← hgo, List.take_of_length_le (by omega)]
    rfl
end Go.Aev
end

section
set_option linter.unusedVariables false
namespace Go.Aev
open Go.Proofs

theorem wrapAdd {i k : Nat} (h : i + k ≤ 9223372036854775807) : IntKind.wrap .i64 ((i : Int) + (k : Int)) = ((i + k : Nat) : Int) := by
  rw [wrap64 (by omega) (by omega)]; omega
theorem unitF_drop (l : List Int) (i : Nat) : unitF (l.drop i) = if l[i]? = some 92 ∧ l[i + 1]? = some 117 then hex4F (l.drop (i + 2)) else -1 := by
  unfold unitF
  rw [List.getElem?_drop, List.getElem?_drop, List.drop_drop, Nat.add_zero]
theorem unitF_short {l : List Int} (h : l.length < 6) : unitF l = -1 := by
  unfold unitF
  split
  · exact hex4F_short (by rw [List.length_drop]; omega)
  · rfl
theorem unitF_range (l : List Int) : -1 ≤ unitF l ∧ unitF l ≤ 65535 := by
  unfold unitF
  split
  · exact hex4F_range _
  · omega

/-! ### a piece of a quoted string -/
theorem shortF_range (c : Int) : -1 ≤ shortF c := by
  unfold shortF
  split
  · rename_i h; omega
  · split <;> omega
theorem shortF_iff (c : Int) : (0 ≤ shortF c) ↔ c = 34 ∨ c = 92 ∨ c = 47 ∨ c = 98 ∨ c = 102 ∨ c = 110 ∨ c = 114 ∨ c = 116 := by
  unfold shortF
  constructor
  · intro h
    by_cases h1 : c = 34 ∨ c = 92 ∨ c = 47
    · omega
    · rw [if_neg h1] at h
      split at h
      · omega
      · split at h
        · omega
        · split at h
          · omega
          · split at h
            · omega
            · split at h <;> omega
  · intro h
    rcases h with rfl | rfl | rfl | rfl | rfl | rfl | rfl | rfl <;> decide
theorem pieceF_cons (l : List Int) (i : Nat) (h : i < l.length) : pieceF (l.drop i) = if plainF l[i] then (l[i], 1) else if l[i] = 92 then escF (l.drop i) else (0, 0) := by
  rw [get_drop h]; rfl
theorem plain92 : plainF 92 = false := by decide
theorem escF_drop {l : List Int} {i : Nat} (h : i + 1 < l.length) : escF (l.drop i) = if 0 ≤ shortF l[i + 1] then (shortF l[i + 1], 2) else if l[i + 1] = 117 then codedF (l.drop (i + 2)) else (0, 0) := by
  rw [get_drop (i := i) (by omega), get_drop (i := i + 1) (by omega)]; rfl

/-- The program's words for the part behind '\\u', by the reference's number of four digits. -/
theorem coded_unit {l : List Int} {i : Nat} (h : i + 1 < l.length) (h1 : l[i] = 92) (h2 : l[i + 1] = 117) :
    unitF (l.drop i) = hex4F (l.drop (i + 2)) := by
  rw [unitF_drop, List.getElem?_eq_getElem (by omega : i < l.length), List.getElem?_eq_getElem h, h1, h2, if_pos ⟨rfl, rfl⟩]
theorem join_low {a b : Int} (h : b < 56320) : joinF a b = (0, false) := by
  unfold joinF
  rw [if_pos (by simp; omega)]
theorem coded_pair {l : List Int} {i : Nat} (h : i + 2 ≤ l.length) (c1 : ¬ hex4F (l.drop (i + 2)) < 0) (c2 : 55296 ≤ hex4F (l.drop (i + 2))) (c3 : hex4F (l.drop (i + 2)) ≤ 56319) :
    codedF (l.drop (i + 2)) = if (joinF (hex4F (l.drop (i + 2))) (unitF (l.drop (i + 6)))).2 then ((joinF (hex4F (l.drop (i + 2))) (unitF (l.drop (i + 6)))).1, 12) else (0, 0) := by
  have hg : ∀ k, (l.drop (i + 2))[k]? = l[i + 2 + k]? := fun k => List.getElem?_drop
  rw [codedF_join _ c1 c2 c3, hg 4, hg 5, List.drop_drop, List.length_drop]
  have e4 : i + 2 + 4 = i + 6 := by omega
  have e5 : i + 2 + 5 = i + 6 + 1 := by omega
  have e6 : i + 2 + 6 = i + 6 + 2 := by omega
  rw [e4, e5, e6]
  have hj : ∀ b, b < 56320 → ¬ (joinF (hex4F (l.drop (i + 2))) b).2 = true := fun b hb => by rw [join_low hb]; simp
  by_cases d : l[i + 6]? = some 92 ∧ l[i + 6 + 1]? = some 117
  · have hu : unitF (l.drop (i + 6)) = hex4F (l.drop (i + 6 + 2)) := by rw [unitF_drop, if_pos d]
    rw [hu]
    by_cases d3 : 10 ≤ l.length - (i + 2)
    · by_cases d4 : (joinF (hex4F (l.drop (i + 2))) (hex4F (l.drop (i + 6 + 2)))).2 = true
      · rw [if_pos ⟨d3, d.1, d.2, d4⟩, if_pos d4]
      · rw [if_neg (fun h => d4 h.2.2.2), if_neg d4]
    · rw [if_neg (fun h => d3 h.1), if_neg (hj _ (by rw [hex4F_short (l := l.drop (i + 6 + 2)) (by rw [List.length_drop]; omega)]; omega))]
  · have hu : unitF (l.drop (i + 6)) = -1 := by rw [unitF_drop, if_neg d]
    rw [hu, if_neg (fun h => d ⟨h.2.1, h.2.2.1⟩), if_neg (hj _ (by omega))]

end Go.Aev
end

section
set_option linter.unusedVariables false
namespace Go.Aev
open Go.Proofs

theorem codedF_range (l : List Int) : 0 ≤ (codedF l).2 ∧ (codedF l).2 ≤ 12 := by
  unfold codedF
  dsimp only
  split
  · simp
  · split
    · simp
    · split <;> simp
theorem escF_range (l : List Int) : 0 ≤ (escF l).2 ∧ (escF l).2 ≤ 12 := by
  by_cases h : l.length < 2
  · rw [escF_one h]; simp
  · rw [escF_two 0 l (by omega)]
    split
    · simp
    · split
      · exact codedF_range _
      · simp
theorem pieceF_range (l : List Int) : 0 ≤ (pieceF l).2 ∧ (pieceF l).2 ≤ 12 := by
  cases l with
  | nil => simp [pieceF]
  | cons c r =>
    show 0 ≤ (if plainF c then (c, 1) else if c = 92 then escF (c :: r) else ((0, 0) : Int × Int)).2 ∧ (if plainF c then (c, 1) else if c = 92 then escF (c :: r) else ((0, 0) : Int × Int)).2 ≤ 12
    by_cases h : plainF c = true
    · rw [if_pos h]; simp
    · rw [if_neg h]
      by_cases h2 : c = 92
      · rw [if_pos h2]; exact escF_range _
      · rw [if_neg h2]; simp

theorem quotedN_eq : ∀ (n m : Nat) (l : List Int), l.length ≤ n → l.length ≤ m → quotedN n l = quotedN m l := by
  intro n
  induction n with
  | zero =>
    intro m l h1 h2
    have : l = [] := List.eq_nil_of_length_eq_zero (by omega)
    subst this
    cases m <;> rfl
  | succ n ih =>
    intro m l h1 h2
    cases l with
    | nil => cases m <;> rfl
    | cons c r =>
      cases m with
      | zero => simp at h2
      | succ m =>
        simp only [quotedN]
        split
        · rfl
        · rename_i hp
          have h3 : ((c :: r).drop (pieceF (c :: r)).2.toNat).length ≤ r.length := by
            rw [List.length_drop, List.length_cons]; omega
          rw [ih m _ (by simp at h1; omega) (by simp at h2; omega)]
theorem quotedL_nil : quotedL [] = some [] := rfl
theorem quotedL_step {l : List Int} (h : l ≠ []) : quotedL l = if (pieceF l).2 = 0 then none else (quotedL (l.drop (pieceF l).2.toNat)).map ((pieceF l).1 :: ·) := by
  cases l with
  | nil => exact absurd rfl h
  | cons c r =>
    have hr := pieceF_range (c :: r)
    conv => lhs; unfold quotedL
    simp only [List.length_cons, quotedN]
    by_cases hp : (pieceF (c :: r)).2 = 0
    · rw [if_pos (by omega), if_pos hp]
    · rw [if_neg (by omega), if_neg hp]
      unfold quotedL
      rw [quotedN_eq r.length _ _ (by rw [List.length_drop, List.length_cons]; omega) (Nat.le_refl _)]

/-- The end of a loop that has laid 'out' already. -/
def finQ (out : List Int) (o : Option (List Int)) : Option E6 := some (.tup [.str (finF (o.map (out ++ ·))).1, .int .i64 (finF (o.map (out ++ ·))).2])
theorem finQ_nil (out : List Int) : finQ out (some []) = some (.tup [.str (encF out).1, .int .i64 0]) := by simp [finQ, finF]
theorem finQ_none (out : List Int) : finQ out none = some (.tup [.str [], .int .i64 60]) := rfl
theorem finQ_cons (out : List Int) (c : Int) (o : Option (List Int)) : finQ out (o.map (c :: ·)) = finQ (out ++ [c]) o := by
  cases o <;> simp [finQ]

theorem quoted_loop {l : List Int} (hl : lim4 l = true) {n : Nat} (hn : l.length < n) {body : S6 → (Ex → S6 → Option E6) → Option E6} {k : Ex → S6 → Option E6} {st : List Int → Int → S6}
    (hexit : ∀ (out : List Int) (i : Nat), l.length ≤ i → lim4 out = true → ∀ K : Ex → S6 → Option E6, (∀ j s, K (.exit j) s = k (.exit j) s) → body (st out i) K = some (.tup [.str (encF out).1, .int .i64 0]))
    (hstep : ∀ (out : List Int) (i : Nat), i < l.length → room (out.length + 1) 4 = true → ∀ K : Ex → S6 → Option E6, (∀ s, K .ret s = k .ret s) →
      body (st out i) K = if (pieceF (l.drop i)).2 = 0 then some (.tup [.str [], .int .i64 60]) else K .normal (st (out ++ [(pieceF (l.drop i)).1]) ((i + (pieceF (l.drop i)).2.toNat : Nat) : Int))) :
    evLoop body n (st [] 0) k = some (.tup [.str (quotedF l).1, .int .i64 (quotedF l).2]) := by
  have hlen := lim4_iff.1 hl
  refine (loop_rule (fun p : List Int × Nat => st p.1 p.2) (fun p => p.1.length ≤ p.2 ∧ p.1.length ≤ l.length) (fun p => l.length - p.2) (fun p => finQ p.1 (quotedL (l.drop p.2))) ?_ n ([], 0) (by simp) (by simp only; omega)).trans (by simp [finQ, quotedF])
  rintro ⟨out, i⟩ ⟨h1, h2⟩ K hke hkr hnx
  dsimp only at h1 h2 hnx ⊢
  by_cases h : i < l.length
  · rw [hstep out i h (room_iff.2 (by omega)) K hkr]
    have hne : l.drop i ≠ [] := by rw [get_drop h]; exact List.cons_ne_nil _ _
    have hr := pieceF_range (l.drop i)
    rw [quotedL_step hne]
    by_cases hp : (pieceF (l.drop i)).2 = 0
    · rw [if_pos hp, if_pos hp, finQ_none]
    · rw [if_neg hp, if_neg hp, finQ_cons, List.drop_drop]
      exact hnx (out ++ [(pieceF (l.drop i)).1], i + (pieceF (l.drop i)).2.toNat) ⟨by simp; omega, by simp; omega⟩ (by simp only; omega)
  · rw [hexit out i (by omega) (lim4_iff.2 (by omega)) K hke, List.drop_eq_nil_of_le (by omega), quotedL_nil, finQ_nil]

theorem plainF_parts {c : Int} (h : c ≠ 92) : plainF c = (sourceF c && !(c == 34) && !(c == 10) && !(c == 13)) := by
  unfold plainF; rw [beqF h]; simp
theorem quoted_ok (l : List Int) (hl : lim4 l = true) (n : Nat) (hn : l.length < n) : evFn E19 n Tryd.f16 [.sl .i32 l none] = some (.tup [.str (quotedF l).1, .int .i64 (quotedF l).2]) := by
  have hlen := lim4_iff.1 hl
  rw [ev19]
  refine quoted_loop hl hn (st := fun out i => st19_3 l out i) (fun out i hi hout K hke => ?_) (fun out i hi hro K hkr => ?_)
  · rw [lb19_3_eq, decide_eq_false (by omega : ¬ (i : Int) < (l.length : Int)), cond_false, hke, ex19_3_0, hout]; rfl
  · rw [lb19_3_eq, decide_eq_true (by omega : (i : Int) < (l.length : Int)), hro, idx_lt hi, sub_from (by omega), pieceF_cons l i hi]
    dsimp only
    rw [lim4_drop hl]
    have hw : IntKind.wrap .i64 ((i : Int) + 1) = ((i + 1 : Nat) : Int) := wrapSucc (by omega)
    have h1 : (i + (1 : Int).toNat) = i + 1 := rfl
    rw [hw]
    by_cases c0 : l[i] = 92
    · rw [beqT c0, c0, plain92, if_neg (by decide : ¬ false = true), if_pos rfl]
      have hr := escF_range (l.drop i)
      by_cases hp : (escF (l.drop i)).2 = 0
      · rw [if_pos hp, beqT hp]; exact (hkr _).trans rfl
      · rw [if_neg hp, beqF hp, wrap64 (by omega) (by omega)]
        have e : (i : Int) + (escF (l.drop i)).2 = ((i + (escF (l.drop i)).2.toNat : Nat) : Int) := by omega
        rw [e]; rfl
    · rw [beqF c0, plainF_parts c0, if_neg c0]
      cases c1 : l[i] == 34 with
      | true => simp only [Bool.not_true, Bool.and_false, Bool.false_and, Bool.false_eq_true, if_false]; exact (hkr _).trans rfl
      | false =>
        cases c2 : l[i] == 10 with
        | true => simp only [Bool.not_true, Bool.and_false, Bool.false_and, Bool.false_eq_true, if_false]; exact (hkr _).trans rfl
        | false =>
          cases c3 : l[i] == 13 with
          | true => simp only [Bool.not_true, Bool.and_false, Bool.false_and, Bool.false_eq_true, if_false]; exact (hkr _).trans rfl
          | false =>
            cases c4 : sourceF l[i] with
            | false => simp only [Bool.false_and, Bool.false_eq_true, if_false]; exact (hkr _).trans rfl
            | true => simp only [Bool.not_false, Bool.and_true, if_true]; rfl
end Go.Aev
end
