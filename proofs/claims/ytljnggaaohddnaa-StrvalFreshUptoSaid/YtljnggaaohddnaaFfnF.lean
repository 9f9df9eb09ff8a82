/- Proved here: lemmas of an evaluator over the model's code that the claim's text uses (P16 P17 P18 P19 P20 P21). Conditions: those that each lemma states. -/
import Derived.Test.YtljnggaaohddnaaFfnE
import Derived.Test.YtljnggaaohddnaaFfnC
section
set_option linter.unusedVariables false
namespace Go.Aev
open Go.Proofs

theorem codedF_range (l : List Int) : 0 ≤ (codedF l).2 ∧ (codedF l).2 ≤ 12 := by
  unfold codedF
  dsimp only
  split
  · simp
  · split
    · simp
    · split <;> simp
theorem escF_range (l : List Int) : 0 ≤ (escF l).2 ∧ (escF l).2 ≤ 12 := by
  by_cases h : l.length < 2
  · rw [escF_one h]; simp
  · rw [escF_two 0 l (by omega)]
    split
    · simp
    · split
      · exact codedF_range _
      · simp
theorem pieceF_range (l : List Int) : 0 ≤ (pieceF l).2 ∧ (pieceF l).2 ≤ 12 := by
  cases l with
  | nil => simp [pieceF]
  | cons c r =>
    show 0 ≤ (if plainF c then (c, 1) else if c = 92 then escF (c :: r) else ((0, 0) : Int × Int)).2 ∧ (if plainF c then (c, 1) else if c = 92 then escF (c :: r) else ((0, 0) : Int × Int)).2 ≤ 12
    by_cases h : plainF c = true
    · rw [if_pos h]; simp
    · rw [if_neg h]
      by_cases h2 : c = 92
      · rw [if_pos h2]; exact escF_range _
      · rw [if_neg h2]; simp

theorem quotedN_eq : ∀ (n m : Nat) (l : List Int), l.length ≤ n → l.length ≤ m → quotedN n l = quotedN m l := by
  intro n
  induction n with
  | zero =>
    intro m l h1 h2
    have : l = [] := List.eq_nil_of_length_eq_zero (by omega)
    subst this
    cases m <;> rfl
  | succ n ih =>
    intro m l h1 h2
    cases l with
    | nil => cases m <;> rfl
    | cons c r =>
      cases m with
      | zero => simp at h2
      | succ m =>
        simp only [quotedN]
        split
        · rfl
        · rename_i hp
          have h3 : ((c :: r).drop (pieceF (c :: r)).2.toNat).length ≤ r.length := by
            rw [List.length_drop, List.length_cons]; omega
          rw [ih m _ (by simp at h1; omega) (by simp at h2; omega)]
theorem quotedL_nil : quotedL [] = some [] := rfl
theorem quotedL_step {l : List Int} (h : l ≠ []) : quotedL l = if (pieceF l).2 = 0 then none else (quotedL (l.drop (pieceF l).2.toNat)).map ((pieceF l).1 :: ·) := by
  cases l with
  | nil => exact absurd rfl h
  | cons c r =>
    have hr := pieceF_range (c :: r)
    conv => lhs; unfold quotedL
    simp only [List.length_cons, quotedN]
    by_cases hp : (pieceF (c :: r)).2 = 0
    · rw [if_pos (by omega), if_pos hp]
    · rw [if_neg (by omega), if_neg hp]
      unfold quotedL
      rw [quotedN_eq r.length _ _ (by rw [List.length_drop, List.length_cons]; omega) (Nat.le_refl _)]

/-- The end of a loop that has laid 'out' already. -/
def finQ (out : List Int) (o : Option (List Int)) : Option E6 := some (.tup [.str (finF (o.map (out ++ ·))).1, .int .i64 (finF (o.map (out ++ ·))).2])
theorem finQ_nil (out : List Int) : finQ out (some []) = some (.tup [.str (encF out).1, .int .i64 0]) := by simp [finQ, finF]
theorem finQ_none (out : List Int) : finQ out none = some (.tup [.str [], .int .i64 60]) := rfl
theorem finQ_cons (out : List Int) (c : Int) (o : Option (List Int)) : finQ out (o.map (c :: ·)) = finQ (out ++ [c]) o := by
  cases o <;> simp [finQ]

theorem quoted_loop {l : List Int} (hl : lim4 l = true) {n : Nat} (hn : l.length < n) {body : S6 → (Ex → S6 → Option E6) → Option E6} {k : Ex → S6 → Option E6} {st : List Int → Int → S6}
    (hexit : ∀ (out : List Int) (i : Nat), l.length ≤ i → lim4 out = true → ∀ K : Ex → S6 → Option E6, (∀ j s, K (.exit j) s = k (.exit j) s) → body (st out i) K = some (.tup [.str (encF out).1, .int .i64 0]))
    (hstep : ∀ (out : List Int) (i : Nat), i < l.length → room (out.length + 1) 4 = true → ∀ K : Ex → S6 → Option E6, (∀ s, K .ret s = k .ret s) →
      body (st out i) K = if (pieceF (l.drop i)).2 = 0 then some (.tup [.str [], .int .i64 60]) else K .normal (st (out ++ [(pieceF (l.drop i)).1]) ((i + (pieceF (l.drop i)).2.toNat : Nat) : Int))) :
    evLoop body n (st [] 0) k = some (.tup [.str (quotedF l).1, .int .i64 (quotedF l).2]) := by
  have hlen := lim4_iff.1 hl
  refine (loop_rule (fun p : List Int × Nat => st p.1 p.2) (fun p => p.1.length ≤ p.2 ∧ p.1.length ≤ l.length) (fun p => l.length - p.2) (fun p => finQ p.1 (quotedL (l.drop p.2))) ?_ n ([], 0) (by simp) (by simp only; omega)).trans (by simp [finQ, quotedF])
  rintro ⟨out, i⟩ ⟨h1, h2⟩ K hke hkr hnx
  dsimp only at h1 h2 hnx ⊢
  by_cases h : i < l.length
  · rw [hstep out i h (room_iff.2 (by omega)) K hkr]
    have hne : l.drop i ≠ [] := by rw [get_drop h]; exact List.cons_ne_nil _ _
    have hr := pieceF_range (l.drop i)
    rw [quotedL_step hne]
    by_cases hp : (pieceF (l.drop i)).2 = 0
    · rw [if_pos hp, if_pos hp, finQ_none]
    · rw [if_neg hp, if_neg hp, finQ_cons, List.drop_drop]
      exact hnx (out ++ [(pieceF (l.drop i)).1], i + (pieceF (l.drop i)).2.toNat) ⟨by simp; omega, by simp; omega⟩ (by simp only; omega)
  · rw [hexit out i (by omega) (lim4_iff.2 (by omega)) K hke, List.drop_eq_nil_of_le (by omega), quotedL_nil, finQ_nil]

theorem rquoted_ok (l : List Int) (hl : lim4 l = true) (n : Nat) (hn : l.length < n) : evFn E21 n Try.f21 [.sl .i32 l none] = some (.tup [.str (quotedF l).1, .int .i64 (quotedF l).2]) := by
  have hlen := lim4_iff.1 hl
  rw [ev21]
  refine quoted_loop hl hn (st := fun out i => st21_3 l out i) (fun out i hi hout K hke => ?_) (fun out i hi hro K hkr => ?_)
  · rw [lb21_3_eq, decide_eq_false (by omega : ¬ (i : Int) < (l.length : Int)), cond_false, hke, ex21_3_0, hout]; rfl
  · have hr := pieceF_range (l.drop i)
    rw [lb21_3_eq, decide_eq_true (by omega : (i : Int) < (l.length : Int)), hl, decide_eq_true (by omega : (0 : Int) ≤ (i : Int)), Int.toNat_natCast, hro]
    by_cases hp : (pieceF (l.drop i)).2 = 0
    · rw [if_pos hp, beqT hp]; exact (hkr _).trans rfl
    · rw [if_neg hp, beqF hp, wrap64 (by omega) (by omega)]
      have e : (i : Int) + (pieceF (l.drop i)).2 = ((i + (pieceF (l.drop i)).2.toNat : Nat) : Int) := by omega
      rw [e]; rfl

theorem plainF_parts {c : Int} (h : c ≠ 92) : plainF c = (sourceF c && !(c == 34) && !(c == 10) && !(c == 13)) := by
  unfold plainF; rw [beqF h]; simp
theorem quoted_ok (l : List Int) (hl : lim4 l = true) (n : Nat) (hn : l.length < n) : evFn E19 n Try.f19 [.sl .i32 l none] = some (.tup [.str (quotedF l).1, .int .i64 (quotedF l).2]) := by
  have hlen := lim4_iff.1 hl
  rw [ev19]
  refine quoted_loop hl hn (st := fun out i => st19_3 l out i) (fun out i hi hout K hke => ?_) (fun out i hi hro K hkr => ?_)
  · rw [lb19_3_eq, decide_eq_false (by omega : ¬ (i : Int) < (l.length : Int)), cond_false, hke, ex19_3_0, hout]; rfl
  · rw [lb19_3_eq, decide_eq_true (by omega : (i : Int) < (l.length : Int)), hro, idx_lt hi, sub_from (by omega), pieceF_cons l i hi]
    dsimp only
    rw [lim4_drop hl]
    have hw : IntKind.wrap .i64 ((i : Int) + 1) = ((i + 1 : Nat) : Int) := wrapSucc (by omega)
    have h1 : (i + (1 : Int).toNat) = i + 1 := rfl
    rw [hw]
    by_cases c0 : l[i] = 92
    · rw [beqT c0, c0, plain92, if_neg (by decide : ¬ false = true), if_pos rfl]
      have hr := escF_range (l.drop i)
      by_cases hp : (escF (l.drop i)).2 = 0
      · rw [if_pos hp, beqT hp]; exact (hkr _).trans rfl
      · rw [if_neg hp, beqF hp, wrap64 (by omega) (by omega)]
        have e : (i : Int) + (escF (l.drop i)).2 = ((i + (escF (l.drop i)).2.toNat : Nat) : Int) := by omega
        rw [e]; rfl
    · rw [beqF c0, plainF_parts c0, if_neg c0]
      cases c1 : l[i] == 34 with
      | true => simp only [Bool.not_true, Bool.and_false, Bool.false_and, Bool.false_eq_true, if_false]; exact (hkr _).trans rfl
      | false =>
        cases c2 : l[i] == 10 with
        | true => simp only [Bool.not_true, Bool.and_false, Bool.false_and, Bool.false_eq_true, if_false]; exact (hkr _).trans rfl
        | false =>
          cases c3 : l[i] == 13 with
          | true => simp only [Bool.not_true, Bool.and_false, Bool.false_and, Bool.false_eq_true, if_false]; exact (hkr _).trans rfl
          | false =>
            cases c4 : sourceF l[i] with
            | false => simp only [Bool.false_and, Bool.false_eq_true, if_false]; exact (hkr _).trans rfl
            | true => simp only [Bool.not_false, Bool.and_true, if_true]; rfl
end Go.Aev
end

section
set_option linter.unusedVariables false
namespace Go.Aev
open Go.Proofs

theorem isEsc_iff {l : List Int} : isEsc l = true ↔ ∃ r, l = 92 :: 34 :: 34 :: 34 :: r := by
  constructor
  · intro h
    unfold isEsc at h
    split at h
    · exact ⟨_, rfl⟩
    · cases h
  · rintro ⟨r, rfl⟩; rfl
theorem openF_cons {c : Int} {r : List Int} (h : isEsc (c :: r) = false) : openF (c :: r) = c :: openF r := by
  conv => lhs; unfold openF
  split
  · rename_i heq; rw [heq] at h; cases h
  · rename_i heq; cases heq; rfl
  · rename_i heq; cases heq
theorem midF_cons {c : Int} {r : List Int} (h : isEsc (c :: r) = false) : midF (c :: r) = if !sourceF c || quotesF (c :: r) then false else midF r := by
  conv => lhs; unfold midF
  split
  · rename_i heq; rw [heq] at h; cases h
  · rename_i heq; cases heq; rfl
  · rename_i heq; cases heq
theorem lastF_cons {c x : Int} {r : List Int} (h : isEsc (c :: r) = false) : lastF x (c :: r) = lastF c r := by
  conv => lhs; unfold lastF
  split
  · rename_i heq; rw [heq] at h; cases h
  · rename_i heq; cases heq; rfl
  · rename_i heq; cases heq
theorem openF_esc (r : List Int) : openF (92 :: 34 :: 34 :: 34 :: r) = 34 :: 34 :: 34 :: openF r := rfl
theorem midF_esc (r : List Int) : midF (92 :: 34 :: 34 :: 34 :: r) = midF r := rfl
theorem lastF_esc (x : Int) (r : List Int) : lastF x (92 :: 34 :: 34 :: 34 :: r) = lastF 0 r := rfl
theorem quotesF_iff {l : List Int} : quotesF l = true ↔ ∃ r, l = 34 :: 34 :: 34 :: r := by
  constructor
  · intro h
    unfold quotesF at h
    split at h
    · exact ⟨_, rfl⟩
    · cases h
  · rintro ⟨r, rfl⟩; rfl
theorem quotesF_at {l : List Int} (h : 3 ≤ l.length) : quotesF l = (l[0] == 34 && (l[1] == 34 && l[2] == 34)) := by
  match l, h with
  | a :: b :: c :: r, _ =>
    show quotesF (a :: b :: c :: r) = (a == 34 && (b == 34 && c == 34))
    cases h : (a == 34 && (b == 34 && c == 34)) with
    | true =>
      simp only [Bool.and_eq_true, beq_iff_eq] at h
      obtain ⟨rfl, rfl, rfl⟩ := h
      rfl
    | false =>
      cases hq : quotesF (a :: b :: c :: r) with
      | false => rfl
      | true =>
        obtain ⟨r', hr⟩ := quotesF_iff.1 hq
        simp only [List.cons.injEq] at hr
        obtain ⟨rfl, rfl, rfl, _⟩ := hr
        simp at h
theorem quotesF_short {l : List Int} (h : l.length < 3) : quotesF l = false := by
  cases hq : quotesF l with
  | false => rfl
  | true => obtain ⟨r, rfl⟩ := quotesF_iff.1 hq; simp at h; omega
theorem isEsc_cons (c : Int) (r : List Int) : isEsc (c :: r) = (c == 92 && quotesF r) := by
  cases h : (c == 92 && quotesF r) with
  | true =>
    simp only [Bool.and_eq_true, beq_iff_eq] at h
    obtain ⟨rfl, h2⟩ := h
    obtain ⟨r', rfl⟩ := quotesF_iff.1 h2
    rfl
  | false =>
    cases hq : isEsc (c :: r) with
    | false => rfl
    | true =>
      obtain ⟨r', hr⟩ := isEsc_iff.1 hq
      simp only [List.cons.injEq] at hr
      obtain ⟨rfl, rfl⟩ := hr
      simp [quotesF] at h

theorem quotes_ok (l : List Int) (hl : lim4 l = true) (n : Nat) : evFn E51 n Try.f51 [.sl .i32 l none] = some (.one (.bool (quotesF l))) := by
  have hlen := lim4_len hl
  rw [ev51]
  by_cases h : l.length < 3
  · rw [decide_eq_false (by omega : ¬ (l.length : Int) ≥ 3), quotesF_short h]; rfl
  · rw [decide_eq_true (by omega : (l.length : Int) ≥ 3), quotesF_at (by omega), show (0 : Int) = ((0 : Nat) : Int) from rfl, show (1 : Int) = ((1 : Nat) : Int) from rfl, show (2 : Int) = ((2 : Nat) : Int) from rfl, idx_lt (by omega), idx_lt (by omega), idx_lt (by omega)]
    dsimp only
    cases l[0] == 34 <;> cases l[1] == 34 <;> rfl

theorem endsF_drop {l : List Int} {i : Nat} (h : i < l.length) : endsF (l.drop i) = if l[i] = 10 then true else if l[i] = 13 then !(l[i + 1]? == some 10) else false := by
  rw [get_drop h]
  by_cases h1 : l[i] = 10
  · rw [h1]; rfl
  · rw [if_neg h1]
    by_cases h2 : l[i] = 13
    · rw [h2, if_pos rfl]
      show (!((l.drop (i + 1)).head? == some 10)) = _
      rw [List.head?_drop]
    · rw [if_neg h2]
      unfold endsF
      split
      · rename_i heq; simp only [List.cons.injEq] at heq; exact absurd heq.1 h1
      · rename_i heq; simp only [List.cons.injEq] at heq; exact absurd heq.1 h2
      · rfl
theorem ends_ok (l : List Int) (hl : lim4 l = true) (i : Nat) (hi : i < l.length) (n : Nat) : evFn E52 n Try.f52 [.sl .i32 l none, .int .i64 i] = some (.one (.bool (endsF (l.drop i)))) := by
  have hlen := lim4_len hl
  rw [ev52, idx_lt hi, endsF_drop hi, wrapSucc (by omega)]
  dsimp only
  by_cases h1 : l[i] = 10
  · rw [beqT h1, if_pos h1]; rfl
  · rw [beqF h1, if_neg h1]
    by_cases h2 : l[i] = 13
    · rw [beqT h2, if_pos h2]
      by_cases h3 : i + 1 = l.length
      · rw [beqT (by omega : ((i + 1 : Nat) : Int) = (l.length : Int)), List.getElem?_eq_none (by omega)]; rfl
      · rw [beqF (by omega : ((i + 1 : Nat) : Int) ≠ (l.length : Int)), idx_lt (by omega), List.getElem?_eq_getElem (by omega)]
        show some (Ent.one (Leaf.bool (l[i + 1] != 10))) = some (Ent.one (Leaf.bool (!(some l[i + 1] == some 10))))
        rfl
    · rw [beqF h2, if_neg h2]; rfl

theorem isEsc_drop {l : List Int} {i : Nat} (h : i + 3 < l.length) : isEsc (l.drop i) = (l[i] == 92 && (l[i + 1] == 34 && (l[i + 2] == 34 && l[i + 3] == 34))) := by
  rw [get_drop (i := i) (by omega), isEsc_cons, quotesF_at (by rw [List.length_drop]; omega)]
  have e0 : (l.drop (i + 1))[0]'(by rw [List.length_drop]; omega) = l[i + 1] := by simp
  have e1 : (l.drop (i + 1))[1]'(by rw [List.length_drop]; omega) = l[i + 2] := by simp
  have e2 : (l.drop (i + 1))[2]'(by rw [List.length_drop]; omega) = l[i + 3] := by simp
  rw [e0, e1, e2]
theorem isEsc_end {l : List Int} {i : Nat} (h : l.length ≤ i + 3) : isEsc (l.drop i) = false := by
  cases hq : isEsc (l.drop i) with
  | false => rfl
  | true =>
    obtain ⟨r, hr⟩ := isEsc_iff.1 hq
    have := congrArg List.length hr
    simp at this
    omega
theorem escaped_ok (l : List Int) (hl : lim4 l = true) (i : Nat) (hi : i < l.length) (n : Nat) : evFn E54 n Try.f54 [.sl .i32 l none, .int .i64 i] = some (.one (.bool (isEsc (l.drop i)))) := by
  have hlen := lim4_len hl
  rw [ev54, show (3 : Int) = ((3 : Nat) : Int) from rfl, wrapAdd (by omega), wrapSucc (by omega), show (2 : Int) = ((2 : Nat) : Int) from rfl, wrapAdd (by omega), idx_lt hi]
  by_cases h : i + 3 < l.length
  · rw [decide_eq_true (by omega : ((i + 3 : Nat) : Int) < (l.length : Int)), isEsc_drop h, idx_lt (by omega), idx_lt (by omega), idx_lt (by omega)]
    dsimp only
    cases l[i] == 92 <;> cases l[i + 1] == 34 <;> cases l[i + 2] == 34 <;> rfl
  · rw [decide_eq_false (by omega : ¬ ((i + 3 : Nat) : Int) < (l.length : Int)), isEsc_end (by omega)]; rfl

theorem smL_len {l : List Int} (h : smL l = true) : l.length ≤ 1073741824 := by simpa [smL] using h
theorem smL_iff {l : List Int} : smL l = true ↔ l.length ≤ 1073741824 := by simp [smL]
theorem smL_lim {l : List Int} (h : smL l = true) : lim4 l = true := lim4_iff.2 (by have := smL_len h; omega)
theorem openF_len (l : List Int) : (openF l).length ≤ l.length := by
  fun_induction openF l with
  | case1 r ih => simp; omega
  | case2 c r h ih => simp; omega
  | case3 => simp

/-- What the program's first loop ends with. -/
def finU (out : List Int) (last : Int) (l : List Int) : Option E6 :=
  some (.tup [.sl .i32 (if midF l then out ++ openF l else []) (some 1), .bool (if midF l then okEnd (lastF last l) else false)])
theorem okEnd_eq (x : Int) : okEnd x = if x = 34 then false else !(x == 92) := by
  unfold okEnd
  by_cases h : x = 34
  · rw [beqT h, if_pos h]; rfl
  · rw [beqF h, if_neg h]; simp

theorem unmasked_ok (l : List Int) (hl : smL l = true) (n : Nat) (hn : l.length < n) : evFn E36 n Try.f36 [.sl .i32 l none] = some (.tup [.sl .i32 (unmF l).1 (some 1), .bool (unmF l).2]) := by
  have hlen := smL_len hl
  have h4 := smL_lim hl
  rw [ev36]
  refine (loop_rule (fun p : List Int × Int × Nat => st36_4 l p.1 p.2.1 p.2.2) (fun p => p.1.length ≤ p.2.2 ∧ p.2.2 ≤ l.length + 4) (fun p => l.length - p.2.2) (fun p => finU p.1 p.2.1 (l.drop p.2.2)) ?_ n ([], 0, 0) (by simp) (by simp only; omega)).trans ?_
  · rintro ⟨out, last, i⟩ ⟨h1, h2⟩ K hke hkr hnx
    dsimp only at h1 h2 hnx ⊢
    rw [lb36_4_eq]
    by_cases h : i < l.length
    · rw [decide_eq_true (by omega : (i : Int) < (l.length : Int)), cond_true, idx_lt h, sub_from (by omega), wrapSucc (by omega), sub_from (by omega)]
      dsimp only
      rw [lim4_drop h4, lim4_drop h4, room_iff.2 (by omega), room_iff.2 (by omega)]
      have hd := get_drop h
      have hstep1 : isEsc (l.drop i) = false → (K .normal (st36_4 l (out ++ [l[i]]) l[i] ((i + 1 : Nat) : Int)) = finU (out ++ [l[i]]) l[i] (l.drop (i + 1))) := fun _ => hnx (out ++ [l[i]], l[i], i + 1) ⟨by simp; omega, by simp only; omega⟩ (by simp only; omega)
      have hfin : isEsc (l.drop i) = false → sourceF l[i] = true → quotesF (l.drop i) = false → finU (out ++ [l[i]]) l[i] (l.drop (i + 1)) = finU out last (l.drop i) := by
        intro he hs hq
        rw [hd] at he hq ⊢
        unfold finU
        rw [midF_cons he, openF_cons he, lastF_cons he, hs, hq]
        simp
      cases hs : sourceF l[i] with
      | false =>
        have he : isEsc (l.drop i) = false := by
          cases hc : isEsc (l.drop i) with
          | false => rfl
          | true =>
            obtain ⟨r, hr⟩ := isEsc_iff.1 hc
            rw [hd] at hr
            simp only [List.cons.injEq] at hr
            rw [hr.1] at hs
            exact absurd hs (by decide)
        have : finU out last (l.drop i) = some (.tup [.sl .i32 [] (some 1), .bool false]) := by
          rw [hd] at he ⊢
          unfold finU
          rw [midF_cons he, hs]; rfl
        rw [this]
        exact (hkr _).trans rfl
      | true =>
        cases hq : quotesF (l.drop i) with
        | true =>
          have he : isEsc (l.drop i) = false := by
            obtain ⟨r, hr⟩ := quotesF_iff.1 hq
            rw [hr]; rfl
          have : finU out last (l.drop i) = some (.tup [.sl .i32 [] (some 1), .bool false]) := by
            rw [hd] at he hq ⊢
            unfold finU
            rw [midF_cons he, hs, hq]; rfl
          rw [this]
          exact (hkr _).trans rfl
        | false =>
          by_cases c0 : l[i] = 92
          · rw [beqT c0]
            cases hq2 : quotesF (l.drop (i + 1)) with
            | true =>
              obtain ⟨r, hr⟩ := quotesF_iff.1 hq2
              have hdr : l.drop i = 92 :: 34 :: 34 :: 34 :: r := by rw [hd, c0, hr]
              have hr4 : l.drop (i + 4) = r := by
                have := congrArg (List.drop 4) hdr
                simpa using this
              have hnx2 := hnx (out ++ [34, 34, 34], 0, i + 4) ⟨by simp; omega, by simp only; omega⟩ (by simp only; omega)
              dsimp only at hnx2
              have hw : IntKind.wrap .i64 (IntKind.wrap .i64 ((i : Int) + 3) + 1) = ((i + 4 : Nat) : Int) := by
                rw [wrap64 (n := (i : Int) + 3) (by omega) (by omega), wrap64 (by omega) (by omega)]; omega
              rw [hw]
              refine Eq.trans (b := K .normal (st36_4 l (out ++ [34, 34, 34]) 0 ((i + 4 : Nat) : Int))) rfl ?_
              rw [hnx2, hr4, hdr]
              unfold finU
              rw [midF_esc, openF_esc, lastF_esc]
              simp
            | false =>
              have he : isEsc (l.drop i) = false := by rw [hd, isEsc_cons, hq2]; simp
              refine Eq.trans (b := K .normal (st36_4 l (out ++ [l[i]]) l[i] ((i + 1 : Nat) : Int))) rfl ?_
              rw [hstep1 he, hfin he hs hq]
          · have he : isEsc (l.drop i) = false := by rw [hd, isEsc_cons, beqF c0]; rfl
            rw [beqF c0]
            refine Eq.trans (b := K .normal (st36_4 l (out ++ [l[i]]) l[i] ((i + 1 : Nat) : Int))) rfl ?_
            rw [hstep1 he, hfin he hs hq]
    · rw [decide_eq_false (by omega : ¬ (i : Int) < (l.length : Int)), cond_false, hke, ex36_4_0, List.drop_eq_nil_of_le (by omega)]
      unfold finU
      rw [show midF [] = true from rfl, show openF [] = [] from rfl, show lastF last [] = last from rfl, okEnd_eq, List.append_nil, if_pos rfl]
      by_cases hq : last = 34
      · rw [bneF hq, if_pos hq]; rfl
      · rw [bneT hq, if_neg hq]; rfl
  · unfold finU unmF
    dsimp only
    rw [List.drop_zero]
    cases hm : midF l <;> rfl

theorem opened_ok (l : List Int) (hl : smL l = true) (n : Nat) (hn : l.length < n) : evFn E40 n Try.f40 [.sl .i32 l none] = some (.one (.sl .i32 (openF l) (some 1))) := by
  have hlen := smL_len hl
  have h4 := smL_lim hl
  rw [ev40]
  refine (loop_rule (fun p : List Int × Nat => st40_3 l p.1 p.2) (fun p => p.1.length ≤ p.2 ∧ p.2 ≤ l.length + 4) (fun p => l.length - p.2) (fun p => (some (.one (.sl .i32 (p.1 ++ openF (l.drop p.2)) (some 1))) : Option E6)) ?_ n ([], 0) (by simp) (by simp only; omega)).trans (by simp)
  rintro ⟨out, i⟩ ⟨h1, h2⟩ K hke hkr hnx
  dsimp only at h1 h2 hnx ⊢
  rw [lb40_3_eq]
  by_cases h : i < l.length
  · rw [decide_eq_true (by omega : (i : Int) < (l.length : Int)), cond_true, h4, decide_eq_true (by omega : (0 : Int) ≤ (i : Int)), Int.toNat_natCast, room_iff.2 (by omega), idx_lt h, room_iff.2 (by omega), wrapSucc (by omega)]
    have hd := get_drop h
    cases he : isEsc (l.drop i) with
    | true =>
      obtain ⟨r, hr⟩ := isEsc_iff.1 he
      have hr4 : l.drop (i + 4) = r := by
        have := congrArg (List.drop 4) hr
        simpa using this
      have hw : IntKind.wrap .i64 (((i + 1 : Nat) : Int) + 3) = ((i + 4 : Nat) : Int) := by
        rw [wrap64 (by omega) (by omega)]; omega
      rw [hw]
      have hnx2 := hnx (out ++ [34, 34, 34], i + 4) ⟨by simp; omega, by simp only; omega⟩ (by simp only; omega)
      refine Eq.trans (b := K .normal (st40_3 l (out ++ [34, 34, 34]) ((i + 4 : Nat) : Int))) rfl (hnx2.trans ?_)
      dsimp only
      rw [hr4, hr, openF_esc]; simp
    | false =>
      have hnx2 := hnx (out ++ [l[i]], i + 1) ⟨by simp; omega, by simp only; omega⟩ (by simp only; omega)
      refine Eq.trans (b := K .normal (st40_3 l (out ++ [l[i]]) ((i + 1 : Nat) : Int))) rfl (hnx2.trans ?_)
      dsimp only
      rw [hd] at he ⊢
      rw [openF_cons he]; simp
  · rw [decide_eq_false (by omega : ¬ (i : Int) < (l.length : Int)), cond_false, hke, ex40_3_0, List.drop_eq_nil_of_le (by omega), show openF [] = [] from rfl, List.append_nil]
end Go.Aev
end

section
set_option linter.unusedVariables false
namespace Go.Aev
open Go.Proofs

theorem midF_34 (r : List Int) : midF (34 :: r) = if quotesF (34 :: r) then false else midF r := by
  rw [midF_cons (by rw [isEsc_cons]; rfl), show sourceF 34 = true from by decide]; simp
theorem quotesF_no1 {c : Int} {r : List Int} (h : c ≠ 34) : quotesF (34 :: c :: r) = false := by
  cases hq : quotesF (34 :: c :: r) with
  | false => rfl
  | true => obtain ⟨r', hr⟩ := quotesF_iff.1 hq; simp only [List.cons.injEq] at hr; exact absurd hr.2.1 h
theorem quotesF_no2 {c : Int} {r : List Int} (h : c ≠ 34) : quotesF (34 :: 34 :: c :: r) = false := by
  cases hq : quotesF (34 :: 34 :: c :: r) with
  | false => rfl
  | true => obtain ⟨r', hr⟩ := quotesF_iff.1 hq; simp only [List.cons.injEq] at hr; exact absurd hr.2.2.1 h
/-- So many quotes by themselves stand ahead of l. -/
def midQ (q : Nat) (l : List Int) : Bool := midF (List.replicate q 34 ++ l)
theorem midQ_other {q : Nat} (hq : q ≤ 2) {c : Int} {r : List Int} (h : c ≠ 34) : midQ q (c :: r) = midF (c :: r) := by
  have : q = 0 ∨ q = 1 ∨ q = 2 := by omega
  rcases this with rfl | rfl | rfl
  · rfl
  · show midF (34 :: c :: r) = _
    rw [midF_34, quotesF_no1 h]; rfl
  · show midF (34 :: 34 :: c :: r) = _
    rw [midF_34, quotesF_no2 h, if_neg (by simp), midF_34, quotesF_no1 h]; rfl
theorem midQ_quote (q : Nat) (r : List Int) : midQ q (34 :: r) = midQ (q + 1) r := by
  unfold midQ
  rw [List.replicate_succ', List.append_assoc]; rfl
theorem midQ_3 (r : List Int) : midQ 3 r = false := by
  show midF (34 :: 34 :: 34 :: r) = _
  rw [midF_34, show quotesF (34 :: 34 :: 34 :: r) = true from rfl]; rfl
theorem midQ_nil {q : Nat} (hq : q ≤ 2) : midQ q [] = true := by
  have : q = 0 ∨ q = 1 ∨ q = 2 := by omega
  rcases this with rfl | rfl | rfl <;> decide

theorem standing_ok (l : List Int) (hl : smL l = true) (n : Nat) (hn : l.length < n) : evFn E38 n Try.f38 [.sl .i32 l none] = some (.one (.bool (blockOkF 0 l))) := by
  have hlen := smL_len hl
  have h4 := smL_lim hl
  rw [ev38]
  refine (loop_rule (fun p : Nat × Int × Nat => st38_4 l p.1 p.2.1 p.2.2) (fun p => p.1 ≤ 2 ∧ p.2.2 ≤ l.length + 4) (fun p => l.length - p.2.2) (fun p => (some (.one (.bool (midQ p.1 (l.drop p.2.2) && okEnd (lastF p.2.1 (l.drop p.2.2))))) : Option E6)) ?_ n (0, 0, 0) (by simp) (by simp only; omega))
  rintro ⟨q, last, i⟩ ⟨h1, h2⟩ K hke hkr hnx
  dsimp only at h1 h2 hnx ⊢
  rw [lb38_4_eq]
  by_cases h : i < l.length
  · rw [decide_eq_true (by omega : (i : Int) < (l.length : Int)), cond_true, idx_lt h, h4, decide_eq_true (by omega : (0 : Int) ≤ (i : Int)), Int.toNat_natCast, wrapSucc (by omega), wrapSucc (by omega)]
    have hw : IntKind.wrap .i64 ((i : Int) + 4) = ((i + 4 : Nat) : Int) := by
      rw [wrap64 (by omega) (by omega)]; omega
    rw [hw]
    dsimp only
    have hd := get_drop h
    cases hs : sourceF l[i] with
    | false =>
      have hc : l[i] ≠ 34 := fun e => by rw [e] at hs; exact absurd hs (by decide)
      have he : isEsc (l[i] :: l.drop (i + 1)) = false := by
        rw [isEsc_cons]
        by_cases e : l[i] = 92
        · rw [e] at hs; exact absurd hs (by decide)
        · rw [beqF e]; rfl
      rw [hd, midQ_other h1 hc, midF_cons he, hs]
      exact (hkr _).trans rfl
    | true =>
      cases he : isEsc (l.drop i) with
      | true =>
        obtain ⟨r, hr⟩ := isEsc_iff.1 he
        have hr4 : l.drop (i + 4) = r := by
          have := congrArg (List.drop 4) hr
          simpa using this
        refine (hnx (0, 0, i + 4) ⟨by simp, by simp only; omega⟩ (by simp only; omega)).trans ?_
        dsimp only
        rw [hr4, hr, midQ_other h1 (by decide), midF_esc, lastF_esc]; rfl
      | false =>
        rw [hd] at he ⊢
        rw [lastF_cons he]
        by_cases hc : l[i] = 34
        · rw [beqT hc, hc, midQ_quote]
          by_cases hq : q = 2
          · subst hq
            rw [midQ_3]
            exact (hkr _).trans rfl
          · rw [beqF (by omega : ((q + 1 : Nat) : Int) ≠ 3)]
            exact hnx (q + 1, 34, i + 1) ⟨by simp only; omega, by simp only; omega⟩ (by simp only; omega)
        · rw [beqF hc]
          refine (hnx (0, l[i], i + 1) ⟨by simp, by simp only; omega⟩ (by simp only; omega)).trans ?_
          dsimp only
          have hq : quotesF (l[i] :: l.drop (i + 1)) = false := by
            cases hq : quotesF (l[i] :: l.drop (i + 1)) with
            | false => rfl
            | true => obtain ⟨r', hr⟩ := quotesF_iff.1 hq; simp only [List.cons.injEq] at hr; exact absurd hr.1 hc
          rw [midQ_other h1 hc, midF_cons he, hs, hq]; rfl
  · rw [decide_eq_false (by omega : ¬ (i : Int) < (l.length : Int)), cond_false, hke, ex38_4_0, List.drop_eq_nil_of_le (by omega), midQ_nil h1, show lastF last [] = last from rfl, okEnd_eq]
    by_cases hq : last = 34
    · rw [bneF hq, if_pos hq]; rfl
    · rw [bneT hq, if_neg hq]; rfl

theorem lineF_cons (cur : List Int) (c : Int) (r : List Int) : lineF cur (c :: r) = if endsF (c :: r) then cur :: lineF [] r else if c = 13 then lineF cur r else lineF (cur ++ [c]) r := rfl
theorem lines_ok (l : List Int) (hl : smL l = true) (n : Nat) (hn : l.length < n) : evFn E37 n Try.f37 [.sl .i32 l none] = some (.one (.sl .rs (linesF l) (some 1))) := by
  have hlen := smL_len hl
  have h4 := smL_lim hl
  rw [ev37]
  refine (loop_rule (fun p : List (List Int) × List Int × Nat => st37_4 l p.1 p.2.1 l (l.length : Int) p.2.2) (fun p => p.1.length ≤ p.2.2 ∧ p.2.1.length ≤ p.2.2 ∧ p.2.2 ≤ l.length) (fun p => l.length - p.2.2) (fun p => (some (.one (.sl .rs (p.1 ++ lineF p.2.1 (l.drop p.2.2)) (some 1))) : Option E6)) ?_ n ([], [], 0) (by simp) (by simp only; omega)).trans rfl
  rintro ⟨all, cur, i⟩ ⟨h1, h2, h3⟩ K hke hkr hnx
  dsimp only at h1 h2 h3 hnx ⊢
  rw [lb37_4_eq]
  by_cases h : i < l.length
  · rw [decide_eq_true (by omega : (i : Int) < (l.length : Int)), cond_true, idx_lt h, h4, decide_eq_true (by omega : (0 : Int) ≤ (i : Int)), Int.toNat_natCast, wrapSucc (by omega), room_iff.2 (by omega), room_iff.2 (by omega)]
    dsimp only
    have hd := get_drop h
    rw [hd, lineF_cons, ← hd]
    cases he : endsF (l.drop i) with
    | true =>
      rw [if_pos rfl]
      refine (hnx (all ++ [cur], [], i + 1) ⟨by simp; omega, by simp, by simp only; omega⟩ (by simp only; omega)).trans ?_
      simp
    | false =>
      rw [if_neg (by simp)]
      by_cases hc : l[i] = 13
      · rw [beqT hc, if_pos hc]
        exact hnx (all, cur, i + 1) ⟨by simp only; omega, by simp only; omega, by simp only; omega⟩ (by simp only; omega)
      · rw [beqF hc, if_neg hc]
        exact hnx (all, cur ++ [l[i]], i + 1) ⟨by simp only; omega, by simp; omega, by simp only; omega⟩ (by simp only; omega)
  · rw [decide_eq_false (by omega : ¬ (i : Int) < (l.length : Int)), cond_false, hke, ex37_4_0, List.drop_eq_nil_of_le (by omega), room_iff.2 (by omega)]
    rfl

theorem startsN_cons (i : Nat) (c : Int) (r : List Int) : startsN i (c :: r) = if endsF (c :: r) then ((i + 1 : Nat) : Int) :: startsN (i + 1) r else startsN (i + 1) r := rfl
theorem starts_ok (l : List Int) (hl : smL l = true) (n : Nat) (hn : l.length < n) : evFn E55 n Try.f55 [.sl .i32 l none] = some (.one (.sl .i64 (startsF l) (some 1))) := by
  have hlen := smL_len hl
  rw [ev55]
  refine (loop_rule (fun p : List Int × Nat => st55_3 l p.1 p.2) (fun p => p.1.length ≤ p.2 + 1 ∧ p.2 ≤ l.length) (fun p => l.length - p.2) (fun p => (some (.one (.sl .i64 (p.1 ++ startsN p.2 (l.drop p.2)) (some 1))) : Option E6)) ?_ n ([0], 0) (by simp) (by simp only; omega)).trans rfl
  rintro ⟨s, i⟩ ⟨h1, h2⟩ K hke hkr hnx
  dsimp only at h1 h2 hnx ⊢
  rw [lb55_3_eq]
  by_cases h : i < l.length
  · rw [decide_eq_true (by omega : (i : Int) < (l.length : Int)), cond_true, idx_lt h, wrapSucc (by omega), room_iff.2 (by omega)]
    dsimp only
    have hd := get_drop h
    have hyes : endsF (l.drop i) = true → K .normal (st55_3 l (s ++ [((i + 1 : Nat) : Int)]) ((i + 1 : Nat) : Int)) = some (.one (.sl .i64 (s ++ startsN i (l.drop i)) (some 1))) := fun he => by
      refine (hnx (s ++ [((i + 1 : Nat) : Int)], i + 1) ⟨by simp; omega, by simp only; omega⟩ (by simp only; omega)).trans ?_
      rw [hd] at he ⊢
      rw [startsN_cons, if_pos he]; simp
    have hno : endsF (l.drop i) = false → K .normal (st55_3 l s ((i + 1 : Nat) : Int)) = some (.one (.sl .i64 (s ++ startsN i (l.drop i)) (some 1))) := fun he => by
      refine (hnx (s, i + 1) ⟨by simp only; omega, by simp only; omega⟩ (by simp only; omega)).trans ?_
      rw [hd] at he ⊢
      rw [startsN_cons, he]; rfl
    have hends := endsF_drop h
    by_cases c1 : l[i] = 13
    · have c2 : l[i] ≠ 10 := by omega
      rw [if_neg c2, if_pos c1] at hends
      rw [bneF c1, beqT c1]
      by_cases h3 : i + 1 < l.length
      · rw [decide_eq_true (by omega : ((i + 1 : Nat) : Int) < (l.length : Int)), idx_lt h3]
        rw [List.getElem?_eq_getElem h3] at hends
        by_cases c3 : l[i + 1] = 10
        · rw [c3] at hends
          dsimp only
          rw [beqT c3]
          exact hno (by rw [hends]; rfl)
        · dsimp only
          rw [beqF c3]
          refine hyes ?_
          rw [hends]
          simp [c3]
      · rw [decide_eq_false (by omega : ¬ ((i + 1 : Nat) : Int) < (l.length : Int))]
        refine hyes ?_
        rw [hends, List.getElem?_eq_none (by omega)]; rfl
    · rw [bneT c1, beqF c1]
      rw [if_neg c1] at hends
      by_cases c2 : l[i] = 10
      · rw [bneF c2]
        exact hyes (by rw [hends, if_pos c2])
      · rw [bneT c2]
        exact hno (by rw [hends, if_neg c2])
  · rw [decide_eq_false (by omega : ¬ (i : Int) < (l.length : Int)), cond_false, hke, ex55_3_0, List.drop_eq_nil_of_le (by omega), show startsN i [] = [] from rfl, List.append_nil]
end Go.Aev
end

section
set_option linter.unusedVariables false
namespace Go.Aev
open Go.Proofs

/-! ### lines by the places where they begin -/
theorem startsN_none : ∀ (m : List Int) (i : Nat), startsN i m = [] → ∀ cur, lineF cur m = [cur ++ m]
  | [], i, _, cur => by simp [lineF]
  | c :: r, i, h, cur => by
    rw [startsN_cons] at h
    rw [lineF_cons]
    cases he : endsF (c :: r) with
    | true => rw [he] at h; simp at h
    | false =>
      rw [he] at h
      simp only [Bool.false_eq_true, if_false] at h ⊢
      have ih := startsN_none r (i + 1) h
      by_cases hc : c = 13
      · subst hc
        have h2 : (!(r.head? == some 10)) = false := he
        cases r with
        | nil => simp at h2
        | cons d r =>
          simp at h2
          subst h2
          rw [startsN_cons] at h
          rw [show endsF (10 :: r) = true from rfl] at h
          simp at h
      · rw [if_neg hc, ih]; simp
def cutJ (m : List Int) (j : Nat) : Nat := if m[j]? = some 10 ∧ 0 < j ∧ m[j - 1]? = some 13 then j - 1 else j
theorem startsN_some : ∀ (m : List Int) (i : Nat) (b : Int) (rest : List Int), startsN i m = b :: rest →
    ∃ j : Nat, j < m.length ∧ b = ((i + j + 1 : Nat) : Int) ∧ rest = startsN (i + j + 1) (m.drop (j + 1)) ∧ ∀ cur, lineF cur m = (cur ++ m.take (cutJ m j)) :: lineF [] (m.drop (j + 1))
  | [], i, b, rest, h => by cases h
  | c :: r, i, b, rest, h => by
    rw [startsN_cons] at h
    cases he : endsF (c :: r) with
    | true =>
      rw [he] at h
      simp only [if_true, List.cons.injEq] at h
      refine ⟨0, by simp, h.1.symm, by simpa using h.2.symm, fun cur => ?_⟩
      rw [lineF_cons, he]
      simp [cutJ]
    | false =>
      rw [he] at h
      simp only [Bool.false_eq_true, if_false] at h
      obtain ⟨j, h1, h2, h3, h4⟩ := startsN_some r (i + 1) b rest h
      refine ⟨j + 1, by simp; omega, by rw [h2]; congr 1; omega, by rw [h3, List.drop_succ_cons]; congr 1; omega, fun cur => ?_⟩
      rw [lineF_cons, he, List.drop_succ_cons]
      simp only [Bool.false_eq_true, if_false]
      by_cases hc : c = 13
      · subst hc
        have h2' : (!(r.head? == some 10)) = false := he
        cases r with
        | nil => simp at h2'
        | cons d r =>
          simp at h2'
          subst h2'
          rw [startsN_cons, show endsF (10 :: r) = true from rfl] at h
          simp only [if_true, List.cons.injEq] at h
          have hj : j = 0 := by have := h.1; rw [h2] at this; omega
          subst hj
          rw [if_pos rfl, h4]
          simp [cutJ]
      · rw [if_neg hc, h4]
        have hcut : (c :: r).take (cutJ (c :: r) (j + 1)) = c :: r.take (cutJ r j) := by
          unfold cutJ
          rw [List.getElem?_cons_succ, Nat.add_sub_cancel]
          cases j with
          | zero =>
            rw [List.getElem?_cons_zero, if_neg (by rintro ⟨_, _, h5⟩; exact hc (Option.some.inj h5)), if_neg (by rintro ⟨_, h5, _⟩; omega)]
            rfl
          | succ j =>
            rw [List.getElem?_cons_succ, Nat.add_sub_cancel]
            by_cases hh : r[j + 1]? = some 10 ∧ r[j]? = some 13
            · rw [if_pos ⟨hh.1, by omega, hh.2⟩, if_pos ⟨hh.1, by omega, hh.2⟩]; rfl
            · rw [if_neg (fun h5 => hh ⟨h5.1, h5.2.2⟩), if_neg (fun h5 => hh ⟨h5.1, h5.2.2⟩)]; rfl
        rw [hcut]; simp
theorem startsN_len : ∀ (m : List Int) (i : Nat), (startsN i m).length ≤ m.length
  | [], _ => by simp [startsN]
  | c :: r, i => by
    rw [startsN_cons]
    have := startsN_len r (i + 1)
    split <;> simp <;> omega
theorem cutJ_le (m : List Int) (j : Nat) : cutJ m j ≤ j := by unfold cutJ; split <;> omega

theorem rlines_ok (l : List Int) (hl : smL l = true) (n : Nat) (hn : l.length + 2 < n) : evFn E39 n Try.f39 [.sl .i32 l none] = some (.one (.sl .rs (linesF l) (some 1))) := by
  have hlen := smL_len hl
  have h4 := smL_lim hl
  have hsl : (startsF l).length ≤ l.length + 1 := by have := startsN_len l 0; simp [startsF]; omega
  rw [ev39, hl, cond_true]
  refine (loop_rule (fun p : List (List Int) × Nat × Nat × Bool => st39_4 l p.1 (startsF l) p.2.1)
    (fun p => p.1.length = p.2.1 ∧ p.2.2.1 ≤ l.length ∧ (p.2.2.2 = true → p.2.1 = (startsF l).length) ∧ (p.2.2.2 = false → (startsF l).drop p.2.1 = (p.2.2.1 : Int) :: startsN p.2.2.1 (l.drop p.2.2.1)))
    (fun p => (startsF l).length - p.2.1) (fun p => (some (.one (.sl .rs (bif p.2.2.2 then p.1 else p.1 ++ lineF [] (l.drop p.2.2.1)) (some 1))) : Option E6)) ?_ n ([], 0, 0, false)
    ⟨rfl, Nat.zero_le _, (fun h => by cases h), fun _ => rfl⟩ (by simp only; omega)).trans rfl
  rintro ⟨out, k, a, done⟩ ⟨h1, h2, h3, h5⟩ K hke hkr hnx
  dsimp only at h1 h2 h3 h5 hnx ⊢
  rw [lb39_4_eq]
  cases done with
  | true =>
    have hk := h3 rfl
    rw [decide_eq_false (by omega : ¬ (k : Int) < ((startsF l).length : Int)), cond_false, hke, ex39_4_0]; rfl
  | false =>
    have hd := h5 rfl
    have hk : k < (startsF l).length := by
      rcases Nat.lt_or_ge k (startsF l).length with h | h
      · exact h
      · rw [List.drop_eq_nil_of_le h] at hd; cases hd
    rw [get_drop hk] at hd
    simp only [List.cons.injEq] at hd
    obtain ⟨hsk, hrest⟩ := hd
    rw [decide_eq_true (by omega : (k : Int) < ((startsF l).length : Int)), cond_true, wrapSucc (by omega), idx_lt hk, hsk]
    dsimp only
    rw [room_iff.2 (by omega : (out.length + 1) * 24 ≤ 140737488355328)]
    by_cases h6 : k + 1 < (startsF l).length
    · rw [decide_eq_true (by omega : ((k + 1 : Nat) : Int) < ((startsF l).length : Int)), idx_lt h6]
      have hr2 := hrest
      rw [get_drop h6] at hr2
      obtain ⟨j, j1, j2, j3, j4⟩ := startsN_some _ _ _ _ hr2.symm
      rw [List.length_drop] at j1
      rw [j2]
      dsimp only
      have hlin := j4 []
      rw [List.nil_append] at hlin
      have hfin : ∀ e : Nat, e = a + cutJ (l.drop a) j → ∀ x, x = (l.drop a).take (e - a) → K .normal (st39_4 l (out ++ [x]) (startsF l) ((k + 1 : Nat) : Int)) = some (.one (.sl .rs (out ++ lineF [] (l.drop a)) (some 1))) := by
        intro e he x hx
        have he2 : e - a = cutJ (l.drop a) j := by omega
        refine (hnx (out ++ [x], k + 1, a + j + 1, false) ⟨by simp; omega, by simp only; omega, (fun h => by cases h), fun _ => ?_⟩ (by simp only; omega)).trans ?_
        · dsimp only
          rw [get_drop h6, j2, j3, List.drop_drop]
          rfl
        · dsimp only
          refine congrArg (fun z : List (List Int) => (some (.one (.sl .rs z (some 1))) : Option E6)) ?_
          rw [hlin, hx, he2, List.drop_drop]
          show out ++ [_] ++ _ = _
          rw [List.append_assoc]
          rfl
      have w1 : IntKind.wrap .i64 (((a + j + 1 : Nat) : Int) - 1) = ((a + j : Nat) : Int) := by rw [wrap64 (by omega) (by omega)]; omega
      rw [w1, idx_lt (by omega : a + j < l.length)]
      dsimp only
      have hmj : (l.drop a)[j]? = some (l[a + j]'(by omega)) := by rw [List.getElem?_drop, List.getElem?_eq_getElem (by omega)]
      have hsub : ∀ e : Nat, a ≤ e → e ≤ l.length → sub l (a : Int) (e : Int) = some ((l.drop a).take (e - a)) := fun e he1 he2 => sub_nat he1 he2
      have hw2 : ∀ e : Nat, a ≤ e → e ≤ l.length → IntKind.wrap .i64 ((e : Int) - (a : Int)) = ((e - a : Nat) : Int) := fun e he1 he2 => by rw [wrap64 (by omega) (by omega)]; omega
      have hrm : ∀ e : Nat, e ≤ l.length → room e 4 = true := fun e he => room_iff.2 (by omega)
      have hfull : cutJ (l.drop a) j = j → (bif decide ((0 : Int) ≤ ((a + j - a : Nat) : Int)) && room (Int.toNat ((a + j - a : Nat) : Int)) 4 then (match sub l (a : Int) ((a + j : Nat) : Int) with | none => none | some y7 => (bif room (0 + List.length y7) 4 then (bif true then (K .normal (st39_4 l (out ++ [y7]) (startsF l) ((k + 1 : Nat) : Int))) else none) else none)) else none) = some (.one (.sl .rs (out ++ lineF [] (l.drop a)) (some 1))) := by
        intro hcut
        rw [decide_eq_true (by omega), Int.toNat_natCast, hrm _ (by omega), hsub _ (by omega) (by omega)]
        dsimp only
        rw [hrm _ (by rw [List.length_take, List.length_drop]; omega)]
        exact hfin (a + j) (by omega) _ rfl
      by_cases c1 : l[a + j] = 10
      · rw [beqT c1]
        by_cases c2 : 0 < j
        · rw [decide_eq_true (by omega : ((a + j : Nat) : Int) > (a : Int))]
          have w2 : IntKind.wrap .i64 (((a + j : Nat) : Int) - 1) = ((a + j - 1 : Nat) : Int) := by rw [wrap64 (by omega) (by omega)]; omega
          rw [w2, idx_lt (by omega : a + j - 1 < l.length)]
          dsimp only
          have hmj1 : (l.drop a)[j - 1]? = some (l[a + j - 1]'(by omega)) := by
            have e : a + (j - 1) = a + j - 1 := by omega
            rw [List.getElem?_drop, List.getElem?_eq_getElem (by omega)]
            simp only [e]
          by_cases c3 : l[a + j - 1] = 13
          · rw [beqT c3, hw2 (a + j - 1) (by omega) (by omega)]
            have hcut : cutJ (l.drop a) j = j - 1 := by unfold cutJ; rw [hmj, hmj1, c1, c3, if_pos ⟨rfl, c2, rfl⟩]
            rw [decide_eq_true (by omega : (0 : Int) ≤ ((a + j - 1 - a : Nat) : Int)), Int.toNat_natCast, hrm _ (by omega), hsub _ (by omega) (by omega)]
            dsimp only
            rw [hrm _ (by rw [List.length_take, List.length_drop]; omega)]
            exact hfin (a + j - 1) (by omega) _ rfl
          · rw [beqF c3, hw2 (a + j) (by omega) (by omega)]
            exact hfull (by unfold cutJ; rw [hmj1, if_neg (fun h => c3 (Option.some.inj h.2.2))])
        · rw [decide_eq_false (by omega : ¬ ((a + j : Nat) : Int) > (a : Int)), hw2 (a + j) (by omega) (by omega)]
          exact hfull (by unfold cutJ; rw [if_neg (fun h => c2 h.2.1)])
      · rw [beqF c1, hw2 (a + j) (by omega) (by omega)]
        exact hfull (by unfold cutJ; rw [hmj, if_neg (fun h => c1 (Option.some.inj h.1))])
    · rw [decide_eq_false (by omega : ¬ ((k + 1 : Nat) : Int) < ((startsF l).length : Int))]
      have hnil : startsN a (l.drop a) = [] := by rw [← hrest, List.drop_eq_nil_of_le (by omega)]
      have hlin := startsN_none _ _ hnil []
      rw [List.nil_append] at hlin
      have w2 : IntKind.wrap .i64 ((l.length : Int) - (a : Int)) = ((l.length - a : Nat) : Int) := by rw [wrap64 (by omega) (by omega)]; omega
      rw [w2, decide_eq_true (by omega : (0 : Int) ≤ ((l.length - a : Nat) : Int)), Int.toNat_natCast, room_iff.2 (by omega), sub_from h2]
      dsimp only
      rw [room_iff.2 (by rw [List.length_drop]; omega)]
      refine Eq.trans (b := K .normal (st39_4 l (out ++ [l.drop a]) (startsF l) ((k + 1 : Nat) : Int))) rfl ?_
      refine (hnx (out ++ [l.drop a], k + 1, a, true) ⟨by simp; omega, h2, (fun _ => by simp only; omega), (fun h => by cases h)⟩ (by simp only; omega)).trans ?_
      refine congrArg (fun z : List (List Int) => (some (.one (.sl .rs z (some 1))) : Option E6)) ?_
      rw [hlin]; rfl
end Go.Aev
end

section
set_option linter.unusedVariables false
namespace Go.Aev
open Go.Proofs

/-! ### sizes -/
def totL (ls : List (List Int)) : Nat := (ls.map List.length).sum
theorem totL_cons (l : List Int) (ls : List (List Int)) : totL (l :: ls) = l.length + totL ls := by simp [totL]
theorem totL_append (a b : List (List Int)) : totL (a ++ b) = totL a + totL b := by simp [totL]
theorem totL_sub {a b : List (List Int)} (h : a.Sublist b) : totL a ≤ totL b := by
  induction h with
  | slnil => simp
  | cons x _ ih => rw [totL_cons]; omega
  | cons_cons x _ ih => rw [totL_cons, totL_cons]; omega
theorem totL_mem {a : List (List Int)} {x : List Int} (h : x ∈ a) : x.length ≤ totL a := by
  have := totL_sub (List.singleton_sublist.2 h)
  simpa [totL] using this
theorem totL_map {f : List Int → List Int} (hf : ∀ l, (f l).length ≤ l.length) (a : List (List Int)) : totL (a.map f) ≤ totL a := by
  induction a with
  | nil => simp
  | cons l r ih => have := hf l; rw [List.map_cons, totL_cons, totL_cons]; omega
theorem lineF_tot : ∀ (m cur : List Int), totL (lineF cur m) ≤ cur.length + m.length ∧ (lineF cur m).length ≤ m.length + 1
  | [], cur => by simp [lineF, totL]
  | c :: r, cur => by
    rw [lineF_cons]
    split
    · have := lineF_tot r []
      rw [totL_cons]
      simp at this ⊢
      omega
    · split
      · have := lineF_tot r cur
        simp; omega
      · have := lineF_tot r (cur ++ [c])
        simp at this ⊢
        omega
theorem linesF_tot (l : List Int) : totL (linesF l) ≤ l.length ∧ (linesF l).length ≤ l.length + 1 := by
  have := lineF_tot l []
  simpa [linesF] using this
theorem trimF_sub (ls : List (List Int)) : (trimF ls).Sublist ls := by
  unfold trimF
  have h1 := (List.dropWhile_sublist (l := (List.dropWhile blankF ls).reverse) blankF).reverse
  rw [List.reverse_reverse] at h1
  exact h1.trans (List.dropWhile_sublist _)
theorem dedent_tot (ls : List (List Int)) : totL (dedentF ls) ≤ totL ls ∧ (dedentF ls).length ≤ ls.length := by
  unfold dedentF
  have h1 := totL_sub (trimF_sub (cutF ls))
  have h2 := (trimF_sub (cutF ls)).length_le
  have h3 : totL (cutF ls) ≤ totL ls := by
    unfold cutF
    rw [totL_append]
    have := totL_map (f := fun l => l.drop (commonF ls).toNat) (fun l => by simp) (ls.drop 1)
    have h4 : totL (ls.take 1) + totL (ls.drop 1) = totL ls := by rw [← totL_append, List.take_append_drop]
    omega
  have h4 : (cutF ls).length = ls.length := by unfold cutF; simp; omega
  omega
theorem limL_tot {ls : List (List Int)} (h1 : totL ls ≤ 1073741824) (h2 : ls.length ≤ 1073741825) : limL ls = true := by
  unfold limL
  simp only [Bool.and_eq_true, List.all_eq_true]
  exact ⟨room_iff.2 (by omega), fun x hx => lim4_iff.2 (by have := totL_mem hx; omega)⟩

/-! ### joining -/
theorem joinLF_len (ls : List (List Int)) : (joinLF ls).length ≤ totL ls + ls.length := by
  cases ls with
  | nil => simp [joinLF]
  | cons l r =>
    unfold joinLF
    rw [totL_cons]
    have : (r.flatMap (10 :: ·)).length ≤ totL r + r.length := by
      induction r with
      | nil => simp
      | cons x r ih => rw [List.flatMap_cons, List.length_append, totL_cons]; simp only [List.length_cons]; omega
    rw [List.length_append, List.length_cons]
    omega
theorem joinLF_take {ls : List (List Int)} {i : Nat} (h : i < ls.length) (h0 : 0 < i) : joinLF (ls.take (i + 1)) = joinLF (ls.take i) ++ [10] ++ ls[i] := by
  match ls, i, h, h0 with
  | l :: r, i + 1, h, _ =>
    simp only [List.length_cons, Nat.add_lt_add_iff_right] at h
    rw [List.take_succ_cons, List.take_succ_cons, List.take_succ_eq_append_getElem h]
    show l ++ (r.take i ++ [r[i]]).flatMap (10 :: ·) = (l ++ (r.take i).flatMap (10 :: ·)) ++ [10] ++ r[i]
    rw [List.flatMap_append]
    simp
theorem joinLF_take1 {ls : List (List Int)} (h : 0 < ls.length) : joinLF (ls.take 1) = ls[0] := by
  match ls, h with
  | l :: r, _ => simp [joinLF]

/-! ### lines of an opened text -/
theorem openF_head (r : List Int) : ((openF r).head? == some 10) = (r.head? == some 10) := by
  fun_cases openF r with
  | case1 r => rfl
  | case2 c r h => rfl
  | case3 => rfl
theorem endsF_cons (c : Int) (r : List Int) : endsF (c :: r) = if c = 10 then true else if c = 13 then !(r.head? == some 10) else false := by
  by_cases h1 : c = 10
  · subst h1; rfl
  · rw [if_neg h1]
    by_cases h2 : c = 13
    · subst h2; rfl
    · rw [if_neg h2]
      unfold endsF
      split
      · rename_i heq; simp only [List.cons.injEq] at heq; exact absurd heq.1 h1
      · rename_i heq; simp only [List.cons.injEq] at heq; exact absurd heq.1 h2
      · rfl
theorem quotesF_pre {x y : List Int} (h : x <+: y) (hx : quotesF x = true) : quotesF y = true := by
  obtain ⟨z, rfl⟩ := h
  obtain ⟨r, rfl⟩ := quotesF_iff.1 hx
  rfl
theorem isEsc_pre {x y : List Int} (h : x <+: y) (hx : isEsc y = false) : isEsc x = false := by
  cases hq : isEsc x with
  | false => rfl
  | true =>
    obtain ⟨z, rfl⟩ := h
    obtain ⟨r, rfl⟩ := isEsc_iff.1 hq
    rw [show isEsc (92 :: 34 :: 34 :: 34 :: r ++ z) = true from rfl] at hx
    cases hx
theorem lineF_skip (cur : List Int) (c : Int) (r : List Int) (h1 : c ≠ 10) (h2 : c ≠ 13) : lineF cur (c :: r) = lineF (cur ++ [c]) r := by
  rw [lineF_cons, endsF_cons, if_neg h1, if_neg h2]; simp [h2]
theorem lineF_open : ∀ (l cur cur' : List Int), (∀ x, x <+: l → openF (cur ++ x) = cur' ++ openF x) → lineF cur' (openF l) = (lineF cur l).map openF := by
  intro l
  fun_induction openF l with
  | case1 r ih =>
    intro cur cur' h
    rw [lineF_skip _ _ _ (by decide) (by decide), lineF_skip _ _ _ (by decide) (by decide), lineF_skip _ _ _ (by decide) (by decide),
      lineF_skip cur _ _ (by decide) (by decide), lineF_skip _ _ _ (by decide) (by decide), lineF_skip _ _ _ (by decide) (by decide), lineF_skip _ _ _ (by decide) (by decide)]
    refine ih _ _ (fun x hx => ?_)
    have := h (92 :: 34 :: 34 :: 34 :: x) (by simpa using hx)
    rw [openF_esc] at this
    simpa using this
  | case2 c r hne ih =>
    intro cur cur' h
    have he : isEsc (c :: r) = false := by
      cases hq : isEsc (c :: r) with
      | false => rfl
      | true =>
        obtain ⟨r', hr⟩ := isEsc_iff.1 hq
        simp only [List.cons.injEq] at hr
        exact absurd hr.2 (fun e => hne r' hr.1 e)
    have hends : endsF (c :: openF r) = endsF (c :: r) := by rw [endsF_cons, endsF_cons, openF_head]
    rw [lineF_cons, lineF_cons, hends]
    cases hq : endsF (c :: r) with
    | true =>
      simp only [if_true, List.map_cons]
      rw [ih [] [] (fun x _ => rfl)]
      have := h [] (List.nil_prefix)
      rw [List.append_nil, show openF [] = [] from rfl, List.append_nil] at this
      rw [this]
    | false =>
      simp only [Bool.false_eq_true, if_false]
      by_cases hc : c = 13
      · rw [if_pos hc, if_pos hc]
        subst hc
        -- the line end goes on with the next character
        have h10 : r.head? = some 10 := by
          rw [endsF_cons] at hq
          simpa using hq
        match r, h10 with
        | 10 :: r', _ =>
          have ih' := ih [] [] (fun x _ => rfl)
          have hr2 : openF (10 :: r') = 10 :: openF r' := openF_cons (by rw [isEsc_cons]; rfl)
          rw [hr2] at ih' ⊢
          rw [lineF_cons, show endsF (10 :: openF r') = true from rfl, lineF_cons, show endsF (10 :: r') = true from rfl] at ih' ⊢
          simp only [if_true, List.map_cons, List.cons.injEq] at ih' ⊢
          refine ⟨?_, ih'.2⟩
          have := h [] (List.nil_prefix)
          rw [List.append_nil, show openF [] = [] from rfl, List.append_nil] at this
          exact this.symm
      · rw [if_neg hc, if_neg hc]
        refine ih _ _ (fun x hx => ?_)
        have hcx : c :: x <+: c :: r := by simpa using hx
        have := h (c :: x) hcx
        rw [openF_cons (isEsc_pre hcx he)] at this
        simpa using this
  | case3 =>
    intro cur cur' h
    have := h [] (List.nil_prefix)
    rw [List.append_nil, show openF [] = [] from rfl, List.append_nil] at this
    simp [lineF, this]
theorem lines_open (l : List Int) : linesF (openF l) = (linesF l).map openF := lineF_open l [] [] (fun x _ => rfl)
end Go.Aev
end

section
set_option linter.unusedVariables false
namespace Go.Aev
open Go.Proofs

theorem blockF_eq (l : List Int) : blockF l = if midF l && okEnd (lastF 0 l) then ((encF (joinLF (dedentF (linesF (openF l))))).1, 0) else ([], 60) := rfl

/-- The loop that joins lines. -/
theorem join_loop {ls : List (List Int)} (h1 : totL ls ≤ 1073741824) (h2 : ls.length ≤ 1073741825) {n : Nat} (hn : ls.length < n) {body : S6 → (Ex → S6 → Option E6) → Option E6} {k : Ex → S6 → Option E6} {st : List Int → Int → S6}
    (hexit : ∀ (out : List Int) (i : Nat), ls.length ≤ i → lim4 out = true → ∀ K : Ex → S6 → Option E6, (∀ j s, K (.exit j) s = k (.exit j) s) → body (st out i) K = some (.tup [.str (encF out).1, .int .i64 0]))
    (hstep : ∀ (out : List Int) (i : Nat) (h : i < ls.length), room (out.length + 1) 4 = true → room ((out ++ [10]).length + ls[i].length) 4 = true → room (out.length + ls[i].length) 4 = true → ∀ K : Ex → S6 → Option E6,
      body (st out i) K = K .normal (st (if 0 < i then (out ++ [10]) ++ ls[i] else out ++ ls[i]) ((i + 1 : Nat) : Int))) :
    evLoop body n (st [] 0) k = some (.tup [.str (encF (joinLF ls)).1, .int .i64 0]) := by
  refine (loop_rule (fun i : Nat => st (joinLF (ls.take i)) i) (fun i => i ≤ ls.length) (fun i => ls.length - i) (fun i => (some (.tup [.str (encF (joinLF ls)).1, .int .i64 0]) : Option E6)) ?_ n 0 (Nat.zero_le _) (by omega))
  intro i hi K hke hkr hnx
  have hj := joinLF_len (ls.take i)
  have ht := totL_sub (List.take_sublist i ls)
  have hl : (ls.take i).length ≤ i := List.length_take_le _ _
  by_cases h : i < ls.length
  · have hm := totL_mem (List.getElem_mem h)
    rw [hstep _ i h (room_iff.2 (by omega)) (room_iff.2 (by simp; omega)) (room_iff.2 (by omega)) K]
    have : (if 0 < i then (joinLF (ls.take i) ++ [10]) ++ ls[i] else joinLF (ls.take i) ++ ls[i]) = joinLF (ls.take (i + 1)) := by
      by_cases h0 : 0 < i
      · rw [if_pos h0, joinLF_take h h0]
      · have : i = 0 := by omega
        subst this
        rw [if_neg h0, joinLF_take1 h]; rfl
    rw [this]
    exact hnx (i + 1) (by omega) (by omega)
  · rw [hexit _ i (by omega) (lim4_iff.2 (by omega)) K hke, List.take_of_length_le (by omega)]

theorem block_sizes {l : List Int} (hl : smL l = true) : totL (dedentF (linesF (openF l))) ≤ 1073741824 ∧ (dedentF (linesF (openF l))).length ≤ l.length + 1 := by
  have h0 := smL_len hl
  have h1 := openF_len l
  have h2 := linesF_tot (openF l)
  have h3 := dedent_tot (linesF (openF l))
  omega
theorem block_ok (l : List Int) (hl : smL l = true) (n : Nat) (hn : l.length + 2 < n) : evFn E22 n Try.f22 [.sl .i32 l none] = some (.tup [.str (blockF l).1, .int .i64 (blockF l).2]) := by
  have hlen := smL_len hl
  rw [ev22, hl, cond_true, blockF_eq]
  unfold unmF
  cases hm : midF l with
  | false => rfl
  | true =>
    cases hk : okEnd (lastF 0 l) with
    | false => rfl
    | true =>
      have h1 := openF_len l
      have h2 := linesF_tot (openF l)
      have h3 := block_sizes hl
      have h5 : smL (openF l) = true := smL_iff.2 (by omega)
      rw [if_pos rfl, if_pos (show (true && true) = true from rfl)]
      dsimp only
      rw [h5, limL_tot (by omega) (by omega)]
      show evLoop _ n _ _ = _
      generalize dedentF (linesF (openF l)) = ls at h3
      refine join_loop (n := n) h3.1 (by omega) (by omega) (st := fun out i => st22_6 out ls (ls.length : Int) i) (fun out i hi ho K hke => ?_) (fun out i h r1 r2 r3 K => ?_)
      · rw [lb22_6_eq, decide_eq_false (by omega : ¬ (i : Int) < (ls.length : Int)), cond_false, hke, ex22_6_0, ho]; rfl
      · rw [lb22_6_eq, decide_eq_true (by omega : (i : Int) < (ls.length : Int)), cond_true, idx_lt h, wrapSucc (by omega)]
        dsimp only
        rw [r1, r2, r3]
        by_cases h0 : 0 < i
        · rw [decide_eq_true (by omega : (i : Int) > 0), if_pos h0]; rfl
        · rw [decide_eq_false (by omega : ¬ (i : Int) > 0), if_neg h0]; rfl

theorem rblock_ok (l : List Int) (hl : smL l = true) (n : Nat) (hn : l.length + 2 < n) : evFn E23 n Try.f23 [.sl .i32 l none] = some (.tup [.str (blockF l).1, .int .i64 (blockF l).2]) := by
  have hlen := smL_len hl
  rw [ev23, hl, cond_true, blockF_eq]
  have hb : blockOkF 0 l = (midF l && okEnd (lastF 0 l)) := rfl
  rw [hb]
  cases hm : midF l && okEnd (lastF 0 l) with
  | false => rfl
  | true =>
    have h1 := linesF_tot l
    have h3 := block_sizes hl
    rw [lines_open] at h3 ⊢
    rw [if_pos rfl]
    show evLoop _ n _ _ = _
    refine (loop_rule (fun i : Nat => st23_7 (linesF l) (((linesF l).take i).map openF) i) (fun i => i ≤ (linesF l).length) (fun i => (linesF l).length - i) (fun i => (some (.tup [.str (encF (joinLF (dedentF ((linesF l).map openF)))).1, .int .i64 0]) : Option E6)) ?_ n 0 (Nat.zero_le _) (by omega))
    intro i hi K hke hkr hnx
    rw [lb23_7_eq]
    by_cases h : i < (linesF l).length
    · have hm := totL_mem (List.getElem_mem h)
      rw [decide_eq_true (by omega : (i : Int) < ((linesF l).length : Int)), cond_true, idx_lt h, wrapSucc (by omega)]
      dsimp only
      rw [smL_iff.2 (by omega), room_iff.2 (by rw [List.length_map, List.length_take]; omega)]
      have e : ((linesF l).take i).map openF ++ [openF (linesF l)[i]] = ((linesF l).take (i + 1)).map openF := by
        rw [List.take_succ_eq_append_getElem h, List.map_append]; rfl
      rw [e]
      exact hnx (i + 1) (by omega) (by omega)
    · rw [decide_eq_false (by omega : ¬ (i : Int) < ((linesF l).length : Int)), cond_false, hke, ex23_7_0, List.take_of_length_le (by omega)]
      have h2 := totL_map openF_len (linesF l)
      rw [limL_tot (by omega) (by rw [List.length_map]; omega), cond_true]
      generalize dedentF ((linesF l).map openF) = ls at h3
      refine join_loop (n := n) h3.1 (by omega) (by omega) (st := fun out i => st23_14 ls out i) (fun out i hi ho K hke => ?_) (fun out i h r1 r2 r3 K => ?_)
      · rw [lb23_14_eq, decide_eq_false (by omega : ¬ (i : Int) < (ls.length : Int)), cond_false, hke, ex23_14_2, ho]; rfl
      · rw [lb23_14_eq, decide_eq_true (by omega : (i : Int) < (ls.length : Int)), cond_true, idx_lt h, wrapSucc (by omega)]
        dsimp only
        rw [r1, r2, r3]
        by_cases h0 : 0 < i
        · rw [decide_eq_true (by omega : (i : Int) > 0), if_pos h0]; rfl
        · rw [decide_eq_false (by omega : ¬ (i : Int) > 0), if_neg h0]; rfl

end Go.Aev
end
