/- Proved here: lemmas of an evaluator over the model's code that the claim's text uses (P25 P26 P27 P28 P29 P30 P31). Conditions: those that each lemma states. -/
import Derived.Test.YtemaknoadiaieaaDoorBpB
import Derived.Lib.QuoteBits
import Derived.Test.YtemaknoadiaieaaDoorBpA
section
set_option linter.unusedVariables false
namespace Go.Aev
open Go.Proofs Go.Lib

theorem smS_iff {s : List UInt8} : smS s = true ↔ s.length ≤ 67108864 := by simp [smS]
theorem dgF_drop (s : List UInt8) (i : Nat) (h : i < s.length) : dgF (s.drop i) = (((decodeL (s.drop i)).1 : Int), ((decodeL (s.drop i)).2 : Int)) := by
  unfold dgF decodeGoB decodeL
  have : ¬ (ByteArray.mk (s.drop i).toArray).size = 0 := by simp [ByteArray.size]; omega
  rw [if_neg this]

/-- The end of a loop that has read so far. -/
def finD (out : List Int) (i : Nat) (r : List Int × Nat) : Option E6 := some (.tup [.sl .i32 (out ++ r.1) (some 1), .int .i64 ((i + r.2 : Nat) : Int)])
theorem dec_ok (s : List UInt8) (hs : smS s = true) (n : Nat) (hn : s.length < n) : evFn E220 n Tryd.f20 [.str s] = some (.tup [.sl .i32 (decF s).1 (some 1), .int .i64 ((decF s).2 : Nat)]) := by
  have hlen := smS_iff.1 hs
  rw [ev220]
  refine (loop_rule (fun p : List Int × Nat => st220_4 s p.1 s p.2) (fun p => p.1.length ≤ p.2 ∧ p.2 ≤ s.length) (fun p => s.length - p.2) (fun p => finD p.1 p.2 (decF (s.drop p.2))) ?_ n ([], 0) (by simp) (by simp only; omega)).trans (by simp [finD])
  rintro ⟨out, i⟩ ⟨h1, h2⟩ K hke hkr hnx
  dsimp only at h1 h2 hnx ⊢
  rw [lb220_4_eq]
  by_cases h : i < s.length
  · have hne : s.drop i ≠ [] := by
      intro e
      have := congrArg List.length e
      rw [List.length_drop, List.length_nil] at this
      omega
    have hd : Utf8.decode ⟨s.toArray⟩ i = decodeL (s.drop i) := by rw [← decodeL_drop]
    have hw := decodeL_width (s.drop i)
    have hle := decodeL_le (s.drop i) hne
    rw [List.length_drop] at hle
    rw [decide_eq_true h, cond_true, hd, sub_from (by omega)]
    dsimp only
    rw [dgF_drop s i h, room_iff.2 (by omega)]
    cases hb : badL (s.drop i) with
    | true =>
      obtain ⟨b1, b2⟩ := badL_iff.1 hb
      rw [beqT (by omega : ((decodeL (s.drop i)).1 : Int) = 65533)]
      dsimp only
      rw [beqT (by omega : ((decodeL (s.drop i)).2 : Int) = 1), decF_bad hb]
      refine (hkr _).trans ?_
      simp only [finD, List.append_nil, Nat.add_zero]
      rfl
    | false =>
      have hstep := hnx (out ++ [((decodeL (s.drop i)).1 : Int)], i + (decodeL (s.drop i)).2) ⟨by simp; omega, by simp only; omega⟩ (by simp only; omega)
      dsimp only at hstep
      have hfin : finD (out ++ [((decodeL (s.drop i)).1 : Int)]) (i + (decodeL (s.drop i)).2) (decF (s.drop (i + (decodeL (s.drop i)).2))) = finD out i (decF (s.drop i)) := by
        rw [decF_good hne hb, List.drop_drop]
        unfold finD
        simp [Nat.add_assoc]
      rw [hfin] at hstep
      by_cases b1 : (decodeL (s.drop i)).1 = 65533
      · have b2 : (decodeL (s.drop i)).2 ≠ 1 := fun b2 => by rw [badL_iff.2 ⟨b1, b2⟩] at hb; cases hb
        rw [beqT (by omega : ((decodeL (s.drop i)).1 : Int) = 65533)]
        dsimp only
        rw [beqF (by omega : ((decodeL (s.drop i)).2 : Int) ≠ 1)]
        exact hstep
      · rw [beqF (by omega : ((decodeL (s.drop i)).1 : Int) ≠ 65533)]
        exact hstep
  · rw [decide_eq_false h, cond_false, hke, ex220_4_0, List.drop_eq_nil_of_le (by omega), decF_nil]
    have : i = s.length := by omega
    subst this
    simp [finD]

theorem same8_ok (a b : List Int) (ha : room a.length 1 = true) (hb : room b.length 1 = true) (n : Nat) (hn : a.length < n) : evFn E277 n Tryd.f77 [.sl .u8 a none, .sl .u8 b none] = some (.one (.bool (eqI a b))) := by
  have h1 := room_iff.1 ha
  rw [ev277]
  by_cases hl : a.length = b.length
  · rw [bneF (by omega : (a.length : Int) = (b.length : Int)), cond_false]
    refine (loop_rule (fun i : Nat => st277_4 a b i) (fun i => i ≤ a.length) (fun i => a.length - i) (fun i => (some (.one (.bool (a.drop i == b.drop i))) : Option E6)) ?_ n 0 (Nat.zero_le _) (by omega)).trans (by simp [eqI])
    intro i hi K hke hkr hnx
    rw [lb277_4_eq]
    by_cases h : i < a.length
    · have h2 : i < b.length := by omega
      rw [decide_eq_true (by omega : (i : Int) < (a.length : Int)), cond_true, idx_lt h, idx_lt h2]
      dsimp only
      rw [List.drop_eq_getElem_cons h, List.drop_eq_getElem_cons h2, wrapSucc (by omega)]
      by_cases he : a[i] = b[i]
      · rw [bneF he, cond_false, hnx (i + 1) (by omega) (by omega), List.cons_beq_cons, he, BEq.rfl, Bool.true_and]
      · rw [bneT he, cond_true]
        refine (hkr _).trans ?_
        have : (a[i] :: a.drop (i + 1) == b[i] :: b.drop (i + 1)) = false := by rw [List.cons_beq_cons, beq_false_of_ne he]; rfl
        rw [this]; rfl
    · rw [decide_eq_false (by omega : ¬ (i : Int) < (a.length : Int)), cond_false, hke, ex277_4_0, List.drop_eq_nil_of_le (by omega), List.drop_eq_nil_of_le (by omega)]
      rfl
  · rw [bneT (by omega : (a.length : Int) ≠ (b.length : Int)), cond_true]
    have : eqI a b = false := by
      unfold eqI
      exact beq_false_of_ne fun e => hl (by rw [e])
    rw [this]

theorem isB_iff {l : List Int} : isB l = true ↔ ∀ x ∈ l, 0 ≤ x ∧ x ≤ 255 := by simp [isB]
/-- The number, from the left. -/
def numA : Int → List Int → Int
  | n, [] => n
  | n, c :: r => numA (n * 64 + c % 64) r
theorem numF_eq : ∀ (l : List Int) (h1 : 1 ≤ l.length) (h4 : l.length ≤ 4) (hB : ∀ x ∈ l, 0 ≤ x ∧ x ≤ 255) (q : Int) (hq : q = match l.length with | 1 => 128 | 2 => 32 | 3 => 16 | _ => 8),
    numA (l[0] % q) (l.drop 1) = numF l ∧ 0 ≤ numF l ∧ numF l < 16777216
  | [a], _, _, hB, q, hq => by subst hq; have := hB a (by simp); simp [numA, numF]; omega
  | [a, b], _, _, hB, q, hq => by subst hq; have := hB a (by simp); simp [numA, numF]; omega
  | [a, b, c], _, _, hB, q, hq => by subst hq; have := hB a (by simp); simp [numA, numF]; omega
  | [a, b, c, d], _, _, hB, q, hq => by subst hq; have := hB a (by simp); simp [numA, numF]; omega
  | _ :: _ :: _ :: _ :: _ :: _, _, h4, _, _, _ => by simp at h4
theorem num_ok (l : List Int) (hb : isB l = true) (h1 : 1 ≤ l.length) (h4 : l.length ≤ 4) (n : Nat) (hn : 4 < n) : evFn E276 n Tryd.f76 [.sl .u8 l none] = some (.one (.int .i32 (numF l))) := by
  have hB := isB_iff.1 hb
  have hm : ∀ (i : Nat) (h : i < l.length), 0 ≤ l[i] ∧ l[i] ≤ 255 := fun i h => hB _ (List.getElem_mem h)
  have hi0 : idx l 0 = some l[0] := idx_lt (i := 0) (by omega)
  rw [ev276, hi0]
  dsimp only
  obtain ⟨q, hq, hq1, hq2⟩ : ∃ q : Int, idx [0, 128, 32, 16, 8] (l.length : Int) = some q ∧ 8 ≤ q ∧ q = (match l.length with | 1 => 128 | 2 => 32 | 3 => 16 | _ => 8) := by
    have : l.length = 1 ∨ l.length = 2 ∨ l.length = 3 ∨ l.length = 4 := by omega
    rcases this with h | h | h | h <;> rw [h] <;> exact ⟨_, rfl, by decide, rfl⟩
  have hb0 := hm 0 (by omega)
  rw [hq]
  dsimp only
  rw [decide_eq_false (by omega : ¬ q = 0), wrap64 (by omega) (by omega), Int.tmod_eq_emod_of_nonneg (by omega)]
  show evLoop _ n _ _ = _
  have hbd : ∀ j : Nat, j ≤ 4 → (64 : Int) ^ j ≤ 64 ^ 4 := fun j hj => by
    have : j = 0 ∨ j = 1 ∨ j = 2 ∨ j = 3 ∨ j = 4 := by omega
    rcases this with rfl | rfl | rfl | rfl | rfl <;> decide
  refine (loop_rule (fun p : Int × Nat => st276_4 l p.1 p.2) (fun p => 1 ≤ p.2 ∧ p.2 ≤ l.length ∧ 0 ≤ p.1 ∧ p.1 < 4 * 64 ^ p.2) (fun p => l.length - p.2) (fun p => (some (.one (.int .i32 (IntKind.wrap .i32 (numA p.1 (l.drop p.2))))) : Option E6)) ?_ n (l[0] % q, 1) ?_ (by simp only; omega)).trans ?_
  · rintro ⟨a, j⟩ ⟨j1, j2, a1, a2⟩ K hke hkr hnx
    dsimp only at j1 j2 a1 a2 hnx ⊢
    have hp := hbd j (by omega)
    rw [lb276_4_eq]
    by_cases h : j < l.length
    · have hj := hm j h
      rw [decide_eq_true (by omega : (j : Int) < (l.length : Int)), cond_true, idx_lt h]
      dsimp only
      rw [wrap64 (n := l[j]) (by omega) (by omega), Int.tmod_eq_emod_of_nonneg (by omega), wrap64 (n := a * 64) (by omega) (by omega), wrap64 (by omega) (by omega), wrapSucc (by omega), get_drop h]
      refine hnx (a * 64 + l[j] % 64, j + 1) ⟨by simp only; omega, by simp only; omega, by simp only; omega, ?_⟩ (by simp only; omega)
      show a * 64 + l[j] % 64 < 4 * 64 ^ (j + 1)
      rw [Int.pow_succ]; omega
    · rw [decide_eq_false (by omega : ¬ (j : Int) < (l.length : Int)), cond_false, hke, ex276_4_0, List.drop_eq_nil_of_le (by omega)]
      rfl
  · refine ⟨Nat.le_refl _, h1, by simp only; exact Int.emod_nonneg _ (by omega), ?_⟩
    have : l[0] % q < q := Int.emod_lt_of_pos _ (by omega)
    have hq3 : q ≤ 128 := by
      rw [hq2]
      split <;> decide
    simp only
    omega
  · have hl4 : l.length = 1 ∨ l.length = 2 ∨ l.length = 3 ∨ l.length = 4 := by omega
    have hfin := numF_eq l h1 h4 hB q hq2
    dsimp only
    rw [hfin.1, w32 (by omega) (by omega)]
end Go.Aev
end

section
set_option linter.unusedVariables false
namespace Go.Aev
open Go.Proofs Go.Lib

theorem u8F_isB {c : Int} (h : validF c = true) : isB (u8F c) = true := by
  rw [validF_iff] at h
  rw [isB_iff]
  intro x hx
  unfold u8F at hx
  split at hx
  · simp at hx; omega
  · split at hx
    · simp at hx; omega
    · split at hx
      · simp at hx; omega
      · simp at hx; omega
theorem toB_inj : ∀ {a b : List Int}, isB a = true → isB b = true → toB a = toB b → a = b
  | [], [], _, _, _ => rfl
  | [], _ :: _, _, _, h => by simp [toB] at h
  | _ :: _, [], _, _, h => by simp [toB] at h
  | x :: a, y :: b, ha, hb, h => by
    rw [isB_iff] at ha hb
    have hx := ha x (by simp)
    have hy := hb y (by simp)
    simp only [toB, List.map_cons, List.cons.injEq] at h
    have h1 := congrArg UInt8.toNat h.1
    rw [ofNatN (by omega), ofNatN (by omega)] at h1
    rw [toB_inj (isB_iff.2 fun z hz => ha z (by simp [hz])) (isB_iff.2 fun z hz => hb z (by simp [hz])) h.2, show x = y by omega]
theorem numF_u8F {c : Int} (h : validF c = true) : numF (u8F c) = c := by
  rw [validF_iff] at h
  unfold u8F
  by_cases h1 : c < 128
  · rw [if_pos h1]; simp only [numF]; omega
  rw [if_neg h1]
  by_cases h2 : c < 2048
  · rw [if_pos h2]; simp only [numF]; omega
  rw [if_neg h2]
  by_cases h3 : c < 65536
  · rw [if_pos h3]; simp only [numF]; omega
  · rw [if_neg h3]; simp only [numF]; omega
theorem isB_take {l : List Int} (h : isB l = true) (k : Nat) : isB (l.take k) = true := isB_iff.2 fun x hx => isB_iff.1 h x (List.mem_of_mem_take hx)
theorem isB_drop {l : List Int} (h : isB l = true) (k : Nat) : isB (l.drop k) = true := isB_iff.2 fun x hx => isB_iff.1 h x (List.mem_of_mem_drop hx)
theorem toB_take (l : List Int) (k : Nat) : toB (l.take k) = (toB l).take k := by simp [toB, List.map_take]
theorem toB_drop (l : List Int) (k : Nat) : toB (l.drop k) = (toB l).drop k := by simp [toB, List.map_drop]
theorem toB_nil_iff {l : List Int} : toB l = [] ↔ l = [] := by simp [toB]

/-- The number of so many bytes is written by just these. -/
def hit (l : List Int) (k : Nat) : Prop := putF (numF (l.take k)) = l.take k
theorem hit_to {l : List Int} {k : Nat} (h1 : 1 ≤ k) (hk : k ≤ l.length) (h : hit l k) : badL (toB l) = false ∧ decodeL (toB l) = ((numF (l.take k)).toNat, k) ∧ 0 ≤ numF (l.take k) := by
  unfold hit at h
  have hlen : (l.take k).length = k := by rw [List.length_take]; omega
  have hv : validF (numF (l.take k)) = true := by
    cases hv : validF (numF (l.take k)) with
    | true => rfl
    | false =>
      unfold putF at h
      rw [hv] at h
      have := congrArg List.length h
      rw [hlen] at this
      simp at this
      omega
  have hp : putF (numF (l.take k)) = u8F (numF (l.take k)) := by unfold putF; rw [hv]; rfl
  rw [hp] at h
  have hs : toB l = toB (u8F (numF (l.take k))) ++ toB (l.drop k) := by rw [h, ← toB_append, List.take_append_drop]
  obtain ⟨d1, d2⟩ := dec_enc hv (toB (l.drop k))
  have hl2 : (u8F (numF (l.take k))).length = k := by rw [h, hlen]
  rw [← hs] at d1 d2
  rw [hl2] at d1
  exact ⟨d2, d1, by have := validF_iff.1 hv; omega⟩
theorem hit_of {l : List Int} (hB : isB l = true) (hne : l ≠ []) (hb : badL (toB l) = false) : hit l (decodeL (toB l)).2 ∧ 1 ≤ (decodeL (toB l)).2 ∧ (decodeL (toB l)).2 ≤ 4 ∧ (decodeL (toB l)).2 ≤ l.length := by
  have hne2 : toB l ≠ [] := fun e => hne (toB_nil_iff.1 e)
  have hv := decodeL_valid (toB l)
  have he := enc_dec hne2 hb
  have hw := decodeL_width (toB l)
  have hle := decodeL_le (toB l) hne2
  rw [toB_len] at hle
  rw [← toB_take] at he
  have he2 := toB_inj (u8F_isB hv) (isB_take hB _) he
  have hu := u8F_len ((decodeL (toB l)).1 : Int)
  have hl : (l.take (decodeL (toB l)).2).length = (decodeL (toB l)).2 := by rw [List.length_take]; omega
  rw [he2, hl] at hu
  refine ⟨?_, hw, by omega, hle⟩
  unfold hit
  rw [← he2, numF_u8F hv]
  unfold putF
  rw [if_pos hv]

theorem one_ok (l : List Int) (hB : isB l = true) (h1 : 1 ≤ l.length) (hr : room l.length 1 = true) (n : Nat) (hn : 5 < n) : evFn E254 n Tryd.f54 [.sl .u8 l none] = some (.tup [.int .i32 (oneF l).1, .int .i64 (oneF l).2]) := by
  have hlen := room_iff.1 hr
  have hne : l ≠ [] := fun e => by subst e; simp at h1
  rw [ev254]
  refine (loop_rule (fun k : Nat => st254_2 l k) (fun k => 1 ≤ k ∧ k ≤ 5 ∧ k ≤ l.length + 1 ∧ ∀ j, 1 ≤ j → j < k → ¬ hit l j) (fun k => 5 - k) (fun k => (some (.tup [.int .i32 (oneF l).1, .int .i64 (oneF l).2]) : Option E6)) ?_ n 1 ⟨Nat.le_refl _, by omega, by omega, fun j h1 h2 => by omega⟩ (by omega))
  intro k ⟨k1, k2, k3, hno⟩ K hke hkr hnx
  rw [lb254_2_eq]
  have hbad : l.length < k ∨ 4 < k → oneF l = (0, 0) := fun h => by
    unfold oneF
    cases hb : badL (toB l) with
    | true => rfl
    | false =>
      obtain ⟨g1, g2, g3, g4⟩ := hit_of hB hne hb
      exact absurd g1 (hno _ g2 (by omega))
  by_cases h4 : k ≤ 4
  · rw [decide_eq_true (by omega : (k : Int) ≤ 4)]
    by_cases hk : k ≤ l.length
    · have hs : sub l 0 (k : Int) = some (l.take k) := by
        have := sub_nat (l := l) (lo := 0) (hi := k) (Nat.zero_le _) hk
        simpa using this
      have htl : (l.take k).length = k := by rw [List.length_take]; omega
      rw [decide_eq_true (by omega : (k : Int) ≤ (l.length : Int)), hs]
      dsimp only
      rw [isB_take hB k, decide_eq_true (by rw [htl]; exact k1 : 1 ≤ (l.take k).length), decide_eq_true (by rw [htl]; exact h4 : (l.take k).length ≤ 4), wrapSucc (by omega)]
      have hnext : ¬ hit l k → K .normal (st254_2 l ((k + 1 : Nat) : Int)) = some (.tup [.int .i32 (oneF l).1, .int .i64 (oneF l).2]) := fun hnk =>
        hnx (k + 1) ⟨by omega, by omega, by omega, fun j j1 j2 => by
          by_cases hj : j = k
          · subst hj; exact hnk
          · exact hno j j1 (by omega)⟩ (by omega)
      by_cases hpl : (putF (numF (l.take k))).length = k
      · rw [beqT (by omega : ((putF (numF (l.take k))).length : Int) = (k : Int)), room_iff.2 (by omega), room_iff.2 (by omega)]
        by_cases hh : hit l k
        · obtain ⟨g1, g2, g3⟩ := hit_to k1 hk hh
          have he : eqI (putF (numF (l.take k))) (l.take k) = true := by unfold eqI; rw [show putF (numF (l.take k)) = l.take k from hh]; exact BEq.rfl
          rw [he]
          refine (hkr _).trans ?_
          unfold oneF
          rw [g1, g2]
          dsimp only
          have : (((numF (l.take k)).toNat : Nat) : Int) = numF (l.take k) := by omega
          rw [this]; rfl
        · have he : eqI (putF (numF (l.take k))) (l.take k) = false := by unfold eqI; exact beq_false_of_ne hh
          rw [he]
          exact hnext hh
      · rw [beqF (by omega : ((putF (numF (l.take k))).length : Int) ≠ (k : Int))]
        exact hnext (fun hh => hpl (by rw [show putF (numF (l.take k)) = l.take k from hh, htl]))
    · rw [decide_eq_false (by omega : ¬ (k : Int) ≤ (l.length : Int)), hbad (.inl (by omega))]
      exact (hke _ _).trans (ex254_2_0 n l k _)
  · rw [decide_eq_false (by omega : ¬ (k : Int) ≤ 4), hbad (.inr (by omega))]
    exact (hke _ _).trans (ex254_2_0_2 n l k)

theorem rdec_ok (l : List Int) (hB : isB l = true) (hl : smL l = true) (n : Nat) (hn : l.length < n) : evFn E223 n Tryd.f23 [.sl .u8 l none] = some (.tup [.sl .i32 (decF (toB l)).1 (some 1), .int .i64 ((decF (toB l)).2 : Nat)]) := by
  have hlen := smL_len hl
  rw [ev223]
  refine (loop_rule (fun p : List Int × Nat => st223_3 l p.1 p.2) (fun p => p.1.length ≤ p.2 ∧ p.2 ≤ l.length) (fun p => l.length - p.2) (fun p => finD p.1 p.2 (decF (toB (l.drop p.2)))) ?_ n ([], 0) (by simp) (by simp only; omega)).trans (by simp [finD])
  rintro ⟨out, i⟩ ⟨h1, h2⟩ K hke hkr hnx
  dsimp only at h1 h2 hnx ⊢
  rw [lb223_3_eq]
  by_cases h : i < l.length
  · have hdl : (l.drop i).length = l.length - i := List.length_drop
    have hne : toB (l.drop i) ≠ [] := fun e => by
      have := congrArg List.length e
      rw [toB_len, hdl, List.length_nil] at this
      omega
    rw [decide_eq_true (by omega : (i : Int) < (l.length : Int)), cond_true, sub_from (by omega)]
    dsimp only
    rw [isB_drop hB i, decide_eq_true (by omega : 1 ≤ (l.drop i).length), room_iff.2 (by omega), room_iff.2 (by omega)]
    have hw := decodeL_width (toB (l.drop i))
    have hle := decodeL_le (toB (l.drop i)) hne
    rw [toB_len, hdl] at hle
    cases hb : badL (toB (l.drop i)) with
    | true =>
      have : oneF (l.drop i) = (0, 0) := by unfold oneF; rw [hb]; rfl
      rw [this, decF_bad hb]
      refine Eq.trans (hke _ _) ((ex223_3_0 n l out i 0 0 true).trans ?_)
      simp [finD]
    | false =>
      have : oneF (l.drop i) = (((decodeL (toB (l.drop i))).1 : Int), ((decodeL (toB (l.drop i))).2 : Int)) := by unfold oneF; rw [hb]; rfl
      rw [this]
      dsimp only
      rw [beqF (by omega : ((decodeL (toB (l.drop i))).2 : Int) ≠ 0), wrapAdd (by omega)]
      refine Eq.trans (b := K .normal (st223_3 l (out ++ [((decodeL (toB (l.drop i))).1 : Int)]) ((i + (decodeL (toB (l.drop i))).2 : Nat) : Int))) rfl ?_
      refine (hnx (out ++ [((decodeL (toB (l.drop i))).1 : Int)], i + (decodeL (toB (l.drop i))).2) ⟨by simp; omega, by simp only; omega⟩ (by simp only; omega)).trans ?_
      dsimp only
      rw [decF_good hne hb, ← toB_drop, List.drop_drop]
      unfold finD
      simp [Nat.add_assoc]
  · rw [decide_eq_false (by omega : ¬ (i : Int) < (l.length : Int)), cond_false, hke, ex223_3_0_2, List.drop_eq_nil_of_le (by omega), show toB [] = [] from rfl, decF_nil]
    simp [finD]
end Go.Aev
end

section
set_option linter.unusedVariables false
namespace Go.Aev
open Go.Proofs Go.Lib

/-! ### halves and hex digits -/
theorem and1023_i32 (x : Nat) (h : x < 2147483648) : bits .and .i32 (x : Int) 1023 = ((x % 1024 : Nat) : Int) := by
  show IntKind.i32.wrap ((BitVec.ofInt 32 (x : Int) &&& BitVec.ofInt 32 ((1023 : Nat) : Int)).toNat : Int) = _
  rw [BitVec.toNat_and, ofInt_u32 x (by omega), ofInt_u32 1023 (by omega), show (1023 : Nat) = 2 ^ 10 - 1 from rfl, Nat.and_two_pow_sub_one_eq_mod]
  exact wrap_i32_small _ (by omega)
theorem and15_i64 (x : Nat) (h : x < 2147483648) : bits .and .i64 (x : Int) 15 = ((x % 16 : Nat) : Int) := by
  show IntKind.i64.wrap ((BitVec.ofInt 64 (x : Int) &&& BitVec.ofInt 64 ((15 : Nat) : Int)).toNat : Int) = _
  rw [BitVec.toNat_and, ofInt_u64 x (by omega), ofInt_u64 15 (by omega), show (15 : Nat) = 2 ^ 4 - 1 from rfl, Nat.and_two_pow_sub_one_eq_mod]
  exact wrap_i64_small _ (by omega)
theorem splitF_yes {c : Int} (h1 : 65536 ≤ c) (h2 : c ≤ 1114111) : splitF c = (55296 + (c - 65536) / 1024, 56320 + (c - 65536) % 1024, true) := by
  unfold splitF
  rw [decide_eq_false (by omega : ¬ c < 65536), decide_eq_false (by omega : ¬ 1114111 < c)]; rfl
theorem splitF_no {c : Int} (h : c < 65536 ∨ 1114111 < c) : splitF c = (0, 0, false) := by
  unfold splitF
  rcases h with h | h
  · rw [decide_eq_true h]; rfl
  · rw [decide_eq_true h, Bool.or_true]; rfl
theorem split_ok (c : Int) (n : Nat) : evFn E250 n Tryd.f50 [.int .i32 c] = some (.tup [.int .i32 (splitF c).1, .int .i32 (splitF c).2.1, .bool (splitF c).2.2]) := by
  rw [ev250]
  by_cases h1 : c < 65536
  · rw [decide_eq_true h1, splitF_no (.inl h1)]; rfl
  · rw [decide_eq_false h1]
    by_cases h2 : 1114111 < c
    · rw [decide_eq_true (show c > 1114111 from h2), splitF_no (.inr h2)]; rfl
    · rw [decide_eq_false (show ¬ c > 1114111 from h2), splitF_yes (by omega) (by omega), w32 (n := c - 65536) (by omega) (by omega)]
      have e : c - 65536 = (((c - 65536).toNat : Nat) : Int) := by omega
      have e2 : bits .and .i32 (c - 65536) 1023 = (c - 65536) % 1024 := by
        rw [e, and1023_i32 _ (by omega)]; omega
      have e3 : (c - 65536) / 2 ^ (Int.toNat 10) = (c - 65536) / 1024 := rfl
      rw [e2, e3, w32 (n := 55296 + _) (by omega) (by omega), w32 (n := 56320 + _) (by omega) (by omega)]
      rfl
theorem rsplit_ok (c : Int) (n : Nat) : evFn E256 n Tryd.f56 [.int .i32 c] = some (.tup [.int .i32 (splitF c).1, .int .i32 (splitF c).2.1, .bool (splitF c).2.2]) := by
  rw [ev256]
  by_cases h1 : c < 65536
  · rw [decide_eq_true h1, splitF_no (.inl h1)]; rfl
  · rw [decide_eq_false h1]
    by_cases h2 : 1114111 < c
    · rw [decide_eq_true (show c > 1114111 from h2), splitF_no (.inr h2)]; rfl
    · rw [decide_eq_false (show ¬ c > 1114111 from h2), splitF_yes (by omega) (by omega), w32 (n := c - 65536) (by omega) (by omega)]
      rw [Int.tdiv_eq_ediv_of_nonneg (by omega), Int.tmod_eq_emod_of_nonneg (by omega), w32 (n := (c - 65536) / 1024) (by omega) (by omega), w32 (n := 55296 + _) (by omega) (by omega), w32 (n := 56320 + _) (by omega) (by omega)]
      rfl

def digT : List UInt8 := [48, 49, 50, 51, 52, 53, 54, 55, 56, 57, 65, 66, 67, 68, 69, 70]
theorem digT_at : ∀ i : Fin 16, ((digT[i.1]'i.2).toNat : Int) = digC i.1 := by decide
def codeD (c : Int) : List Int := [digC (c / 4096 % 16), digC (c / 256 % 16), digC (c / 16 % 16), digC (c % 16)]
theorem codeF_eq (c : Int) : codeF c = [92, 117] ++ codeD c := rfl
theorem codeD_at {c : Int} (h0 : 0 ≤ c) (h1 : c ≤ 65535) (j : Nat) (hj : j < 4) : (codeD c)[j]'(by simpa [codeD] using hj) = digC (c / 2 ^ (12 - 4 * j) % 16) := by
  have : j = 0 ∨ j = 1 ∨ j = 2 ∨ j = 3 := by omega
  rcases this with rfl | rfl | rfl | rfl
  · rfl
  · rfl
  · rfl
  · show digC (c % 16) = digC (c / 2 ^ 0 % 16)
    rw [Int.pow_zero, Int.ediv_one]
theorem pow_pos2 (k : Nat) : (0 : Int) < 2 ^ k := Int.pow_pos (by omega)
theorem div_bound {c : Int} (h0 : 0 ≤ c) (h1 : c ≤ 65535) (k : Nat) : 0 ≤ c / 2 ^ k ∧ c / 2 ^ k ≤ 65535 := by
  have hp := pow_pos2 k
  exact ⟨Int.ediv_nonneg h0 (by omega), Int.le_trans (Int.ediv_le_self _ h0) h1⟩
/-- The digit, as both programs find it. -/
theorem dig_bits {c : Int} (h0 : 0 ≤ c) (h1 : c ≤ 65535) (k : Nat) : ∃ d : Nat, ∃ hd : d < 16, bits .and .i32 (c / 2 ^ k) 15 = (d : Int) ∧ bits .and .i64 (c / 2 ^ k) 15 = (d : Int) ∧ ((digT[d]'hd).toNat : Int) = digC (c / 2 ^ k % 16) := by
  obtain ⟨b0, b1⟩ := div_bound h0 h1 k
  have e : c / 2 ^ k = (((c / 2 ^ k).toNat : Nat) : Int) := by omega
  refine ⟨(c / 2 ^ k).toNat % 16, Nat.mod_lt _ (by omega), ?_, ?_, ?_⟩
  · rw [e, and15_i32 _ (by omega)]; rfl
  · rw [e, and15_i64 _ (by omega)]; rfl
  · rw [digT_at ⟨(c / 2 ^ k).toNat % 16, Nat.mod_lt _ (by omega)⟩]
    dsimp only
    congr 1
    omega

theorem code_ok (l : List Int) (c : Int) (hr : room (l.length + 6) 4 = true) (h0 : 0 ≤ c) (h1 : c ≤ 65535) (n : Nat) (hn : 5 < n) : evFn E251 n Tryd.f51 [.sl .i32 l (some 0), .int .i32 c] = some (.one (.sl .i32 (catI l (codeF c)) (some 0))) := by
  have hlen := room_iff.1 hr
  rw [ev251, room_le hr (by omega : l.length + 2 ≤ l.length + 6), cond_true]
  have hD : (codeD c).length = 4 := rfl
  have hst : st251_3 (l ++ [92, 117]) c 12 = st251_3 (l ++ [92, 117] ++ (codeD c).take 0) c (12 - 4 * ((0 : Nat) : Int)) := by rw [List.take_zero, List.append_nil]; rfl
  rw [hst]
  refine (loop_rule (fun j : Nat => st251_3 (l ++ [92, 117] ++ (codeD c).take j) c (12 - 4 * (j : Int))) (fun j => j ≤ 4) (fun j => 4 - j) (fun j => (some (.one (.sl .i32 (catI l (codeF c)) (some 0))) : Option E6)) ?_ n 0 (Nat.zero_le _) (by omega))
  intro j hj K hke hkr hnx
  rw [lb251_3_eq]
  by_cases h : j < 4
  · obtain ⟨d, hd, e1, _, e3⟩ := dig_bits h0 h1 (12 - 4 * j)
    have hsh : (12 - 4 * (j : Int)).toNat = 12 - 4 * j := by omega
    have hb := u8byte (digT[d]'hd)
    rw [decide_eq_true (by omega : 12 - 4 * (j : Int) ≥ 0), decide_eq_true (by omega : 12 - 4 * (j : Int) ≤ 31), hsh, e1, show idx [48, 49, 50, 51, 52, 53, 54, 55, 56, 57, 65, 66, 67, 68, 69, 70] (d : Int) = some (digT[d]'hd) from idx_lt (l := digT) hd]
    dsimp only
    have hl : (l ++ [92, 117] ++ (codeD c).take j).length = l.length + 2 + j := by simp [hD]; omega
    have hw : IntKind.wrap .i64 (12 - 4 * (j : Int) - 4) = 12 - 4 * ((j + 1 : Nat) : Int) := by rw [wrap64 (by omega) (by omega)]; omega
    rw [hl, room_iff.2 (by omega), w32 (by omega) (by omega), hw, e3, ← codeD_at h0 h1 j h]
    refine Eq.trans ?_ (hnx (j + 1) (by omega) (by omega))
    rw [List.take_succ_eq_append_getElem (by omega : j < (codeD c).length), ← List.append_assoc]
    rfl
  · have : j = 4 := by omega
    subst this
    rw [decide_eq_false (by decide : ¬ (12 : Int) - 4 * ((4 : Nat) : Int) ≥ 0), cond_false, hke, ex251_3_0, List.take_of_length_le (by omega)]
    unfold catI
    rw [codeF_eq, List.append_assoc]

theorem digC_range {d : Int} (h0 : 0 ≤ d) (h1 : d < 16) : 48 ≤ digC d ∧ digC d ≤ 70 := by unfold digC; split <;> omega
theorem toB_u8F_ascii {x : Int} (h : x < 128) : toB (u8F x) = [UInt8.ofNat x.toNat] := by unfold u8F; rw [if_pos h]; rfl
theorem encB_one {x : Int} (h : x < 128) : encB [x] = [UInt8.ofNat x.toNat] := by rw [encB_cons, toB_u8F_ascii h, encB_nil]; rfl

theorem rhex4_ok (c : Int) (h0 : 0 ≤ c) (h1 : c ≤ 65535) (n : Nat) (hn : 5 < n) : evFn E255 n Tryd.f55 [.int .i32 c] = some (.one (.str (encB (codeF c)))) := by
  rw [ev255]
  have hD : (codeD c).length = 4 := rfl
  refine (loop_rule (fun j : Nat => st255_4 c digT ([92, 117] ++ encB ((codeD c).take j)) (12 - 4 * (j : Int))) (fun j => j ≤ 4) (fun j => 4 - j) (fun j => (some (.one (.str (encB (codeF c)))) : Option E6)) ?_ n 0 (Nat.zero_le _) (by omega))
  intro j hj K hke hkr hnx
  rw [lb255_4_eq]
  by_cases h : j < 4
  · obtain ⟨d, hd, _, e2, e3⟩ := dig_bits h0 h1 (12 - 4 * j)
    obtain ⟨b0, b1⟩ := div_bound h0 h1 (12 - 4 * j)
    have hsh : (12 - 4 * (j : Int)).toNat = 12 - 4 * j := by omega
    have hs : sub digT (d : Int) ((d + 1 : Nat) : Int) = some [digT[d]'hd] := by
      rw [sub_nat (by omega) (by have : digT.length = 16 := rfl; omega)]
      have : d + 1 - d = 1 := by omega
      rw [this, List.drop_eq_getElem_cons (l := digT) hd]; rfl
    have hrg := digC_range (d := c / 2 ^ (12 - 4 * j) % 16) (Int.emod_nonneg _ (by omega)) (Int.emod_lt_of_pos _ (by omega))
    have hone : encB [digC (c / 2 ^ (12 - 4 * j) % 16)] = [digT[d]'hd] := by
      rw [encB_one (by omega), ← e3]; simp
    rw [decide_eq_true (by omega : 12 - 4 * (j : Int) ≥ 0), decide_eq_true (by omega : 12 - 4 * (j : Int) ≤ 31), hsh, wrap64 (n := c / _) (by omega) (by omega), e2, wrapSucc (by omega), hs]
    dsimp only
    have hl2 := encB_len ((codeD c).take j)
    have hl3 : ((codeD c).take j).length ≤ 4 := by rw [List.length_take]; omega
    have hw : IntKind.wrap .i64 (12 - 4 * (j : Int) - 4) = 12 - 4 * ((j + 1 : Nat) : Int) := by rw [wrap64 (by omega) (by omega)]; omega
    have hdl : decide ((([92, 117] : List UInt8) ++ encB ((codeD c).take j)).length + [digT[d]'hd].length ≤ 9223372036854775807) = true := by
      refine decide_eq_true ?_
      rw [List.length_append]
      simp only [List.length_cons, List.length_nil]
      omega
    rw [hdl, hw]
    refine Eq.trans ?_ (hnx (j + 1) (by omega) (by omega))
    rw [List.take_succ_eq_append_getElem (by omega : j < (codeD c).length), encB_append, codeD_at h0 h1 j h, hone, ← List.append_assoc]
    rfl
  · have : j = 4 := by omega
    subst this
    rw [decide_eq_false (by decide : ¬ (12 : Int) - 4 * ((4 : Nat) : Int) ≥ 0), cond_false, hke, ex255_4_0, List.take_of_length_le (by omega), codeF_eq, encB_append]
    rfl
end Go.Aev
end

section
set_option linter.unusedVariables false
namespace Go.Aev
open Go.Proofs Go.Lib

theorem codeF_len (c : Int) : (codeF c).length = 6 := rfl
theorem splitF_range {c : Int} (h : (splitF c).2.2 = true) : (0 ≤ (splitF c).1 ∧ (splitF c).1 ≤ 65535) ∧ (0 ≤ (splitF c).2.1 ∧ (splitF c).2.1 ≤ 65535) ∧ 65536 ≤ c ∧ c ≤ 1114111 := by
  by_cases h1 : c < 65536 ∨ 1114111 < c
  · rw [splitF_no h1] at h; cases h
  · rw [splitF_yes (by omega) (by omega)]; dsimp only; omega
theorem splitF_small {c : Int} (h : c < 65536) : (splitF c).2.2 = false := by rw [splitF_no (.inl h)]
/-- Outside the table. -/
theorem wrF_rest {c : Int} (h : c ≠ 34 ∧ c ≠ 92 ∧ c ≠ 8 ∧ c ≠ 9 ∧ c ≠ 10 ∧ c ≠ 12 ∧ c ≠ 13) : wrF c = if (splitF c).2.2 then codeF (splitF c).1 ++ codeF (splitF c).2.1 else if c < 32 ∨ c = 127 then codeF c else [c] := by
  obtain ⟨h1, h2, h3, h4, h5, h6, h7⟩ := h
  unfold wrF
  rw [if_neg (by omega), if_neg h3, if_neg h4, if_neg h5, if_neg h6, if_neg h7]
theorem wrF_len (c : Int) : 1 ≤ (wrF c).length ∧ (wrF c).length ≤ 12 := by
  unfold wrF
  repeat' split
  all_goals simp [codeF_len]
theorem codeF_valid {c : Int} : (codeF c).all validF = true := by
  have hd : ∀ x : Int, 0 ≤ x → x < 16 → validF (digC x) = true := fun x h0 h1 => by
    have := digC_range h0 h1
    rw [validF_iff]; omega
  unfold codeF
  simp only [List.all_cons, List.all_nil, Bool.and_true]
  rw [hd _ (Int.emod_nonneg _ (by omega)) (Int.emod_lt_of_pos _ (by omega)), hd _ (Int.emod_nonneg _ (by omega)) (Int.emod_lt_of_pos _ (by omega)), hd _ (Int.emod_nonneg _ (by omega)) (Int.emod_lt_of_pos _ (by omega)), hd _ (Int.emod_nonneg _ (by omega)) (Int.emod_lt_of_pos _ (by omega))]
  decide
theorem wrF_valid {c : Int} (h : validF c = true) : (wrF c).all validF = true := by
  unfold wrF
  split
  · rename_i h1
    rcases h1 with rfl | rfl <;> decide
  · split
    · decide
    · split
      · decide
      · split
        · decide
        · split
          · decide
          · split
            · decide
            · split
              · rw [List.all_append, codeF_valid, codeF_valid]; rfl
              · split
                · exact codeF_valid
                · simp [h]

theorem put2_ok (l : List Int) (c : Int) (hr : room (l.length + 12) 4 = true) (hv : validF c = true) (n : Nat) : evFn E221 n Tryd.f21 [.sl .i32 l (some 0), .int .i32 c] = some (.one (.sl .i32 (catI l (wrF c)) (some 0))) := by
  have h := validF_iff.1 hv
  rw [ev221, room_le hr (by omega : l.length + 2 ≤ l.length + 12), room_le hr (by omega : l.length + 6 ≤ l.length + 12), room_le hr (by omega : l.length + 1 ≤ l.length + 12)]
  by_cases c1 : c = 34
  · subst c1; rfl
  rw [beqF c1]
  by_cases c2 : c = 92
  · subst c2; rfl
  rw [beqF c2]
  by_cases c3 : c = 8
  · subst c3; rfl
  rw [beqF c3]
  by_cases c4 : c = 9
  · subst c4; rfl
  rw [beqF c4]
  by_cases c5 : c = 10
  · subst c5; rfl
  rw [beqF c5]
  by_cases c6 : c = 12
  · subst c6; rfl
  rw [beqF c6]
  by_cases c7 : c = 13
  · subst c7; rfl
  rw [beqF c7, wrF_rest ⟨c1, c2, c3, c4, c5, c6, c7⟩]
  cases hs : (splitF c).2.2 with
  | true =>
    obtain ⟨⟨s1, s2⟩, ⟨s3, s4⟩, _⟩ := splitF_range hs
    have hl : (catI l (codeF (splitF c).1)).length + 6 = l.length + 12 := by unfold catI; rw [List.length_append, codeF_len]
    rw [decide_eq_true s1, decide_eq_true s2, decide_eq_true s3, decide_eq_true s4, hl, hr, if_pos rfl]
    show some _ = some _
    unfold catI
    rw [List.append_assoc]
  | false =>
    rw [if_neg (by simp)]
    by_cases c8 : c < 32
    · rw [decide_eq_true c8, decide_eq_true (by omega : 0 ≤ c), decide_eq_true (by omega : c ≤ 65535), if_pos (.inl c8)]; rfl
    · rw [decide_eq_false c8]
      by_cases c9 : c = 127
      · rw [beqT c9, decide_eq_true (by omega : 0 ≤ c), decide_eq_true (by omega : c ≤ 65535), if_pos (.inr c9)]; rfl
      · rw [beqF c9, if_neg (by omega)]; rfl

def wnT : List UInt8 := [34, 92, 98, 102, 110, 114, 116]
def wmT : List UInt8 := [34, 92, 8, 12, 10, 13, 9]
theorem wT_at : ∀ i : Fin 7, encB (wrF ((wmT[i.1]'i.2).toNat : Int)) = [92, wnT[i.1]'i.2] := by decide +kernel
theorem written_ok (c : Int) (hv : validF c = true) (n : Nat) (hn : 7 < n) : evFn E224 n Tryd.f24 [.int .i32 c] = some (.one (.str (encB (wrF c)))) := by
  have hvr := validF_iff.1 hv
  rw [ev224]
  have hM : wmT.length = 7 := rfl
  refine (loop_rule (fun i : Nat => st224_4 c wnT wmT i) (fun i => i ≤ 7 ∧ ∀ j : Nat, ∀ hj : j < 7, j < i → ((wmT[j]'hj).toNat : Int) ≠ c) (fun i => 7 - i) (fun i => (some (.one (.str (encB (wrF c)))) : Option E6)) ?_ n 0 ⟨Nat.zero_le _, fun j _ h => absurd h (Nat.not_lt_zero _)⟩ (by omega))
  intro i ⟨hi, hb⟩ K hke hkr hnx
  rw [lb224_4_eq]
  by_cases h : i < 7
  · have h1 := u8byte (wmT[i]'h)
    have ht := wT_at ⟨i, h⟩
    have hs : sub wnT (i : Int) ((i + 1 : Nat) : Int) = some [wnT[i]'h] := by
      rw [sub_nat (by omega) (by have : wnT.length = 7 := rfl; omega)]
      have : i + 1 - i = 1 := by omega
      rw [this, List.drop_eq_getElem_cons (l := wnT) h]; rfl
    rw [decide_eq_true (by omega : (i : Int) < (wmT.length : Int)), cond_true, idx_lt (l := wmT) h, wrapSucc (by omega), hs]
    dsimp only
    rw [w32 (by omega) (by omega)]
    cases hc : ((wmT[i]'h).toNat : Int) == c with
    | true =>
      simp only [beq_iff_eq] at hc
      rw [← hc, ht]
      exact (hkr _).trans rfl
    | false =>
      rw [cond_false]
      refine hnx (i + 1) ⟨by omega, fun j hj hji => ?_⟩ (by omega)
      by_cases hji2 : j < i
      · exact hb j hj hji2
      · have : j = i := by omega
        subst this
        exact fun e => by simp [e] at hc
  · have g0 : (34 : Int) ≠ c := hb 0 (by omega) (by omega)
    have g1 : (92 : Int) ≠ c := hb 1 (by omega) (by omega)
    have g2 : (8 : Int) ≠ c := hb 2 (by omega) (by omega)
    have g3 : (12 : Int) ≠ c := hb 3 (by omega) (by omega)
    have g4 : (10 : Int) ≠ c := hb 4 (by omega) (by omega)
    have g5 : (13 : Int) ≠ c := hb 5 (by omega) (by omega)
    have g6 : (9 : Int) ≠ c := hb 6 (by omega) (by omega)
    rw [decide_eq_false (by omega : ¬ (i : Int) < (wmT.length : Int)), cond_false, hke, ex224_4_0, wrF_rest ⟨by omega, by omega, by omega, by omega, by omega, by omega, by omega⟩]
    by_cases c8 : c < 32
    · rw [decide_eq_true c8, decide_eq_true (by omega : 0 ≤ c), decide_eq_true (by omega : c ≤ 65535), splitF_small (by omega), if_neg (by simp), if_pos (.inl c8)]; rfl
    · rw [decide_eq_false c8]
      by_cases c9 : c = 127
      · rw [beqT c9, decide_eq_true (by omega : 0 ≤ c), decide_eq_true (by omega : c ≤ 65535), splitF_small (by omega), if_neg (by simp), if_pos (.inr c9)]; rfl
      · rw [beqF c9]
        cases hs : (splitF c).2.2 with
        | true =>
          obtain ⟨⟨s1, s2⟩, ⟨s3, s4⟩, _⟩ := splitF_range hs
          have l1 := encB_len (codeF (splitF c).1)
          have l2 := encB_len (codeF (splitF c).2.1)
          rw [codeF_len] at l1 l2
          rw [decide_eq_true s1, decide_eq_true s2, decide_eq_true s3, decide_eq_true s4, decide_eq_true (by omega : (encB (codeF (splitF c).1)).length + (encB (codeF (splitF c).2.1)).length ≤ 9223372036854775807), if_pos rfl, encB_append]
          rfl
        | false =>
          rw [if_neg (by simp), if_neg (by omega), encF_valid (by simp [hv])]
          rfl

theorem flatW_len (cs : List Int) : (cs.flatMap wrF).length ≤ 12 * cs.length := by
  induction cs with
  | nil => simp
  | cons c cs ih => have := wrF_len c; rw [List.flatMap_cons, List.length_append, List.length_cons]; omega
theorem flatW_valid {cs : List Int} (h : cs.all validF = true) : (cs.flatMap wrF).all validF = true := by
  induction cs with
  | nil => rfl
  | cons c cs ih =>
    simp only [List.all_cons, Bool.and_eq_true] at h
    rw [List.flatMap_cons, List.all_append, wrF_valid h.1, ih h.2]; rfl
theorem qtC_valid {cs : List Int} (h : cs.all validF = true) : (qtC cs).all validF = true := by
  unfold qtC
  rw [List.all_append, List.all_cons, flatW_valid h]; decide
theorem all_at {cs : List Int} {p : Int → Bool} (h : cs.all p = true) {i : Nat} (hi : i < cs.length) : p cs[i] = true := List.all_eq_true.1 h _ (List.getElem_mem hi)

theorem quoteText_ok (s : List UInt8) (hs : smS s = true) (n : Nat) (hn : s.length < n) : evFn E207 n Tryd.f7 [.str s] = some (.tup [.str (qtF s).1, .int .i64 (qtF s).2]) := by
  have hlen := smS_iff.1 hs
  obtain ⟨d1, d2, d3, d4⟩ := decF_enc _ s (Nat.le_refl _)
  rw [ev207, hs, cond_true]
  unfold qtF
  by_cases h : (decF s).2 < s.length
  · rw [decide_eq_true (by omega : (((decF s).2 : Nat) : Int) < (s.length : Int)), if_pos h]; rfl
  · rw [decide_eq_false (by omega : ¬ (((decF s).2 : Nat) : Int) < (s.length : Int)), if_neg h, cond_false]
    generalize hcs : (decF s).1 = cs at d2 d4
    refine (loop_rule (fun i : Nat => st207_6 (34 :: (cs.take i).flatMap wrF) cs (cs.length : Int) i) (fun i => i ≤ cs.length) (fun i => cs.length - i) (fun i => (some (.tup [.str (encB (qtC cs)), .int .i64 0]) : Option E6)) ?_ n 0 (Nat.zero_le _) (by omega))
    intro i hi K hke hkr hnx
    have hfl := flatW_len (cs.take i)
    have htl : (cs.take i).length ≤ i := List.length_take_le _ _
    rw [lb207_6_eq]
    by_cases h2 : i < cs.length
    · rw [decide_eq_true (by omega : (i : Int) < (cs.length : Int)), cond_true, idx_lt h2]
      dsimp only
      rw [room_iff.2 (by rw [List.length_cons]; omega), all_at d2 h2, wrapSucc (by omega)]
      refine Eq.trans ?_ (hnx (i + 1) (by omega) (by omega))
      unfold catI
      rw [List.take_succ_eq_append_getElem h2, List.flatMap_append]
      simp
    · rw [decide_eq_false (by omega : ¬ (i : Int) < (cs.length : Int)), cond_false, hke, ex207_6_0, List.take_of_length_le (by omega)]
      rw [List.take_of_length_le (by omega)] at hfl
      rw [room_iff.2 (by rw [List.length_cons]; omega), lim4_iff.2 (by rw [List.length_append, List.length_cons]; simp only [List.length_cons, List.length_nil]; omega), encF_valid (show ((34 :: cs.flatMap wrF) ++ [34]).all validF = true from qtC_valid d2)]
      rfl
theorem toB_bytes (s : List UInt8) : toB (s.map fun c => (c.toNat : Int)) = s := by
  unfold toB
  rw [List.map_map]
  have : ((fun n : Int => UInt8.ofNat n.toNat) ∘ fun c : UInt8 => (c.toNat : Int)) = id := by
    funext c
    simp
  rw [this, List.map_id]
theorem isB_bytes (s : List UInt8) : isB (s.map fun c => (c.toNat : Int)) = true := by
  rw [isB_iff]
  intro x hx
  obtain ⟨c, _, rfl⟩ := List.mem_map.1 hx
  exact u8byte c
theorem encB_flatW (cs : List Int) : encB (cs.flatMap wrF) = cs.flatMap fun c => encB (wrF c) := by
  induction cs with
  | nil => rfl
  | cons c cs ih => rw [List.flatMap_cons, List.flatMap_cons, encB_append, ih]
theorem flatWB_len (cs : List Int) : (cs.flatMap fun c => encB (wrF c)).length ≤ 48 * cs.length := by
  induction cs with
  | nil => simp
  | cons c cs ih => have := wrF_len c; have h2 := encB_len (wrF c); rw [List.flatMap_cons, List.length_append, List.length_cons]; omega

theorem rquoteText_ok (s : List UInt8) (hs : smS s = true) (n : Nat) (hn : s.length < n) : evFn E208 n Tryd.f8 [.str s] = some (.tup [.str (qtF s).1, .int .i64 (qtF s).2]) := by
  have hlen := smS_iff.1 hs
  obtain ⟨d1, d2, d3, d4⟩ := decF_enc _ s (Nat.le_refl _)
  rw [ev208, room_iff.2 (by omega), toB_bytes, isB_bytes, smL_iff.2 (by rw [List.length_map]; omega)]
  unfold qtF
  by_cases h : (decF s).2 < s.length
  · rw [bneT (by omega : (((decF s).2 : Nat) : Int) ≠ (s.length : Int)), if_pos h]; rfl
  · rw [bneF (by omega : (((decF s).2 : Nat) : Int) = (s.length : Int)), if_neg h]
    show evLoop _ n _ _ = _
    generalize hcs : (decF s).1 = cs at d2 d4
    refine (loop_rule (fun i : Nat => st208_6 cs (34 :: (cs.take i).flatMap fun c => encB (wrF c)) i) (fun i => i ≤ cs.length) (fun i => cs.length - i) (fun i => (some (.tup [.str (encB (qtC cs)), .int .i64 0]) : Option E6)) ?_ n 0 (Nat.zero_le _) (by omega))
    intro i hi K hke hkr hnx
    have hfl := flatWB_len (cs.take i)
    have htl : (cs.take i).length ≤ i := List.length_take_le _ _
    rw [lb208_6_eq]
    by_cases h2 : i < cs.length
    · have hw := wrF_len cs[i]
      have hw2 := encB_len (wrF cs[i])
      rw [decide_eq_true (by omega : (i : Int) < (cs.length : Int)), cond_true, idx_lt h2]
      dsimp only
      have hdl : decide ((34 :: (cs.take i).flatMap fun c => encB (wrF c)).length + (encB (wrF cs[i])).length ≤ 9223372036854775807) = true := decide_eq_true (by rw [List.length_cons]; omega)
      rw [all_at d2 h2, hdl, wrapSucc (by omega)]
      refine Eq.trans ?_ (hnx (i + 1) (by omega) (by omega))
      rw [List.take_succ_eq_append_getElem h2, List.flatMap_append]
      simp
    · rw [decide_eq_false (by omega : ¬ (i : Int) < (cs.length : Int)), cond_false, hke, ex208_6_0, List.take_of_length_le (by omega)]
      rw [List.take_of_length_le (by omega)] at hfl
      have hdl : decide ((34 :: cs.flatMap fun c => encB (wrF c)).length + ([34] : List Nat).length ≤ 9223372036854775807) = true := decide_eq_true (by rw [List.length_cons]; simp only [List.length_cons, List.length_nil]; omega)
      rw [hdl, cond_true]
      unfold qtC
      rw [encB_append, encB_cons, encB_flatW]
      rfl
end Go.Aev
end

section
set_option linter.unusedVariables false
namespace Go.Aev
open Go.Proofs Go.Lib

/-! ### lines that fit -/
theorem indent_zero {l : List Int} (h : blankF l = false) (h0 : 0 < l.length) : decide (indentF l = 0) = !whiteF l[0] := by
  match l, h0 with
  | x :: r, _ =>
    show decide (indentF (x :: r) = 0) = !whiteF x
    unfold indentF
    rw [indentN_cons]
    cases whiteF x <;> simp
    omega
theorem nonblank_pos {l : List Int} (h : blankF l = false) : 0 < l.length := by
  cases l with
  | nil => cases h
  | cons => simp
def hasFit (l : List Int) : Bool := !blankF l && decide (indentF l = 0)
theorem hasFit_len (l : List Int) : hasFit l = (decide (indentF l = 0) && decide (0 < (l.length : Int))) := by
  have hb := blank_eq l
  unfold hasFit
  rw [← hb]
  by_cases h0 : indentF l = 0
  · rw [h0]
    by_cases h1 : l.length = 0
    · rw [h1]; rfl
    · rw [beqF (by omega : (0 : Int) ≠ (l.length : Int)), decide_eq_true (by omega : 0 < (l.length : Int))]; rfl
  · rw [decide_eq_false h0, Bool.and_false, Bool.false_and]
theorem fitF_eq {ls : List (List Int)} (h : 0 < ls.length) : fitF ls = (!blankF ls[0] && (!blankF (ls[ls.length - 1]'(by omega)) && (decide (ls.length = 1) || ls.any hasFit))) := by
  have h1 : ls.headD [] = ls[0] := by
    cases ls with
    | nil => simp at h
    | cons a r => rfl
  have h2 : ls.getLastD [] = ls[ls.length - 1]'(by omega) := by
    have hne : ls ≠ [] := fun e => by subst e; simp at h
    rw [List.getLastD_eq_getLast?, List.getLast?_eq_getElem?, List.getElem?_eq_getElem (by omega)]; rfl
  unfold fitF
  rw [h1, h2]; rfl
theorem any_drop {ls : List (List Int)} {i : Nat} (h : i < ls.length) : (ls.drop i).any hasFit = (hasFit ls[i] || (ls.drop (i + 1)).any hasFit) := by
  rw [List.drop_eq_getElem_cons h, List.any_cons]

theorem fit_ok (ls : List (List Int)) (hl : limL ls = true) (h1 : 1 ≤ ls.length) (n : Nat) (hn : ls.length < n) : evFn E227 n Tryd.f27 [.sl .rs ls none] = some (.one (.bool (fitF ls))) := by
  have hlen := limL_len hl
  have hi0 : idx ls 0 = some ls[0] := idx_lt (i := 0) (by omega)
  have hil : idx ls ((ls.length - 1 : Nat) : Int) = some (ls[ls.length - 1]'(by omega)) := idx_lt (by omega)
  have hw : IntKind.wrap .i64 ((ls.length : Int) - 1) = ((ls.length - 1 : Nat) : Int) := by rw [wrap64 (by omega) (by omega)]; omega
  rw [ev227, hi0, hw, hil, fitF_eq (by omega)]
  dsimp only
  rw [limL_mem hl (List.getElem_mem _), limL_mem hl (List.getElem_mem _)]
  cases hb0 : blankF ls[0] with
  | true => rfl
  | false =>
    cases hbl : blankF (ls[ls.length - 1]'(by omega)) with
    | true => rfl
    | false =>
      by_cases hone : ls.length = 1
      · rw [beqT (by omega : (ls.length : Int) = 1), decide_eq_true hone]; rfl
      · rw [beqF (by omega : (ls.length : Int) ≠ 1), decide_eq_false hone]
        show evLoop _ n _ _ = _
        refine (loop_rule (fun i : Nat => st227_6 ls (ls.length : Int) i) (fun i => i ≤ ls.length) (fun i => ls.length - i) (fun i => (some (.one (.bool ((ls.drop i).any hasFit))) : Option E6)) ?_ n 0 (Nat.zero_le _) (by omega)).trans rfl
        intro i hi K hke hkr hnx
        rw [lb227_6_eq]
        by_cases h : i < ls.length
        · rw [decide_eq_true (by omega : (i : Int) < (ls.length : Int)), cond_true, idx_lt h, wrapSucc (by omega), any_drop h]
          dsimp only
          rw [limL_mem hl (List.getElem_mem h)]
          have hstep := hnx (i + 1) (by omega) (by omega)
          unfold hasFit
          cases hb : blankF ls[i] with
          | true => exact hstep
          | false =>
            have hp := nonblank_pos hb
            have hy : idx ls[i] 0 = some ls[i][0] := idx_lt (i := 0) hp
            rw [hy, indent_zero hb hp]
            dsimp only
            cases hwh : whiteF ls[i][0] with
            | true => exact hstep
            | false => exact (hkr _).trans rfl
        · rw [decide_eq_false (by omega : ¬ (i : Int) < (ls.length : Int)), cond_false, hke, ex227_6_0, List.drop_eq_nil_of_le (by omega)]; rfl

theorem possible_ok (ls : List (List Int)) (hl : limL ls = true) (h1 : 1 ≤ ls.length) (n : Nat) (hn : ls.length < n) : evFn E232 n Tryd.f32 [.sl .rs ls none] = some (.one (.bool (fitF ls))) := by
  have hlen := limL_len hl
  have hi0 : idx ls 0 = some ls[0] := idx_lt (i := 0) (by omega)
  have hil : idx ls ((ls.length - 1 : Nat) : Int) = some (ls[ls.length - 1]'(by omega)) := idx_lt (by omega)
  have hw : IntKind.wrap .i64 ((ls.length : Int) - 1) = ((ls.length - 1 : Nat) : Int) := by rw [wrap64 (by omega) (by omega)]; omega
  rw [ev232, hi0, hw, hil, fitF_eq (by omega)]
  dsimp only
  rw [limL_mem hl (List.getElem_mem _), limL_mem hl (List.getElem_mem _)]
  cases hb0 : blankF ls[0] with
  | true => rfl
  | false =>
    cases hbl : blankF (ls[ls.length - 1]'(by omega)) with
    | true => rfl
    | false =>
      show evLoop _ n _ _ = _
      refine (loop_rule (fun i : Nat => st232_6 ls i) (fun i => i ≤ ls.length) (fun i => ls.length - i) (fun i => (some (.one (.bool ((ls.drop i).any hasFit || decide (ls.length = 1)))) : Option E6)) ?_ n 0 (Nat.zero_le _) (by omega)).trans (by rw [List.drop_zero, Bool.or_comm]; rfl)
      intro i hi K hke hkr hnx
      rw [lb232_6_eq]
      by_cases h : i < ls.length
      · rw [decide_eq_true (by omega : (i : Int) < (ls.length : Int)), cond_true, idx_lt h, wrapSucc (by omega), any_drop h]
        dsimp only
        rw [limL_mem hl (List.getElem_mem h), hasFit_len]
        have hstep := hnx (i + 1) (by omega) (by omega)
        by_cases c0 : indentF ls[i] = 0
        · rw [beqT c0, decide_eq_true c0]
          by_cases c1 : 0 < (ls[i].length : Int)
          · rw [decide_eq_true (show (ls[i].length : Int) > 0 from c1)]
            exact (hkr _).trans rfl
          · rw [decide_eq_false (show ¬ (ls[i].length : Int) > 0 from c1)]
            exact hstep
        · rw [beqF c0, decide_eq_false c0]
          exact hstep
      · rw [decide_eq_false (by omega : ¬ (i : Int) < (ls.length : Int)), cond_false, hke, ex232_6_0, List.drop_eq_nil_of_le (by omega)]
        by_cases hone : ls.length = 1
        · rw [beqT (by omega : (ls.length : Int) = 1), decide_eq_true hone]; rfl
        · rw [beqF (by omega : (ls.length : Int) ≠ 1), decide_eq_false hone]; rfl

/-! ### masks -/
theorem maskF_q (r : List Int) : maskF (34 :: 34 :: 34 :: r) = 92 :: 34 :: 34 :: 34 :: maskF r := rfl
theorem maskF_cons {c : Int} {r : List Int} (h : quotesF (c :: r) = false) : maskF (c :: r) = c :: maskF r := by
  conv => lhs; unfold maskF
  split
  · rename_i heq; rw [heq] at h; cases h
  · rename_i heq; cases heq; rfl
  · rename_i heq; cases heq
theorem maskF_len (l : List Int) : (maskF l).length ≤ 2 * l.length := by
  fun_induction maskF l with
  | case1 r ih => simp; omega
  | case2 c r h ih => simp; omega
  | case3 => simp
theorem maskF_all {p : Int → Bool} (h92 : p 92 = true) (l : List Int) (h : l.all p = true) : (maskF l).all p = true := by
  fun_induction maskF l with
  | case1 r ih =>
    simp only [List.all_cons, Bool.and_eq_true] at h ⊢
    exact ⟨h92, h.1, h.2.1, h.2.2.1, ih h.2.2.2⟩
  | case2 c r hne ih =>
    simp only [List.all_cons, Bool.and_eq_true] at h ⊢
    exact ⟨h.1, ih h.2⟩
  | case3 => rfl
theorem quotesF_short10 {c : Int} {r b : List Int} (h : quotesF (c :: r) = false) : quotesF (c :: r ++ 10 :: b) = false := by
  cases hq : quotesF (c :: r ++ 10 :: b) with
  | false => rfl
  | true =>
    obtain ⟨z, hz⟩ := quotesF_iff.1 hq
    match r, hz with
    | [], hz => simp at hz
    | [x], hz => simp at hz
    | x :: y :: r', hz =>
      simp only [List.cons_append, List.cons.injEq] at hz
      obtain ⟨rfl, rfl, rfl, _⟩ := hz
      cases h
theorem mask_10 (a b : List Int) : maskF (a ++ 10 :: b) = maskF a ++ 10 :: maskF b := by
  fun_induction maskF a with
  | case1 r ih => rw [List.cons_append, List.cons_append, List.cons_append, maskF_q, ih]; rfl
  | case2 c r hne ih =>
    have hq : quotesF (c :: r) = false := by
      cases hq : quotesF (c :: r) with
      | false => rfl
      | true =>
        obtain ⟨z, hz⟩ := quotesF_iff.1 hq
        simp only [List.cons.injEq] at hz
        exact absurd hz.2 (fun e => hne z hz.1 e)
    have := quotesF_short10 (b := b) hq
    rw [List.cons_append] at this ⊢
    rw [maskF_cons this, ih]; rfl
  | case3 => rw [List.nil_append, maskF_cons (by
      cases hq : quotesF (10 :: b) with
      | false => rfl
      | true => obtain ⟨z, hz⟩ := quotesF_iff.1 hq; simp at hz)]; rfl

theorem lineF_ne (m cur : List Int) : lineF cur m ≠ [] := by
  induction m generalizing cur with
  | nil => simp [lineF]
  | cons c r ih =>
    rw [lineF_cons]
    split
    · simp
    · split
      · exact ih _
      · exact ih _
theorem joinLF_cons {l : List Int} {ls : List (List Int)} (h : ls ≠ []) : joinLF (l :: ls) = l ++ 10 :: joinLF ls := by
  match ls, h with
  | x :: r, _ => simp [joinLF]
def no13 (c : Int) : Bool := !(c == 13)
theorem join_lineF : ∀ (m cur : List Int), m.all no13 = true → joinLF (lineF cur m) = cur ++ m
  | [], cur, _ => by simp [lineF, joinLF]
  | c :: r, cur, h => by
    simp only [List.all_cons, Bool.and_eq_true] at h
    have hc : c ≠ 13 := fun e => by have := h.1; rw [e] at this; cases this
    rw [lineF_cons, endsF_cons]
    by_cases h10 : c = 10
    · rw [if_pos h10]
      simp only [if_true]
      rw [joinLF_cons (lineF_ne r []), join_lineF r [] h.2, h10]; rfl
    · rw [if_neg h10, if_neg hc]
      simp only [Bool.false_eq_true, if_false]
      rw [if_neg hc, join_lineF r _ h.2]; simp
theorem join_lines {m : List Int} (h : m.all no13 = true) : joinLF (linesF m) = m := join_lineF m [] h
theorem mask_join : ∀ (ls : List (List Int)), ls ≠ [] → maskF (joinLF ls) ++ [10] = ls.flatMap fun l => maskF l ++ [10]
  | [l], _ => by simp [joinLF]
  | l :: x :: r, _ => by
    rw [joinLF_cons (by simp), mask_10, List.flatMap_cons, ← mask_join (x :: r) (by simp)]
    simp
theorem mask_lines {m : List Int} (h : m.all no13 = true) : maskF m ++ [10] = (linesF m).flatMap fun l => maskF l ++ [10] := by
  rw [← mask_join (linesF m) (lineF_ne m []), join_lines h]
theorem lineF_all {p : Int → Bool} : ∀ (m cur : List Int), cur.all p = true → m.all p = true → ∀ l ∈ lineF cur m, l.all p = true
  | [], cur, hc, _, l, hl => by simp [lineF] at hl; rw [hl]; exact hc
  | c :: r, cur, hc, hm, l, hl => by
    simp only [List.all_cons, Bool.and_eq_true] at hm
    rw [lineF_cons] at hl
    split at hl
    · rcases List.mem_cons.1 hl with rfl | hl
      · exact hc
      · exact lineF_all r [] rfl hm.2 l hl
    · split at hl
      · exact lineF_all r cur hc hm.2 l hl
      · exact lineF_all r _ (by rw [List.all_append, hc]; simp [hm.1]) hm.2 l hl

theorem guarded_ok (l : List Int) (hl : smL l = true) (n : Nat) (hn : l.length < n) : evFn E234 n Tryd.f34 [.sl .i32 l none] = some (.one (.sl .i32 (maskF l) (some 1))) := by
  have hlen := smL_len hl
  rw [ev234]
  refine (loop_rule (fun p : List Int × Nat => st234_3 l p.1 p.2) (fun p => p.1.length ≤ 2 * p.2 ∧ p.2 ≤ l.length) (fun p => l.length - p.2) (fun p => (some (.one (.sl .i32 (p.1 ++ maskF (l.drop p.2)) (some 1))) : Option E6)) ?_ n ([], 0) (by simp) (by simp only; omega)).trans (by simp)
  rintro ⟨out, i⟩ ⟨h1, h2⟩ K hke hkr hnx
  dsimp only at h1 h2 hnx ⊢
  rw [lb234_3_eq]
  by_cases h : i < l.length
  · have hd := get_drop h
    rw [decide_eq_true (by omega : (i : Int) < (l.length : Int)), cond_true, show (2 : Int) = ((2 : Nat) : Int) from rfl, wrapAdd (by omega), show (3 : Int) = ((3 : Nat) : Int) from rfl, wrapAdd (by omega), wrapSucc (by omega), idx_lt h, room_iff.2 (by omega), room_iff.2 (by omega)]
    have hplain : quotesF (l.drop i) = false → K .normal (st234_3 l (out ++ [l[i]]) ((i + 1 : Nat) : Int)) = some (.one (.sl .i32 (out ++ maskF (l.drop i)) (some 1))) := fun hq => by
      refine (hnx (out ++ [l[i]], i + 1) ⟨by simp; omega, by simp only; omega⟩ (by simp only; omega)).trans ?_
      rw [hd] at hq ⊢
      rw [maskF_cons hq]; simp
    by_cases h3 : i + 2 < l.length
    · have hq3 : quotesF (l.drop i) = (l[i] == 34 && (l[i + 1] == 34 && l[i + 2] == 34)) := by
        rw [quotesF_at (by rw [List.length_drop]; omega)]
        simp
      rw [decide_eq_true (by omega : ((i + 2 : Nat) : Int) < (l.length : Int)), idx_lt (by omega), idx_lt (by omega)]
      dsimp only
      by_cases c0 : l[i] = 34
      · rw [beqT c0] at hq3 ⊢
        by_cases c1 : l[i + 1] = 34
        · rw [beqT c1] at hq3 ⊢
          by_cases c2 : l[i + 2] = 34
          · rw [beqT c2]
            refine (hnx (out ++ [92, 34, 34, 34], i + 3) ⟨by simp; omega, by simp only; omega⟩ (by simp only; omega)).trans ?_
            rw [hd, get_drop (i := i + 1) (by omega), get_drop (i := i + 1 + 1) (by omega), c0, c1, show l[i + 1 + 1] = 34 from c2, maskF_q]; simp
          · rw [beqF c2] at hq3 ⊢
            exact hplain hq3
        · rw [beqF c1] at hq3 ⊢
          exact hplain hq3
      · rw [beqF c0] at hq3 ⊢
        exact hplain hq3
    · rw [decide_eq_false (by omega : ¬ ((i + 2 : Nat) : Int) < (l.length : Int))]
      exact hplain (quotesF_short (by rw [List.length_drop]; omega))
  · rw [decide_eq_false (by omega : ¬ (i : Int) < (l.length : Int)), cond_false, hke, ex234_3_0, List.drop_eq_nil_of_le (by omega)]
    exact congrArg (fun z : List Int => (some (.one (.sl .i32 z (some 1))) : Option E6)) (List.append_nil out).symm
end Go.Aev
end

section
set_option linter.unusedVariables false
namespace Go.Aev
open Go.Proofs Go.Lib

/-- What may stand in a block string's value. -/
def okC (c : Int) : Bool := sourceF c && !(c == 13)
theorem okC_no13 {cs : List Int} (h : cs.all okC = true) : cs.all no13 = true := List.all_eq_true.2 fun x hx => by
  have := List.all_eq_true.1 h x hx
  unfold okC at this
  simp only [Bool.and_eq_true] at this
  exact this.2
theorem okC_valid {cs : List Int} (h : cs.all okC = true) : cs.all validF = true := List.all_eq_true.2 fun x hx => by
  have := List.all_eq_true.1 h x hx
  unfold okC at this
  simp only [Bool.and_eq_true] at this
  exact sourceF_valid this.1
theorem btF_eq (s : List UInt8) : btF s = if s = [] then ([34, 34, 34, 34, 34, 34], true) else if (decF s).2 < s.length then ([], false) else if !(decF s).1.all okC then ([], false) else if !fitF (linesF (decF s).1) then ([], false) else (encB (btC (decF s).1), true) := rfl
theorem decF_ne {s : List UInt8} (hne : s ≠ []) (h : ¬ (decF s).2 < s.length) : (decF s).1 ≠ [] := fun e => by
  obtain ⟨d1, d2, d3, d4⟩ := decF_enc _ s (Nat.le_refl _)
  rw [e, encB_nil, List.take_of_length_le (by omega)] at d1
  exact hne d1.symm
theorem btC_valid {cs : List Int} (h : cs.all okC = true) : (btC cs).all validF = true := by
  unfold btC
  rw [List.all_append, List.all_append, List.all_append, maskF_all (by decide) cs (okC_valid h)]
  split <;> decide
theorem all_take_succ {cs : List Int} {p : Int → Bool} {i : Nat} (h : i < cs.length) : (cs.take (i + 1)).all p = ((cs.take i).all p && p cs[i]) := by
  rw [List.take_succ_eq_append_getElem h, List.all_append]; simp
theorem not_all_at {cs : List Int} {p : Int → Bool} {i : Nat} (h : i < cs.length) (hp : p cs[i] = false) : cs.all p = false := by
  cases ha : cs.all p with
  | false => rfl
  | true => rw [all_at ha h] at hp; cases hp

theorem mask_loop {cs : List Int} (hl : smL cs = true) {pre : List Int} (hpre : pre.length ≤ 4) (hv : cs.all okC = true) (hpv : pre.all validF = true) (n : Nat) (hn : cs.length < n) :
    evLoop (lbC E209 (cdAt Tryd.f9 [1, 1, 1, 1, 1, 1, 1, 1, 1, 0, 1, 0, 0]) 10019 n) n (st209_19 cs pre 0) (blockK 2 (seqK (evCode E209 n (cdAt Tryd.f9 [1, 1, 1, 1, 1, 1, 1, 1, 1, 1])) (retK Tryd.f9.results.toList))) =
      some (.tup [.str (encB (pre ++ maskF cs ++ [10, 34, 34, 34])), .bool true]) := by
  have hlen := smL_len hl
  refine (loop_rule (fun p : List Int × Nat => st209_19 cs p.1 p.2) (fun p => p.1.length ≤ 4 + 2 * p.2 ∧ p.2 ≤ cs.length ∧ p.1 ++ maskF (cs.drop p.2) = pre ++ maskF cs) (fun p => cs.length - p.2) (fun p => (some (.tup [.str (encB (pre ++ maskF cs ++ [10, 34, 34, 34])), .bool true]) : Option E6)) ?_ n (pre, 0) ⟨by simp only; omega, by simp, rfl⟩ (by simp only; omega))
  rintro ⟨out, i⟩ ⟨h1, h2, h3⟩ K hke hkr hnx
  dsimp only at h1 h2 h3 hnx ⊢
  rw [lb209_19_eq]
  by_cases h : i < cs.length
  · have hd := get_drop h
    have hw : IntKind.wrap .i64 (IntKind.wrap .i64 ((i : Int) + 2) + 1) = ((i + 3 : Nat) : Int) := by
      rw [wrap64 (n := (i : Int) + 2) (by omega) (by omega), wrap64 (by omega) (by omega)]; omega
    rw [decide_eq_true (by omega : (i : Int) < (cs.length : Int)), cond_true, sub_from (by omega), idx_lt h, wrapSucc (by omega), room_iff.2 (by omega), room_iff.2 (by omega), hw]
    dsimp only
    rw [lim4_drop (smL_lim hl)]
    cases hq : quotesF (cs.drop i) with
    | true =>
      obtain ⟨r, hr⟩ := quotesF_iff.1 hq
      have hr3 : cs.drop (i + 3) = r := by
        have := congrArg (List.drop 3) hr
        simpa using this
      have hi3 : i + 3 ≤ cs.length := by
        have := congrArg List.length hr
        rw [List.length_drop] at this
        simp at this
        omega
      refine hnx (out ++ [92, 34, 34, 34], i + 3) ⟨by simp; omega, by simp only; omega, ?_⟩ (by simp only; omega)
      dsimp only
      rw [hr3, ← h3, hr, maskF_q]; simp
    | false =>
      refine hnx (out ++ [cs[i]], i + 1) ⟨by simp; omega, by simp only; omega, ?_⟩ (by simp only; omega)
      dsimp only
      rw [← h3]
      rw [hd] at hq ⊢
      rw [maskF_cons hq]; simp
  · rw [List.drop_eq_nil_of_le (by omega), show maskF [] = [] from rfl, List.append_nil] at h3
    rw [decide_eq_false (by omega : ¬ (i : Int) < (cs.length : Int)), cond_false, hke, ex209_19_2]
    have hval : (out ++ [10, 34, 34, 34]).all validF = true := by
      rw [h3, List.all_append, List.all_append, hpv, maskF_all (by decide) cs (okC_valid hv)]; decide
    rw [room_iff.2 (by omega), lim4_iff.2 (by rw [List.length_append]; simp only [List.length_cons, List.length_nil]; omega), encF_valid hval, h3]
    rfl

theorem smL_of_dec {s : List UInt8} (hs : smS s = true) : smL (decF s).1 = true := by
  have hlen := smS_iff.1 hs
  obtain ⟨d1, d2, d3, d4⟩ := decF_enc _ s (Nat.le_refl _)
  exact smL_iff.2 (by omega)
theorem limL_lines {cs : List Int} (hl : smL cs = true) : limL (linesF cs) = true ∧ 1 ≤ (linesF cs).length := by
  have hlen := smL_len hl
  have ht := linesF_tot cs
  refine ⟨limL_tot (by omega) (by omega), ?_⟩
  have := lineF_ne cs []
  have h0 : 0 < (linesF cs).length := List.length_pos_iff.2 this
  omega

theorem blockText_ok (s : List UInt8) (hs : smS s = true) (n : Nat) (hn : s.length < n) : evFn E209 n Tryd.f9 [.str s] = some (.tup [.str (btF s).1, .bool (btF s).2]) := by
  have hlen := smS_iff.1 hs
  obtain ⟨d1, d2, d3, d4⟩ := decF_enc _ s (Nat.le_refl _)
  rw [ev209, hs, btF_eq]
  by_cases hne : s = []
  · subst hne; rfl
  have hne' : (s == []) = false := by simp [hne]
  rw [hne', if_neg hne]
  by_cases hd : (decF s).2 < s.length
  · rw [decide_eq_true (by omega : (((decF s).2 : Nat) : Int) < (s.length : Int)), if_pos hd]; rfl
  · rw [decide_eq_false (by omega : ¬ (((decF s).2 : Nat) : Int) < (s.length : Int)), if_neg hd]
    show evLoop _ n _ _ = _
    have hcne := decF_ne hne hd
    have hsl := smL_of_dec hs
    obtain ⟨hll, hl1⟩ := limL_lines hsl
    generalize (decF s).1 = cs at d2 d4 hcne hsl hll hl1
    refine (loop_rule (fun i : Nat => st209_7 cs cs (cs.length : Int) i) (fun i => i ≤ cs.length ∧ (cs.take i).all okC = true) (fun i => cs.length - i) (fun i => (some (.tup [.str (if !cs.all okC then ([], false) else if !fitF (linesF cs) then ([], false) else (encB (btC cs), true)).1, .bool (if !cs.all okC then (([] : List UInt8), false) else if !fitF (linesF cs) then ([], false) else (encB (btC cs), true)).2]) : Option E6)) ?_ n 0 ⟨Nat.zero_le _, rfl⟩ (by omega))
    intro i ⟨hi, hall⟩ K hke hkr hnx
    rw [lb209_7_eq]
    by_cases h : i < cs.length
    · rw [decide_eq_true (by omega : (i : Int) < (cs.length : Int)), cond_true, idx_lt h, wrapSucc (by omega)]
      dsimp only
      cases hsrc : sourceF cs[i] with
      | false =>
        rw [not_all_at (p := okC) h (by unfold okC; rw [hsrc]; rfl)]
        exact (hkr _).trans rfl
      | true =>
        by_cases h13 : cs[i] = 13
        · rw [beqT h13, not_all_at (p := okC) h (by unfold okC; rw [hsrc, beqT h13]; rfl)]
          exact (hkr _).trans rfl
        · rw [beqF h13]
          exact hnx (i + 1) ⟨by omega, by rw [all_take_succ h, hall]; unfold okC; rw [hsrc, beqF h13]; rfl⟩ (by omega)
    · rw [List.take_of_length_le (by omega)] at hall
      rw [decide_eq_false (by omega : ¬ (i : Int) < (cs.length : Int)), cond_false, hke, ex209_7_0, hsl, hll, decide_eq_true hl1, hall]
      cases hf : fitF (linesF cs) with
      | false => rfl
      | true =>
        have hc0 : 0 < cs.length := List.length_pos_iff.2 hcne
        have hi0 : idx cs 0 = some cs[0] := idx_lt (i := 0) hc0
        have hhd : cs.headD 0 = cs[0] := by
          cases cs with
          | nil => exact absurd rfl hcne
          | cons => rfl
        have hm10 := mask_loop hsl (pre := [34, 34, 34] ++ [10]) (by simp) hall (by decide) n (by omega)
        have hm3 := mask_loop hsl (pre := [34, 34, 34]) (by simp) hall (by decide) n (by omega)
        rw [hi0]
        dsimp only
        rw [show room (3 + 1) 4 = true from rfl, hm10, hm3]
        have hbt : encB (btC cs) = if decide (1 < (linesF cs).length) || !whiteF cs[0] then encB ([34, 34, 34] ++ [10] ++ maskF cs ++ [10, 34, 34, 34]) else encB ([34, 34, 34] ++ maskF cs ++ [10, 34, 34, 34]) := by
          unfold btC
          rw [hhd]
          split
          · rfl
          · rfl
        rw [hbt]
        by_cases hl2 : 1 < (linesF cs).length
        · rw [decide_eq_true (by omega : ((linesF cs).length : Int) > 1), decide_eq_true hl2]; rfl
        · rw [decide_eq_false (by omega : ¬ ((linesF cs).length : Int) > 1), decide_eq_false hl2]
          cases whiteF cs[0] <;> rfl

theorem rblockText_loop {cs : List Int} (hl : smL cs = true) (hv : cs.all okC = true) {pre : List UInt8} (hpre : pre.length ≤ 4) (n : Nat) (hn : cs.length + 2 < n) :
    evLoop (lbC E210 (cdAt Tryd.f10 [1, 1, 1, 1, 1, 1, 1, 1, 1, 1, 1, 0, 1, 0, 0]) 10021 n) n (st210_21 [34, 34, 34] (linesF cs) pre 0) (blockK 2 (seqK (evCode E210 n (cdAt Tryd.f10 [1, 1, 1, 1, 1, 1, 1, 1, 1, 1, 1, 1])) (retK Tryd.f10.results.toList))) =
      some (.tup [.str (pre ++ ((linesF cs).flatMap fun l => encB (maskF l) ++ [10]) ++ [34, 34, 34]), .bool true]) := by
  have hlen := smL_len hl
  obtain ⟨hll, hl1⟩ := limL_lines hl
  have ht := linesF_tot cs
  have hmem : ∀ l ∈ linesF cs, l.all okC = true := fun l hm => lineF_all cs [] rfl hv l hm
  have hfl : ∀ (ls : List (List Int)), (ls.flatMap fun l => encB (maskF l) ++ [10]).length ≤ 8 * totL ls + ls.length := by
    intro ls
    induction ls with
    | nil => simp
    | cons l r ih =>
      have h1 := encB_len (maskF l)
      have h2 := maskF_len l
      rw [List.flatMap_cons, List.length_append, List.length_append, totL_cons, List.length_cons]
      simp only [List.length_cons, List.length_nil]
      omega
  have hst : st210_21 [34, 34, 34] (linesF cs) pre 0 = st210_21 [34, 34, 34] (linesF cs) (pre ++ ((linesF cs).take 0).flatMap fun l => encB (maskF l) ++ [10]) ((0 : Nat) : Int) := by rw [List.take_zero, List.flatMap_nil, List.append_nil]; rfl
  rw [hst]
  refine (loop_rule (fun i : Nat => st210_21 [34, 34, 34] (linesF cs) (pre ++ ((linesF cs).take i).flatMap fun l => encB (maskF l) ++ [10]) i) (fun i => i ≤ (linesF cs).length) (fun i => (linesF cs).length - i) (fun i => (some (.tup [.str (pre ++ ((linesF cs).flatMap fun l => encB (maskF l) ++ [10]) ++ [34, 34, 34]), .bool true]) : Option E6)) ?_ n 0 (Nat.zero_le _) (by omega))
  · intro i hi K hke hkr hnx
    have hf := hfl ((linesF cs).take i)
    have htk := totL_sub (List.take_sublist i (linesF cs))
    have htl : ((linesF cs).take i).length ≤ i := List.length_take_le _ _
    rw [lb210_21_eq]
    by_cases h : i < (linesF cs).length
    · have hm := totL_mem (List.getElem_mem h)
      have hm2 := maskF_len (linesF cs)[i]
      have hv2 := maskF_all (p := validF) (by decide) _ (okC_valid (hmem _ (List.getElem_mem h)))
      have he2 := encB_len (maskF (linesF cs)[i])
      rw [decide_eq_true (by omega : (i : Int) < ((linesF cs).length : Int)), cond_true, idx_lt h, wrapSucc (by omega)]
      dsimp only
      have hd1 : decide ((pre ++ ((linesF cs).take i).flatMap fun l => encB (maskF l) ++ [10]).length + (encB (maskF (linesF cs)[i])).length ≤ 9223372036854775807) = true := decide_eq_true (by rw [List.length_append]; omega)
      have hd2 : decide (((pre ++ ((linesF cs).take i).flatMap fun l => encB (maskF l) ++ [10]) ++ encB (maskF (linesF cs)[i])).length + ([10] : List Nat).length ≤ 9223372036854775807) = true := decide_eq_true (by rw [List.length_append, List.length_append]; simp only [List.length_cons, List.length_nil]; omega)
      rw [smL_iff.2 (by omega), lim4_iff.2 (by omega), encF_valid hv2]
      dsimp only
      rw [hd1, hd2]
      refine Eq.trans ?_ (hnx (i + 1) (by omega) (by omega))
      rw [List.take_succ_eq_append_getElem h, List.flatMap_append]
      simp
    · rw [decide_eq_false (by omega : ¬ (i : Int) < ((linesF cs).length : Int)), cond_false, hke, ex210_21_2]
      rw [List.take_of_length_le (by omega)] at hf ⊢
      have hd1 : decide ((pre ++ (linesF cs).flatMap fun l => encB (maskF l) ++ [10]).length + ([34, 34, 34] : List UInt8).length ≤ 9223372036854775807) = true := decide_eq_true (by rw [List.length_append]; simp only [List.length_cons, List.length_nil]; omega)
      rw [hd1]; rfl
end Go.Aev
end

section
set_option linter.unusedVariables false
namespace Go.Aev
open Go.Proofs Go.Lib

theorem encB_flat {α : Type} (f : α → List Int) (ls : List α) : encB (ls.flatMap f) = ls.flatMap fun l => encB (f l) := by
  induction ls with
  | nil => rfl
  | cons l r ih => rw [List.flatMap_cons, List.flatMap_cons, encB_append, ih]
theorem enc_mask_lines {cs : List Int} (h : cs.all no13 = true) (pre : List Int) : encB (pre ++ maskF cs ++ [10, 34, 34, 34]) = encB pre ++ ((linesF cs).flatMap fun l => encB (maskF l) ++ [10]) ++ [34, 34, 34] := by
  have e : pre ++ maskF cs ++ [10, 34, 34, 34] = pre ++ (maskF cs ++ [10]) ++ [34, 34, 34] := by simp
  rw [e, encB_append, encB_append, mask_lines h, encB_flat]
  have h1 : encB [34, 34, 34] = [34, 34, 34] := by decide +kernel
  have h2 : (fun l => encB (maskF l ++ [10])) = fun l => encB (maskF l) ++ [10] := by
    funext l
    rw [encB_append]; rfl
  rw [h1, h2]

theorem rblockText_ok (s : List UInt8) (hs : smS s = true) (n : Nat) (hn : s.length + 2 < n) : evFn E210 n Tryd.f10 [.str s] = some (.tup [.str (btF s).1, .bool (btF s).2]) := by
  have hlen := smS_iff.1 hs
  obtain ⟨d1, d2, d3, d4⟩ := decF_enc _ s (Nat.le_refl _)
  rw [ev210, room_iff.2 (by omega), toB_bytes, isB_bytes, smL_iff.2 (by rw [List.length_map]; omega), btF_eq]
  by_cases hd : (decF s).2 < s.length
  · have hne : s ≠ [] := fun e => by subst e; simp at hd
    rw [bneT (by omega : (((decF s).2 : Nat) : Int) ≠ (s.length : Int)), if_neg hne, if_pos hd]; rfl
  · rw [bneF (by omega : (((decF s).2 : Nat) : Int) = (s.length : Int)), if_neg hd]
    show evLoop _ n _ _ = _
    by_cases hne : s = []
    · subst hne
      rw [if_pos rfl]
      show evLoop _ n (st210_5 [] [] 0) _ = _
      obtain ⟨m, rfl⟩ : ∃ m, n = m + 1 := ⟨n - 1, by omega⟩
      rw [evLoop_succ, lb210_5_eq]
      rw [show decide ((0 : Int) < (([] : List Int).length : Int)) = false from rfl, cond_false]
      exact (ex210_5_0 (m + 1) [] [] 0 false).trans rfl
    rw [if_neg hne]
    have hcne := decF_ne hne hd
    have hsl := smL_of_dec hs
    obtain ⟨hll, hl1⟩ := limL_lines hsl
    generalize (decF s).1 = cs at d2 d4 hcne hsl hll hl1
    refine (loop_rule (fun i : Nat => st210_5 s cs i) (fun i => i ≤ cs.length ∧ (cs.take i).all okC = true) (fun i => cs.length - i) (fun i => (some (.tup [.str (if !cs.all okC then ([], false) else if !fitF (linesF cs) then ([], false) else (encB (btC cs), true)).1, .bool (if !cs.all okC then (([] : List UInt8), false) else if !fitF (linesF cs) then ([], false) else (encB (btC cs), true)).2]) : Option E6)) ?_ n 0 ⟨Nat.zero_le _, rfl⟩ (by omega))
    intro i ⟨hi, hall⟩ K hke hkr hnx
    rw [lb210_5_eq]
    by_cases h : i < cs.length
    · rw [decide_eq_true (by omega : (i : Int) < (cs.length : Int)), cond_true, idx_lt h, wrapSucc (by omega)]
      dsimp only
      cases hsrc : sourceF cs[i] with
      | false =>
        rw [not_all_at (p := okC) h (by unfold okC; rw [hsrc]; rfl)]
        exact (hkr _).trans rfl
      | true =>
        by_cases h13 : cs[i] = 13
        · rw [beqT h13, not_all_at (p := okC) h (by unfold okC; rw [hsrc, beqT h13]; rfl)]
          exact (hkr _).trans rfl
        · rw [beqF h13]
          exact hnx (i + 1) ⟨by omega, by rw [all_take_succ h, hall]; unfold okC; rw [hsrc, beqF h13]; rfl⟩ (by omega)
    · rw [List.take_of_length_le (by omega)] at hall
      have hne' : (s == []) = false := by simp [hne]
      rw [decide_eq_false (by omega : ¬ (i : Int) < (cs.length : Int)), cond_false, hke, ex210_5_0, hsl, hll, decide_eq_true hl1, hall, hne']
      cases hf : fitF (linesF cs) with
      | false => rfl
      | true =>
        have hc0 : 0 < cs.length := List.length_pos_iff.2 hcne
        have hhd : cs.headD 0 = cs[0] := by
          cases cs with
          | nil => exact absurd rfl hcne
          | cons => rfl
        have hm10 := rblockText_loop hsl hall (pre := [34, 34, 34] ++ [10]) (by simp) n (by omega)
        have hm3 := rblockText_loop hsl hall (pre := [34, 34, 34]) (by simp) n (by omega)
        have e10 : encB ([34, 34, 34] ++ [10]) = [34, 34, 34] ++ [10] := by decide +kernel
        have e3 : encB [34, 34, 34] = [34, 34, 34] := by decide +kernel
        have h10 := enc_mask_lines (okC_no13 hall) ([34, 34, 34] ++ [10])
        have h3 := enc_mask_lines (okC_no13 hall) [34, 34, 34]
        rw [e10] at h10
        rw [e3] at h3
        have hbt : encB (btC cs) = if decide (1 < (linesF cs).length) || !whiteF cs[0] then encB ([34, 34, 34] ++ [10] ++ maskF cs ++ [10, 34, 34, 34]) else encB ([34, 34, 34] ++ maskF cs ++ [10, 34, 34, 34]) := by
          unfold btC
          rw [hhd]
          split
          · rfl
          · rfl
        rw [hbt, h10, h3]
        by_cases hl2 : 1 < (linesF cs).length
        · rw [decide_eq_true (by omega : ((linesF cs).length : Int) > 1), decide_eq_true hl2]
          exact hm10
        · have hone : linesF cs = [cs] := by
            have hj := join_lines (okC_no13 hall)
            match hlc : linesF cs, hl1, hl2 with
            | [x], _, _ =>
              rw [hlc] at hj
              simp [joinLF] at hj
              rw [hj]
            | x :: y :: r, _, h2 => simp at h2
          have hi0 : idx (linesF cs) 0 = some cs := by rw [hone]; rfl
          have hi1 : idx cs 0 = some cs[0] := idx_lt (i := 0) hc0
          rw [decide_eq_false (by omega : ¬ ((linesF cs).length : Int) > 1), decide_eq_false hl2, hi0]
          dsimp only
          rw [hi1]
          dsimp only
          cases whiteF cs[0] with
          | true => exact hm3
          | false => exact hm10

theorem inside_ok (t : List UInt8) (n0 : Int) (ht : smS t = true) (h0 : 0 ≤ n0) (h1 : n0 ≤ 1000) (n : Nat) : evFn E212 n Tryd.f12 [.str t, .int .i64 n0] = some (.tup [.sl .i32 (insF t n0.toNat).1 (some 1), .bool (insF t n0.toNat).2]) := by
  have hlen := smS_iff.1 ht
  obtain ⟨k, rfl⟩ : ∃ k : Nat, n0 = (k : Int) := ⟨n0.toNat, by omega⟩
  have hw : IntKind.wrap .i64 (2 * (k : Int)) = ((2 * k : Nat) : Int) := by rw [wrap64 (by omega) (by omega)]; omega
  have hr : smS (repeatL [34] k) = true := smS_iff.2 (by rw [repeatL_length]; simp; omega)
  rw [ev212, ht, hw, Int.toNat_natCast, hr, decide_eq_true h0, decide_eq_true h1]
  unfold insF
  by_cases h2 : t.length < 2 * k
  · rw [decide_eq_true (by omega : (t.length : Int) < ((2 * k : Nat) : Int)), decide_eq_true h2]; rfl
  · rw [decide_eq_false (by omega : ¬ (t.length : Int) < ((2 * k : Nat) : Int)), decide_eq_false h2]
    cases hp : hasPrefix t (repeatL [34] k) with
    | false => rfl
    | true =>
      cases hsx : hasSuffix t (repeatL [34] k) with
      | false => rfl
      | true =>
        have hw2 : IntKind.wrap .i64 ((t.length : Int) - (k : Int)) = ((t.length - k : Nat) : Int) := by rw [wrap64 (by omega) (by omega)]; omega
        rw [hw2, sub_nat (by omega) (by omega)]
        dsimp only
        rw [room_iff.2 (by rw [List.length_take, List.length_drop]; omega)]
        rfl

theorem texts_law (s : List UInt8) (hs : smS1 s = true) (n : Nat) : evFn E203 n Tryd.f3 [.str s] = some (.one (.bool true)) := by
  have hlen : s.length ≤ 1048576 := by simpa [smS1] using hs
  have h1 : smS s = true := smS_iff.2 (by omega)
  have h2 : qtF [9, 34, 240, 159, 152, 128, 47, 127] = ([34, 92, 116, 92, 34, 92, 117, 68, 56, 51, 68, 92, 117, 68, 69, 48, 48, 47, 92, 117, 48, 48, 55, 70, 34], 0) := by decide +kernel
  have e1 : ((qtF s).2 != (qtF s).2) = false := bne_self_eq_false _
  have e2 : ((btF s).2 == (btF s).2) = true := BEq.rfl
  rw [ev203, h2]
  simp only [h1, e1, e2, BEq.rfl]
  rfl
end Go.Aev
end
