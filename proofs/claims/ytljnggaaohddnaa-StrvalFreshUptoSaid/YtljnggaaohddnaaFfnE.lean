/- Proved here: lemmas of an evaluator over the model's code that the claim's text uses (P11 P12 P13 P14 P15). Conditions: those that each lemma states. -/
import Derived.Test.YtljnggaaohddnaaFfnC
import Derived.Test.YtljnggaaohddnaaFfnA
section
set_option linter.unusedVariables false
namespace Go.Aev
open Go.Proofs

theorem w32 {n : Int} (h : -2147483648 ≤ n) (h2 : n ≤ 2147483647) : IntKind.wrap .i32 n = n := Go.IntWalk.i32_in n ⟨h, h2⟩
theorem w8 {n : Int} (h : 0 ≤ n) (h2 : n ≤ 255) : IntKind.wrap .u8 n = n := Go.IntWalk.u8_in n ⟨h, h2⟩
theorem wu32 {n : Int} (h : 0 ≤ n) (h2 : n ≤ 4294967295) : IntKind.wrap .u32 n = n := Go.IntWalk.u32_in n ⟨h, h2⟩

theorem digit_ok (c : Int) (n : Nat) : evFn E64 n Try.f64 [.int .i32 c] = some (.one (.bool (digitF c))) := by
  rw [ev64]
  unfold digitF
  by_cases h : 48 ≤ c <;> simp [h]
theorem digitF_iff {c : Int} : digitF c = true ↔ 48 ≤ c ∧ c ≤ 57 := by simp [digitF]
theorem hexF_range (c : Int) : -1 ≤ hexF c ∧ hexF c ≤ 15 := by
  unfold hexF
  split
  · rename_i h; have := digitF_iff.1 h; omega
  · split
    · rename_i h; simp at h; omega
    · split
      · rename_i h; simp at h; omega
      · omega
theorem hex_ok (c : Int) (n : Nat) : evFn E63 n Try.f63 [.int .i32 c] = some (.one (.int .i64 (hexF c))) := by
  rw [ev63]
  unfold hexF
  cases hd : digitF c with
  | true =>
    have h := digitF_iff.1 hd
    simp only [cond_true, if_true]
    rw [w32 (by omega) (by omega), wrap64 (by omega) (by omega)]
  | false =>
    by_cases h1 : 97 ≤ c
    · by_cases h2 : c ≤ 102
      · simp [h1, h2]
        rw [w32 (by omega) (by omega), wrap64 (n := c - 97) (by omega) (by omega), wrap64 (by omega) (by omega)]
        omega
      · have h3 : ¬ c ≤ 70 := by omega
        simp [h1, h2, h3]
    · by_cases h3 : 65 ≤ c
      · by_cases h4 : c ≤ 70
        · simp [h1, h3, h4]
          rw [w32 (by omega) (by omega), wrap64 (n := c - 65) (by omega) (by omega), wrap64 (by omega) (by omega)]
          omega
        · simp [h1, h3, h4]
      · simp [h1, h3]
theorem join_ok (a b : Int) (n : Nat) : evFn E58 n Try.f58 [.int .i32 a, .int .i32 b] = some (.tup [.int .i32 (joinF a b).1, .bool (joinF a b).2]) := by
  rw [ev58]
  unfold joinF
  by_cases h1 : a < 55296
  · simp [h1]
  · by_cases h2 : 56320 ≤ a
    · simp [h1, h2]
    · by_cases h3 : b < 56320
      · simp [h1, h2, h3]
      · by_cases h4 : 57344 ≤ b
        · simp [h1, h2, h3, h4]
        · simp [h1, h2, h3, h4]
          rw [w32 (n := a - 55296) (by omega) (by omega), w32 (n := (a - 55296) * 1024) (by omega) (by omega), w32 (n := 65536 + _) (by omega) (by omega), w32 (n := b - 56320) (by omega) (by omega), w32 (by omega) (by omega)]
theorem rjoin_ok (a b : Int) (n : Nat) : evFn E49 n Try.f49 [.int .i32 a, .int .i32 b] = some (.tup [.int .i32 (joinF a b).1, .bool (joinF a b).2]) := by
  rw [ev49]
  unfold joinF
  by_cases h1 : a < 55296
  · simp [h1]
  · by_cases h2 : 56320 ≤ a
    · have h2' : 56319 < a := by omega
      simp [h1, h2, h2']
    · have h2' : ¬ 56319 < a := by omega
      by_cases h3 : b < 56320
      · simp [h1, h2, h3, h2']
      · by_cases h4 : 57344 ≤ b
        · have h4' : 57343 < b := by omega
          simp [h1, h2, h3, h4, h2', h4']
        · have h4' : ¬ 57343 < b := by omega
          simp [h1, h2, h3, h4, h2', h4']
          rw [w32 (n := a - 55296) (by omega) (by omega), w32 (n := (a - 55296) * 1024) (by omega) (by omega), w32 (n := 65536 + _) (by omega) (by omega), w32 (n := b - 56320) (by omega) (by omega), w32 (by omega) (by omega)]
theorem source_ok (c : Int) (n : Nat) : evFn E32 n Try.f32 [.int .i32 c] = some (.one (.bool (sourceF c))) := by
  rw [ev32]
  unfold sourceF
  by_cases h : c < 32
  · cases h1 : c == 9 <;> cases h2 : c == 10 <;> simp [h, h1, h2]
  · by_cases h1 : c ≤ 65535
    · by_cases h2 : c < 55296 <;> simp [h, h1, h2]
    · simp [h, h1]
theorem valid_ok (c : Int) (n : Nat) : evFn E44 n Try.f44 [.int .i32 c] = some (.one (.bool (validF c))) := by
  rw [ev44]
  unfold validF
  by_cases h1 : 0 ≤ c
  · by_cases h2 : c < 55296
    · simp [h1, h2]
    · by_cases h3 : 57343 < c
      · by_cases h4 : c ≤ 1114111 <;> simp [h1, h2, h3, h4]
      · simp [h1, h2, h3]
  · have h3 : ¬ 57343 < c := by omega
    simp [h1, h3]
theorem scalar_ok (c : Int) (n : Nat) : evFn E61 n Try.f61 [.int .i32 c] = some (.one (.bool (validF c))) := by
  rw [ev61]
  unfold validF
  by_cases h1 : 55296 ≤ c
  · by_cases h2 : c ≤ 57343
    · have h3 : ¬ 57343 < c := by omega
      have h4 : ¬ c < 55296 := by omega
      simp [h1, h2, h3, h4]
    · have h3 : 57343 < c := by omega
      have h4 : ¬ c < 55296 := by omega
      have h5 : 0 ≤ c := by omega
      simp [h1, h2, h3, h4, h5]
  · have h4 : c < 55296 := by omega
    have h3 : ¬ 57343 < c := by omega
    by_cases h5 : 0 ≤ c
    · have h6 : c ≤ 1114111 := by omega
      simp [h1, h4, h5, h6]
    · simp [h1, h4, h5, h3]
theorem rsource_ok (c : Int) (n : Nat) : evFn E53 n Try.f53 [.int .i32 c] = some (.one (.bool (sourceF c))) := by
  rw [ev53]
  unfold sourceF
  by_cases h : c < 32
  · have e : inF c [9, 10, 13] = (c == 9 || (c == 10 || c == 13)) := by
      simp only [inF, List.any_cons, List.any_nil, Bool.or_false, show ((9 : UInt8).toNat : Int) = 9 from rfl, show ((10 : UInt8).toNat : Int) = 10 from rfl, show ((13 : UInt8).toNat : Int) = 13 from rfl]
      rw [BEq.comm (a := 9) (b := c), BEq.comm (a := 10) (b := c), BEq.comm (a := 13) (b := c)]
    simp only [h, decide_true, cond_true, if_true]
    rw [e]
    rfl
  · by_cases h1 : c ≤ 65535
    · have h2 : c < 65536 := by omega
      have e : validF c = (decide (c < 55296) || decide (57344 ≤ c)) := by
        unfold validF
        rw [Bool.eq_iff_iff]
        simp
        omega
      simp [h, h1, h2, e]
    · have h2 : ¬ c < 65536 := by omega
      simp [h, h1, h2]
theorem u8byte (b : UInt8) : 0 ≤ (b.toNat : Int) ∧ (b.toNat : Int) ≤ 255 := by have := b.toNat_lt; omega
theorem in_ok (c : Int) (t : List UInt8) (hl : room t.length 1 = true) (n : Nat) (hn : t.length < n) : evFn E62 n Try.f62 [.int .i32 c, .str t] = some (.one (.bool (inF c t))) := by
  have hlen := room_iff.1 hl
  rw [ev62]
  refine (loop_rule (fun i : Nat => st62_2 c t i) (fun i => i ≤ t.length) (fun i => t.length - i) (fun i => (some (.one (.bool (inF c (t.drop i)))) : Option E6)) ?_ n 0 (Nat.zero_le _) (by omega))
  intro i hi K hke hkr hnx
  rw [lb62_2_eq]
  by_cases h : i < t.length
  · rw [decide_eq_true (by omega : (i : Int) < (t.length : Int)), cond_true, idx_lt h]
    dsimp only
    have hb := u8byte t[i]
    rw [w32 (by omega) (by omega), List.drop_eq_getElem_cons h]
    unfold inF
    rw [List.any_cons]
    cases hc : (t[i].toNat : Int) == c with
    | true => rw [cond_true, Bool.true_or]; exact (hkr _).trans rfl
    | false =>
      rw [cond_false, wrapSucc (by omega), hnx (i + 1) (by omega) (by omega)]
      simp [inF]
  · rw [decide_eq_false (by omega : ¬ (i : Int) < (t.length : Int)), cond_false, hke, ex62_2_0, List.drop_eq_nil_of_le (by omega)]
    rfl
end Go.Aev
end

section
set_option linter.unusedVariables false
namespace Go.Aev
open Go.Proofs

/-! ### hex digits by a table -/
def smallT : List UInt8 := [48, 49, 50, 51, 52, 53, 54, 55, 56, 57, 97, 98, 99, 100, 101, 102]
def largeT : List UInt8 := [48, 49, 50, 51, 52, 53, 54, 55, 56, 57, 65, 66, 67, 68, 69, 70]
theorem hexT : ∀ i : Fin 16, hexF ((smallT[i.1]'i.2).toNat : Int) = i.1 ∧ hexF ((largeT[i.1]'i.2).toNat : Int) = i.1 := by decide
theorem hex_found {c : Int} (h : 0 ≤ hexF c) : ∃ j : Nat, ∃ hj : j < 16, ((smallT[j]'hj).toNat : Int) = c ∨ ((largeT[j]'hj).toNat : Int) = c := by
  have : (c = 48 ∨ c = 49 ∨ c = 50 ∨ c = 51 ∨ c = 52 ∨ c = 53 ∨ c = 54 ∨ c = 55 ∨ c = 56 ∨ c = 57) ∨ (c = 97 ∨ c = 98 ∨ c = 99 ∨ c = 100 ∨ c = 101 ∨ c = 102) ∨ (c = 65 ∨ c = 66 ∨ c = 67 ∨ c = 68 ∨ c = 69 ∨ c = 70) := by
    unfold hexF at h
    split at h
    · rename_i h1; have := digitF_iff.1 h1; left; omega
    · split at h
      · rename_i h1; simp at h1; right; left; omega
      · split at h
        · rename_i h1; simp at h1; right; right; omega
        · omega
  rcases this with (h | h | h | h | h | h | h | h | h | h) | (h | h | h | h | h | h) | (h | h | h | h | h | h)
  · exact ⟨0, by omega, .inl (by rw [h]; rfl)⟩
  · exact ⟨1, by omega, .inl (by rw [h]; rfl)⟩
  · exact ⟨2, by omega, .inl (by rw [h]; rfl)⟩
  · exact ⟨3, by omega, .inl (by rw [h]; rfl)⟩
  · exact ⟨4, by omega, .inl (by rw [h]; rfl)⟩
  · exact ⟨5, by omega, .inl (by rw [h]; rfl)⟩
  · exact ⟨6, by omega, .inl (by rw [h]; rfl)⟩
  · exact ⟨7, by omega, .inl (by rw [h]; rfl)⟩
  · exact ⟨8, by omega, .inl (by rw [h]; rfl)⟩
  · exact ⟨9, by omega, .inl (by rw [h]; rfl)⟩
  · exact ⟨10, by omega, .inl (by rw [h]; rfl)⟩
  · exact ⟨11, by omega, .inl (by rw [h]; rfl)⟩
  · exact ⟨12, by omega, .inl (by rw [h]; rfl)⟩
  · exact ⟨13, by omega, .inl (by rw [h]; rfl)⟩
  · exact ⟨14, by omega, .inl (by rw [h]; rfl)⟩
  · exact ⟨15, by omega, .inl (by rw [h]; rfl)⟩
  · exact ⟨10, by omega, .inr (by rw [h]; rfl)⟩
  · exact ⟨11, by omega, .inr (by rw [h]; rfl)⟩
  · exact ⟨12, by omega, .inr (by rw [h]; rfl)⟩
  · exact ⟨13, by omega, .inr (by rw [h]; rfl)⟩
  · exact ⟨14, by omega, .inr (by rw [h]; rfl)⟩
  · exact ⟨15, by omega, .inr (by rw [h]; rfl)⟩

theorem rhex_ok (c : Int) (n : Nat) (hn : 16 < n) : evFn E60 n Try.f60 [.int .i32 c] = some (.one (.int .i64 (hexF c))) := by
  rw [ev60]
  refine (loop_rule (fun i : Nat => st60_4 c smallT largeT i) (fun i => i ≤ 16 ∧ ∀ j : Nat, ∀ hj : j < 16, j < i → ((smallT[j]'hj).toNat : Int) ≠ c ∧ ((largeT[j]'hj).toNat : Int) ≠ c) (fun i => 16 - i) (fun i => (some (.one (.int .i64 (hexF c))) : Option E6)) ?_ n 0 ⟨Nat.zero_le _, fun j _ h => absurd h (Nat.not_lt_zero _)⟩ (by omega))
  intro i ⟨hi, hb⟩ K hke hkr hnx
  rw [lb60_4_eq]
  by_cases h : i < 16
  · rw [decide_eq_true (by omega : (i : Int) < 16), cond_true, idx_lt (l := smallT) h]
    dsimp only
    rw [idx_lt (l := largeT) h]
    dsimp only
    have h1 := u8byte (smallT[i]'h)
    have h2 := u8byte (largeT[i]'h)
    have ht := hexT ⟨i, h⟩
    rw [w32 (by omega) (by omega), w32 (by omega) (by omega)]
    cases hc : ((smallT[i]'h).toNat : Int) == c with
    | true =>
      simp only [beq_iff_eq] at hc
      show (bif true == false then _ else _) = _
      refine (hkr _).trans ?_
      rw [← hc, ht.1]
      rfl
    | false =>
      show (bif false == false then _ else _) = _
      rw [show (false == false) = true from rfl, cond_true]
      cases hd : ((largeT[i]'h).toNat : Int) == c with
      | true =>
        simp only [beq_iff_eq] at hd
        rw [cond_true]
        refine (hkr _).trans ?_
        rw [← hd, ht.2]
        rfl
      | false =>
        rw [cond_false, wrapSucc (by omega)]
        refine hnx (i + 1) ⟨by omega, fun j hj hji => ?_⟩ (by omega)
        by_cases hji2 : j < i
        · exact hb j hj hji2
        · have : j = i := by omega
          subst this
          exact ⟨fun e => by simp [e] at hc, fun e => by simp [e] at hd⟩
  · have hx : ¬ 0 ≤ hexF c := fun hx => by
      obtain ⟨j, hj, hf⟩ := hex_found hx
      have := hb j hj (by omega)
      rcases hf with hf | hf
      · exact this.1 hf
      · exact this.2 hf
    have hr := hexF_range c
    have he : hexF c = -1 := by omega
    rw [decide_eq_false (by omega : ¬ (i : Int) < 16), cond_false, hke, ex60_4_0, he]

/-! ### four hex digits -/
theorem hexAcc_nil (m : Int) : hexAcc m [] = m := rfl
theorem hexAcc_cons (m c : Int) (r : List Int) : hexAcc m (c :: r) = if hexF c < 0 then -1 else hexAcc (m * 16 + hexF c) r := rfl

theorem hex4_ok (l : List Int) (hl : lim4 l = true) (n : Nat) (hn : 4 < n) : evFn E57 n Try.f57 [.sl .i32 l none] = some (.one (.int .i32 (hex4F l))) := by
  have hlen := lim4_len hl
  rw [ev57]
  unfold hex4F
  by_cases h : l.length < 4
  · rw [decide_eq_true (by omega : (l.length : Int) < 4), cond_true, if_pos h]
  · rw [decide_eq_false (by omega : ¬ (l.length : Int) < 4), cond_false, if_neg h, show (4 : Int) = ((4 : Nat) : Int) from rfl, show (0 : Int) = ((0 : Nat) : Int) from rfl, sub_nat (by omega) (by omega)]
    dsimp only
    simp only [List.drop_zero, Nat.sub_zero]
    generalize hm : l.take 4 = m
    have hml : m.length = 4 := by rw [← hm, List.length_take]; omega
    refine (loop_rule (fun p : Int × Nat => st57_5 p.1 m (m.length : Int) p.2) (fun p => p.2 ≤ 4 ∧ 0 ≤ p.1 ∧ p.1 < 16 ^ p.2) (fun p => 4 - p.2) (fun p => (some (.one (.int .i32 (hexAcc p.1 (m.drop p.2)))) : Option E6)) ?_ n (0, 0) (by simp) (by simp only; omega)).trans rfl
    rintro ⟨a, i⟩ ⟨hi, ha, ha2⟩ K hke hkr hnx
    dsimp only at hi ha ha2 hnx ⊢
    rw [lb57_5_eq]
    by_cases hlt : i < 4
    · rw [decide_eq_true (by omega : (i : Int) < (m.length : Int)), cond_true, idx_lt (by omega)]
      dsimp only
      rw [List.drop_eq_getElem_cons (by omega), hexAcc_cons]
      have hr := hexF_range m[i]
      have hp : (16 : Int) ^ i ≤ 16 ^ 3 := by
        have : i = 0 ∨ i = 1 ∨ i = 2 ∨ i = 3 := by omega
        rcases this with rfl | rfl | rfl | rfl <;> decide
      by_cases hx : hexF m[i] < 0
      · rw [decide_eq_true hx, cond_true, if_pos hx]
        exact (hkr _).trans rfl
      · rw [decide_eq_false hx, cond_false, if_neg hx, w32 (n := a * 16) (by omega) (by omega), w32 (n := hexF m[i]) (by omega) (by omega), w32 (by omega) (by omega), wrapSucc (by omega)]
        refine hnx (a * 16 + hexF m[i], i + 1) ⟨by simp; omega, by simp; omega, ?_⟩ (by simp; omega)
        show a * 16 + hexF m[i] < 16 ^ (i + 1)
        rw [Int.pow_succ]; omega
    · rw [decide_eq_false (by omega : ¬ (i : Int) < (m.length : Int)), cond_false, hke, ex57_5_0, List.drop_eq_nil_of_le (by omega)]
      rfl

theorem hexAcc_range (m : List Int) : ∀ (a : Int) (k : Nat), 0 ≤ a → a < 16 ^ k → -1 ≤ hexAcc a m ∧ hexAcc a m < 16 ^ (k + m.length) := by
  induction m with
  | nil => intro a k h1 h2; simp [hexAcc]; omega
  | cons c r ih =>
    intro a k h1 h2
    rw [hexAcc_cons]
    have hr := hexF_range c
    have hp : (0 : Int) < 16 ^ (k + (c :: r).length) := Int.pow_pos (by omega)
    split
    · omega
    · have := ih (a * 16 + hexF c) (k + 1) (by omega) (by rw [Int.pow_succ]; omega)
      rw [List.length_cons, show k + (r.length + 1) = k + 1 + r.length by omega]
      exact this
theorem hex4F_range (l : List Int) : -1 ≤ hex4F l ∧ hex4F l ≤ 65535 := by
  unfold hex4F
  split
  · omega
  · rename_i h
    have := hexAcc_range (l.take 4) 0 0 (by omega) (by simp)
    have hl : (l.take 4).length = 4 := by rw [List.length_take]; omega
    rw [hl] at this
    simp at this
    omega
theorem hex4F_short {l : List Int} (h : l.length < 4) : hex4F l = -1 := by unfold hex4F; rw [if_pos h]

/-! ### escapes -/
theorem get_drop {l : List Int} {i : Nat} (h : i < l.length) : l.drop i = l[i] :: l.drop (i + 1) := List.drop_eq_getElem_cons h
theorem codedF_join (l : List Int) (h1 : ¬ hex4F l < 0) (h2 : 55296 ≤ hex4F l) (h3 : hex4F l ≤ 56319) : codedF l = if 10 ≤ l.length ∧ l[4]? = some 92 ∧ l[5]? = some 117 ∧ (joinF (hex4F l) (hex4F (l.drop 6))).2 = true then ((joinF (hex4F l) (hex4F (l.drop 6))).1, 12) else (0, 0) := by
  unfold codedF
  dsimp only
  rw [if_neg (by omega), if_neg (by omega)]
theorem codedF_bad (l : List Int) (h : hex4F l < 0 ∨ (56320 ≤ hex4F l ∧ hex4F l ≤ 57343)) : codedF l = (0, 0) := by
  unfold codedF
  dsimp only
  rw [if_pos h]
theorem codedF_plain (l : List Int) (h1 : ¬ hex4F l < 0) (h : hex4F l < 55296 ∨ 57343 < hex4F l) : codedF l = (hex4F l, 6) := by
  unfold codedF
  dsimp only
  rw [if_neg (by omega), if_pos h]
end Go.Aev
end

section
set_option linter.unusedVariables false
namespace Go.Aev
open Go.Proofs

theorem lim4_drop {l : List Int} (h : lim4 l = true) (k : Nat) : lim4 (l.drop k) = true := by
  have := lim4_iff.1 h
  exact lim4_iff.2 (by rw [List.length_drop]; omega)
theorem bneT {a b : Int} (h : a ≠ b) : (a != b) = true := bne_iff_ne.2 h
theorem bneF {a b : Int} (h : a = b) : (a != b) = false := by rw [h]; exact bne_self_eq_false _
theorem beqT {a b : Int} (h : a = b) : (a == b) = true := beq_iff_eq.2 h
theorem beqF {a b : Int} (h : a ≠ b) : (a == b) = false := beq_false_of_ne h

theorem coded_ok (l : List Int) (hl : lim4 l = true) (h2 : 2 ≤ l.length) (n : Nat) : evFn E43 n Try.f43 [.sl .i32 l none] = some (.tup [.int .i32 (codedF (l.drop 2)).1, .int .i64 (codedF (l.drop 2)).2]) := by
  have hlen := lim4_len hl
  rw [ev43, show (2 : Int) = ((2 : Nat) : Int) from rfl, sub_from h2]
  dsimp only
  rw [lim4_drop hl 2, cond_true]
  have hlm : (l.drop 2).length = l.length - 2 := List.length_drop
  generalize hm : l.drop 2 = m at hlm ⊢
  have hr := hex4F_range m
  by_cases c1 : hex4F m < 0
  · rw [codedF_bad m (.inl c1), decide_eq_true c1]; rfl
  rw [decide_eq_false c1]
  by_cases c2 : 56320 ≤ hex4F m
  · by_cases c3 : hex4F m ≤ 57343
    · rw [codedF_bad m (.inr ⟨c2, c3⟩), decide_eq_true (show hex4F m ≥ 56320 from c2), decide_eq_true c3]; rfl
    · rw [codedF_plain m c1 (.inr (by omega)), decide_eq_true (show hex4F m ≥ 56320 from c2), decide_eq_false c3, decide_eq_false (by omega : ¬ hex4F m < 55296), decide_eq_true (by omega : hex4F m > 57343)]; rfl
  · rw [decide_eq_false (show ¬ hex4F m ≥ 56320 from c2)]
    by_cases c3 : hex4F m < 55296
    · rw [codedF_plain m c1 (.inl c3), decide_eq_true c3]; rfl
    · rw [decide_eq_false c3, decide_eq_false (by omega : ¬ hex4F m > 57343), codedF_join m c1 (by omega) (by omega)]
      by_cases c4 : l.length < 12
      · rw [decide_eq_true (by omega : (l.length : Int) < 12), if_neg (fun h => by omega)]; rfl
      · rw [decide_eq_false (by omega : ¬ (l.length : Int) < 12)]
        have e6 : idx l 6 = some (m[4]'(by omega)) := by
          rw [show (6 : Int) = ((6 : Nat) : Int) from rfl, idx_lt (by omega)]
          subst hm
          simp
        have e7 : idx l 7 = some (m[5]'(by omega)) := by
          rw [show (7 : Int) = ((7 : Nat) : Int) from rfl, idx_lt (by omega)]
          subst hm
          simp
        have e8 : sub l 8 (l.length : Int) = some (m.drop 6) := by
          rw [show (8 : Int) = ((8 : Nat) : Int) from rfl, sub_from (by omega)]
          subst hm
          simp
        have hl8 : lim4 (m.drop 6) = true := by rw [← hm]; exact lim4_drop (lim4_drop hl 2) 6
        rw [e6, e7, e8, List.getElem?_eq_getElem (by omega : 4 < m.length), List.getElem?_eq_getElem (by omega : 5 < m.length)]
        generalize m[4] = x
        generalize m[5] = y
        by_cases d1 : x = 92
        · subst d1
          by_cases d2 : y = 117
          · subst d2
            dsimp only
            rw [hl8]
            cases hj : (joinF (hex4F m) (hex4F (m.drop 6))).2 with
            | true => rw [if_pos ⟨by omega, rfl, rfl, rfl⟩]; rfl
            | false => rw [if_neg (fun h => by cases h.2.2.2)]; rfl
          · dsimp only
            rw [bneT d2, if_neg (fun h => d2 (Option.some.inj h.2.2.1))]; rfl
        · dsimp only
          rw [bneT d1, if_neg (fun h => d1 (Option.some.inj h.2.1))]; rfl

theorem escF_two (c : Int) (l : List Int) (h : 2 ≤ l.length) : escF l = if 0 ≤ shortF l[1] then (shortF l[1], 2) else if l[1] = 117 then codedF (l.drop 2) else (0, 0) := by
  match l, h with
  | _ :: _ :: _, _ => rfl
theorem escF_one {l : List Int} (h : l.length < 2) : escF l = (0, 0) := by
  match l, h with
  | [], _ => rfl
  | [_], _ => rfl

theorem esc_ok (l : List Int) (hl : lim4 l = true) (n : Nat) : evFn E31 n Try.f31 [.sl .i32 l none] = some (.tup [.int .i32 (escF l).1, .int .i64 (escF l).2]) := by
  have hlen := lim4_len hl
  rw [ev31]
  by_cases h : l.length < 2
  · rw [decide_eq_true (by omega : (l.length : Int) < 2), cond_true, escF_one h]
  · rw [decide_eq_false (by omega : ¬ (l.length : Int) < 2), cond_false, show (1 : Int) = ((1 : Nat) : Int) from rfl, idx_lt (by omega), escF_two 0 l (by omega), hl, decide_eq_true (by omega : 2 ≤ l.length)]
    dsimp only
    generalize l[1] = c
    by_cases c1 : c = 34
    · subst c1; rfl
    rw [beqF c1]
    by_cases c2 : c = 92
    · subst c2; rfl
    rw [beqF c2]
    by_cases c3 : c = 47
    · subst c3; rfl
    rw [beqF c3]
    by_cases c4 : c = 98
    · subst c4; rfl
    rw [beqF c4]
    by_cases c5 : c = 102
    · subst c5; rfl
    rw [beqF c5]
    by_cases c6 : c = 110
    · subst c6; rfl
    rw [beqF c6]
    by_cases c7 : c = 114
    · subst c7; rfl
    rw [beqF c7]
    by_cases c8 : c = 116
    · subst c8; rfl
    rw [beqF c8]
    have hs : shortF c = -1 := by unfold shortF; rw [if_neg (by omega), if_neg c4, if_neg c5, if_neg c6, if_neg c7, if_neg c8]
    rw [hs]
    by_cases c9 : c = 117
    · subst c9; rfl
    · rw [beqF c9, if_neg c9]; rfl

theorem plain_ok (c : Int) (n : Nat) : evFn E46 n Try.f46 [.int .i32 c] = some (.one (.bool (plainF c))) := by
  rw [ev46]
  unfold plainF
  cases h0 : sourceF c with
  | false => rfl
  | true =>
    by_cases c1 : c = 34
    · rw [bneF c1, beqT c1]; rfl
    by_cases c2 : c = 92
    · rw [bneT c1, beqF c1, bneF c2, beqT c2]; rfl
    by_cases c3 : c = 10
    · rw [bneT c1, beqF c1, bneT c2, beqF c2, bneF c3, beqT c3]; rfl
    · rw [bneT c1, beqF c1, bneT c2, beqF c2, bneT c3, beqF c3]
      rfl

def namesT : List UInt8 := [34, 92, 47, 98, 102, 110, 114, 116]
def meansT : List UInt8 := [34, 92, 47, 8, 12, 10, 13, 9]
theorem shortT : ∀ i : Fin 8, shortF ((namesT[i.1]'i.2).toNat : Int) = ((meansT[i.1]'i.2).toNat : Int) := by decide
theorem short_none {c : Int} (h : ∀ j : Nat, ∀ hj : j < 8, ((namesT[j]'hj).toNat : Int) ≠ c) : shortF c = -1 := by
  have h0 : (34 : Int) ≠ c := h 0 (by omega)
  have h1 : (92 : Int) ≠ c := h 1 (by omega)
  have h2 : (47 : Int) ≠ c := h 2 (by omega)
  have h3 : (98 : Int) ≠ c := h 3 (by omega)
  have h4 : (102 : Int) ≠ c := h 4 (by omega)
  have h5 : (110 : Int) ≠ c := h 5 (by omega)
  have h6 : (114 : Int) ≠ c := h 6 (by omega)
  have h7 : (116 : Int) ≠ c := h 7 (by omega)
  unfold shortF
  rw [if_neg (by omega), if_neg (by omega), if_neg (by omega), if_neg (by omega), if_neg (by omega), if_neg (by omega)]
theorem short_ok (c : Int) (n : Nat) (hn : 8 < n) : evFn E47 n Try.f47 [.int .i32 c] = some (.one (.int .i32 (shortF c))) := by
  rw [ev47]
  refine (loop_rule (fun i : Nat => st47_4 c namesT meansT i) (fun i => i ≤ 8 ∧ ∀ j : Nat, ∀ hj : j < 8, j < i → ((namesT[j]'hj).toNat : Int) ≠ c) (fun i => 8 - i) (fun i => (some (.one (.int .i32 (shortF c))) : Option E6)) ?_ n 0 ⟨Nat.zero_le _, fun j _ h => absurd h (Nat.not_lt_zero _)⟩ (by omega))
  intro i ⟨hi, hb⟩ K hke hkr hnx
  rw [lb47_4_eq]
  have hlen : namesT.length = 8 := rfl
  by_cases h : i < 8
  · rw [decide_eq_true (by omega : (i : Int) < (namesT.length : Int)), cond_true, idx_lt (l := namesT) h]
    dsimp only
    rw [idx_lt (l := meansT) h]
    dsimp only
    have h1 := u8byte (namesT[i]'h)
    have h2 := u8byte (meansT[i]'h)
    have ht := shortT ⟨i, h⟩
    rw [w32 (by omega) (by omega), w32 (by omega) (by omega)]
    cases hc : ((namesT[i]'h).toNat : Int) == c with
    | true =>
      simp only [beq_iff_eq] at hc
      rw [cond_true]
      refine (hkr _).trans ?_
      rw [← hc, ht]
      rfl
    | false =>
      rw [cond_false, wrapSucc (by omega)]
      refine hnx (i + 1) ⟨by omega, fun j hj hji => ?_⟩ (by omega)
      by_cases hji2 : j < i
      · exact hb j hj hji2
      · have : j = i := by omega
        subst this
        exact fun e => by simp [e] at hc
  · rw [decide_eq_false (by omega : ¬ (i : Int) < (namesT.length : Int)), cond_false, hke, ex47_4_0, short_none (fun j hj => hb j hj (by omega))]
end Go.Aev
end

section
set_option linter.unusedVariables false
namespace Go.Aev
open Go.Proofs

/-! ### the bytes of a character -/
theorem t2B : ∀ x : Fin 32, bits .or .u8 192 (x.1 : Int) = 192 + x.1 := by decide +kernel
theorem t3B : ∀ x : Fin 16, bits .or .u8 224 (x.1 : Int) = 224 + x.1 := by decide +kernel
theorem t4B : ∀ x : Fin 8, bits .or .u8 240 (x.1 : Int) = 240 + x.1 := by decide +kernel
theorem txB : ∀ x : Fin 256, bits .or .u8 128 (bits .and .u8 (x.1 : Int) 63) = 128 + (x.1 : Int) % 64 := by decide +kernel
theorem t2I {x : Int} (h : 0 ≤ x) (h2 : x < 32) : bits .or .u8 192 (IntKind.wrap .u8 x) = 192 + x := by
  rw [w8 h (by omega)]
  have := t2B ⟨x.toNat, by omega⟩
  dsimp only at this
  rw [show ((x.toNat : Nat) : Int) = x by omega] at this
  exact this
theorem t3I {x : Int} (h : 0 ≤ x) (h2 : x < 16) : bits .or .u8 224 (IntKind.wrap .u8 x) = 224 + x := by
  rw [w8 h (by omega)]
  have := t3B ⟨x.toNat, by omega⟩
  dsimp only at this
  rw [show ((x.toNat : Nat) : Int) = x by omega] at this
  exact this
theorem t4I {x : Int} (h : 0 ≤ x) (h2 : x < 8) : bits .or .u8 240 (IntKind.wrap .u8 x) = 240 + x := by
  rw [w8 h (by omega)]
  have := t4B ⟨x.toNat, by omega⟩
  dsimp only at this
  rw [show ((x.toNat : Nat) : Int) = x by omega] at this
  exact this
theorem txI {x : Int} : bits .or .u8 128 (bits .and .u8 (IntKind.wrap .u8 x) 63) = 128 + x % 64 := by
  rw [IntKind.wrap_u8]
  have := txB ⟨(x % 256).toNat, by omega⟩
  dsimp only at this
  rw [show (((x % 256).toNat : Nat) : Int) = x % 256 by omega] at this
  rw [this]
  omega
theorem validF_iff {c : Int} : validF c = true ↔ (0 ≤ c ∧ c < 55296) ∨ (57343 < c ∧ c ≤ 1114111) := by simp [validF]
theorem u8F_len (c : Int) : 1 ≤ (u8F c).length ∧ (u8F c).length ≤ 4 := by
  unfold u8F
  split
  · simp
  · split
    · simp
    · split <;> simp
theorem room_le {n m b : Nat} (h : room m b = true) (hn : n ≤ m) : room n b = true := by
  have := room_iff.1 h
  exact room_iff.2 (Nat.le_trans (Nat.mul_le_mul_right b hn) this)

theorem appendNon_ok (l : List Int) (c : Int) (hr : room (l.length + 4) 1 = true) (hv : validF c = true) (hc : 128 ≤ c) (n : Nat) :
    evFn E59 n Try.f59 [.sl .u8 l (some 0), .int .i32 c] = some (.one (.sl .u8 (catI l (u8F c)) (some 0))) := by
  have h := validF_iff.1 hv
  rw [ev59, wu32 (by omega) (by omega), room_le hr (by omega : l.length + 2 ≤ l.length + 4), room_le hr (by omega : l.length + 3 ≤ l.length + 4), hr]
  have e6 : c / 2 ^ (Int.toNat 6) = c / 64 := rfl
  have e12 : c / 2 ^ (Int.toNat 12) = c / 4096 := rfl
  have e18 : c / 2 ^ (Int.toNat 18) = c / 262144 := rfl
  rw [e6, e12, e18, txI, txI, txI]
  unfold u8F catI
  rw [if_neg (by omega)]
  by_cases h1 : c < 2048
  · rw [decide_eq_true (by omega : c ≤ 2047), if_pos h1, t2I (by omega) (by omega)]; rfl
  rw [decide_eq_false (by omega : ¬ c ≤ 2047), if_neg h1]
  by_cases h2 : c < 65536
  · rw [if_pos h2, t3I (by omega) (by omega), decide_eq_false (by omega : ¬ c > 65535), decide_eq_true (by omega : c ≤ 65535)]
    by_cases h3 : c < 55296
    · rw [decide_eq_true h3]; rfl
    · rw [decide_eq_false h3, decide_eq_true (by omega : 57343 < c)]; rfl
  · rw [if_neg h2, t4I (by omega) (by omega), decide_eq_false (by omega : ¬ c < 55296), decide_eq_true (by omega : 57343 < c), decide_eq_false (by omega : ¬ c ≤ 65535), decide_eq_true (by omega : c > 65535), decide_eq_true (by omega : c ≤ 1114111)]
    rfl
theorem append_ok (l : List Int) (c : Int) (hr : room (l.length + 4) 1 = true) (hv : validF c = true) (n : Nat) :
    evFn E45 n Try.f45 [.sl .u8 l (some 0), .int .i32 c] = some (.one (.sl .u8 (catI l (u8F c)) (some 0))) := by
  have h := validF_iff.1 hv
  rw [ev45, wu32 (by omega) (by omega), room_le hr (by omega : l.length + 1 ≤ l.length + 4), hr, hv]
  by_cases h1 : c < 128
  · rw [decide_eq_true (by omega : c ≤ 127), w8 (by omega) (by omega)]
    unfold u8F catI
    rw [if_pos h1]; rfl
  · rw [decide_eq_false (by omega : ¬ c ≤ 127), decide_eq_true (by omega : 128 ≤ c)]; rfl

theorem put_ok (c : Int) (n : Nat) : evFn E50 n Try.f50 [.int .i32 c] = some (.one (.sl .u8 (putF c) (some 1))) := by
  rw [ev50]
  unfold putF
  cases hv : validF c with
  | false => rfl
  | true =>
    have h := validF_iff.1 hv
    have d1 : Int.tdiv c 64 = c / 64 := Int.tdiv_eq_ediv_of_nonneg (by omega)
    have d2 : Int.tdiv c 4096 = c / 4096 := Int.tdiv_eq_ediv_of_nonneg (by omega)
    have d3 : Int.tdiv c 262144 = c / 262144 := Int.tdiv_eq_ediv_of_nonneg (by omega)
    rw [d1, d2, d3, w32 (n := c / 64) (by omega) (by omega), w32 (n := c / 4096) (by omega) (by omega), w32 (n := c / 262144) (by omega) (by omega)]
    have m1 : Int.tmod c 64 = c % 64 := Int.tmod_eq_emod_of_nonneg (by omega)
    have m2 : Int.tmod (c / 64) 64 = c / 64 % 64 := Int.tmod_eq_emod_of_nonneg (by omega)
    have m3 : Int.tmod (c / 4096) 64 = c / 4096 % 64 := Int.tmod_eq_emod_of_nonneg (by omega)
    rw [m1, m2, m3, w32 (n := 128 + c % 64) (by omega) (by omega), w32 (n := 128 + c / 64 % 64) (by omega) (by omega), w32 (n := 128 + c / 4096 % 64) (by omega) (by omega), w32 (n := 192 + c / 64) (by omega) (by omega), w32 (n := 224 + c / 4096) (by omega) (by omega), w32 (n := 240 + c / 262144) (by omega) (by omega),
      w8 (n := 128 + c % 64) (by omega) (by omega), w8 (n := 128 + c / 64 % 64) (by omega) (by omega), w8 (n := 128 + c / 4096 % 64) (by omega) (by omega)]
    unfold u8F
    show (bif false then _ else _) = _
    rw [cond_false, if_pos rfl]
    by_cases h1 : c < 128
    · rw [decide_eq_true h1, if_pos h1, w8 (by omega) (by omega)]; rfl
    rw [decide_eq_false h1, if_neg h1]
    by_cases h2 : c < 2048
    · rw [decide_eq_true h2, if_pos h2, w8 (n := 192 + c / 64) (by omega) (by omega)]; rfl
    rw [decide_eq_false h2, if_neg h2]
    by_cases h3 : c < 65536
    · rw [decide_eq_true h3, if_pos h3, w8 (n := 224 + c / 4096) (by omega) (by omega)]; rfl
    · rw [decide_eq_false h3, if_neg h3, w8 (n := 240 + c / 262144) (by omega) (by omega)]; rfl

/-! ### texts -/
theorem flat_u8F_len (l : List Int) : (l.flatMap u8F).length ≤ 4 * l.length := by
  induction l with
  | nil => simp
  | cons c l ih => have := u8F_len c; simp only [List.flatMap_cons, List.length_append, List.length_cons]; omega
theorem encF_go (l : List Int) (i : Nat) (h : i ≤ l.length) (hp : (l.take i).all validF = true) : (if (l.drop i).all validF then (encB l, true) else (([] : List UInt8), false)) = encF l := by
  unfold encF
  have : l.all validF = ((l.take i).all validF && (l.drop i).all validF) := by rw [← List.all_append, List.take_append_drop]
  rw [this, hp, Bool.true_and]
theorem take_flat {l : List Int} {i : Nat} (h : i < l.length) : (l.take (i + 1)).flatMap u8F = (l.take i).flatMap u8F ++ u8F l[i] := by
  rw [List.take_succ_eq_append_getElem h, List.flatMap_append]; simp
theorem flat_take_len (l : List Int) (i : Nat) : ((l.take i).flatMap u8F).length ≤ 4 * i := by
  have := flat_u8F_len (l.take i)
  have h2 : (l.take i).length ≤ i := List.length_take_le _ _
  omega

theorem enc_ok (l : List Int) (hl : lim4 l = true) (n : Nat) (hn : l.length < n) : evFn E33 n Try.f33 [.sl .i32 l none] = some (.tup [.str (encF l).1, .bool (encF l).2]) := by
  have hlen := lim4_iff.1 hl
  rw [ev33]
  refine (loop_rule (fun i : Nat => st33_3 ((l.take i).flatMap u8F) l (l.length : Int) i) (fun i => i ≤ l.length ∧ (l.take i).all validF = true) (fun i => l.length - i) (fun i => (some (.tup [.str (encF l).1, .bool (encF l).2]) : Option E6)) ?_ n 0 ⟨Nat.zero_le _, rfl⟩ (by omega))
  intro i ⟨hi, hp⟩ K hke hkr hnx
  have hfl := flat_take_len l i
  have hgo := encF_go l i hi hp
  rw [lb33_3_eq]
  by_cases h : i < l.length
  · rw [decide_eq_true (by omega : (i : Int) < (l.length : Int)), cond_true, idx_lt h]
    dsimp only
    rw [List.drop_eq_getElem_cons h, List.all_cons] at hgo
    cases hv : validF l[i] with
    | false =>
      rw [hv] at hgo
      show (bif true then _ else _) = _
      rw [cond_true, ← hgo]
      exact (hkr _).trans rfl
    | true =>
      show (bif false then _ else (bif _ && true then _ else _)) = _
      rw [cond_false, room_iff.2 (by omega), Bool.and_true, cond_true, wrapSucc (by omega)]
      unfold catI
      rw [← take_flat h]
      exact hnx (i + 1) ⟨by omega, by rw [List.take_succ_eq_append_getElem h, List.all_append, hp]; simp [hv]⟩ (by omega)
  · rw [List.drop_eq_nil_of_le (by omega)] at hgo
    rw [decide_eq_false (by omega : ¬ (i : Int) < (l.length : Int)), cond_false, hke, ex33_3_0, ← hgo, List.take_of_length_le (by omega)]
    rfl

theorem renc_ok (l : List Int) (hl : lim4 l = true) (n : Nat) (hn : l.length < n) : evFn E35 n Try.f35 [.sl .i32 l none] = some (.tup [.str (encF l).1, .bool (encF l).2]) := by
  have hlen := lim4_iff.1 hl
  rw [ev35]
  refine (loop_rule (fun i : Nat => st35_3 l ((l.take i).flatMap u8F) i) (fun i => i ≤ l.length ∧ (l.take i).all validF = true) (fun i => l.length - i) (fun i => (some (.tup [.str (encF l).1, .bool (encF l).2]) : Option E6)) ?_ n 0 ⟨Nat.zero_le _, rfl⟩ (by omega))
  intro i ⟨hi, hp⟩ K hke hkr hnx
  have hfl := flat_take_len l i
  have hgo := encF_go l i hi hp
  rw [lb35_3_eq]
  by_cases h : i < l.length
  · rw [decide_eq_true (by omega : (i : Int) < (l.length : Int)), cond_true, idx_lt h]
    dsimp only
    rw [List.drop_eq_getElem_cons h, List.all_cons] at hgo
    unfold putF
    cases hv : validF l[i] with
    | false =>
      rw [hv] at hgo
      rw [← hgo]
      exact (hkr _).trans rfl
    | true =>
      have hu := u8F_len l[i]
      rw [if_pos rfl, beqF (by omega), cond_false, room_iff.2 (by omega), cond_true, wrapSucc (by omega)]
      rw [← take_flat h]
      exact hnx (i + 1) ⟨by omega, by rw [List.take_succ_eq_append_getElem h, List.all_append, hp]; simp [hv]⟩ (by omega)
  · rw [List.drop_eq_nil_of_le (by omega)] at hgo
    rw [decide_eq_false (by omega : ¬ (i : Int) < (l.length : Int)), cond_false, hke, ex35_3_0, ← hgo, List.take_of_length_le (by omega)]
    rfl
end Go.Aev
end

section
set_option linter.unusedVariables false
namespace Go.Aev
open Go.Proofs

theorem wrapAdd {i k : Nat} (h : i + k ≤ 9223372036854775807) : IntKind.wrap .i64 ((i : Int) + (k : Int)) = ((i + k : Nat) : Int) := by
  rw [wrap64 (by omega) (by omega)]; omega
theorem unitF_drop (l : List Int) (i : Nat) : unitF (l.drop i) = if l[i]? = some 92 ∧ l[i + 1]? = some 117 then hex4F (l.drop (i + 2)) else -1 := by
  unfold unitF
  rw [List.getElem?_drop, List.getElem?_drop, List.drop_drop, Nat.add_zero]
theorem unitF_short {l : List Int} (h : l.length < 6) : unitF l = -1 := by
  unfold unitF
  split
  · exact hex4F_short (by rw [List.length_drop]; omega)
  · rfl
theorem unitF_range (l : List Int) : -1 ≤ unitF l ∧ unitF l ≤ 65535 := by
  unfold unitF
  split
  · exact hex4F_range _
  · omega

theorem unit_ok (l : List Int) (hl : lim4 l = true) (i : Nat) (hi : i ≤ l.length + 12) (n : Nat) (hn : 4 < n) : evFn E48 n Try.f48 [.sl .i32 l none, .int .i64 i] = some (.one (.int .i32 (unitF (l.drop i)))) := by
  have hlen := lim4_len hl
  rw [ev48, show (6 : Int) = ((6 : Nat) : Int) from rfl, wrapAdd (by omega), show (1 : Int) = ((1 : Nat) : Int) from rfl, wrapAdd (by omega), show (2 : Int) = ((2 : Nat) : Int) from rfl, wrapAdd (by omega)]
  by_cases h : l.length < i + 6
  · rw [decide_eq_true (by omega : ((i + 6 : Nat) : Int) > (l.length : Int)), unitF_short (by rw [List.length_drop]; omega)]; rfl
  rw [decide_eq_false (by omega : ¬ ((i + 6 : Nat) : Int) > (l.length : Int)), idx_lt (by omega), unitF_drop, List.getElem?_eq_getElem (by omega : i < l.length), List.getElem?_eq_getElem (by omega : i + 1 < l.length)]
  dsimp only
  rw [idx_lt (by omega)]
  dsimp only
  by_cases c1 : l[i] = 92
  · rw [bneF c1]
    by_cases c2 : l[i + 1] = 117
    · rw [bneF c2, if_pos ⟨by rw [c1], by rw [c2]⟩]
      show evLoop _ n _ _ = _
      have hh : hex4F (l.drop (i + 2)) = hexAcc 0 ((l.drop (i + 2)).take 4) := by unfold hex4F; rw [if_neg (by rw [List.length_drop]; omega)]
      rw [hh]
      obtain ⟨m, hm⟩ : ∃ m, (l.drop (i + 2)).take 4 = m := ⟨_, rfl⟩
      have hml : m.length = 4 := by rw [← hm, List.length_take, List.length_drop]; omega
      have hget : ∀ (j : Nat) (hj : j < 4), l[i + 2 + j]'(by omega) = m[j]'(by omega) := fun j hj => by subst hm; simp
      rw [hm]
      refine (loop_rule (fun p : Int × Nat => st48_5 l i p.1 ((i + 2 + p.2 : Nat) : Int)) (fun p => p.2 ≤ 4 ∧ 0 ≤ p.1 ∧ p.1 < 16 ^ p.2) (fun p => 4 - p.2) (fun p => (some (.one (.int .i32 (hexAcc p.1 (m.drop p.2)))) : Option E6)) ?_ n (0, 0) (by simp) (by simp only; omega)).trans rfl
      rintro ⟨a, j⟩ ⟨hj, ha, ha2⟩ K hke hkr hnx
      dsimp only at hj ha ha2 hnx ⊢
      rw [lb48_5_eq, show (6 : Int) = ((6 : Nat) : Int) from rfl, wrapAdd (by omega)]
      by_cases hlt : j < 4
      · rw [decide_eq_true (by omega : ((i + 2 + j : Nat) : Int) < ((i + 6 : Nat) : Int)), cond_true, idx_lt (by omega)]
        dsimp only
        rw [hget j hlt, List.drop_eq_getElem_cons (by omega), hexAcc_cons]
        have hr := hexF_range m[j]
        have hp : (16 : Int) ^ j ≤ 16 ^ 3 := by
          have : j = 0 ∨ j = 1 ∨ j = 2 ∨ j = 3 := by omega
          rcases this with rfl | rfl | rfl | rfl <;> decide
        by_cases hx : hexF m[j] < 0
        · rw [decide_eq_true hx, cond_true, if_pos hx]
          exact (hkr _).trans rfl
        · rw [decide_eq_false hx, cond_false, if_neg hx, w32 (n := a * 16) (by omega) (by omega), w32 (n := hexF m[j]) (by omega) (by omega), w32 (by omega) (by omega), wrapSucc (by omega)]
          refine hnx (a * 16 + hexF m[j], j + 1) ⟨by simp; omega, by simp; omega, ?_⟩ (by simp; omega)
          show a * 16 + hexF m[j] < 16 ^ (j + 1)
          rw [Int.pow_succ]; omega
      · rw [decide_eq_false (by omega : ¬ ((i + 2 + j : Nat) : Int) < ((i + 6 : Nat) : Int)), cond_false, hke, ex48_5_0, List.drop_eq_nil_of_le (by omega)]
        rfl
    · rw [bneT c2, if_neg (fun h => c2 (Option.some.inj h.2))]; rfl
  · rw [bneT c1, if_neg (fun h => c1 (Option.some.inj h.1))]; rfl

/-! ### a piece of a quoted string -/
theorem shortF_range (c : Int) : -1 ≤ shortF c := by
  unfold shortF
  split
  · rename_i h; omega
  · split <;> omega
theorem shortF_iff (c : Int) : (0 ≤ shortF c) ↔ c = 34 ∨ c = 92 ∨ c = 47 ∨ c = 98 ∨ c = 102 ∨ c = 110 ∨ c = 114 ∨ c = 116 := by
  unfold shortF
  constructor
  · intro h
    by_cases h1 : c = 34 ∨ c = 92 ∨ c = 47
    · omega
    · rw [if_neg h1] at h
      split at h
      · omega
      · split at h
        · omega
        · split at h
          · omega
          · split at h
            · omega
            · split at h <;> omega
  · intro h
    rcases h with rfl | rfl | rfl | rfl | rfl | rfl | rfl | rfl <;> decide
theorem pieceF_cons (l : List Int) (i : Nat) (h : i < l.length) : pieceF (l.drop i) = if plainF l[i] then (l[i], 1) else if l[i] = 92 then escF (l.drop i) else (0, 0) := by
  rw [get_drop h]; rfl
theorem plain92 : plainF 92 = false := by decide
theorem escF_drop {l : List Int} {i : Nat} (h : i + 1 < l.length) : escF (l.drop i) = if 0 ≤ shortF l[i + 1] then (shortF l[i + 1], 2) else if l[i + 1] = 117 then codedF (l.drop (i + 2)) else (0, 0) := by
  rw [get_drop (i := i) (by omega), get_drop (i := i + 1) (by omega)]; rfl

/-- The program's words for the part behind '\\u', by the reference's number of four digits. -/
theorem coded_unit {l : List Int} {i : Nat} (h : i + 1 < l.length) (h1 : l[i] = 92) (h2 : l[i + 1] = 117) :
    unitF (l.drop i) = hex4F (l.drop (i + 2)) := by
  rw [unitF_drop, List.getElem?_eq_getElem (by omega : i < l.length), List.getElem?_eq_getElem h, h1, h2, if_pos ⟨rfl, rfl⟩]
theorem join_low {a b : Int} (h : b < 56320) : joinF a b = (0, false) := by
  unfold joinF
  rw [if_pos (by simp; omega)]
theorem coded_pair {l : List Int} {i : Nat} (h : i + 2 ≤ l.length) (c1 : ¬ hex4F (l.drop (i + 2)) < 0) (c2 : 55296 ≤ hex4F (l.drop (i + 2))) (c3 : hex4F (l.drop (i + 2)) ≤ 56319) :
    codedF (l.drop (i + 2)) = if (joinF (hex4F (l.drop (i + 2))) (unitF (l.drop (i + 6)))).2 then ((joinF (hex4F (l.drop (i + 2))) (unitF (l.drop (i + 6)))).1, 12) else (0, 0) := by
  have hg : ∀ k, (l.drop (i + 2))[k]? = l[i + 2 + k]? := fun k => List.getElem?_drop
  rw [codedF_join _ c1 c2 c3, hg 4, hg 5, List.drop_drop, List.length_drop]
  have e4 : i + 2 + 4 = i + 6 := by omega
  have e5 : i + 2 + 5 = i + 6 + 1 := by omega
  have e6 : i + 2 + 6 = i + 6 + 2 := by omega
  rw [e4, e5, e6]
  have hj : ∀ b, b < 56320 → ¬ (joinF (hex4F (l.drop (i + 2))) b).2 = true := fun b hb => by rw [join_low hb]; simp
  by_cases d : l[i + 6]? = some 92 ∧ l[i + 6 + 1]? = some 117
  · have hu : unitF (l.drop (i + 6)) = hex4F (l.drop (i + 6 + 2)) := by rw [unitF_drop, if_pos d]
    rw [hu]
    by_cases d3 : 10 ≤ l.length - (i + 2)
    · by_cases d4 : (joinF (hex4F (l.drop (i + 2))) (hex4F (l.drop (i + 6 + 2)))).2 = true
      · rw [if_pos ⟨d3, d.1, d.2, d4⟩, if_pos d4]
      · rw [if_neg (fun h => d4 h.2.2.2), if_neg d4]
    · rw [if_neg (fun h => d3 h.1), if_neg (hj _ (by rw [hex4F_short (l := l.drop (i + 6 + 2)) (by rw [List.length_drop]; omega)]; omega))]
  · have hu : unitF (l.drop (i + 6)) = -1 := by rw [unitF_drop, if_neg d]
    rw [hu, if_neg (fun h => d ⟨h.2.1, h.2.2.1⟩), if_neg (hj _ (by omega))]

theorem piece_ok (l : List Int) (hl : lim4 l = true) (i : Nat) (hi : i < l.length) (n : Nat) : evFn E34 n Try.f34 [.sl .i32 l none, .int .i64 i] = some (.tup [.int .i32 (pieceF (l.drop i)).1, .int .i64 (pieceF (l.drop i)).2]) := by
  have hlen := lim4_len hl
  rw [ev34, idx_lt hi, pieceF_cons l i hi]
  dsimp only
  cases hp : plainF l[i] with
  | true => rw [if_pos rfl]; rfl
  | false =>
    rw [cond_false, if_neg (by simp)]
    by_cases c0 : l[i] = 92
    · rw [bneF c0, if_pos c0, show (1 : Int) = ((1 : Nat) : Int) from rfl, wrapAdd (by omega)]
      by_cases h2 : l.length ≤ i + 1
      · rw [decide_eq_true (by omega : ((i + 1 : Nat) : Int) ≥ (l.length : Int)), escF_one (by rw [List.length_drop]; omega)]; rfl
      · rw [decide_eq_false (by omega : ¬ ((i + 1 : Nat) : Int) ≥ (l.length : Int)), idx_lt (by omega), escF_drop (by omega)]
        dsimp only
        by_cases hs : 0 ≤ shortF l[i + 1]
        · rw [decide_eq_true (show shortF l[i + 1] ≥ 0 from hs), if_pos hs]; rfl
        · have hse : ¬ (shortF l[i + 1] ≥ 0) := hs
          rw [decide_eq_false hse, if_neg hs, hl, show (6 : Int) = ((6 : Nat) : Int) from rfl, wrapAdd (by omega),
            decide_eq_true (by omega : (0 : Int) ≤ (i : Int)), decide_eq_true (by omega : (i : Int) ≤ (l.length : Int) + 12), decide_eq_true (by omega : (0 : Int) ≤ ((i + 6 : Nat) : Int)), decide_eq_true (by omega : ((i + 6 : Nat) : Int) ≤ (l.length : Int) + 12), Int.toNat_natCast, Int.toNat_natCast]
          by_cases h117 : l[i + 1] = 117
          · rw [if_pos h117, coded_unit (by omega) c0 h117]
            by_cases c1 : hex4F (l.drop (i + 2)) < 0
            · rw [decide_eq_true c1, codedF_bad _ (.inl c1)]; rfl
            rw [decide_eq_false c1]
            by_cases c2 : 56320 ≤ hex4F (l.drop (i + 2))
            · by_cases c3 : hex4F (l.drop (i + 2)) ≤ 57343
              · rw [decide_eq_true (show hex4F (l.drop (i + 2)) ≥ 56320 from c2), decide_eq_true c3, codedF_bad _ (.inr ⟨c2, c3⟩)]; rfl
              · rw [decide_eq_true (show hex4F (l.drop (i + 2)) ≥ 56320 from c2), decide_eq_false c3, decide_eq_true (by omega : hex4F (l.drop (i + 2)) ≥ 55296), decide_eq_false (by omega : ¬ hex4F (l.drop (i + 2)) ≤ 56319), codedF_plain _ c1 (.inr (by omega))]; rfl
            · rw [decide_eq_false (show ¬ hex4F (l.drop (i + 2)) ≥ 56320 from c2)]
              by_cases c3 : 55296 ≤ hex4F (l.drop (i + 2))
              · rw [decide_eq_true (show hex4F (l.drop (i + 2)) ≥ 55296 from c3), decide_eq_true (by omega : hex4F (l.drop (i + 2)) ≤ 56319), coded_pair (by omega) c1 c3 (by omega)]
                cases (joinF (hex4F (l.drop (i + 2))) (unitF (l.drop (i + 6)))).2 <;> rfl
              · rw [decide_eq_false (show ¬ hex4F (l.drop (i + 2)) ≥ 55296 from c3), codedF_plain _ c1 (.inl (by omega))]; rfl
          · rw [if_neg h117]
            have hu : unitF (l.drop i) = -1 := by
              rw [unitF_drop, List.getElem?_eq_getElem (by omega : i + 1 < l.length), if_neg (fun h => h117 (Option.some.inj h.2))]
            rw [hu]; rfl
    · rw [bneT c0, if_neg c0]; rfl
end Go.Aev
end
