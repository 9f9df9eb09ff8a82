/- Proved here: lemmas of an evaluator over the model's code that the claim's text uses (P14 P15 P16). Conditions: those that each lemma states. -/
import Derived.Test.YtljnggaaohddnaaCqA
section
set_option linter.unusedVariables false
namespace Go.Aev
open Go.Proofs

/-! ### the bytes of a character -/
theorem t2B : ∀ x : Fin 32, bits .or .u8 192 (x.1 : Int) = 192 + x.1 := by decide +kernel
theorem t3B : ∀ x : Fin 16, bits .or .u8 224 (x.1 : Int) = 224 + x.1 := by decide +kernel
theorem t4B : ∀ x : Fin 8, bits .or .u8 240 (x.1 : Int) = 240 + x.1 := by decide +kernel
theorem txB : ∀ x : Fin 256, bits .or .u8 128 (bits .and .u8 (x.1 : Int) 63) = 128 + (x.1 : Int) % 64 := by decide +kernel
theorem t2I {x : Int} (h : 0 ≤ x) (h2 : x < 32) : bits .or .u8 192 (IntKind.wrap .u8 x) = 192 + x := by
  rw [w8 h (by omega)]
  have := t2B ⟨x.toNat, by omega⟩
  dsimp only at this
  rw [show ((x.toNat : Nat) : Int) = x by omega] at this
  exact this
theorem t3I {x : Int} (h : 0 ≤ x) (h2 : x < 16) : bits .or .u8 224 (IntKind.wrap .u8 x) = 224 + x := by
  rw [w8 h (by omega)]
  have := t3B ⟨x.toNat, by omega⟩
  dsimp only at this
  rw [show ((x.toNat : Nat) : Int) = x by omega] at this
  exact this
theorem t4I {x : Int} (h : 0 ≤ x) (h2 : x < 8) : bits .or .u8 240 (IntKind.wrap .u8 x) = 240 + x := by
  rw [w8 h (by omega)]
  have := t4B ⟨x.toNat, by omega⟩
  dsimp only at this
  rw [show ((x.toNat : Nat) : Int) = x by omega] at this
  exact this
theorem txI {x : Int} : bits .or .u8 128 (bits .and .u8 (IntKind.wrap .u8 x) 63) = 128 + x % 64 := by
  rw [IntKind.wrap_u8]
  have := txB ⟨(x % 256).toNat, by omega⟩
  dsimp only at this
  rw [show (((x % 256).toNat : Nat) : Int) = x % 256 by omega] at this
  rw [this]
  omega
theorem validF_iff {c : Int} : validF c = true ↔ (0 ≤ c ∧ c < 55296) ∨ (57343 < c ∧ c ≤ 1114111) := by simp [validF]
theorem u8F_len (c : Int) : 1 ≤ (u8F c).length ∧ (u8F c).length ≤ 4 := by
  unfold u8F
  split
  · simp
  · split
    · simp
    · split <;> simp
theorem room_le {n m b : Nat} (h : room m b = true) (hn : n ≤ m) : room n b = true := by
  have := room_iff.1 h
  exact room_iff.2 (Nat.le_trans (Nat.mul_le_mul_right b hn) this)

theorem appendNon_ok (l : List Int) (c : Int) (hr : room (l.length + 4) 1 = true) (hv : validF c = true) (hc : 128 ≤ c) (n : Nat) :
    evFn E59 n Try.f59 [.sl .u8 l (some 0), .int .i32 c] = some (.one (.sl .u8 (catI l (u8F c)) (some 0))) := by
  have h := validF_iff.1 hv
  rw [ev59, wu32 (by omega) (by omega), room_le hr (by omega : l.length + 2 ≤ l.length + 4), room_le hr (by omega : l.length + 3 ≤ l.length + 4), hr]
  have e6 : c / 2 ^ (Int.toNat 6) = c / 64 := rfl
  have e12 : c / 2 ^ (Int.toNat 12) = c / 4096 := rfl
  have e18 : c / 2 ^ (Int.toNat 18) = c / 262144 := rfl
  rw [e6, e12, e18, txI, txI, txI]
  unfold u8F catI
  rw [if_neg (by omega)]
  by_cases h1 : c < 2048
  · rw [decide_eq_true (by omega : c ≤ 2047), if_pos h1, t2I (by omega) (by omega)]; rfl
  rw [decide_eq_false (by omega : ¬ c ≤ 2047), if_neg h1]
  by_cases h2 : c < 65536
  · rw [if_pos h2, t3I (by omega) (by omega), decide_eq_false (by omega : ¬ c > 65535), decide_eq_true (by omega : c ≤ 65535)]
    by_cases h3 : c < 55296
    · rw [decide_eq_true h3]; rfl
    · rw [decide_eq_false h3, decide_eq_true (by omega : 57343 < c)]; rfl
  · rw [if_neg h2, t4I (by omega) (by omega), decide_eq_false (by omega : ¬ c < 55296), decide_eq_true (by omega : 57343 < c), decide_eq_false (by omega : ¬ c ≤ 65535), decide_eq_true (by omega : c > 65535), decide_eq_true (by omega : c ≤ 1114111)]
    rfl
theorem append_ok (l : List Int) (c : Int) (hr : room (l.length + 4) 1 = true) (hv : validF c = true) (n : Nat) :
    evFn E45 n Try.f45 [.sl .u8 l (some 0), .int .i32 c] = some (.one (.sl .u8 (catI l (u8F c)) (some 0))) := by
  have h := validF_iff.1 hv
  rw [ev45, wu32 (by omega) (by omega), room_le hr (by omega : l.length + 1 ≤ l.length + 4), hr, hv]
  by_cases h1 : c < 128
  · rw [decide_eq_true (by omega : c ≤ 127), w8 (by omega) (by omega)]
    unfold u8F catI
    rw [if_pos h1]; rfl
  · rw [decide_eq_false (by omega : ¬ c ≤ 127), decide_eq_true (by omega : 128 ≤ c)]; rfl

theorem put_ok (c : Int) (n : Nat) : evFn E50 n Try.f50 [.int .i32 c] = some (.one (.sl .u8 (putF c) (some 1))) := by
  rw [ev50]
  unfold putF
  cases hv : validF c with
  | false => rfl
  | true =>
    have h := validF_iff.1 hv
    have d1 : Int.tdiv c 64 = c / 64 := Int.tdiv_eq_ediv_of_nonneg (by omega)
    have d2 : Int.tdiv c 4096 = c / 4096 := Int.tdiv_eq_ediv_of_nonneg (by omega)
    have d3 : Int.tdiv c 262144 = c / 262144 := Int.tdiv_eq_ediv_of_nonneg (by omega)
    rw [d1, d2, d3, w32 (n := c / 64) (by omega) (by omega), w32 (n := c / 4096) (by omega) (by omega), w32 (n := c / 262144) (by omega) (by omega)]
    have m1 : Int.tmod c 64 = c % 64 := Int.tmod_eq_emod_of_nonneg (by omega)
    have m2 : Int.tmod (c / 64) 64 = c / 64 % 64 := Int.tmod_eq_emod_of_nonneg (by omega)
    have m3 : Int.tmod (c / 4096) 64 = c / 4096 % 64 := Int.tmod_eq_emod_of_nonneg (by omega)
    rw [m1, m2, m3, w32 (n := 128 + c % 64) (by omega) (by omega), w32 (n := 128 + c / 64 % 64) (by omega) (by omega), w32 (n := 128 + c / 4096 % 64) (by omega) (by omega), w32 (n := 192 + c / 64) (by omega) (by omega), w32 (n := 224 + c / 4096) (by omega) (by omega), w32 (n := 240 + c / 262144) (by omega) (by omega),
      w8 (n := 128 + c % 64) (by omega) (by omega), w8 (n := 128 + c / 64 % 64) (by omega) (by omega), w8 (n := 128 + c / 4096 % 64) (by omega) (by omega)]
    unfold u8F
    show (bif false then _ else _) = _
    rw [cond_false, if_pos rfl]
    by_cases h1 : c < 128
    · rw [decide_eq_true h1, if_pos h1, w8 (by omega) (by omega)]; rfl
    rw [decide_eq_false h1, if_neg h1]
    by_cases h2 : c < 2048
    · rw [decide_eq_true h2, if_pos h2, w8 (n := 192 + c / 64) (by omega) (by omega)]; rfl
    rw [decide_eq_false h2, if_neg h2]
    by_cases h3 : c < 65536
    · rw [decide_eq_true h3, if_pos h3, w8 (n := 224 + c / 4096) (by omega) (by omega)]; rfl
    · rw [decide_eq_false h3, if_neg h3, w8 (n := 240 + c / 262144) (by omega) (by omega)]; rfl

/-! ### texts -/
theorem flat_u8F_len (l : List Int) : (l.flatMap u8F).length ≤ 4 * l.length := by
  induction l with
  | nil => simp
  | cons c l ih => have := u8F_len c; simp only [List.flatMap_cons, List.length_append, List.length_cons]; omega
theorem encF_go (l : List Int) (i : Nat) (h : i ≤ l.length) (hp : (l.take i).all validF = true) : (if (l.drop i).all validF then (encB l, true) else (([] : List UInt8), false)) = encF l := by
  unfold encF
  have : l.all validF = ((l.take i).all validF && (l.drop i).all validF) := by rw [← List.all_append, List.take_append_drop]
  rw [this, hp, Bool.true_and]
theorem take_flat {l : List Int} {i : Nat} (h : i < l.length) : (l.take (i + 1)).flatMap u8F = (l.take i).flatMap u8F ++ u8F l[i] := by
  rw [List.take_succ_eq_append_getElem h, List.flatMap_append]; simp
theorem flat_take_len (l : List Int) (i : Nat) : ((l.take i).flatMap u8F).length ≤ 4 * i := by
  have := flat_u8F_len (l.take i)
  have h2 : (l.take i).length ≤ i := List.length_take_le _ _
  omega

theorem enc_ok (l : List Int) (hl : lim4 l = true) (n : Nat) (hn : l.length < n) : evFn E33 n Try.f33 [.sl .i32 l none] = some (.tup [.str (encF l).1, .bool (encF l).2]) := by
  have hlen := lim4_iff.1 hl
  rw [ev33]
  refine (loop_rule (fun i : Nat => st33_3 ((l.take i).flatMap u8F) l (l.length : Int) i) (fun i => i ≤ l.length ∧ (l.take i).all validF = true) (fun i => l.length - i) (fun i => (some (.tup [.str (encF l).1, .bool (encF l).2]) : Option E6)) ?_ n 0 ⟨Nat.zero_le _, rfl⟩ (by omega))
  intro i ⟨hi, hp⟩ K hke hkr hnx
  have hfl := flat_take_len l i
  have hgo := encF_go l i hi hp
  rw [lb33_3_eq]
  by_cases h : i < l.length
  · rw [decide_eq_true (by omega : (i : Int) < (l.length : Int)), cond_true, idx_lt h]
    dsimp only
    rw [List.drop_eq_getElem_cons h, List.all_cons] at hgo
    cases hv : validF l[i] with
    | false =>
      rw [hv] at hgo
      show (bif true then _ else _) = _
      rw [cond_true, ← hgo]
      exact (hkr _).trans rfl
    | true =>
      show (bif false then _ else (bif _ && true then _ else _)) = _
      rw [cond_false, room_iff.2 (by omega), Bool.and_true, cond_true, wrapSucc (by omega)]
      unfold catI
      rw [← take_flat h]
      exact hnx (i + 1) ⟨by omega, by rw [List.take_succ_eq_append_getElem h, List.all_append, hp]; simp [hv]⟩ (by omega)
  · rw [List.drop_eq_nil_of_le (by omega)] at hgo
    rw [decide_eq_false (by omega : ¬ (i : Int) < (l.length : Int)), cond_false, hke, ex33_3_0, ← hgo, List.take_of_length_le (by omega)]
    rfl

theorem renc_ok (l : List Int) (hl : lim4 l = true) (n : Nat) (hn : l.length < n) : evFn E35 n Try.f35 [.sl .i32 l none] = some (.tup [.str (encF l).1, .bool (encF l).2]) := by
  have hlen := lim4_iff.1 hl
  rw [ev35]
  refine (loop_rule (fun i : Nat => st35_3 l ((l.take i).flatMap u8F) i) (fun i => i ≤ l.length ∧ (l.take i).all validF = true) (fun i => l.length - i) (fun i => (some (.tup [.str (encF l).1, .bool (encF l).2]) : Option E6)) ?_ n 0 ⟨Nat.zero_le _, rfl⟩ (by omega))
  intro i ⟨hi, hp⟩ K hke hkr hnx
  have hfl := flat_take_len l i
  have hgo := encF_go l i hi hp
  rw [lb35_3_eq]
  by_cases h : i < l.length
  · rw [decide_eq_true (by omega : (i : Int) < (l.length : Int)), cond_true, idx_lt h]
    dsimp only
    rw [List.drop_eq_getElem_cons h, List.all_cons] at hgo
    unfold putF
    cases hv : validF l[i] with
    | false =>
      rw [hv] at hgo
      rw [← hgo]
      exact (hkr _).trans rfl
    | true =>
      have hu := u8F_len l[i]
      rw [if_pos rfl, beqF (by omega), cond_false, room_iff.2 (by omega), cond_true, wrapSucc (by omega)]
      rw [← take_flat h]
      exact hnx (i + 1) ⟨by omega, by rw [List.take_succ_eq_append_getElem h, List.all_append, hp]; simp [hv]⟩ (by omega)
  · rw [List.drop_eq_nil_of_le (by omega)] at hgo
    rw [decide_eq_false (by omega : ¬ (i : Int) < (l.length : Int)), cond_false, hke, ex35_3_0, ← hgo, List.take_of_length_le (by omega)]
    rfl
end Go.Aev
end

section
set_option linter.unusedVariables false
namespace Go.Aev
open Go.Proofs

theorem wrapAdd {i k : Nat} (h : i + k ≤ 9223372036854775807) : IntKind.wrap .i64 ((i : Int) + (k : Int)) = ((i + k : Nat) : Int) := by
  rw [wrap64 (by omega) (by omega)]; omega
theorem unitF_drop (l : List Int) (i : Nat) : unitF (l.drop i) = if l[i]? = some 92 ∧ l[i + 1]? = some 117 then hex4F (l.drop (i + 2)) else -1 := by
  unfold unitF
  rw [List.getElem?_drop, List.getElem?_drop, List.drop_drop, Nat.add_zero]
theorem unitF_short {l : List Int} (h : l.length < 6) : unitF l = -1 := by
  unfold unitF
  split
  · exact hex4F_short (by rw [List.length_drop]; omega)
  · rfl
theorem unitF_range (l : List Int) : -1 ≤ unitF l ∧ unitF l ≤ 65535 := by
  unfold unitF
  split
  · exact hex4F_range _
  · omega

theorem unit_ok (l : List Int) (hl : lim4 l = true) (i : Nat) (hi : i ≤ l.length + 12) (n : Nat) (hn : 4 < n) : evFn E48 n Try.f48 [.sl .i32 l none, .int .i64 i] = some (.one (.int .i32 (unitF (l.drop i)))) := by
  have hlen := lim4_len hl
  rw [ev48, show (6 : Int) = ((6 : Nat) : Int) from rfl, wrapAdd (by omega), show (1 : Int) = ((1 : Nat) : Int) from rfl, wrapAdd (by omega), show (2 : Int) = ((2 : Nat) : Int) from rfl, wrapAdd (by omega)]
  by_cases h : l.length < i + 6
  · rw [decide_eq_true (by omega : ((i + 6 : Nat) : Int) > (l.length : Int)), unitF_short (by rw [List.length_drop]; omega)]; rfl
  rw [decide_eq_false (by omega : ¬ ((i + 6 : Nat) : Int) > (l.length : Int)), idx_lt (by omega), unitF_drop, List.getElem?_eq_getElem (by omega : i < l.length), List.getElem?_eq_getElem (by omega : i + 1 < l.length)]
  dsimp only
  rw [idx_lt (by omega)]
  dsimp only
  by_cases c1 : l[i] = 92
  · rw [bneF c1]
    by_cases c2 : l[i + 1] = 117
    · rw [bneF c2, if_pos ⟨by rw [c1], by rw [c2]⟩]
      show evLoop _ n _ _ = _
      have hh : hex4F (l.drop (i + 2)) = hexAcc 0 ((l.drop (i + 2)).take 4) := by unfold hex4F; rw [if_neg (by rw [List.length_drop]; omega)]
      rw [hh]
      obtain ⟨m, hm⟩ : ∃ m, (l.drop (i + 2)).take 4 = m := ⟨_, rfl⟩
      have hml : m.length = 4 := by rw [← hm, List.length_take, List.length_drop]; omega
      have hget : ∀ (j : Nat) (hj : j < 4), l[i + 2 + j]'(by omega) = m[j]'(by omega) := fun j hj => by subst hm; simp
      rw [hm]
      refine (loop_rule (fun p : Int × Nat => st48_5 l i p.1 ((i + 2 + p.2 : Nat) : Int)) (fun p => p.2 ≤ 4 ∧ 0 ≤ p.1 ∧ p.1 < 16 ^ p.2) (fun p => 4 - p.2) (fun p => (some (.one (.int .i32 (hexAcc p.1 (m.drop p.2)))) : Option E6)) ?_ n (0, 0) (by simp) (by simp only; omega)).trans rfl
      rintro ⟨a, j⟩ ⟨hj, ha, ha2⟩ K hke hkr hnx
      dsimp only at hj ha ha2 hnx ⊢
      rw [lb48_5_eq, show (6 : Int) = ((6 : Nat) : Int) from rfl, wrapAdd (by omega)]
      by_cases hlt : j < 4
      · rw [decide_eq_true (by omega : ((i + 2 + j : Nat) : Int) < ((i + 6 : Nat) : Int)), cond_true, idx_lt (by omega)]
        dsimp only
        rw [hget j hlt, List.drop_eq_getElem_cons (by omega), hexAcc_cons]
        have hr := hexF_range m[j]
        have hp : (16 : Int) ^ j ≤ 16 ^ 3 := by
          have : j = 0 ∨ j = 1 ∨ j = 2 ∨ j = 3 := by omega
          rcases this with rfl | rfl | rfl | rfl <;> decide
        by_cases hx : hexF m[j] < 0
        · rw [decide_eq_true hx, cond_true, if_pos hx]
          exact (hkr _).trans rfl
        · rw [decide_eq_false hx, cond_false, if_neg hx, w32 (n := a * 16) (by omega) (by omega), w32 (n := hexF m[j]) (by omega) (by omega), w32 (by omega) (by omega), wrapSucc (by omega)]
          refine hnx (a * 16 + hexF m[j], j + 1) ⟨by simp; omega, by simp; omega, ?_⟩ (by simp; omega)
          show a * 16 + hexF m[j] < 16 ^ (j + 1)
          rw [Int.pow_succ]; omega
      · rw [decide_eq_false (by omega : ¬ ((i + 2 + j : Nat) : Int) < ((i + 6 : Nat) : Int)), cond_false, hke, ex48_5_0, List.drop_eq_nil_of_le (by omega)]
        rfl
    · rw [bneT c2, if_neg (fun h => c2 (Option.some.inj h.2))]; rfl
  · rw [bneT c1, if_neg (fun h => c1 (Option.some.inj h.1))]; rfl

/-! ### a piece of a quoted string -/
theorem shortF_range (c : Int) : -1 ≤ shortF c := by
  unfold shortF
  split
  · rename_i h; omega
  · split <;> omega
theorem shortF_iff (c : Int) : (0 ≤ shortF c) ↔ c = 34 ∨ c = 92 ∨ c = 47 ∨ c = 98 ∨ c = 102 ∨ c = 110 ∨ c = 114 ∨ c = 116 := by
  unfold shortF
  constructor
  · intro h
    by_cases h1 : c = 34 ∨ c = 92 ∨ c = 47
    · omega
    · rw [if_neg h1] at h
      split at h
      · omega
      · split at h
        · omega
        · split at h
          · omega
          · split at h
            · omega
            · split at h <;> omega
  · intro h
    rcases h with rfl | rfl | rfl | rfl | rfl | rfl | rfl | rfl <;> decide
theorem pieceF_cons (l : List Int) (i : Nat) (h : i < l.length) : pieceF (l.drop i) = if plainF l[i] then (l[i], 1) else if l[i] = 92 then escF (l.drop i) else (0, 0) := by
  rw [get_drop h]; rfl
theorem plain92 : plainF 92 = false := by decide
theorem escF_drop {l : List Int} {i : Nat} (h : i + 1 < l.length) : escF (l.drop i) = if 0 ≤ shortF l[i + 1] then (shortF l[i + 1], 2) else if l[i + 1] = 117 then codedF (l.drop (i + 2)) else (0, 0) := by
  rw [get_drop (i := i) (by omega), get_drop (i := i + 1) (by omega)]; rfl

/-- The program's words for the part behind '\\u', by the reference's number of four digits. -/
theorem coded_unit {l : List Int} {i : Nat} (h : i + 1 < l.length) (h1 : l[i] = 92) (h2 : l[i + 1] = 117) :
    unitF (l.drop i) = hex4F (l.drop (i + 2)) := by
  rw [unitF_drop, List.getElem?_eq_getElem (by omega : i < l.length), List.getElem?_eq_getElem h, h1, h2, if_pos ⟨rfl, rfl⟩]
theorem join_low {a b : Int} (h : b < 56320) : joinF a b = (0, false) := by
  unfold joinF
  rw [if_pos (by simp; omega)]
theorem coded_pair {l : List Int} {i : Nat} (h : i + 2 ≤ l.length) (c1 : ¬ hex4F (l.drop (i + 2)) < 0) (c2 : 55296 ≤ hex4F (l.drop (i + 2))) (c3 : hex4F (l.drop (i + 2)) ≤ 56319) :
    codedF (l.drop (i + 2)) = if (joinF (hex4F (l.drop (i + 2))) (unitF (l.drop (i + 6)))).2 then ((joinF (hex4F (l.drop (i + 2))) (unitF (l.drop (i + 6)))).1, 12) else (0, 0) := by
  have hg : ∀ k, (l.drop (i + 2))[k]? = l[i + 2 + k]? := fun k => List.getElem?_drop
  rw [codedF_join _ c1 c2 c3, hg 4, hg 5, List.drop_drop, List.length_drop]
  have e4 : i + 2 + 4 = i + 6 := by omega
  have e5 : i + 2 + 5 = i + 6 + 1 := by omega
  have e6 : i + 2 + 6 = i + 6 + 2 := by omega
  rw [e4, e5, e6]
  have hj : ∀ b, b < 56320 → ¬ (joinF (hex4F (l.drop (i + 2))) b).2 = true := fun b hb => by rw [join_low hb]; simp
  by_cases d : l[i + 6]? = some 92 ∧ l[i + 6 + 1]? = some 117
  · have hu : unitF (l.drop (i + 6)) = hex4F (l.drop (i + 6 + 2)) := by rw [unitF_drop, if_pos d]
    rw [hu]
    by_cases d3 : 10 ≤ l.length - (i + 2)
    · by_cases d4 : (joinF (hex4F (l.drop (i + 2))) (hex4F (l.drop (i + 6 + 2)))).2 = true
      · rw [if_pos ⟨d3, d.1, d.2, d4⟩, if_pos d4]
      · rw [if_neg (fun h => d4 h.2.2.2), if_neg d4]
    · rw [if_neg (fun h => d3 h.1), if_neg (hj _ (by rw [hex4F_short (l := l.drop (i + 6 + 2)) (by rw [List.length_drop]; omega)]; omega))]
  · have hu : unitF (l.drop (i + 6)) = -1 := by rw [unitF_drop, if_neg d]
    rw [hu, if_neg (fun h => d ⟨h.2.1, h.2.2.1⟩), if_neg (hj _ (by omega))]

theorem piece_ok (l : List Int) (hl : lim4 l = true) (i : Nat) (hi : i < l.length) (n : Nat) : evFn E34 n Try.f34 [.sl .i32 l none, .int .i64 i] = some (.tup [.int .i32 (pieceF (l.drop i)).1, .int .i64 (pieceF (l.drop i)).2]) := by
  have hlen := lim4_len hl
  rw [ev34, idx_lt hi, pieceF_cons l i hi]
  dsimp only
  cases hp : plainF l[i] with
  | true => rw [if_pos rfl]; rfl
  | false =>
    rw [cond_false, if_neg (by simp)]
    by_cases c0 : l[i] = 92
    · rw [bneF c0, if_pos c0, show (1 : Int) = ((1 : Nat) : Int) from rfl, wrapAdd (by omega)]
      by_cases h2 : l.length ≤ i + 1
      · rw [decide_eq_true (by omega : ((i + 1 : Nat) : Int) ≥ (l.length : Int)), escF_one (by rw [List.length_drop]; omega)]; rfl
      · rw [decide_eq_false (by omega : ¬ ((i + 1 : Nat) : Int) ≥ (l.length : Int)), idx_lt (by omega), escF_drop (by omega)]
        dsimp only
        by_cases hs : 0 ≤ shortF l[i + 1]
        · rw [decide_eq_true (show shortF l[i + 1] ≥ 0 from hs), if_pos hs]; rfl
        · have hse : ¬ (shortF l[i + 1] ≥ 0) := hs
          rw [decide_eq_false hse, if_neg hs, hl, show (6 : Int) = ((6 : Nat) : Int) from rfl, wrapAdd (by omega),
            decide_eq_true (by omega : (0 : Int) ≤ (i : Int)), decide_eq_true (by omega : (i : Int) ≤ (l.length : Int) + 12), decide_eq_true (by omega : (0 : Int) ≤ ((i + 6 : Nat) : Int)), decide_eq_true (by omega : ((i + 6 : Nat) : Int) ≤ (l.length : Int) + 12), Int.toNat_natCast, Int.toNat_natCast]
          by_cases h117 : l[i + 1] = 117
          · rw [if_pos h117, coded_unit (by omega) c0 h117]
            by_cases c1 : hex4F (l.drop (i + 2)) < 0
            · rw [decide_eq_true c1, codedF_bad _ (.inl c1)]; rfl
            rw [decide_eq_false c1]
            by_cases c2 : 56320 ≤ hex4F (l.drop (i + 2))
            · by_cases c3 : hex4F (l.drop (i + 2)) ≤ 57343
              · rw [decide_eq_true (show hex4F (l.drop (i + 2)) ≥ 56320 from c2), decide_eq_true c3, codedF_bad _ (.inr ⟨c2, c3⟩)]; rfl
              · rw [decide_eq_true (show hex4F (l.drop (i + 2)) ≥ 56320 from c2), decide_eq_false c3, decide_eq_true (by omega : hex4F (l.drop (i + 2)) ≥ 55296), decide_eq_false (by omega : ¬ hex4F (l.drop (i + 2)) ≤ 56319), codedF_plain _ c1 (.inr (by omega))]; rfl
            · rw [decide_eq_false (show ¬ hex4F (l.drop (i + 2)) ≥ 56320 from c2)]
              by_cases c3 : 55296 ≤ hex4F (l.drop (i + 2))
              · rw [decide_eq_true (show hex4F (l.drop (i + 2)) ≥ 55296 from c3), decide_eq_true (by omega : hex4F (l.drop (i + 2)) ≤ 56319), coded_pair (by omega) c1 c3 (by omega)]
                cases (joinF (hex4F (l.drop (i + 2))) (unitF (l.drop (i + 6)))).2 <;> rfl
              · rw [decide_eq_false (show ¬ hex4F (l.drop (i + 2)) ≥ 55296 from c3), codedF_plain _ c1 (.inl (by omega))]; rfl
          · rw [if_neg h117]
            have hu : unitF (l.drop i) = -1 := by
              rw [unitF_drop, List.getElem?_eq_getElem (by omega : i + 1 < l.length), if_neg (fun h => h117 (Option.some.inj h.2))]
            rw [hu]; rfl
    · rw [bneT c0, if_neg c0]; rfl
end Go.Aev
end

section
set_option linter.unusedVariables false
namespace Go.Aev
open Go.Proofs

theorem codedF_range (l : List Int) : 0 ≤ (codedF l).2 ∧ (codedF l).2 ≤ 12 := by
  unfold codedF
  dsimp only
  split
  · simp
  · split
    · simp
    · split <;> simp
theorem escF_range (l : List Int) : 0 ≤ (escF l).2 ∧ (escF l).2 ≤ 12 := by
  by_cases h : l.length < 2
  · rw [escF_one h]; simp
  · rw [escF_two 0 l (by omega)]
    split
    · simp
    · split
      · exact codedF_range _
      · simp
theorem pieceF_range (l : List Int) : 0 ≤ (pieceF l).2 ∧ (pieceF l).2 ≤ 12 := by
  cases l with
  | nil => simp [pieceF]
  | cons c r =>
    show 0 ≤ (if plainF c then (c, 1) else if c = 92 then escF (c :: r) else ((0, 0) : Int × Int)).2 ∧ (if plainF c then (c, 1) else if c = 92 then escF (c :: r) else ((0, 0) : Int × Int)).2 ≤ 12
    by_cases h : plainF c = true
    · rw [if_pos h]; simp
    · rw [if_neg h]
      by_cases h2 : c = 92
      · rw [if_pos h2]; exact escF_range _
      · rw [if_neg h2]; simp

theorem quotedN_eq : ∀ (n m : Nat) (l : List Int), l.length ≤ n → l.length ≤ m → quotedN n l = quotedN m l := by
  intro n
  induction n with
  | zero =>
    intro m l h1 h2
    have : l = [] := List.eq_nil_of_length_eq_zero (by omega)
    subst this
    cases m <;> rfl
  | succ n ih =>
    intro m l h1 h2
    cases l with
    | nil => cases m <;> rfl
    | cons c r =>
      cases m with
      | zero => simp at h2
      | succ m =>
        simp only [quotedN]
        split
        · rfl
        · rename_i hp
          have h3 : ((c :: r).drop (pieceF (c :: r)).2.toNat).length ≤ r.length := by
            rw [List.length_drop, List.length_cons]; omega
          rw [ih m _ (by simp at h1; omega) (by simp at h2; omega)]
theorem quotedL_nil : quotedL [] = some [] := rfl
theorem quotedL_step {l : List Int} (h : l ≠ []) : quotedL l = if (pieceF l).2 = 0 then none else (quotedL (l.drop (pieceF l).2.toNat)).map ((pieceF l).1 :: ·) := by
  cases l with
  | nil => exact absurd rfl h
  | cons c r =>
    have hr := pieceF_range (c :: r)
    conv => lhs; unfold quotedL
    simp only [List.length_cons, quotedN]
    by_cases hp : (pieceF (c :: r)).2 = 0
    · rw [if_pos (by omega), if_pos hp]
    · rw [if_neg (by omega), if_neg hp]
      unfold quotedL
      rw [quotedN_eq r.length _ _ (by rw [List.length_drop, List.length_cons]; omega) (Nat.le_refl _)]

/-- The end of a loop that has laid 'out' already. -/
def finQ (out : List Int) (o : Option (List Int)) : Option E6 := some (.tup [.str (finF (o.map (out ++ ·))).1, .int .i64 (finF (o.map (out ++ ·))).2])
theorem finQ_nil (out : List Int) : finQ out (some []) = some (.tup [.str (encF out).1, .int .i64 0]) := by simp [finQ, finF]
theorem finQ_none (out : List Int) : finQ out none = some (.tup [.str [], .int .i64 60]) := rfl
theorem finQ_cons (out : List Int) (c : Int) (o : Option (List Int)) : finQ out (o.map (c :: ·)) = finQ (out ++ [c]) o := by
  cases o <;> simp [finQ]

theorem quoted_loop {l : List Int} (hl : lim4 l = true) {n : Nat} (hn : l.length < n) {body : S6 → (Ex → S6 → Option E6) → Option E6} {k : Ex → S6 → Option E6} {st : List Int → Int → S6}
    (hexit : ∀ (out : List Int) (i : Nat), l.length ≤ i → lim4 out = true → ∀ K : Ex → S6 → Option E6, (∀ j s, K (.exit j) s = k (.exit j) s) → body (st out i) K = some (.tup [.str (encF out).1, .int .i64 0]))
    (hstep : ∀ (out : List Int) (i : Nat), i < l.length → room (out.length + 1) 4 = true → ∀ K : Ex → S6 → Option E6, (∀ s, K .ret s = k .ret s) →
      body (st out i) K = if (pieceF (l.drop i)).2 = 0 then some (.tup [.str [], .int .i64 60]) else K .normal (st (out ++ [(pieceF (l.drop i)).1]) ((i + (pieceF (l.drop i)).2.toNat : Nat) : Int))) :
    evLoop body n (st [] 0) k = some (.tup [.str (quotedF l).1, .int .i64 (quotedF l).2]) := by
  have hlen := lim4_iff.1 hl
  refine (loop_rule (fun p : List Int × Nat => st p.1 p.2) (fun p => p.1.length ≤ p.2 ∧ p.1.length ≤ l.length) (fun p => l.length - p.2) (fun p => finQ p.1 (quotedL (l.drop p.2))) ?_ n ([], 0) (by simp) (by simp only; omega)).trans (by simp [finQ, quotedF])
  rintro ⟨out, i⟩ ⟨h1, h2⟩ K hke hkr hnx
  dsimp only at h1 h2 hnx ⊢
  by_cases h : i < l.length
  · rw [hstep out i h (room_iff.2 (by omega)) K hkr]
    have hne : l.drop i ≠ [] := by rw [get_drop h]; exact List.cons_ne_nil _ _
    have hr := pieceF_range (l.drop i)
    rw [quotedL_step hne]
    by_cases hp : (pieceF (l.drop i)).2 = 0
    · rw [if_pos hp, if_pos hp, finQ_none]
    · rw [if_neg hp, if_neg hp, finQ_cons, List.drop_drop]
      exact hnx (out ++ [(pieceF (l.drop i)).1], i + (pieceF (l.drop i)).2.toNat) ⟨by simp; omega, by simp; omega⟩ (by simp only; omega)
  · rw [hexit out i (by omega) (lim4_iff.2 (by omega)) K hke, List.drop_eq_nil_of_le (by omega), quotedL_nil, finQ_nil]

theorem rquoted_ok (l : List Int) (hl : lim4 l = true) (n : Nat) (hn : l.length < n) : evFn E21 n Try.f21 [.sl .i32 l none] = some (.tup [.str (quotedF l).1, .int .i64 (quotedF l).2]) := by
  have hlen := lim4_iff.1 hl
  rw [ev21]
  refine quoted_loop hl hn (st := fun out i => st21_3 l out i) (fun out i hi hout K hke => ?_) (fun out i hi hro K hkr => ?_)
  · rw [lb21_3_eq, decide_eq_false (by omega : ¬ (i : Int) < (l.length : Int)), cond_false, hke, ex21_3_0, hout]; rfl
  · have hr := pieceF_range (l.drop i)
    rw [lb21_3_eq, decide_eq_true (by omega : (i : Int) < (l.length : Int)), hl, decide_eq_true (by omega : (0 : Int) ≤ (i : Int)), Int.toNat_natCast, hro]
    by_cases hp : (pieceF (l.drop i)).2 = 0
    · rw [if_pos hp, beqT hp]; exact (hkr _).trans rfl
    · rw [if_neg hp, beqF hp, wrap64 (by omega) (by omega)]
      have e : (i : Int) + (pieceF (l.drop i)).2 = ((i + (pieceF (l.drop i)).2.toNat : Nat) : Int) := by omega
      rw [e]; rfl

theorem plainF_parts {c : Int} (h : c ≠ 92) : plainF c = (sourceF c && !(c == 34) && !(c == 10) && !(c == 13)) := by
  unfold plainF; rw [beqF h]; simp
theorem quoted_ok (l : List Int) (hl : lim4 l = true) (n : Nat) (hn : l.length < n) : evFn E19 n Try.f19 [.sl .i32 l none] = some (.tup [.str (quotedF l).1, .int .i64 (quotedF l).2]) := by
  have hlen := lim4_iff.1 hl
  rw [ev19]
  refine quoted_loop hl hn (st := fun out i => st19_3 l out i) (fun out i hi hout K hke => ?_) (fun out i hi hro K hkr => ?_)
  · rw [lb19_3_eq, decide_eq_false (by omega : ¬ (i : Int) < (l.length : Int)), cond_false, hke, ex19_3_0, hout]; rfl
  · rw [lb19_3_eq, decide_eq_true (by omega : (i : Int) < (l.length : Int)), hro, idx_lt hi, sub_from (by omega), pieceF_cons l i hi]
    dsimp only
    rw [lim4_drop hl]
    have hw : IntKind.wrap .i64 ((i : Int) + 1) = ((i + 1 : Nat) : Int) := wrapSucc (by omega)
    have h1 : (i + (1 : Int).toNat) = i + 1 := rfl
    rw [hw]
    by_cases c0 : l[i] = 92
    · rw [beqT c0, c0, plain92, if_neg (by decide : ¬ false = true), if_pos rfl]
      have hr := escF_range (l.drop i)
      by_cases hp : (escF (l.drop i)).2 = 0
      · rw [if_pos hp, beqT hp]; exact (hkr _).trans rfl
      · rw [if_neg hp, beqF hp, wrap64 (by omega) (by omega)]
        have e : (i : Int) + (escF (l.drop i)).2 = ((i + (escF (l.drop i)).2.toNat : Nat) : Int) := by omega
        rw [e]; rfl
    · rw [beqF c0, plainF_parts c0, if_neg c0]
      cases c1 : l[i] == 34 with
      | true => simp only [Bool.not_true, Bool.and_false, Bool.false_and, Bool.false_eq_true, if_false]; exact (hkr _).trans rfl
      | false =>
        cases c2 : l[i] == 10 with
        | true => simp only [Bool.not_true, Bool.and_false, Bool.false_and, Bool.false_eq_true, if_false]; exact (hkr _).trans rfl
        | false =>
          cases c3 : l[i] == 13 with
          | true => simp only [Bool.not_true, Bool.and_false, Bool.false_and, Bool.false_eq_true, if_false]; exact (hkr _).trans rfl
          | false =>
            cases c4 : sourceF l[i] with
            | false => simp only [Bool.false_and, Bool.false_eq_true, if_false]; exact (hkr _).trans rfl
            | true => simp only [Bool.not_false, Bool.and_true, if_true]; rfl
end Go.Aev
end
