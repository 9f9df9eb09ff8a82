/- Proved here: lemmas of an evaluator over the model's code that the claim's text uses (SD SE S13). Conditions: those that each lemma states. -/
import Derived.Test.YtljnggaaohddnaaFevC
section
set_option linter.unusedVariables false
open Go.Lib
namespace Go.Aev
variable {Ty : Type} {den : Ty → Type}
section
variable {E : Env Ty den} {B : Bs} {g : Gh} {s : St Ty den} {a : Act} {w : World}
variable {P : Program} {R : Type} {o : Oper} {r : R}

/-- What an operation sees of two states is the same. -/
structure Sees (o : Oper) (s s2 : St Ty den) : Prop where
  live : s2.live = s.live
  tmp : ∀ t, Operand.tmp t ∈ o.op.operands.toList → s2.get t = s.get t

theorem Sees.opd {s2 : St Ty den} (h : Sees o s s2) {x : Operand} (hx : x ∈ o.op.operands.toList) (ty : TypeId) : opd E s2 ty x = opd E s ty x := by
  cases x with
  | tmp t => simp only [Aev.opd, h.tmp t hx]
  | _ => rfl
theorem Sees.opl {s2 : St Ty den} (h : Sees o s s2) {x : Operand} (hx : x ∈ o.op.operands.toList) (ty : TypeId) : opl E s2 ty x = opl E s ty x := by
  simp only [Aev.opl, h.opd hx]

theorem land1_pure {nm : Nat} {t : Ty} {l : List (den t)} {s : St Ty den} {x : Leaf Ty den} {s' : St Ty den} (h : land1 nm t l s = (x, s')) :
    lenB s.live ≤ lenB s'.live ∧ (lenB s'.live = lenB s.live → s' = s ∧ ∀ s2 : St Ty den, s2.live = s.live → land1 nm t l s2 = (x, s2)) := by
  unfold land1 at h
  cases hm : mem nm s.live with
  | true =>
    rw [hm] at h
    simp only [cond_true, Prod.mk.injEq] at h
    obtain ⟨rfl, rfl⟩ := h
    exact ⟨Nat.le_refl _, fun _ => ⟨rfl, fun s2 h2 => by unfold land1; rw [h2, hm]; rfl⟩⟩
  | false =>
    rw [hm] at h
    simp only [cond_false, Prod.mk.injEq] at h
    obtain ⟨rfl, rfl⟩ := h
    have hrem : ∀ l : List Nat, mem nm l = false → rem nm l = l := by
      intro l
      induction l with
      | nil => intro _; rfl
      | cons x l ih =>
        intro h1
        simp only [mem] at h1
        cases hb : Nat.beq x nm with
        | true => rw [hb] at h1; cases h1
        | false => rw [hb] at h1; simp only [rem, hb, cond_false]; rw [ih h1]
    have : lenB (s.fresh nm).live = lenB s.live + 1 := by
      show lenB (nm :: rem nm s.live) = _
      rw [hrem _ hm]; rfl
    exact ⟨by omega, fun h1 => by omega⟩

theorem landLeaf_pure {dst : Option Nat} {j : Nat} {s : St Ty den} {l x : Leaf Ty den} {s' : St Ty den} (h : landLeaf dst none j s l = (x, s')) :
    lenB s.live ≤ lenB s'.live ∧ (lenB s'.live = lenB s.live → s' = s ∧ ∀ s2 : St Ty den, s2.live = s.live → landLeaf dst none j s2 l = (x, s2)) := by
  unfold landLeaf at h
  split at h
  · cases h; exact ⟨Nat.le_refl _, fun _ => ⟨rfl, fun s2 h2 => rfl⟩⟩
  · rename_i t l i
    cases hb : Nat.beq i j with
    | true =>
      rw [hb] at h
      have h1 := land1_pure h
      exact ⟨h1.1, fun he => ⟨(h1.2 he).1, fun s2 h2 => by simp only [landLeaf, hb, cond_true]; exact (h1.2 he).2 s2 h2⟩⟩
    | false =>
      rw [hb] at h
      simp only [cond_false, Prod.mk.injEq] at h
      obtain ⟨rfl, rfl⟩ := h
      exact ⟨Nat.le_refl _, fun _ => ⟨rfl, fun s2 h2 => by simp only [landLeaf, hb, cond_false]⟩⟩
  · rename_i h1 h2
    cases h
    refine ⟨Nat.le_refl _, fun _ => ⟨rfl, fun s2 _ => ?_⟩⟩
    unfold landLeaf
    split
    · exact absurd rfl (h1 _ _)
    · exact absurd rfl (h2 _ _ _)
    · rfl

theorem landAll_pure {dst : Option Nat} : ∀ {ls : List (Leaf Ty den)} {j : Nat} {s : St Ty den} {xs : List (Leaf Ty den)} {s' : St Ty den}, landAll dst none j s ls = (xs, s') →
    lenB s.live ≤ lenB s'.live ∧ (lenB s'.live = lenB s.live → s' = s ∧ ∀ s2 : St Ty den, s2.live = s.live → landAll dst none j s2 ls = (xs, s2))
  | [], j, s, xs, s', h => by
    simp only [landAll, Prod.mk.injEq] at h
    obtain ⟨rfl, rfl⟩ := h
    exact ⟨Nat.le_refl _, fun _ => ⟨rfl, fun s2 _ => rfl⟩⟩
  | l :: ls, j, s, xs, s', h => by
    simp only [landAll] at h
    cases h1 : landLeaf dst none j s l with
    | mk x s1 =>
      rw [h1] at h
      cases h2 : landAll dst none (j + 1) s1 ls with
      | mk ys s3 =>
        rw [h2] at h
        simp only [Prod.mk.injEq] at h
        obtain ⟨rfl, rfl⟩ := h
        have k1 := landLeaf_pure h1
        have k2 := landAll_pure h2
        refine ⟨Nat.le_trans k1.1 k2.1, fun he => ?_⟩
        have e1 : lenB s1.live = lenB s.live := Nat.le_antisymm (by have := k2.1; omega) k1.1
        obtain ⟨a1, a2⟩ := k1.2 e1
        obtain ⟨b1, b2⟩ := k2.2 (by omega)
        refine ⟨b1.trans a1, fun s2 hs2 => ?_⟩
        simp only [landAll, a2 s2 hs2]
        rw [b2 s2 (by rw [hs2, a1])]

theorem Sees.args {s2 : St Ty den} {c : Call} (hop : o.op = .call c) (h : Sees o s s2) : ∀ (tys : List TypeId) (xs : List Operand), (∀ x ∈ xs, x ∈ c.args.toList) → argLeaves E s2 tys xs = argLeaves E s tys xs := by
  have hin : ∀ x ∈ c.args.toList, x ∈ o.op.operands.toList := by
    intro x hx
    rw [hop]
    simp only [Op.operands, Call.operands]
    cases c.callee <;> simp_all
  intro tys xs
  induction xs generalizing tys with
  | nil => intro _; cases tys <;> rfl
  | cons x xs ih =>
    intro hxs
    cases tys with
    | nil => simp only [argLeaves, h.opl (hin x (hxs x (by simp))), ih [] (fun y hy => hxs y (by simp [hy]))]
    | cons t ts => simp only [argLeaves, h.opl (hin x (hxs x (by simp))), ih ts (fun y hy => hxs y (by simp [hy]))]

theorem lenB_cond {a b : Nat} {x : Option R} (h : (bif Nat.beq a b then x else none) = some r) : a = b ∧ x = some r := by
  obtain ⟨h1, h2⟩ := bif_some h
  exact ⟨Nat.eq_of_beq_eq_true h1, h2⟩

theorem bound_pure {s2 : St Ty den} {d : Int} {b : Option Operand} (h : Sees o s s2) (hb : ∀ x, b = some x → x ∈ o.op.operands.toList) : evBound E s2 d b = evBound E s d b := by
  cases b with
  | none => rfl
  | some x => simp only [evBound, h.opl (hb x rfl)]

theorem pure_ev0 (hp : pureOp E o = true) (hnb : ∀ t n ps, o.op ≠ .buildSlice t n ps) {k1 : Ent Ty den → Option R} (h : evOp E o s (fun e s' => bif Nat.beq (lenB s'.live) (lenB s.live) then k1 e else none) = some r) :
    ∃ e, k1 e = some r ∧ ∀ s2 : St Ty den, Sees o s s2 → evOp E o s2 (fun e s' => some (e, s')) = some (e, s2) := by
  have hsees : ∀ {x : Operand}, x ∈ o.op.operands.toList → ∀ s2 : St Ty den, Sees o s s2 → ∀ ty, opl E s2 ty x = opl E s ty x := fun hx s2 h2 ty => h2.opl hx ty
  cases hop : o.op with
  | move x =>
    simp only [evOp, hop] at h
    exact ⟨_, (lenB_cond h).2, fun s2 h2 => by simp only [evOp, hop, h2.opd (x := x) (by simp [hop, Op.operands])]⟩
  | buildSlice t n ps => exact absurd hop (hnb t n ps)
  | assign x =>
    simp only [pureOp, hop] at hp
    have hnil : isNil x = false := by simpa using hp
    simp only [evOp, hop, hnil, cond_false] at h
    exact ⟨_, (lenB_cond h).2, fun s2 h2 => by simp only [evOp, hop, hnil, cond_false, h2.opd (x := x) (by simp [hop, Op.operands])]⟩
  | pick c x y =>
    have hc := fun s2 h2 => hsees (x := c) (by simp [hop, Op.operands]) s2 h2
    have hx := fun s2 h2 => hsees (x := x) (by simp [hop, Op.operands]) s2 h2
    have hy := fun s2 h2 => hsees (x := y) (by simp [hop, Op.operands]) s2 h2
    simp only [evOp, hop] at h
    split at h
    · rename_i heq
      exact ⟨_, (lenB_cond h).2, fun s2 h2 => by simp only [evOp, hop, hc s2 h2, hx s2 h2, hy s2 h2, heq]⟩
    · rename_i heq
      exact ⟨_, (lenB_cond h).2, fun s2 h2 => by simp only [evOp, hop, hc s2 h2, hx s2 h2, hy s2 h2, heq]⟩
    · cases h
  | extract x i =>
    simp only [evOp, hop] at h
    have hx := fun s2 (h2 : Sees o s s2) => h2.opd (E := E) (x := x) (by simp [hop, Op.operands]) 0
    split at h
    · rename_i ls heq
      split at h
      · rename_i l hl
        exact ⟨_, (lenB_cond h).2, fun s2 h2 => by simp only [evOp, hop, hx s2 h2, heq, hl]⟩
      · cases h
    · cases h
  | binOp op t x y yt =>
    have hx := fun s2 h2 => hsees (x := x) (by simp [hop, Op.operands]) s2 h2
    have hy := fun s2 h2 => hsees (x := y) (by simp [hop, Op.operands]) s2 h2
    simp only [evOp, hop] at h
    have fin : ∀ (l : Leaf Ty den), (bif Nat.beq (lenB s.live) (lenB s.live) then k1 (.one l) else none) = some r → (∀ s2, Sees o s s2 → evOp E o s2 (fun e s' => some (e, s')) = some (.one l, s2)) → ∃ e, k1 e = some r ∧ ∀ s2, Sees o s s2 → evOp E o s2 (fun e s' => some (e, s')) = some (e, s2) := fun l h1 h2 => ⟨_, (lenB_cond h1).2, h2⟩
    split at h
    · rename_i k0 a k1' b hxa hyb
      split at h
      · obtain ⟨hg, h⟩ := bif_some h
        exact fin _ h fun s2 h2 => by simp only [evOp, hop, hx s2 h2, hy s2 h2, hxa, hyb, hg, cond_true]
      · obtain ⟨hg, h⟩ := bif_some h
        exact fin _ h fun s2 h2 => by simp only [evOp, hop, hx s2 h2, hy s2 h2, hxa, hyb, hg, cond_true]
      · obtain ⟨hg, h⟩ := bif_some h
        exact fin _ h fun s2 h2 => by simp only [evOp, hop, hx s2 h2, hy s2 h2, hxa, hyb, hg, cond_true]
      · obtain ⟨hg, h⟩ := bif_some h
        exact fin _ h fun s2 h2 => by simp only [evOp, hop, hx s2 h2, hy s2 h2, hxa, hyb, hg, cond_true]
      · rename_i n1 n2 n3 n4
        obtain ⟨hg, h⟩ := bif_some h
        split at h
        · rename_i l hl
          refine fin _ h fun s2 h2 => ?_
          simp only [evOp, hop, hx s2 h2, hy s2 h2, hxa, hyb]
          cases op <;> first
            | exact absurd rfl (by assumption)
            | (exfalso; first | exact n1 rfl | exact n2 rfl | exact n3 rfl | exact n4 rfl)
            | (simp only [hg, cond_true, hl])
        · cases h
    · rename_i a b hxa hyb
      split at h
      · obtain ⟨hg, h⟩ := bif_some h
        exact fin _ h fun s2 h2 => by simp only [evOp, hop, hx s2 h2, hy s2 h2, hxa, hyb, hg, cond_true]
      · exact fin _ h fun s2 h2 => by simp only [evOp, hop, hx s2 h2, hy s2 h2, hxa, hyb]
      · exact fin _ h fun s2 h2 => by simp only [evOp, hop, hx s2 h2, hy s2 h2, hxa, hyb]
      · cases h
    · rename_i a b hxa hyb
      split at h
      · rename_i ht
        split at h
        · exact fin _ h fun s2 h2 => by simp only [evOp, hop, hx s2 h2, hy s2 h2, hxa, hyb, ht]
        · exact fin _ h fun s2 h2 => by simp only [evOp, hop, hx s2 h2, hy s2 h2, hxa, hyb, ht]
        · cases h
      · cases h
    · cases h
  | unOp op t x =>
    have hx := fun s2 h2 => hsees (x := x) (by simp [hop, Op.operands]) s2 h2
    simp only [evOp, hop] at h
    split at h
    · rename_i hxa
      exact ⟨_, (lenB_cond h).2, fun s2 h2 => by simp only [evOp, hop, hx s2 h2, hxa]⟩
    · rename_i hxa
      exact ⟨_, (lenB_cond h).2, fun s2 h2 => by simp only [evOp, hop, hx s2 h2, hxa]⟩
    · cases h
  | convert src dst x =>
    have hx := fun s2 h2 => hsees (x := x) (by simp [hop, Op.operands]) s2 h2
    simp only [evOp, hop] at h
    split at h
    · rename_i h1 h2 h3
      exact ⟨_, (lenB_cond h).2, fun s2 h4 => by simp only [evOp, hop, hx s2 h4, h1, h2, h3]⟩
    · rename_i h1 h2 h3
      split at h
      · rename_i h5 h6 h7
        exact ⟨_, (lenB_cond h).2, fun s2 h4 => by simp only [evOp, hop, hx s2 h4, h1, h2, h3, h5, h6, h7]⟩
      · rename_i h5 h6 h7
        exact ⟨_, (lenB_cond h).2, fun s2 h4 => by simp only [evOp, hop, hx s2 h4, h1, h2, h3, h5, h6, h7]⟩
      · cases h
    · rename_i h1 h2 h3
      simp only [pureOp, hop, h2] at hp
      cases hp
    · cases h
  | indexAddr t x i =>
    have hx := fun s2 h2 => hsees (x := x) (by simp [hop, Op.operands]) s2 h2
    have hi := fun s2 h2 => hsees (x := i) (by simp [hop, Op.operands]) s2 h2
    simp only [evOp, hop] at h
    split at h
    · rename_i h1 h2 h3
      split at h
      · rename_i l' hl
        split at h
        · rename_i y hy
          exact ⟨_, (lenB_cond h).2, fun s2 h4 => by simp only [evOp, hop, hx s2 h4, hi s2 h4, h1, h2, h3, hl, hy]⟩
        · cases h
      · cases h
    · cases h
  | index t x i =>
    have hx := fun s2 h2 => hsees (x := x) (by simp [hop, Op.operands]) s2 h2
    have hi := fun s2 h2 => hsees (x := i) (by simp [hop, Op.operands]) s2 h2
    simp only [evOp, hop] at h
    split at h
    · rename_i h1 h2 h3
      split at h
      · rename_i y hy
        exact ⟨_, (lenB_cond h).2, fun s2 h4 => by simp only [evOp, hop, hx s2 h4, hi s2 h4, h1, h2, h3, hy]⟩
      · cases h
    · cases h
  | load t x =>
    have hx := fun s2 h2 => hsees (x := x) (by simp [hop, Op.operands]) s2 h2
    simp only [evOp, hop] at h
    split at h
    · cases h
    · rename_i u htb
      split at h
      · rename_i u' y hxe
        split at h
        · rename_i y' hy
          refine ⟨_, (lenB_cond h).2, fun s2 h4 => ?_⟩
          simp only [evOp, hop, hx s2 h4, hxe, htb, hy]
        · cases h
      · cases h
    · rename_i htb htb2
      split at h
      · rename_i u y off hxe
        split at h
        · rename_i l hl
          refine ⟨_, (lenB_cond h).2, fun s2 h4 => ?_⟩
          simp only [evOp, hop, hx s2 h4, hxe, hl]
        · cases h
      · cases h
  | fieldAddr t x i =>
    have hx := fun s2 h2 => hsees (x := x) (by simp [hop, Op.operands]) s2 h2
    simp only [evOp, hop] at h
    split at h
    · rename_i v u y off htb hxe
      obtain ⟨hg, h⟩ := bif_some h
      exact ⟨_, (lenB_cond h).2, fun s2 h4 => by simp only [evOp, hop, hx s2 h4, htb, hxe, hg, cond_true]⟩
    · cases h
  | slice t x lo hi mx =>
    have hx := fun s2 h2 => hsees (x := x) (by simp [hop, Op.operands]) s2 h2
    have hlo : ∀ s2, Sees o s s2 → ∀ d, evBound E s2 d lo = evBound E s d lo := fun s2 h2 d => bound_pure h2 (fun y hy => by subst hy; simp [hop, Op.operands])
    have hhi : ∀ s2, Sees o s s2 → ∀ d, evBound E s2 d hi = evBound E s d hi := fun s2 h2 d => bound_pure h2 (fun y hy => by subst hy; simp [hop, Op.operands])
    simp only [evOp, hop] at h
    split at h
    · rename_i b h1 h2
      split at h
      · rename_i h3 h4
        split at h
        · rename_i r0 hr
          exact ⟨_, (lenB_cond h).2, fun s2 h6 => by simp only [evOp, hop, hx s2 h6, hlo s2 h6, hhi s2 h6, h1, h2, h3, h4, hr]⟩
        · cases h
      · cases h
    · rename_i h1 h2
      split at h
      · rename_i l' hl
        split at h
        · rename_i h3 h4
          split at h
          · rename_i r0 hr
            exact ⟨_, (lenB_cond h).2, fun s2 h6 => by simp only [evOp, hop, hx s2 h6, hlo s2 h6, hhi s2 h6, h1, h2, hl, h3, h4, hr]⟩
          · cases h
        · rename_i m h3 h4
          have hm : ∀ s2, Sees o s s2 → ∀ ty, opl E s2 ty m = opl E s ty m := fun s2 h2 => hsees (x := m) (by simp [hop, Op.operands]) s2 h2
          split at h
          · rename_i h7
            obtain ⟨hg, h⟩ := bif_some h
            split at h
            · rename_i r0 hr
              exact ⟨_, (lenB_cond h).2, fun s2 h6 => by simp only [evOp, hop, hx s2 h6, hlo s2 h6, hhi s2 h6, hm s2 h6, h1, h2, hl, h3, h4, h7, hg, cond_true, hr]⟩
            · cases h
          · cases h
        · cases h
      · cases h
    · cases h
  | call c =>
    simp only [evOp, hop] at h
    simp only [pureOp, hop] at hp
    split at hp
    · rename_i f hcal
      rw [hcal] at h
      simp only [Option.isNone_iff_eq_none] at hp
      unfold evCall at h
      dsimp only at h
      rw [hp] at h
      dsimp only at h
      have hargs : ∀ s2, Sees o s s2 → argLeaves E s2 c.argTypes.toList c.args.toList = argLeaves E s c.argTypes.toList c.args.toList := fun s2 h2 => h2.args hop _ _ (fun x hx => hx)
      split at h
      · rename_i gd l hT
        obtain ⟨hg, h⟩ := bif_some h
        cases hl : landLeaf o.dst none 0 s l with
        | mk x s' =>
          rw [hl] at h
          obtain ⟨h1, h2⟩ := lenB_cond h
          obtain ⟨h3, h4⟩ := (landLeaf_pure hl).2 h1
          refine ⟨_, h2, fun s2 h5 => ?_⟩
          simp only [evOp, hop, hcal, evCall, hp, hargs s2 h5, hT, hg, cond_true, h4 s2 h5.live]
      · rename_i gd l hT
        obtain ⟨hg, h⟩ := bif_some h
        cases hl : landAll o.dst none 0 s l with
        | mk x s' =>
          rw [hl] at h
          obtain ⟨h1, h2⟩ := lenB_cond h
          obtain ⟨h3, h4⟩ := (landAll_pure hl).2 h1
          refine ⟨_, h2, fun s2 h5 => ?_⟩
          simp only [evOp, hop, hcal, evCall, hp, hargs s2 h5, hT, hg, cond_true, h4 s2 h5.live]
      · cases h
    · rename_i hcal
      rw [hcal] at h
      dsimp only at h
      generalize htys : c.argTypes.toList = tys at h
      generalize hargs : c.args.toList = args at h
      unfold evBuiltin at h
      split at h <;> first | cases h; done | (rename_i hb; cases hb; done) | skip
      · rename_i t x hb
        have hx := fun s2 h2 => hsees (x := x) (by simp [hop, Op.operands, Call.operands, hcal, hargs]) s2 h2
        split at h
        · rename_i h1 h2
          exact ⟨_, (lenB_cond h).2, fun s2 h6 => by simp only [evOp, hop, hcal, htys, hargs, evBuiltin, hx s2 h6, h1, h2]⟩
        · rename_i h1 h2
          exact ⟨_, (lenB_cond h).2, fun s2 h6 => by simp only [evOp, hop, hcal, htys, hargs, evBuiltin, hx s2 h6, h1, h2]⟩
        · cases h
    · rename_i hcal
      rw [hcal] at h
      dsimp only at h
      generalize htys : c.argTypes.toList = tys at h
      generalize hargs : c.args.toList = args at h
      unfold evBuiltin at h
      split at h <;> first | cases h; done | (rename_i hb; cases hb; done) | skip
      · rename_i x y hb
        have hx := fun s2 h2 => hsees (x := x) (by simp [hop, Op.operands, Call.operands, hcal, hargs]) s2 h2
        have hy := fun s2 h2 => hsees (x := y) (by simp [hop, Op.operands, Call.operands, hcal, hargs]) s2 h2
        split at h
        · rename_i h1 h2
          exact ⟨_, (lenB_cond h).2, fun s2 h6 => by simp only [evOp, hop, hcal, htys, hargs, evBuiltin, hx s2 h6, hy s2 h6, h1, h2]⟩
        · cases h
    · rename_i hcal
      rw [hcal] at h
      dsimp only at h
      generalize htys : c.argTypes.toList = tys at h
      generalize hargs : c.args.toList = args at h
      unfold evBuiltin at h
      split at h <;> first | cases h; done | (rename_i hb; cases hb; done) | skip
      · rename_i x y hb
        have hx := fun s2 h2 => hsees (x := x) (by simp [hop, Op.operands, Call.operands, hcal, hargs]) s2 h2
        have hy := fun s2 h2 => hsees (x := y) (by simp [hop, Op.operands, Call.operands, hcal, hargs]) s2 h2
        split at h
        · rename_i h1 h2
          exact ⟨_, (lenB_cond h).2, fun s2 h6 => by simp only [evOp, hop, hcal, htys, hargs, evBuiltin, hx s2 h6, hy s2 h6, h1, h2]⟩
        · cases h
    · cases hp
  | _ => simp only [pureOp, hop] at hp; cases hp

def OpTo (E : Env Ty den) (o : Oper) (s2 : St Ty den) (e : Ent Ty den) : Prop :=
  evOp E o s2 (fun e s' => some (e, s')) = some (e, s2) ∨
    ((∃ t n ps, o.op = .buildSlice t n ps) ∧ ∃ (u : Ty) (xs : List (den u)), e = .one (.sl u xs none) ∧ evOp E o s2 (fun e s' => some (e, s')) = some (.one (.sl u xs (some (nmOf o.dst))), s2.fresh (nmOf o.dst)))

theorem parts1_sees {s2 : St Ty den} (h : Sees o s s2) (ty : TypeId) : ∀ (ps : List (Nat × Operand)) (i : Nat), (∀ p ∈ ps, p.2 ∈ o.op.operands.toList) → parts1 E s2 ty i ps = parts1 E s ty i ps
  | [], i, _ => rfl
  | (j, x) :: ps, i, hin => by
    simp only [parts1]
    rw [parts1_sees h ty ps (i + 1) (fun p hp => hin p (by simp [hp])), h.opl (hin (j, x) (by simp))]

theorem parts2_sees {s2 : St Ty den} (h : Sees o s s2) (u : Ty) : ∀ (ps : List (Nat × Operand)) (i : Nat), (∀ p ∈ ps, p.2 ∈ o.op.operands.toList) → parts2 E u s2 i ps = parts2 E u s i ps
  | [], i, _ => rfl
  | (j, x) :: ps, i, hin => by
    simp only [parts2]
    rw [parts2_sees h u ps (i + 1) (fun p hp => hin p (by simp [hp])), h.opl (hin (j, x) (by simp))]

theorem pure_ev (hp : pureOp E o = true) {k1 : Ent Ty den → Option R} (h : evOpD E o s k1 = some r) :
    ∃ e, k1 e = some r ∧ ∀ s2 : St Ty den, Sees o s s2 → OpTo E o s2 e := by
  by_cases hb : ∃ t n ps, o.op = .buildSlice t n ps
  · obtain ⟨t, n, ps, hop⟩ := hb
    simp only [evOpD, hop, evOp] at h
    split at h
    · rename_i u e htb
      split at h
      · rename_i u2 hte2
        split at h
        · rename_i xs hxs
          obtain ⟨hg, h⟩ := bif_some h
          refine ⟨_, h, fun s2 h2 => .inr ⟨⟨t, n, ps, hop⟩, u, xs, rfl, ?_⟩⟩
          have h3 := parts2_sees (E := E) h2 u ps.toList 0 (fun p hp => by rw [hop]; simp only [Op.operands]; simp; exact ⟨p.1, by simpa using hp⟩)
          simp only [evOp, hop, htb, hte2, h3, hxs, hg, cond_true]
        · cases h
      · rename_i hte2
        split at h
        · rename_i ls hls
          split at h
          · rename_i xs hxs
            obtain ⟨hg, h⟩ := bif_some h
            refine ⟨_, h, fun s2 h2 => .inr ⟨⟨t, n, ps, hop⟩, u, xs, rfl, ?_⟩⟩
            have h3 := parts1_sees (E := E) h2 e ps.toList 0 (fun p hp => by rw [hop]; simp only [Op.operands]; simp; exact ⟨p.1, by simpa using hp⟩)
            simp only [evOp, hop, htb, h3, hls, hxs, hg, cond_true]
          · cases h
        · cases h
    · cases h
  · have hnb : ∀ t n ps, o.op ≠ .buildSlice t n ps := fun t n ps e => hb ⟨t, n, ps, e⟩
    have h' : evOp E o s (fun e s' => bif Nat.beq (lenB s'.live) (lenB s.live) then k1 e else none) = some r := by
      unfold evOpD at h
      split at h
      · rename_i heq; exact absurd heq (hnb _ _ _)
      · exact h
    obtain ⟨e, h1, h2⟩ := pure_ev0 hp hnb h'
    exact ⟨e, h1, fun s2 h3 => .inl (h2 s2 h3)⟩

theorem strip_of_has (d : Nat) (e : Ent Ty den) (h : e.has d = false) : e.strip d = e := by
  have hl : ∀ l : Leaf Ty den, l.has d = false → l.strip d = l := by
    intro l hl
    cases l with
    | sl t x o =>
      cases o with
      | none => rfl
      | some c => simp only [Leaf.has] at hl; simp only [Leaf.strip, hl, cond_false]
    | _ => rfl
  cases e with
  | one l => simp only [Ent.strip, hl l h]
  | tup ls =>
    simp only [Ent.strip]
    congr 1
    simp only [Ent.has, List.any_eq_false] at h
    conv => rhs; rw [← List.map_id ls]
    exact List.map_congr_left fun l hm => hl l (by simpa using h l hm)
  | iter c p => rfl
theorem strip_of_hasF (d : Nat) : ∀ (fr : List (Nat × Ent Ty den)), hasF d fr = false → ∀ i, (look fr i).strip d = look fr i
  | [], _, i => rfl
  | (j, e) :: r, h, i => by
    simp only [hasF] at h
    cases he : e.has d with
    | true => rw [he] at h; cases h
    | false =>
      rw [he] at h
      simp only [look]
      cases Nat.beq j i with
      | true => exact strip_of_has d e he
      | false => exact strip_of_hasF d r h i
theorem noNm_spec {s : St Ty den} : ∀ {os : List Oper}, noNm s os = true → ∀ o ∈ os, ∀ t n ps, o.op = .buildSlice t n ps → ∀ i, (s.get i).strip (nmOf o.dst) = s.get i
  | [], _, o, ho => by cases ho
  | x :: os, h, o, ho => by
    intro t n ps hop i
    simp only [noNm] at h
    rcases List.mem_cons.1 ho with rfl | ho
    · rw [hop] at h
      simp only [Bool.and_eq_true, Bool.not_eq_true'] at h
      exact strip_of_hasF _ _ h.1 i
    · split at h
      · simp only [Bool.and_eq_true] at h; exact noNm_spec h.2 o ho t n ps hop i
      · exact noNm_spec h o ho t n ps hop i

theorem look_del_eq (fr : List (Nat × Ent Ty den)) (ds : List Nat) (i : Nat) : look (del fr ds) i = bif mem i ds then .one .any else look fr i := by
  induction fr with
  | nil => simp only [del, look]; cases mem i ds <;> rfl
  | cons p fr ih =>
    obtain ⟨j, x⟩ := p
    simp only [del, look]
    cases hj : mem j ds with
    | true =>
      simp only [cond_true]
      rw [ih]
      cases hb : Nat.beq j i with
      | true =>
        have := Nat.eq_of_beq_eq_true hb
        subst this
        rw [hj]; rfl
      | false => rfl
    | false =>
      simp only [cond_false, look]
      cases hb : Nat.beq j i with
      | true =>
        have := Nat.eq_of_beq_eq_true hb
        subst this
        rw [hj]; rfl
      | false => simp only [cond_false]; exact ih
theorem get_dels (s : St Ty den) (ds : List Nat) (i : Nat) : (s.dels ds).get i = bif mem i ds then .one .any else s.get i := look_del_eq s.fr ds i
theorem get_setO (s : St Ty den) (d : Option Nat) (e : Ent Ty den) (i : Nat) : (s.setO d e).get i = if d = some i then e else s.get i := by
  cases d with
  | none => rfl
  | some j => simp only [St.setO, get_set, Option.some.injEq]

/-- How the guard of an operation stands in a state. -/
def Gd (ops : Array Oper) (s : St Ty den) (o : Oper) (w : Bool) : Prop :=
  match o.guard with
  | none => w = true
  | some (j, want) => ∃ g, (ops[j]?).bind (·.dst) = some g ∧ ((∃ b, s.get g = .one (.bool b) ∧ w = (b == want)) ∨ (w = false ∧ ∃ v, s.get g = .one (.val v) ∧ notBool v = true))

/-- An operation's entry in the last state is what it yields there. -/
structure Ran (E : Env Ty den) (ops : Array Oper) (s : St Ty den) (o : Oper) : Prop where
  dst : okd E.nt o.dst = true
  ran : (Gd ops s o true ∧ ∃ e, (∀ d, o.dst = some d → s.get d = e) ∧ ∀ s2 : St Ty den, Sees o s s2 → OpTo E o s2 e) ∨
    (Gd ops s o false ∧ ∀ d, o.dst = some d → s.get d = .one (.val undef))

def dstL : List Oper → List Nat
  | [] => []
  | o :: r => match o.dst with
    | some d => d :: dstL r
    | none => dstL r

/-- Ahead: what an operation looks at is no slot of itself nor of a later one; the slots are parted. -/
def Ahead (ops : Array Oper) : List Oper → Prop
  | [] => True
  | o :: r => (∀ t ∈ o.looksAt ops, mem t (dstL (o :: r)) = false) ∧ (∀ d, o.dst = some d → mem d (dstL r) = false) ∧ Ahead ops r

theorem setO_ne {s : St Ty den} {d : Option Nat} {e : Ent Ty den} {i : Nat} (h : d ≠ some i) : (s.setO d e).get i = s.get i := by rw [get_setO, if_neg h]
theorem dst_mem {o : Oper} {r : List Oper} {d : Nat} (h : o.dst = some d) : mem d (dstL (o :: r)) = true := by
  simp only [dstL, h, mem, beq_self, cond_true]
theorem dst_mem_of {o : Oper} {r : List Oper} {d : Nat} (h : mem d (dstL r) = true) : mem d (dstL (o :: r)) = true := by
  simp only [dstL]
  cases o.dst with
  | none => exact h
  | some e => simp only [mem]; cases Nat.beq e d <;> simp [h]
theorem setO_live (s : St Ty den) (d : Option Nat) (e : Ent Ty den) : (s.setO d e).live = s.live := by cases d <;> rfl

theorem looks_op {ops : Array Oper} {o : Oper} {t : Nat} (h : Operand.tmp t ∈ o.op.operands.toList) : t ∈ o.looksAt ops :=
  List.mem_append_left _ (List.mem_filterMap.2 ⟨.tmp t, h, rfl⟩)
theorem looks_guard {ops : Array Oper} {o : Oper} {j g : Nat} {want : Bool} (hg : o.guard = some (j, want)) (hd : (ops[j]?).bind (·.dst) = some g) : g ∈ o.looksAt ops :=
  List.mem_append_right _ (by simp [hg, hd])

theorem evOpsD_ran (ops : Array Oper) (hpure : ∀ o ∈ ops.toList, pureOp E o = true) : ∀ (os : List Oper) (s : St Ty den) (k : St Ty den → Option R), (∀ o ∈ os, o ∈ ops.toList) → Ahead ops os → evOpsD E ops os s k = some r →
    ∃ sF : St Ty den, (k sF = some r ∧ noNm sF ops.toList = true) ∧ sF.live = s.live ∧ (∀ i, mem i (dstL os) = false → sF.get i = s.get i) ∧ ∀ o ∈ os, Ran E ops sF o
  | [], s, k, _, _, h => by
    simp only [evOpsD] at h
    obtain ⟨hn, h⟩ := bif_some h
    exact ⟨s, ⟨h, hn⟩, rfl, fun _ _ => rfl, fun _ ho => by cases ho⟩
  | o :: os, s, k, hin, ⟨ha1, ha2, ha3⟩, h => by
    simp only [evOpsD] at h
    obtain ⟨hd, h⟩ := bif_some h
    have again := fun (s1 : St Ty den) (h1 : evOpsD E ops os s1 k = some r) => evOpsD_ran ops hpure os s1 k (fun x hx => hin x (by simp [hx])) ha3 h1
    -- from the state behind the operation to the last one
    have back : ∀ (s1 sF : St Ty den) (e : Ent Ty den), s1.live = s.live → (∀ i, s1.get i = s.get i) → sF.live = (s1.setO o.dst e).live → (∀ i, mem i (dstL os) = false → sF.get i = (s1.setO o.dst e).get i) →
        sF.live = s.live ∧ (∀ i, mem i (dstL (o :: os)) = false → sF.get i = s.get i) ∧ (∀ d, o.dst = some d → sF.get d = e) := by
      intro s1 sF e hl hg hF1 hF2
      refine ⟨by rw [hF1, setO_live, hl], fun i hi => ?_, fun d hd' => ?_⟩
      · have h1 : mem i (dstL os) = false := by
          cases h2 : mem i (dstL os) with
          | false => rfl
          | true => rw [dst_mem_of h2] at hi; cases hi
        have h2 : o.dst ≠ some i := fun he => by rw [dst_mem he] at hi; cases hi
        rw [hF2 i h1, setO_ne h2, hg]
      · rw [hF2 d (ha2 d hd'), get_setO, if_pos hd']
    have sees : ∀ {sF : St Ty den}, sF.live = s.live → (∀ i, mem i (dstL (o :: os)) = false → sF.get i = s.get i) → ∀ s2, Sees o sF s2 → Sees o s s2 := fun hl hg s2 h2 =>
      ⟨h2.live.trans hl, fun t ht => (h2.tmp t ht).trans (hg t (ha1 t (looks_op ht)))⟩
    have main : ∀ (s1 : St Ty den), s1.live = s.live → (∀ i, s1.get i = s.get i) → evOpD E o s (fun e => evOpsD E ops os (s1.setO o.dst e) k) = some r → (∀ sF : St Ty den, sF.live = s.live → (∀ i, mem i (dstL (o :: os)) = false → sF.get i = s.get i) → Gd ops sF o true) →
        ∃ sF : St Ty den, (k sF = some r ∧ noNm sF ops.toList = true) ∧ sF.live = s.live ∧ (∀ i, mem i (dstL (o :: os)) = false → sF.get i = s.get i) ∧ ∀ x ∈ o :: os, Ran E ops sF x := by
      intro s1 hl hg he hgd
      obtain ⟨e, hk, hs2⟩ := pure_ev (hpure o (hin o (by simp))) (k1 := fun e => evOpsD E ops os (s1.setO o.dst e) k) he
      obtain ⟨sF, h1, h2, h3, h4⟩ := again _ hk
      obtain ⟨b1, b2, b3⟩ := back s1 sF e hl hg h2 h3
      refine ⟨sF, h1, b1, b2, fun x hx => ?_⟩
      rcases List.mem_cons.1 hx with rfl | hx
      · exact ⟨hd, .inl ⟨hgd sF b1 b2, e, b3, fun s2 h5 => hs2 s2 (sees b1 b2 s2 h5)⟩⟩
      · exact h4 x hx
    have skip : ∀ (s1 : St Ty den), s1.live = s.live → (∀ i, s1.get i = s.get i) → evOpsD E ops os (s1.setO o.dst (.one (.val undef))) k = some r → (∀ sF : St Ty den, sF.live = s.live → (∀ i, mem i (dstL (o :: os)) = false → sF.get i = s.get i) → Gd ops sF o false) →
        ∃ sF : St Ty den, (k sF = some r ∧ noNm sF ops.toList = true) ∧ sF.live = s.live ∧ (∀ i, mem i (dstL (o :: os)) = false → sF.get i = s.get i) ∧ ∀ x ∈ o :: os, Ran E ops sF x := by
      intro s1 hl hg he hgd
      obtain ⟨sF, h1, h2, h3, h4⟩ := again _ he
      obtain ⟨b1, b2, b3⟩ := back s1 sF _ hl hg h2 h3
      refine ⟨sF, h1, b1, b2, fun x hx => ?_⟩
      rcases List.mem_cons.1 hx with rfl | hx
      · exact ⟨hd, .inr ⟨hgd sF b1 b2, b3⟩⟩
      · exact h4 x hx
    cases hg : o.guard with
    | none =>
      rw [hg] at h
      exact main s rfl (fun _ => rfl) h (fun sF _ _ => by simp [Gd, hg])
    | some jw =>
      obtain ⟨j, want⟩ := jw
      rw [hg] at h
      dsimp only at h
      cases hj : (ops[j]?).bind (·.dst) with
      | none => rw [hj] at h; cases h
      | some gd =>
        rw [hj] at h
        dsimp only at h
        have hnot := ha1 gd (looks_guard hg hj)
        split at h
        · rename_i b hgb
          have hsame : ∀ c : Bool, b = c → ∀ i, (s.set gd (.one (.bool c))).get i = s.get i := fun c hc i => by
            rw [get_set]
            split
            · rename_i he; subst he; rw [hgb, hc]
            · rfl
          cases hbw : (b == want) with
          | true =>
            rw [hbw] at h
            exact main _ (by rfl) (hsame want (by simpa using hbw)) h (fun sF _ hgF => by
              simp only [Gd, hg]
              exact ⟨gd, hj, .inl ⟨b, by rw [hgF gd hnot, hgb], hbw.symm⟩⟩)
          | false =>
            rw [hbw] at h
            exact skip _ (by rfl) (hsame _ (by cases b <;> cases want <;> simp_all)) h (fun sF _ hgF => by
              simp only [Gd, hg]
              exact ⟨gd, hj, .inl ⟨b, by rw [hgF gd hnot, hgb], hbw.symm⟩⟩)
        · rename_i v hgv
          obtain ⟨hnb, h⟩ := bif_some h
          exact skip s rfl (fun _ => rfl) h (fun sF _ hgF => by
              simp only [Gd, hg]
              exact ⟨gd, hj, .inr ⟨trivial, v, by rw [hgF gd hnot, hgv], hnb⟩⟩)
        · cases h

/-! ### the schedule -/
/-- Slots of the operations that are not listed yet. -/
def undone (listed : Array Bool) : List (Nat × Nat) → List Nat
  | [] => []
  | (d, j) :: r => bif listed.getD j false then undone listed r else d :: undone listed r

theorem mem_undone {listed : Array Bool} {t : Nat} : ∀ {ps : List (Nat × Nat)}, mem t (undone listed ps) = true ↔ ∃ j, (t, j) ∈ ps ∧ listed.getD j false = false
  | [] => by simp [undone, mem]
  | (d, j) :: r => by
    simp only [undone]
    have ih := mem_undone (listed := listed) (t := t) (ps := r)
    cases hl : listed.getD j false with
    | true =>
      simp only [cond_true, ih, List.mem_cons, Prod.mk.injEq]
      constructor
      · rintro ⟨m, h1, h2⟩; exact ⟨m, .inr h1, h2⟩
      · rintro ⟨m, h1 | h1, h2⟩
        · rw [h1.2, hl] at h2; cases h2
        · exact ⟨m, h1, h2⟩
    | false =>
      simp only [cond_false, mem_cons, ih, List.mem_cons, Prod.mk.injEq]
      constructor
      · rintro (h1 | ⟨m, h1, h2⟩)
        · exact ⟨j, .inl ⟨by rw [h1], rfl⟩, hl⟩
        · exact ⟨m, .inr h1, h2⟩
      · rintro ⟨m, h1 | h1, h2⟩
        · exact .inl (by rw [h1.1])
        · exact .inr ⟨m, h1, h2⟩

theorem mem_dPairs {d j : Nat} : ∀ {os : List Oper} {i : Nat}, (d, j) ∈ dPairs i os ↔ i ≤ j ∧ ∃ o, os[j - i]? = some o ∧ o.dst = some d
  | [], i => by simp [dPairs]
  | o :: os, i => by
    have ih := mem_dPairs (d := d) (j := j) (os := os) (i := i + 1)
    have hcases : (i ≤ j ∧ ∃ x, (o :: os)[j - i]? = some x ∧ x.dst = some d) ↔ ((j = i ∧ o.dst = some d) ∨ (i + 1 ≤ j ∧ ∃ x, os[j - (i + 1)]? = some x ∧ x.dst = some d)) := by
      rcases Nat.lt_trichotomy j i with h | h | h
      · constructor
        · rintro ⟨h1, _⟩; omega
        · rintro (⟨h1, _⟩ | ⟨h1, _⟩) <;> omega
      · subst h; simp; intro h; omega
      · have e : j - i = (j - (i + 1)) + 1 := by omega
        rw [e]
        simp only [List.getElem?_cons_succ]
        constructor
        · rintro ⟨_, h2⟩; exact .inr ⟨h, h2⟩
        · rintro (⟨h1, _⟩ | ⟨_, h2⟩)
          · omega
          · exact ⟨by omega, h2⟩
    rw [hcases]
    cases hd : o.dst with
    | none => simp only [dPairs, hd, ih]; simp
    | some e =>
      simp only [dPairs, hd, List.mem_cons, Prod.mk.injEq, ih, Option.some.injEq]
      constructor
      · rintro (⟨h1, h2⟩ | h)
        · exact .inl ⟨h2, h1.symm⟩
        · exact .inr h
      · rintro (⟨h1, h2⟩ | h)
        · exact .inl ⟨h2.symm, h1⟩
        · exact .inr h
theorem dPairs_fst : ∀ (os : List Oper) (i : Nat), (dPairs i os).map (·.1) = dstL os
  | [], i => rfl
  | o :: os, i => by
    simp only [dPairs, dstL]
    cases o.dst with
    | none => exact dPairs_fst os (i + 1)
    | some d => simp only [List.map_cons, dPairs_fst os (i + 1)]

structure OpOk (E : Env Ty den) (ops : Array Oper) (i : Nat) (o : Oper) : Prop where
  pure : pureOp E o = true
  after : ∀ e ∈ o.after, e.on < i
  bound : ∀ t ∈ o.looksAt ops, ∀ j, (t, j) ∈ dPairs 0 ops.toList → boundBy o j = true

theorem opsOk_spec {ops : Array Oper} {ps : List (Nat × Nat)} (hps : ps = dPairs 0 ops.toList) : ∀ {os : List Oper} {i : Nat}, opsOk E ops ps i os = true → ∀ j o, os[j]? = some o → OpOk E ops (i + j) o
  | [], i, _, j, o, h => by simp at h
  | x :: os, i, h, 0, o, ho => by
    simp only [opsOk, Bool.and_eq_true] at h
    simp only [List.getElem?_cons_zero, Option.some.injEq] at ho
    subst ho
    have h1 := h.1
    simp only [opOk, Bool.and_eq_true, List.all_eq_true] at h1
    obtain ⟨h1, h2, h3⟩ := h1
    refine ⟨h1, fun e he => ?_, fun t ht j hj => ?_⟩
    · have := h2 e (by simpa using he)
      simpa [Nat.blt_eq] using this
    · have h4 := h3 t ht (t, j) (by rw [hps]; exact hj)
      simpa [beq_self] using h4
  | x :: os, i, h, j + 1, o, ho => by
    simp only [opsOk, Bool.and_eq_true] at h
    have := opsOk_spec hps h.2 j o (by simpa using ho)
    rwa [Nat.add_assoc, Nat.add_comm 1 j] at this

theorem boundBy_spec {o : Oper} {j : Nat} (h : boundBy o j = true) (md : Region.Mode) : ∃ e ∈ o.after, e.on = j ∧ Region.binds md e = true := by
  unfold boundBy at h
  obtain ⟨e, he, h1⟩ := List.any_eq_true.1 h
  simp only [Bool.and_eq_true] at h1
  refine ⟨e, by simpa using he, Nat.eq_of_beq_eq_true h1.1, ?_⟩
  unfold Region.binds
  have h2 := h1.2
  split at h2 <;> first | cases h2; done | skip
  split <;> first | rfl | (rename_i h3 _ _ h4; simp_all)

theorem nodupB_spec : ∀ {l : List Nat}, nodupB l = true → ∀ x r, l = x :: r → mem x r = false ∧ nodupB r = true
  | [], _, x, r, h => by cases h
  | y :: l, h, x, r, he => by
    cases he
    simpa [nodupB] using h

theorem ahead_of {ops : Array Oper} (hok : ∀ j o, ops.toList[j]? = some o → OpOk E ops j o) : ∀ (os : List Oper) (i : Nat), (∀ j o, os[j]? = some o → ops.toList[i + j]? = some o) → nodupB (dstL os) = true → Ahead ops os
  | [], i, _, _ => trivial
  | o :: os, i, hin, hn => by
    have ho := hok i o (hin 0 o rfl)
    refine ⟨fun t ht => ?_, fun d hd => ?_, ahead_of hok os (i + 1) (fun j x hx => by have := hin (j + 1) x (by simpa using hx); rwa [← Nat.add_assoc, Nat.add_right_comm] at this) ?_⟩
    · cases hm : mem t (dstL (o :: os)) with
      | false => rfl
      | true =>
        exfalso
        -- some operation here or later has that slot: it must stand ahead
        have hex : ∀ (l : List Oper), mem t (dstL l) = true → ∃ (j : Nat) (x : Oper), l[j]? = some x ∧ x.dst = some t := by
          intro l
          induction l with
          | nil => intro h; simp [dstL, mem] at h
          | cons y l ih =>
            intro h
            simp only [dstL] at h
            cases hy : y.dst with
            | none => rw [hy] at h; obtain ⟨j, x, h1, h2⟩ := ih h; exact ⟨j + 1, x, by simpa using h1, h2⟩
            | some d =>
              rw [hy] at h
              rcases (mem_cons _ _ _).1 h with h1 | h1
              · exact ⟨0, y, rfl, by rw [hy, h1]⟩
              · obtain ⟨j, x, h2, h3⟩ := ih h1; exact ⟨j + 1, x, by simpa using h2, h3⟩
        obtain ⟨j, x, hx, hxd⟩ := hex _ hm
        have h1 := hin j x hx
        have h2 := ho.bound t ht (i + j) (mem_dPairs.2 ⟨Nat.zero_le _, x, by simpa using h1, hxd⟩)
        obtain ⟨e, he, he2, _⟩ := boundBy_spec h2 .any
        have := ho.after e he
        omega
    · simp only [dstL, hd] at hn
      exact (nodupB_spec hn _ _ rfl).1
    · simp only [dstL] at hn
      cases hd : o.dst with
      | none => rw [hd] at hn; exact hn
      | some d => rw [hd] at hn; exact (nodupB_spec hn _ _ rfl).2

theorem count_set {l : List Bool} : ∀ {i : Nat}, l[i]? = some false → (l.set i true).count false + 1 = l.count false := by
  induction l with
  | nil => intro i h; simp at h
  | cons x l ih =>
    intro i h
    cases i with
    | zero => simp at h; subst h; simp
    | succ i =>
      have := ih (i := i) (by simpa using h)
      simp only [List.set_cons_succ, List.count_cons]
      omega

theorem wanted_of {ops : Array Oper} {o : Oper} {s : St Ty den} {gh : Gh} (hr : Rel E.U B gh s a w) {b : Bool} (hg : Gd ops s o b) : Region.wanted o (yielded ops a.tmps) = b := by
  unfold Gd at hg
  unfold Region.wanted
  cases ho : o.guard with
  | none => rw [ho] at hg; exact hg.symm
  | some jw =>
    obtain ⟨j, want⟩ := jw
    rw [ho] at hg
    dsimp only at hg ⊢
    obtain ⟨gd, hj, hc⟩ := hg
    have hent := hr.ent gd
    unfold yielded
    rw [hj]
    simp only [Option.bind_some]
    rcases hc with ⟨c, hc, rfl⟩ | ⟨rfl, v, hv, hnb⟩
    · rw [hc] at hent
      have hval : a.tmps.getD gd undef = .bool c := CRep.bool_inv hent.1
      rw [Array.getD_eq_getD_getElem?] at hval
      cases hg2 : a.tmps[gd]? with
      | none => rw [hg2] at hval; cases hval
      | some u =>
        rw [hg2] at hval
        simp at hval
        subst hval
        cases c <;> cases want <;> rfl
    · rw [hv] at hent
      have hval : a.tmps.getD gd undef = v := by
        have h1 := hent.1
        cases h1
        rfl
      rw [Array.getD_eq_getD_getElem?] at hval
      cases hg2 : a.tmps[gd]? with
      | none => rfl
      | some u =>
        rw [hg2] at hval
        simp at hval
        subst hval
        cases u <;> first | rfl | (simp [notBool] at hnb; done) | (cases want <;> rfl)

theorem REL.unname {U : UO Ty den} {s : St Ty den} {d : Option Nat} {nm : Nat} {u : Ty} {xs : List (den u)} {a : Act} {w : World} (h : REL U B ((s.fresh nm).setO d (.one (.sl u xs (some nm)))) a w) (hno : ∀ i, (s.get i).strip nm = s.get i) :
    REL U B (s.setO d (.one (.sl u xs none))) a w := by
  obtain ⟨g, h⟩ := h
  have hg : ∀ i, d ≠ some i → ((s.fresh nm).setO d (.one (.sl u xs (some nm)))).get i = s.get i := fun i hi => by
    rw [get_setO, if_neg hi, get_fresh, hno]
  have hlive : ∀ e, mem e (s.setO d (.one (.sl u xs none))).live = true → mem e ((s.fresh nm).setO d (.one (.sl u xs (some nm)))).live = true := fun e he => by
    rw [setO_live] at he ⊢
    show mem e (nm :: rem nm s.live) = true
    by_cases hne : nm = e
    · exact (mem_cons _ _ _).2 (.inl hne)
    · exact (mem_cons _ _ _).2 (.inr ((mem_rem nm e s.live).2 ⟨he, fun h => hne h.symm⟩))
  refine ⟨g, { h with ent := fun i => ?_, tip := fun e he => h.tip e (hlive e he), disj := fun e f b he hf => h.disj e f b (hlive e he) (hlive f hf), mine := fun e b he => h.mine e b (hlive e he), deep := fun e he => h.deep e (hlive e he), dsep := fun e f b he hep hf => h.dsep e f b (hlive e he) hep (hlive f hf), ddis := fun e f b he hep hf => h.ddis e f b (hlive e he) hep (hlive f hf), iter := fun i c pos hc => ?_, idis := fun i j c p c' p' hij h1 h2 => ?_ }⟩
  · have h1 := h.ent i
    by_cases hi : d = some i
    · rw [get_setO, if_pos hi] at h1 ⊢
      exact ⟨h1.1.own none, fun _ _ _ e => by simp at e⟩
    · rw [hg i hi] at h1
      rw [get_setO, if_neg hi]; exact h1
  · by_cases hi : d = some i
    · rw [get_setO, if_pos hi] at hc; cases hc
    · rw [get_setO, if_neg hi] at hc
      exact h.iter i c pos (by rw [hg i hi]; exact hc)
  · by_cases hi : d = some i
    · rw [get_setO, if_pos hi] at h1; cases h1
    · by_cases hj : d = some j
      · rw [get_setO, if_pos hj] at h2; cases h2
      · rw [get_setO, if_neg hi] at h1
        rw [get_setO, if_neg hj] at h2
        exact h.idis i j c p c' p' hij (by rw [hg i hi]; exact h1) (by rw [hg j hj]; exact h2)

theorem evDraw_any (hE : EnvOk P E B) {ops : Array Oper} {md : Region.Mode} {Q : Exit → Act → World → Prop} {sF : St Ty den}
    (hok : ∀ j o, ops.toList[j]? = some o → OpOk E ops j o) (hran : ∀ o ∈ ops.toList, Ran E ops sF o) (hno : noNm sF ops.toList = true)
    (hQ : ∀ a w, REL E.U B sF a w → a.tmps.size = E.nt → Q .normal a w) :
    ∀ (fuel : Nat) (listed : Array Bool) (a : Act) (w : World), listed.size = ops.size → listed.toList.count false ≤ fuel → REL E.U B (sF.dels (undone listed (dPairs 0 ops.toList))) a w → a.tmps.size = E.nt →
      wpAny P md ops Q fuel listed a w := by
  have hget : ∀ {i : Nat} {o : Oper}, ops[i]? = some o → ops.toList[i]? = some o := fun h => by simpa using h
  -- nothing ready: all is listed
  have hend : ∀ (listed : Array Bool) (a : Act) (w : World), listed.size = ops.size → REL E.U B (sF.dels (undone listed (dPairs 0 ops.toList))) a w → a.tmps.size = E.nt → Region.ready md ops listed = [] → Q .normal a w := by
    intro listed a w hsz hr hnt hready
    have hall : ∀ n i, i < n → i < ops.size → listed.getD i false = true := by
      intro n
      induction n with
      | zero => intro i h; omega
      | succ n ih =>
        intro i hi hlt
        cases hl : listed.getD i false with
        | true => rfl
        | false =>
          exfalso
          have hm : i ∈ Region.ready md ops listed := by
            rw [mem_ready]
            refine ⟨?_, ops[i], Array.getElem?_eq_getElem hlt, fun e he _ => ?_⟩
            · have h1 : i < listed.size := by omega
              rw [Array.getD_eq_getD_getElem?, Array.getElem?_eq_getElem h1] at hl ⊢
              simpa using hl
            · have h1 := (hok i ops[i] (hget (Array.getElem?_eq_getElem hlt))).after e he
              exact ih e.on (by omega) (by omega)
          rw [hready] at hm; cases hm
    obtain ⟨g, hr⟩ := hr
    refine hQ a w ⟨g, hr.weaken (fun i => ?_) (fun d hd => hd)⟩ hnt
    right
    rw [get_dels]
    cases hm : mem i (undone listed (dPairs 0 ops.toList)) with
    | false => rfl
    | true =>
      exfalso
      obtain ⟨j, hj, hl⟩ := mem_undone.1 hm
      obtain ⟨_, o, ho, _⟩ := mem_dPairs.1 hj
      have hlt : j < ops.size := by
        have := (List.getElem?_eq_some_iff.1 ho).1
        simpa using this
      rw [hall (j + 1) j (by omega) hlt] at hl
      cases hl
  -- one step
  have hstep : ∀ (fuel : Nat) (listed : Array Bool) (a : Act) (w : World), (∀ (listed : Array Bool) (a : Act) (w : World), listed.size = ops.size → listed.toList.count false ≤ fuel → REL E.U B (sF.dels (undone listed (dPairs 0 ops.toList))) a w → a.tmps.size = E.nt → wpAny P md ops Q fuel listed a w) →
      listed.size = ops.size → listed.toList.count false ≤ fuel + 1 → REL E.U B (sF.dels (undone listed (dPairs 0 ops.toList))) a w → a.tmps.size = E.nt → ∀ i ∈ Region.ready md ops listed, wpOp P ops Q i (wpAny P md ops Q fuel (listed.setIfInBounds i true)) a w := by
    intro fuel listed a w ih hsz hcnt ⟨g, hr⟩ hnt i hi
    obtain ⟨hun, o, ho, hafter⟩ := mem_ready.1 hi
    have hoL : o ∈ ops.toList := List.mem_of_getElem? (hget ho)
    have hlt : i < ops.size := (Array.getElem?_eq_some_iff.1 ho).1
    have hO := hok i o (hget ho)
    have hR := hran o hoL
    have hfalse : listed.toList[i]? = some false := by
      have h1 : i < listed.size := by omega
      rw [Array.getD_eq_getD_getElem?, Array.getElem?_eq_getElem h1] at hun
      simp at hun
      rw [Array.getElem?_toList, Array.getElem?_eq_getElem h1, hun]
    -- what it looks at is listed
    have hsee : ∀ t ∈ o.looksAt ops, mem t (undone listed (dPairs 0 ops.toList)) = false := by
      intro t ht
      cases hm : mem t (undone listed (dPairs 0 ops.toList)) with
      | false => rfl
      | true =>
        exfalso
        obtain ⟨j, hj, hl⟩ := mem_undone.1 hm
        obtain ⟨e, he, rfl, hb⟩ := boundBy_spec (hO.bound t ht j hj) md
        rw [hafter e he hb] at hl; cases hl
    have hgetm : ∀ t ∈ o.looksAt ops, (sF.dels (undone listed (dPairs 0 ops.toList))).get t = sF.get t := fun t ht => by
      rw [get_dels, hsee t ht]; rfl
    have hlist : ∀ j, (listed.setIfInBounds i true).getD j false = false ↔ listed.getD j false = false ∧ j ≠ i := by
      intro j
      by_cases hij : i = j
      · subst hij
        have h1 : i < listed.size := by omega
        simp [h1]
      · rw [getD_set_ne false hij]
        constructor
        · exact fun h => ⟨h, fun e => hij e.symm⟩
        · exact fun h => h.1
    have hnext : ∀ (e : Ent Ty den) (a' : Act) (w' : World), (∀ d, o.dst = some d → sF.get d = e) → REL E.U B ((sF.dels (undone listed (dPairs 0 ops.toList))).setO o.dst e) a' w' → a'.tmps.size = E.nt →
        wpAny P md ops Q fuel (listed.setIfInBounds i true) a' w' := by
      intro e a' w' hde ⟨g', hr'⟩ hnt'
      refine ih _ _ _ (by simp [hsz]) ?_ ⟨g', hr'.weaken (fun t => ?_) (fun d hd => by rw [setO_live]; exact hd)⟩ hnt'
      · have := count_set hfalse
        rw [Array.toList_setIfInBounds]
        omega
      · rw [get_dels, get_setO, get_dels]
        cases hm : mem t (undone (listed.setIfInBounds i true) (dPairs 0 ops.toList)) with
        | true => left; rfl
        | false =>
          right
          simp only [cond_false]
          by_cases hd : o.dst = some t
          · rw [if_pos hd]; exact hde t hd
          · rw [if_neg hd]
            cases hm2 : mem t (undone listed (dPairs 0 ops.toList)) with
            | false => rfl
            | true =>
              exfalso
              obtain ⟨j, hj, hl⟩ := mem_undone.1 hm2
              have hji : j ≠ i := by
                rintro rfl
                obtain ⟨_, o', ho', hd'⟩ := mem_dPairs.1 hj
                rw [Nat.sub_zero, hget ho] at ho'
                cases ho'
                exact hd hd'
              have : mem t (undone (listed.setIfInBounds i true) (dPairs 0 ops.toList)) = true := mem_undone.2 ⟨j, hj, (hlist j).2 ⟨hl, hji⟩⟩
              rw [this] at hm; cases hm
    have hgd : ∀ b, Gd ops sF o b → Region.wanted o (yielded ops a.tmps) = b := by
      intro b hb
      refine wanted_of hr ?_
      unfold Gd at hb ⊢
      cases hog : o.guard with
      | none => rw [hog] at hb; exact hb
      | some jw =>
        obtain ⟨j, want⟩ := jw
        rw [hog] at hb
        dsimp only at hb ⊢
        obtain ⟨gd, hj, hc⟩ := hb
        refine ⟨gd, hj, ?_⟩
        rw [hgetm gd (looks_guard hog hj)]
        exact hc
    have hd : ∀ d, o.dst = some d → d < a.tmps.size := fun d hd => by rw [hnt]; exact okd_spec hR.dst d hd
    unfold wpOp
    rw [ho]
    dsimp only
    rcases hR.ran with ⟨h1, e, h2, h3⟩ | ⟨h1, h2⟩
    · rw [if_pos (hgd true h1)]
      refine .inl ?_
      have h4 := h3 (sF.dels (undone listed (dPairs 0 ops.toList))) ⟨rfl, fun t ht => hgetm t (looks_op ht)⟩
      rcases h4 with h4 | ⟨⟨t, nn, ps, hop⟩, u, xs, rfl, h4⟩
      · refine evOp_sound hE h4 hr hd ?_
        intro e' s' v w' he hrel
        simp only [Option.some.injEq, Prod.mk.injEq] at he
        obtain ⟨rfl, rfl⟩ := he
        exact hnext _ _ _ h2 hrel (by rw [size_put]; exact hnt)
      · refine evOp_sound hE h4 hr hd ?_
        intro e' s' v w' he hrel
        simp only [Option.some.injEq, Prod.mk.injEq] at he
        obtain ⟨rfl, rfl⟩ := he
        refine hnext _ _ _ h2 (REL.unname hrel (fun i => ?_)) (by rw [size_put]; exact hnt)
        rw [get_dels]
        cases mem i (undone listed (dPairs 0 ops.toList)) with
        | true => rfl
        | false => exact noNm_spec hno o hoL t nn ps hop i
    · rw [hgd false h1]
      simp only [Bool.false_eq_true, if_false]
      exact hnext _ _ _ h2 (REL.setO hr (e := .one (.val undef)) ⟨.val _, fun _ _ _ he => by cases he⟩ rfl o.dst hd) (by rw [size_put]; exact hnt)
  intro fuel
  induction fuel with
  | zero =>
    intro listed a w hsz hcnt hr hnt
    have hready : Region.ready md ops listed = [] := by
      cases hrd : Region.ready md ops listed with
      | nil => rfl
      | cons i l =>
        exfalso
        have hi : i ∈ Region.ready md ops listed := by rw [hrd]; simp
        obtain ⟨hun, o, ho, _⟩ := mem_ready.1 hi
        have h1 : i < listed.size := by rw [hsz]; exact (Array.getElem?_eq_some_iff.1 ho).1
        rw [Array.getD_eq_getD_getElem?, Array.getElem?_eq_getElem h1] at hun
        simp at hun
        have h2 : false ∈ listed.toList := by
          rw [← hun]; simp
        have := List.count_pos_iff.2 h2
        omega
    exact ⟨hready, hend listed a w hsz hr hnt hready⟩
  | succ fuel ih =>
    intro listed a w hsz hcnt hr hnt
    exact ⟨hend listed a w hsz hr hnt, hstep fuel listed a w ih hsz hcnt hr hnt⟩

theorem evDraw_sound (hE : EnvOk P E B) {Q : Exit → Act → World → Prop} (id : Nat) (ops : Array Oper) (hok : drawOk E ops = true) (s : St Ty den) (a : Act) (w : World) (k : St Ty den → Option R)
    (h : evOpsD E ops ops.toList (s.dels ((dPairs 0 ops.toList).map (·.1))) k = some r) (hr : REL E.U B s a w) (hsz : a.tmps.size = E.nt)
    (hk : ∀ s' a' w', k s' = some r → REL E.U B s' a' w' → a'.tmps.size = E.nt → Q .normal a' w') : (Code.region id ops true).wp P Q a w := by
  simp only [drawOk, Bool.and_eq_true] at hok
  have hall : ∀ j o, ops.toList[j]? = some o → OpOk E ops j o := fun j o ho => by
    have := opsOk_spec rfl hok.1 j o ho
    rwa [Nat.zero_add] at this
  have hpure : ∀ o ∈ ops.toList, pureOp E o = true := fun o ho => by
    obtain ⟨j, hj, rfl⟩ := List.getElem_of_mem ho
    exact (hall j _ (List.getElem?_eq_getElem hj)).pure
  have hn := hok.2
  rw [dPairs_fst] at hn h
  obtain ⟨sF, ⟨h1, hno⟩, h2, h3, h4⟩ := evOpsD_ran ops hpure ops.toList _ k (fun _ h => h) (ahead_of hall ops.toList 0 (fun j o hj => by simpa using hj) hn) h
  obtain ⟨g, hr⟩ := hr
  have hr1 : REL E.U B (sF.dels (undone (Array.replicate ops.size false) (dPairs 0 ops.toList))) a { w with drawn := w.drawn + 1 } := by
    have hr2 := hr.drew hE.U
    refine ⟨g, Rel.weaken hr2 (fun i => ?_) (fun d hd => ?_)⟩
    · rw [get_dels]
      have hmem : mem i (undone (Array.replicate ops.size false) (dPairs 0 ops.toList)) = mem i (dstL ops.toList) := by
        rw [← dPairs_fst ops.toList 0]
        generalize dPairs 0 ops.toList = ps
        induction ps with
        | nil => rfl
        | cons p ps ih =>
          obtain ⟨d, j⟩ := p
          have : (Array.replicate ops.size false).getD j false = false := by
            rw [Array.getD_eq_getD_getElem?, Array.getElem?_replicate]
            split <;> rfl
          simp only [undone, this, cond_false, mem, List.map_cons, ih]
      rw [hmem]
      cases hm : mem i (dstL ops.toList) with
      | true => left; rfl
      | false => right; simp only [cond_false]; rw [h3 i hm, get_dels, hm]; rfl
    · have h5 : sF.live = s.live := h2
      have h6 : (sF.dels (undone (Array.replicate ops.size false) (dPairs 0 ops.toList))).live = sF.live := rfl
      rw [h6, h5] at hd; exact hd
  have hany := fun md => evDraw_any (B := B) (md := md) (Q := Q) hE hall h4 hno (fun a' w' hr' hnt' => hk sF a' w' h1 hr' hnt') ops.size (Array.replicate ops.size false) a _ (by simp) (by
    simp) hr1 hsz
  refine wp_region_draw fun t => ?_
  unfold Region.schedule
  split
  · exact wpAny_sound _ _ _ _ _ (hany .any)
  · split
    · exact wpAny_sound _ _ _ _ _ (hany .text)
    · exact wpAny_sound _ _ _ _ _ (hany .gc)
end
end Go.Aev
end

section
set_option linter.unusedVariables false
open Go.Lib
namespace Go.Aev
variable {Ty : Type} {den : Ty → Type}
section
variable {E : Env Ty den} {B : Bs} {g : Gh} {s : St Ty den} {a : Act} {w : World}
variable {P : Program} {R : Type} {o : Oper} {k : Ent Ty den → St Ty den → Option R} {r : R} {next : Act → World → Prop} {Q : Exit → Act → World → Prop}

/-- How the model's exits are met by the abstract ones. -/
def exOf : Ex → Exit
  | .normal => .normal
  | .exit id => .exit id
  | .ret => .ret

def Meets (E : Env Ty den) (B : Bs) (k : Ex → St Ty den → Option R) (r : R) (Q : Exit → Act → World → Prop) : Prop :=
  ∀ e s a w, k e s = some r → REL E.U B s a w → a.tmps.size = E.nt → Q (exOf e) a w

theorem evLoop_sound {c : Code} {body : St Ty den → (Ex → St Ty den → Option R) → Option R}
    (hbody : ∀ (s : St Ty den) (a : Act) (w : World) (k : Ex → St Ty den → Option R) (Q : Exit → Act → World → Prop), body s k = some r → REL E.U B s a w → a.tmps.size = E.nt → Meets E B k r Q → c.wp P Q a w) :
    ∀ (n : Nat) (s : St Ty den) (a : Act) (w : World) (k : Ex → St Ty den → Option R) (Q : Exit → Act → World → Prop), evLoop body n s k = some r → REL E.U B s a w → a.tmps.size = E.nt → Meets E B k r Q →
      ∀ (b : Frame) (kk : List Item) (cs : List Frame), ∃ e a' w', Q e a' w' ∧ Arrives P (lone (b.at a (.code c :: .inLoop c :: kk)) cs w) b kk cs e a' w'
  | 0, s, a, w, k, Q, h, hr, hsz, hm, b, kk, cs => by cases h
  | n + 1, s, a, w, k, Q, h, hr, hsz, hm, b, kk, cs => by
    simp only [evLoop] at h
    have h1 := hbody s a w _ (fun e a' w' => match e with
      | .normal => ∀ (b : Frame) (kk : List Item) (cs : List Frame), ∃ e a'' w'', Q e a'' w'' ∧ Arrives P (lone (b.at a' (.code c :: .inLoop c :: kk)) cs w') b kk cs e a'' w''
      | e => Q e a' w') h hr hsz (fun e s' a' w' hk hr' hsz' => by
        cases e with
        | normal => exact evLoop_sound hbody n s' a' w' k Q hk hr' hsz' hm
        | exit id => exact hm _ _ _ _ hk hr' hsz'
        | ret => exact hm _ _ _ _ hk hr' hsz')
    obtain ⟨e, a₁, w₁, hq, harr⟩ := h1 b (.inLoop c :: kk) cs
    cases e with
    | normal =>
      obtain ⟨e₂, a₂, w₂, hq₂, harr₂⟩ := hq b kk cs
      exact ⟨e₂, a₂, w₂, hq₂, .of_steps (Steps.trans harr (.one step_inLoop)) harr₂⟩
    | exit id => exact ⟨_, a₁, w₁, hq, .pass (x := .inLoop c) rfl (fun _ _ => .inl (by simp)) harr⟩
    | goto l => exact ⟨_, a₁, w₁, hq, .pass (x := .inLoop c) rfl (fun _ _ => .inl (by simp)) harr⟩
    | ret => exact ⟨_, a₁, w₁, hq, .pass (x := .inLoop c) rfl (fun _ _ => .inl (by simp)) harr⟩
    | panic ch => exact ⟨_, a₁, w₁, hq, .pass (x := .inLoop c) rfl (fun _ _ => .inl (by simp)) harr⟩
    | outgrown => exact ⟨_, a₁, w₁, hq, .pass (x := .inLoop c) rfl (fun _ _ => .inl (by simp)) harr⟩

theorem evCode_sound (hE : EnvOk P E B) (n : Nat) : ∀ (c : Code) (s : St Ty den) (a : Act) (w : World) (k : Ex → St Ty den → Option R) (Q : Exit → Act → World → Prop), evCode E n c s k = some r → REL E.U B s a w → a.tmps.size = E.nt → Meets E B k r Q → c.wp P Q a w := by
  intro c
  induction c with
  | skip => intro s a w k Q h hr hsz hm; exact wp_skip (hm .normal s a w h hr hsz)
  | region id ops draw =>
    intro s a w k Q h hr hsz hm
    cases draw with
    | true =>
      simp only [evCode] at h
      obtain ⟨hok, h⟩ := bif_some h
      exact evDraw_sound hE id ops hok s a w _ h hr hsz (fun s' a' w' hk ⟨g', hr'⟩ hsz' => hm .normal _ _ _ hk ⟨g', hr'.clean _⟩ hsz')
    | false =>
      simp only [evCode] at h
      exact wp_region_list (evOps_sound hE ops ops.toList s a w _ h hr hsz (fun s' a' w' hk ⟨g', hr'⟩ hsz' => hm .normal _ _ _ hk ⟨g', hr'.clean _⟩ hsz'))
  | seq x y ihx ihy =>
    intro s a w k Q h hr hsz hm
    simp only [evCode] at h
    refine wp_seq (ihx s a w _ _ h hr hsz ?_)
    intro e s' a' w' hk hr' hsz'
    cases e with
    | normal => exact ihy s' a' w' k Q hk hr' hsz' hm
    | exit id => exact hm _ _ _ _ hk hr' hsz'
    | ret => exact hm _ _ _ _ hk hr' hsz'
  | cond c x y ihx ihy =>
    intro s a w k Q h hr hsz hm
    obtain ⟨g, hr⟩ := hr
    simp only [evCode] at h
    split at h
    · rename_i t hc
      have hcv := opl_bool hr hc
      cases t with
      | true => exact wp_cond_true hcv (ihx s a w k Q h ⟨g, hr⟩ hsz hm)
      | false => exact wp_cond_false hcv (ihy s a w k Q h ⟨g, hr⟩ hsz hm)
    · cases h
  | block id c ih =>
    intro s a w k Q h hr hsz hm
    simp only [evCode] at h
    refine wp_block (ih s a w _ _ h hr hsz ?_)
    intro e s' a' w' hk hr' hsz'
    cases e with
    | normal => exact hm .normal _ _ _ hk hr' hsz'
    | ret => exact hm .ret _ _ _ hk hr' hsz'
    | exit j =>
      simp only [blockK] at hk
      simp only [exOf, Exit.inBlock]
      cases hj : Nat.beq j id with
      | true =>
        rw [hj] at hk
        rw [if_pos ((beq_iff j id).1 hj)]
        exact hm .normal _ _ _ hk hr' hsz'
      | false =>
        rw [hj] at hk
        rw [if_neg (fun e => by rw [(beq_iff j id).2 e] at hj; cases hj)]
        exact hm (.exit j) _ _ _ hk hr' hsz'
  | loop c ih =>
    intro s a w k Q h hr hsz hm
    simp only [evCode] at h
    intro b kk cs
    obtain ⟨g, hr⟩ := hr
    obtain ⟨e, a', w', hq, harr⟩ := evLoop_sound (c := c) (fun s a w k Q h hr hsz hm => ih _ a w _ Q h hr hsz (fun e s' a' w' hk ⟨g', hr'⟩ hsz' => by
      cases e with
      | normal => exact hm .normal _ _ _ hk ⟨g', hr'.clean _⟩ hsz'
      | exit id => exact hm _ _ _ _ hk ⟨g', hr'⟩ hsz'
      | ret => exact hm _ _ _ _ hk ⟨g', hr'⟩ hsz')) n _ a w k Q h ⟨g, hr.clean _⟩ hsz hm b kk cs
    exact ⟨e, a', w', hq, .of_steps (.one step_loop) harr⟩
  | exit id => intro s a w k Q h hr hsz hm; exact wp_exit (hm (.exit id) s a w h hr hsz)
  | ret => intro s a w k Q h hr hsz hm; exact wp_ret (hm .ret s a w h hr hsz)
  | rangeFunc f p x y => intro s a w k Q h; simp only [evCode] at h; cases h
  | scope c => intro s a w k Q h; simp only [evCode] at h; cases h
  | label l => intro s a w k Q h; simp only [evCode] at h; cases h
  | goto l => intro s a w k Q h; simp only [evCode] at h; cases h
  | refuse wy => intro s a w k Q h; simp only [evCode] at h; cases h
end
end Go.Aev
end

section
set_option linter.unusedVariables false
open Go.Lib
namespace Go.Aev
variable {Ty : Type} {den : Ty → Type}

def packN : Nat → St Ty den → List ResultVar → List (Nat × Nat)
  | _, _, [] => []
  | j, s, .tmp t :: r => match s.get t with
    | .one (.sl _ _ (some d)) => bif mem d s.live && Nat.blt j 1000 then (pkN d j, d) :: packN (j + 1) (s.kill d) r else packN (j + 1) (s.kill d) r
    | _ => packN (j + 1) s r
  | _, _, _ => []

theorem mem_kill {s : St Ty den} {d e : Nat} : mem e (s.kill d).live = true ↔ mem e s.live = true ∧ e ≠ d := mem_rem d e s.live

def LowN (j c d : Nat) : Prop := (c = 0 ∧ d = 0) ∨ (d ≠ 0 ∧ ((j + 1 ≤ c ∧ c ≤ 1000) ∨ (deepN d = true ∧ 1000001 + j ≤ c)))
theorem LowN.succ {j c d : Nat} (h : LowN (j + 1) c d) : LowN j c d := by
  rcases h with h | ⟨h1, h2 | h2⟩
  · exact .inl h
  · exact .inr ⟨h1, .inl ⟨by omega, h2.2⟩⟩
  · exact .inr ⟨h1, .inr ⟨h2.1, by omega⟩⟩
theorem pkN_cases (d j : Nat) : (pkN d j = 0 ∧ d = 0) ∨ (d ≠ 0 ∧ (pkN d j = j + 1 ∨ (deepN d = true ∧ pkN d j = 1000001 + j))) := by
  unfold pkN
  by_cases h0 : d = 0
  · subst h0; exact .inl ⟨rfl, rfl⟩
  · rw [beq_false h0]
    refine .inr ⟨h0, ?_⟩
    cases deepN d with
    | true => exact .inr ⟨rfl, rfl⟩
    | false => exact .inl rfl
theorem packN_spec : ∀ (rs : List ResultVar) (j : Nat) (s : St Ty den),
    (∀ c d, (c, d) ∈ packN j s rs → mem d s.live = true ∧ LowN j c d) ∧
    (∀ c d c' d', (c, d) ∈ packN j s rs → (c', d') ∈ packN j s rs → (c = c' ↔ d = d'))
  | [], j, s => ⟨fun c d h => by simp [packN] at h, fun c d c' d' h => by simp [packN] at h⟩
  | .cell _ _ :: r, j, s => ⟨fun c d h => by simp [packN] at h, fun c d c' d' h => by simp [packN] at h⟩
  | .tmp t :: r, j, s => by
    have skip : ∀ (s' : St Ty den), (∀ e, mem e s'.live = true → mem e s.live = true) → packN j s (.tmp t :: r) = packN (j + 1) s' r →
        (∀ c d, (c, d) ∈ packN j s (.tmp t :: r) → mem d s.live = true ∧ LowN j c d) ∧ (∀ c d c' d', (c, d) ∈ packN j s (.tmp t :: r) → (c', d') ∈ packN j s (.tmp t :: r) → (c = c' ↔ d = d')) := by
      intro s' hl he
      obtain ⟨h1, h2⟩ := packN_spec r (j + 1) s'
      rw [he]
      exact ⟨fun c d h => by obtain ⟨k1, k2⟩ := h1 c d h; exact ⟨hl d k1, k2.succ⟩, h2⟩
    cases hg : s.get t with
    | one l =>
      cases l with
      | sl t0 x o =>
        cases o with
        | none => exact skip s (fun _ h => h) (by simp only [packN, hg])
        | some d =>
          cases hm : mem d s.live && Nat.blt j 1000 with
          | false => exact skip (s.kill d) (fun _ h => (mem_kill.1 h).1) (by simp only [packN, hg, hm, cond_false])
          | true =>
            obtain ⟨h1, h2⟩ := packN_spec r (j + 1) (s.kill d)
            have he : packN j s (.tmp t :: r) = (pkN d j, d) :: packN (j + 1) (s.kill d) r := by simp only [packN, hg, hm, cond_true]
            rw [he]
            rw [Bool.and_eq_true] at hm
            have hj : j < 1000 := by simpa [Nat.blt_eq] using hm.2
            have hp := pkN_cases d j
            have hc : LowN j (pkN d j) d := by
              rcases hp with h | ⟨h1, h2 | h2⟩
              · exact .inl h
              · exact .inr ⟨h1, .inl (by omega)⟩
              · exact .inr ⟨h1, .inr ⟨h2.1, by omega⟩⟩
            have hdiff : ∀ c' d', (c', d') ∈ packN (j + 1) (s.kill d) r → pkN d j ≠ c' ∧ d ≠ d' := by
              intro c' d' h'
              obtain ⟨k1, k2⟩ := h1 c' d' h'
              have k3 := (mem_kill.1 k1).2
              refine ⟨?_, Ne.symm k3⟩
              rcases hp with ⟨e1, e2⟩ | ⟨e1, e2⟩
              · rw [e1]
                rcases k2 with ⟨f1, f2⟩ | ⟨f1, f2 | f2⟩
                · exact absurd (f2.trans e2.symm) k3
                · omega
                · omega
              · rcases k2 with ⟨f1, f2⟩ | ⟨f1, f2 | f2⟩ <;> rcases e2 with e2 | e2 <;> omega
            refine ⟨fun c d' h => ?_, fun c d1 c' d2 h h' => ?_⟩
            · simp only [List.mem_cons, Prod.mk.injEq] at h
              rcases h with ⟨rfl, rfl⟩ | h
              · exact ⟨hm.1, hc⟩
              · obtain ⟨k1, k2⟩ := h1 c d' h
                exact ⟨(mem_kill.1 k1).1, k2.succ⟩
            · simp only [List.mem_cons, Prod.mk.injEq] at h h'
              rcases h with ⟨rfl, rfl⟩ | h
              · rcases h' with ⟨rfl, rfl⟩ | h'
                · simp
                · obtain ⟨k1, k2⟩ := hdiff c' d2 h'
                  exact ⟨fun e => absurd e k1, fun e => absurd e k2⟩
              · rcases h' with ⟨rfl, rfl⟩ | h'
                · obtain ⟨k1, k2⟩ := hdiff c d1 h
                  exact ⟨fun e => absurd e.symm k1, fun e => absurd e.symm k2⟩
                · exact h2 c d1 c' d2 h h'
      | _ => exact skip s (fun _ h => h) (by simp only [packN, hg])
    | tup ls => exact skip s (fun _ h => h) (by simp only [packN, hg])
    | iter c p => exact skip s (fun _ h => h) (by simp only [packN, hg])

section
variable {U : UO Ty den} {B : Bs} {g : Gh} {s : St Ty den} {a : Act} {w : World}

/-- The values of the results. -/
def resVals (a : Act) : List ResultVar → List Value
  | [] => []
  | .tmp t :: r => a.tmps.getD t undef :: resVals a r
  | .cell _ _ :: r => undef :: resVals a r

def PackRep (U : UO Ty den) (w : World) (g : Gh) (N : List (Nat × Nat)) : List (Leaf Ty den) → List Value → Prop
  | [], [] => True
  | l :: ls, v :: vs => (CRep U w g.wm l v ∧ ∀ t x c, l = .sl t x (some c) → ∃ d, (c, d) ∈ N ∧ v = g.G d ∧ U.size t = g.Gs d) ∧ PackRep U w g N ls vs
  | _, _ => False

theorem PackRep.mono {N N' : List (Nat × Nat)} (h : ∀ p ∈ N, p ∈ N') : ∀ {ls : List (Leaf Ty den)} {vs : List Value}, PackRep U w g N ls vs → PackRep U w g N' ls vs
  | [], [], _ => trivial
  | _ :: _, _ :: _, hp => ⟨⟨hp.1.1, fun t x c he => by obtain ⟨d, h1, h2⟩ := hp.1.2 t x c he; exact ⟨d, h _ h1, h2⟩⟩, PackRep.mono h hp.2⟩
  | [], _ :: _, hp => hp.elim
  | _ :: _, [], hp => hp.elim

theorem packAll_ok (hU : U.Ok) : ∀ (rs : List ResultVar) (j : Nat) (s : St Ty den) (ls : List (Leaf Ty den)), packAll j s rs = some ls → Rel U B g s a w → PackRep U w g (packN j s rs) ls (resVals a rs) ∧ (∀ r ∈ rs, ∃ t, r = .tmp t)
  | [], j, s, ls, h, hr => by
    simp only [packAll, Option.some.injEq] at h
    subst h
    exact ⟨trivial, fun r hr => by simp at hr⟩
  | .cell _ _ :: r, j, s, ls, h, hr => by simp only [packAll] at h; cases h
  | .tmp t :: r, j, s, ls, h, hr => by
    simp only [packAll] at h
    have hent := hr.ent t
    cases hg : s.get t with
    | tup l => rw [hg] at h; cases h
    | iter c p => rw [hg] at h; cases h
    | one l =>
      rw [hg] at h hent
      dsimp only at h
      have fin : ∀ (s' : St Ty den) (ls' : List (Leaf Ty den)) (l' : Leaf Ty den), Rel U B g s' a w → packAll (j + 1) s' r = some ls' → ls = l' :: ls' → (∀ p ∈ packN (j + 1) s' r, p ∈ packN j s (.tmp t :: r)) →
          (CRep U w g.wm l' (a.tmps.getD t undef) ∧ ∀ t0 x c, l' = .sl t0 x (some c) → ∃ d, (c, d) ∈ packN j s (.tmp t :: r) ∧ a.tmps.getD t undef = g.G d ∧ U.size t0 = g.Gs d) →
          PackRep U w g (packN j s (.tmp t :: r)) ls (resVals a (.tmp t :: r)) ∧ (∀ q ∈ (ResultVar.tmp t :: r), ∃ t, q = .tmp t) := by
        intro s' ls' l' hr' hp he hsub hl'
        obtain ⟨h1, h2⟩ := packAll_ok hU r (j + 1) s' ls' hp hr'
        subst he
        refine ⟨⟨hl', h1.mono hsub⟩, fun q hq => ?_⟩
        simp only [List.mem_cons] at hq
        rcases hq with rfl | hq
        · exact ⟨t, rfl⟩
        · exact h2 q hq
      cases l with
      | sl t0 x o =>
        cases o with
        | none =>
          cases hp : packAll (j + 1) s r with
          | none => rw [hp] at h; cases h
          | some ls' =>
            rw [hp] at h
            simp only [Option.map_some, Option.some.injEq] at h
            exact fin s ls' _ hr hp h.symm (fun p hp => by simp only [packN, hg]; exact hp) ⟨hent.1, fun _ _ _ he => by simp [packLeaf] at he⟩
        | some d =>
          dsimp only at h
          cases hp : packAll (j + 1) (s.kill d) r with
          | none => rw [hp] at h; cases h
          | some ls' =>
            rw [hp] at h
            simp only [Option.map_some, Option.some.injEq] at h
            cases hm : mem d s.live && Nat.blt j 1000 with
            | false =>
              refine fin (s.kill d) ls' _ (hr.kill hU d) hp h.symm (fun p hp => by simp only [packN, hg, hm, cond_false]; exact hp) ?_
              simp only [packLeaf, hm, cond_false]
              exact ⟨hent.1.own none, fun _ _ _ he => by simp at he⟩
            | true =>
              refine fin (s.kill d) ls' _ (hr.kill hU d) hp h.symm (fun p hp => by simp only [packN, hg, hm, cond_true]; exact List.mem_cons_of_mem _ hp) ?_
              simp only [packLeaf, hm, cond_true]
              refine ⟨hent.1.own _, fun t1 x1 c he => ?_⟩
              simp only [Leaf.sl.injEq, Option.some.injEq] at he
              obtain ⟨rfl, _, rfl⟩ := he
              exact ⟨d, by simp only [packN, hg, hm, cond_true]; exact List.mem_cons_self, hent.2 _ _ d rfl⟩
      | _ =>
        cases hp : packAll (j + 1) s r with
        | none => rw [hp] at h; cases h
        | some ls' =>
          rw [hp] at h
          simp only [Option.map_some, Option.some.injEq] at h
          exact fin s ls' _ hr hp h.symm (fun p hp => by simp only [packN, hg]; exact hp) ⟨hent.1, fun _ _ _ he => by simp [packLeaf] at he⟩

theorem results_run (P : Program) (fn : Func) (a : Act) (w : World) (rs : List ResultVar) (hrs : fn.results.toList = rs) (ht : ∀ r ∈ rs, ∃ t, r = .tmp t) :
    (results fn a.tmps).run P w = .ok (if h : (resVals a rs).length = 1 then (resVals a rs)[0] else .tuple (resVals a rs).toArray) w := by
  have hm : ∀ (f : ResultVar → Sem Value), (∀ t, f (.tmp t) = pure (a.tmps.getD t undef)) → ∀ (l : List ResultVar), (∀ r ∈ l, ∃ t, r = .tmp t) → (l.mapM f).run P w = .ok (resVals a l) w := by
    intro f hf l
    induction l with
    | nil => intro _; rfl
    | cons r l ih =>
      intro hl
      obtain ⟨t, rfl⟩ := hl r (by simp)
      rw [List.mapM_cons, hf]
      simp only [Sem.run_bind, Sem.run_pure, Result.andThen_ok, ih (fun r hr => hl r (by simp [hr]))]
      rfl
  have h1 : fn.results = rs.toArray := by rw [← hrs]
  unfold results
  rw [h1, List.mapM_toArray]
  simp only [Sem.run_bind, Sem.run_map]
  rw [hm _ (fun t => rfl) rs ht]
  simp

theorem PackRep.length {N : List (Nat × Nat)} : ∀ {ls : List (Leaf Ty den)} {vs : List Value}, PackRep U w g N ls vs → ls.length = vs.length
  | [], [], _ => rfl
  | _ :: _, _ :: _, h => by simp [PackRep.length h.2]
  | [], _ :: _, hp => hp.elim
  | _ :: _, [], hp => hp.elim

/-- The names as the caller sees them. -/
def outG (g : Gh) (N : List (Nat × Nat)) : Gh :=
  { wm := g.wm, ib := g.ib,
    G := fun c => match N.find? (fun p => p.1 == c) with | some p => g.G p.2 | none => .bool false,
    Gs := fun c => match N.find? (fun p => p.1 == c) with | some p => g.Gs p.2 | none => 0 }

theorem outG_at {g : Gh} {N : List (Nat × Nat)} (hN : ∀ c d c' d', (c, d) ∈ N → (c', d') ∈ N → (c = c' ↔ d = d')) {c d : Nat} (h : (c, d) ∈ N) : (outG g N).G c = g.G d ∧ (outG g N).Gs c = g.Gs d := by
  have hf : ∃ p, N.find? (fun p => p.1 == c) = some p := by
    cases hf : N.find? (fun p => p.1 == c) with
    | some p => exact ⟨p, rfl⟩
    | none =>
      have := List.find?_eq_none.1 hf (c, d) h
      simp at this
  obtain ⟨p, hp⟩ := hf
  have h1 := List.mem_of_find?_eq_some hp
  have h2 : p.1 = c := by simpa using List.find?_some hp
  have h3 : p.2 = d := (hN p.1 p.2 c d h1 h).1 h2
  simp only [outG, hp, h3, and_self]

theorem PackRep.out {N : List (Nat × Nat)} (hN : ∀ c d c' d', (c, d) ∈ N → (c', d') ∈ N → (c = c' ↔ d = d')) : ∀ {ls : List (Leaf Ty den)} {vs : List Value}, PackRep U w g N ls vs → LsRep U w (outG g N) ls vs
  | [], [], _ => trivial
  | _ :: _, _ :: _, h => ⟨⟨h.1.1, fun t x c he => by
      obtain ⟨d, h1, h2, h3⟩ := h.1.2 t x c he
      obtain ⟨e1, e2⟩ := outG_at (g := g) hN h1
      exact ⟨h2.trans e1.symm, h3.trans e2.symm⟩⟩, PackRep.out hN h.2⟩
  | [], _ :: _, hp => hp.elim
  | _ :: _, [], hp => hp.elim
theorem PackRep.names {N : List (Nat × Nat)} : ∀ {ls : List (Leaf Ty den)} {vs : List Value}, PackRep U w g N ls vs → ∀ lf ∈ ls, ∀ c, lf.has c = true → ∃ d, (c, d) ∈ N
  | _ :: _, _ :: _, h, lf, hl, c, hc => by
    simp only [List.mem_cons] at hl
    rcases hl with rfl | hl
    · obtain ⟨t, x, he⟩ := (Leaf.has_iff c _).1 hc
      obtain ⟨d, h1, _⟩ := h.1.2 t x c he
      exact ⟨d, h1⟩
    · exact PackRep.names h.2 lf hl c hc
  | [], _ :: _, hp, _, _, _, _ => hp.elim
  | _ :: _, [], hp, _, _, _, _ => hp.elim
  | [], [], _, lf, hl, _, _ => by simp at hl

variable {E : Env Ty den} {P : Program}

theorem LsRep.head {l : Leaf Ty den} : ∀ {vs : List Value} (h : LsRep U w g [l] vs) (hl : 0 < vs.length), LRep U w g l vs[0]
  | _ :: _, h, _ => h.1

theorem ret_ok (hU : E.U.Ok) {fn : Func} {r : Ent Ty den} (h : pack fn.results.toList s = some r) (hr : Rel E.U B g s a w) :
    ∃ v, (results fn a.tmps).run P w = .ok v w ∧ ∃ g', Post E.U B g' r v w := by
  have main : ∀ ls, packAll 0 s fn.results.toList = some ls → (∀ v, (∀ c, r.has c = true ↔ ∃ lf ∈ ls, lf.has c = true) → r.isIter = false → (∀ g', LsRep E.U w g' ls (resVals a fn.results.toList) → ERep E.U w g' r v) →
      Post E.U B (outG g (packN 0 s fn.results.toList)) r v w) := by
    intro ls hp v hhas hni hrep
    obtain ⟨h1, _⟩ := packAll_ok hU fn.results.toList 0 s ls hp hr
    obtain ⟨hN1, hN2⟩ := packN_spec fn.results.toList 0 s
    have hnm : ∀ c, r.has c = true → ∃ d, (c, d) ∈ packN 0 s fn.results.toList ∧ mem d s.live = true ∧ (outG g (packN 0 s fn.results.toList)).G c = g.G d ∧ (outG g (packN 0 s fn.results.toList)).Gs c = g.Gs d := fun c hc => by
      obtain ⟨lf, hl, hlc⟩ := (hhas c).1 hc
      obtain ⟨d, hd⟩ := h1.names lf hl c hlc
      obtain ⟨e1, e2⟩ := outG_at (g := g) hN2 hd
      exact ⟨d, hd, (hN1 c d hd).1, e1, e2⟩
    refine { os := hr.os, tape := hr.tape, output := hr.output, size := hr.size, frame := hr.frame, ext := hr.ext, zero := hr.zero, rep := hrep _ (h1.out hN2), nit := hni, tip := fun c hc => ?_, disj := fun c c' b hc hc' hne hs => ?_, mine := fun c b hc hs => ?_, deep := fun c hc hdc => ?_ }
    · obtain ⟨d, _, hl, e1, e2⟩ := hnm c hc
      rw [e1, e2]; exact hr.tip d hl
    · obtain ⟨d, hd, hl, e1, _⟩ := hnm c hc
      obtain ⟨d', hd', hl', e1', _⟩ := hnm c' hc'
      rw [e1] at hs
      rw [e1']
      exact hr.disj d d' b hl hl' (fun e => hne ((hN2 c d c' d' hd hd').2 e)) hs
    · obtain ⟨d, hd, hl, e1, _⟩ := hnm c hc
      rw [e1] at hs
      exact hr.mine d b hl hs
    · obtain ⟨d, hd, hl, e1, e2⟩ := hnm c hc
      have hdd : deepN d = true := by
        have hc6 : 1000000 ≤ c := Nat.le_of_ble_eq_true hdc
        rcases (hN1 c d hd).2 with ⟨h5, _⟩ | ⟨_, h5 | h5⟩
        · omega
        · omega
        · exact h5.1
      rw [e1, e2]
      exact ⟨hr.deep d hl hdd, fun b hb => hr.dsep d d b hl hdd hl hb⟩
  unfold pack at h
  cases hp : packAll 0 s fn.results.toList with
  | none => rw [hp] at h; cases h
  | some ls =>
    rw [hp] at h
    obtain ⟨h1, h2⟩ := packAll_ok hU fn.results.toList 0 s ls hp hr
    have hrun := results_run P fn a w fn.results.toList rfl h2
    have hlen := h1.length
    have htup : ∀ (hl : ls.length ≠ 1), some (Ent.tup ls) = some r → ∃ v, (results fn a.tmps).run P w = .ok v w ∧ ∃ g', Post E.U B g' r v w := fun hl he => by
      cases he
      rw [dif_neg (by omega)] at hrun
      refine ⟨_, hrun, _, main ls hp _ (fun c => ?_) rfl (fun g' hg' => ⟨_, rfl, hg'⟩)⟩
      simp [Ent.has, List.any_eq_true]
    match ls, h, h1, hlen, htup, hp with
    | [], h, _, _, htup, _ => exact htup (by simp) h
    | [l], h, h1, hlen, _, hp =>
      simp only [Option.some.injEq] at h
      subst h
      rw [dif_pos (by simpa using hlen.symm)] at hrun
      refine ⟨_, hrun, _, main [l] hp _ (fun c => by simp [Ent.has]) rfl (fun g' hg' => ?_)⟩
      exact LsRep.head hg' _
    | l :: l2 :: ls', h, _, _, htup, _ => exact htup (by simp) h

theorem look_init : ∀ (ls : List (Leaf Ty den)) (k i : Nat), look (initF k ls) i = if h : k ≤ i ∧ i - k < ls.length then .one ls[i - k] else .one .any
  | [], k, i => by simp [initF, look]
  | l :: ls, k, i => by
    simp only [initF, look]
    by_cases h : k = i
    · subst h
      simp [beq_self]
    · rw [beq_false h]
      simp only [cond_false]
      rw [look_init ls (k + 1) i]
      by_cases h1 : k + 1 ≤ i ∧ i - (k + 1) < ls.length
      · rw [dif_pos h1, dif_pos (by simp; omega)]
        congr 1
        have : i - k = (i - (k + 1)) + 1 := by omega
        simp [this]
      · rw [dif_neg h1, dif_neg (by simp; omega)]

theorem owns0_true {ls : List (Leaf Ty den)} : owns0 ls = true → ∃ lf ∈ ls, lf.has 0 = true := by
  induction ls with
  | nil => intro h; cases h
  | cons l ls ih =>
    intro h
    cases l with
    | sl t x o =>
      cases o with
      | none => simp only [owns0] at h; obtain ⟨lf, h1, h2⟩ := ih h; exact ⟨lf, by simp [h1], h2⟩
      | some c =>
        cases c with
        | zero => exact ⟨_, List.mem_cons_self, by simp [Leaf.has]⟩
        | succ c => simp only [owns0] at h; obtain ⟨lf, h1, h2⟩ := ih h; exact ⟨lf, by simp [h1], h2⟩
    | _ => simp only [owns0] at h; obtain ⟨lf, h1, h2⟩ := ih h; exact ⟨lf, by simp [h1], h2⟩

theorem spare_lt {w : World} {wm : Nat → Nat} {v : Value} {sz b : Nat} (h : Tip w wm v sz) (hs : spare v = some b) : b < w.heap.size := by
  obtain ⟨a0, len, cap, hv, _, hc'⟩ := h
  rw [hv] at hs
  simp only [spare] at hs
  split at hs
  · rename_i a1 l1 c1 heq
    cases heq
    split at hs
    · cases hs
    · rename_i hlc
      rcases hc' with h3 | ⟨b', off, c, e, fz, ha, hb, _⟩
      · exact absurd h3 hlc
      · cases ha
        simp at hs
        subst hs
        exact (Array.getElem?_eq_some_iff.1 hb).1
  · cases hs

structure EnvI (P : Program) (E : Env Ty den) (I : Inv) : Prop where
  U : E.U.Ok
  tb : ∀ t, TbOk P E.U t (E.tb t)
  T : ∀ f ls r, E.T f ls = some (true, r) → (∀ args w, (callFunc f args).run P w = .ok (.enter f args) w) ∧ CallOk P E.U I f ls r
  mono : ∀ w m w' m', I w m → Ext w m w' m' → I w' m'

/-- THE FUNCTION. -/
theorem sound_of_ev {I : Inv} (hEI : EnvI P E I) {f : FuncId} {fn : Func} (hf : P.funcs[f]? = some fn) (hnt : E.nt = fn.ntmps) (henter : ∀ args w, (callFunc f args).run P w = .ok (.enter f args) w)
    {S : List (Leaf Ty den) → Option (Ent Ty den)} (hS : ∀ ls r, S ls = some r → ∃ n, evFn E n fn ls = some r) : Sound P E.U I f S := by
  refine ⟨henter, fun ls r hls w g vs hI hz hrep htip hnm => ?_⟩
  have hE : EnvOk P E ⟨w, g.wm, if owns0 ls then spare (g.G 0) else none⟩ := ⟨hEI.U, hEI.tb, fun f' ls' r' h' => by
    obtain ⟨h1, h2⟩ := hEI.T f' ls' r' h'
    exact ⟨h1, fun w1 g1 vs1 hx => h2 w1 g1 vs1 (hEI.mono _ _ _ _ hI hx)⟩⟩
  obtain ⟨n, hn⟩ := hS ls r hls
  unfold evFn at hn
  cases hb : fn.body with
  | none => rw [hb] at hn; cases hn
  | some c =>
    rw [hb] at hn
    obtain ⟨hle, hn⟩ := bif_some hn
    have hle : ls.length ≤ E.nt := by simpa [Nat.ble_eq] using hle
    have hlen := hrep.length
    refine calls_of_wp hf hb ?_
    refine evCode_sound (B := ⟨w, g.wm, if owns0 ls then spare (g.G 0) else none⟩) hE n c _ _ _ _ _ hn ⟨g, ?_⟩ (by simp; omega) ?_
    · have h0 : ∀ {d : Nat}, mem d (initS ls).live = true → deepN d = true → False := fun {d} hd hdd => by
        simp only [initS] at hd
        cases ho : owns0 ls with
        | false => rw [ho] at hd; cases hd
        | true =>
          rw [ho] at hd
          simp only [cond_true, mem_cons] at hd
          rcases hd with rfl | hd
          · cases hdd
          · cases hd
      refine { os := rfl, tape := rfl, output := rfl, size := Nat.le_refl _, frame := fun b _ _ => ⟨rfl, rfl⟩, ext := Ext.refl _ _, zero := hz, ent := fun i => ?_, tip := fun d hd => ?_, disj := fun d e b hd he hne => ?_, mine := fun d b hd hs => ?_, deep := fun d hd hdd => (h0 hd hdd).elim, dsep := fun d e b hd hdd => (h0 hd hdd).elim, ddis := fun d e b hd hdd => (h0 hd hdd).elim, iter := fun i c p h => ?_, idis := fun i j c p c' p' _ h => ?_, defers := rfl }
      · simp only [initS, St.get, look_init, Nat.zero_le, Nat.sub_zero, true_and]
        split
        · rename_i hi
          obtain ⟨v, hv, hvr⟩ := hrep.get (List.getElem?_eq_getElem hi)
          have hi2 : i < vs.length := by omega
          have : (vs.toArray ++ Array.replicate (fn.ntmps - vs.toArray.size) undef).getD i undef = v := by
            rw [Array.getD_eq_getD_getElem?, Array.getElem?_append_left (by simpa using hi2)]
            simp [hv]
          rw [this]
          exact hvr
        · exact ERep.any _ _ _
      · simp only [initS] at hd
        cases ho : owns0 ls with
        | false => rw [ho] at hd; cases hd
        | true =>
          rw [ho] at hd
          simp only [cond_true, mem_cons] at hd
          rcases hd with rfl | hd
          · exact htip ho
          · cases hd
      · simp only [initS] at hd he
        cases ho : owns0 ls with
        | false => rw [ho] at hd; cases hd
        | true =>
          rw [ho] at hd he
          simp only [cond_true, mem_cons] at hd he
          rcases hd with rfl | hd
          · rcases he with rfl | he
            · exact absurd rfl hne
            · cases he
          · cases hd
      · simp only [initS] at hd
        cases ho : owns0 ls with
        | false => rw [ho] at hd; cases hd
        | true =>
          rw [ho] at hd
          simp only [cond_true, mem_cons] at hd
          rcases hd with rfl | hd
          · right; simpa [ho] using hs
          · cases hd
      · simp only [initS, St.get, look_init] at h
        split at h <;> cases h
      · simp only [initS, St.get, look_init] at h
        split at h <;> cases h
    · intro e s' a' w' hk ⟨g', hr'⟩ hsz'
      have fin : pack fn.results.toList s' = some r → a'.defers = [] ∧ ∃ v, (results fn a'.tmps).run P w' = .ok v w' ∧ (fun e w' => ∃ v g', e = Ending.returned v ∧ Post E.U ⟨w, g.wm, if owns0 ls then spare (g.G 0) else none⟩ g' r v w') (.returned v) w' := fun hp => by
        obtain ⟨v, h1, g2, h2⟩ := ret_ok (P := P) hE.U hp hr'
        exact ⟨hr'.defers, v, h1, v, g2, rfl, h2⟩
      cases e with
      | normal => exact fin hk
      | ret => exact fin hk
      | exit id => cases hk
end
end Go.Aev
end
