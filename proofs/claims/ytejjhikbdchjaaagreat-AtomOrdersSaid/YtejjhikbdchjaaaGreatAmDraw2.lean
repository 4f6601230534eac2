/-
  AM: regions with an open order: the run in the text's order, taken apart.
-/
import Derived.Test.YtejjhikbdchjaaaGreatAmDraw
set_option linter.unusedSectionVars false
namespace Go.Am
variable [Vals]

mutual
theorem avEq_eq : ∀ (a b : AV), avEq a b = true → a = b
  | .bool a, b, h => by cases b <;> first | (cases h; done) | (rename_i b; cases a <;> cases b <;> first | rfl | cases h)
  | .int k a, b, h => by
    cases b <;> first | (cases h; done) | skip
    simp only [avEq] at h; rw [band_eq, ibeq_eq, beq_iff_eq] at h
    rw [kbeq_eq.1 h.1, h.2]
  | .flt a, b, h => by cases b <;> first | (cases h; done) | (rw [Nat.eq_of_beq_eq_true h])
  | .str s, b, h => by cases b <;> cases h
  | .nilp, b, h => by cases b <;> first | rfl | cases h
  | .ptr a o, b, h => by
    cases b <;> first | (cases h; done) | skip
    simp only [avEq] at h; rw [band_eq] at h
    rw [Nat.eq_of_beq_eq_true h.1, Nat.eq_of_beq_eq_true h.2]
  | .nils, b, h => by cases b <;> first | rfl | cases h
  | .slice a o l c x s, b, h => by
    cases b <;> first | (cases h; done) | skip
    rename_i a' o' l' c' x' s'
    simp only [avEq] at h; rw [band_eq, band_eq, band_eq, band_eq, band_eq] at h
    obtain ⟨h1, h2, h3, h4, h5, h6⟩ := h
    have hx : x = x' := by cases x <;> cases x' <;> first | rfl | cases h5
    rw [Nat.eq_of_beq_eq_true h1, Nat.eq_of_beq_eq_true h2, Nat.eq_of_beq_eq_true h3, Nat.eq_of_beq_eq_true h4, hx, Nat.eq_of_beq_eq_true h6]
  | .nilm, b, h => by cases b <;> first | rfl | cases h
  | .map a, b, h => by cases b <;> first | (cases h; done) | (rw [Nat.eq_of_beq_eq_true h])
  | .nilf, b, h => by cases b <;> first | rfl | cases h
  | .func f a c, b, h => by
    cases b <;> first | (cases h; done) | skip
    simp only [avEq] at h; rw [band_eq, band_eq] at h
    rw [Nat.eq_of_beq_eq_true h.1, avEqs_eq a _ h.2.1, avEqs_eq c _ h.2.2]
  | .nili, b, h => by cases b <;> first | rfl | cases h
  | .iface t v, b, h => by
    cases b <;> first | (cases h; done) | skip
    simp only [avEq] at h; rw [band_eq] at h
    rw [Nat.eq_of_beq_eq_true h.1, avEq_eq v _ h.2]
  | .agg l, b, h => by
    cases b <;> first | (cases h; done) | skip
    simp only [avEq] at h
    rw [avEqs_eq l _ h]
  | .tup l, b, h => by
    cases b <;> first | (cases h; done) | skip
    simp only [avEq] at h
    rw [avEqs_eq l _ h]
  | .opq i, b, h => by cases b <;> cases h
  | .sym k i, b, h => by
    cases b <;> first | (cases h; done) | skip
    simp only [avEq] at h; rw [band_eq] at h
    rw [kbeq_eq.1 h.1, Nat.eq_of_beq_eq_true h.2]
  | .fsym i, b, h => by cases b <;> first | (cases h; done) | (rw [Nat.eq_of_beq_eq_true h])
theorem avEqs_eq : ∀ (a b : List AV), avEqs a b = true → a = b
  | [], b, h => by cases b <;> first | rfl | cases h
  | x :: a, b, h => by
    cases b with
    | nil => cases h
    | cons y b =>
      simp only [avEqs] at h; rw [band_eq] at h
      rw [avEq_eq x y h.1, avEqs_eq a b h.2]
end
theorem orIs_eq {v : AV} {r : OR} (h : orIs v r = true) : r = .val v := by
  cases r <;> first | (cases h; done) | (rw [avEq_eq _ _ h])

def olds (μ : Nat → Heap) : Nat → List Heap
  | 0 => []
  | s + 1 => μ s :: olds μ s
theorem olds_congr {μ μ' : Nat → Heap} : ∀ {s : Nat}, (∀ j, j < s → μ j = μ' j) → olds μ s = olds μ' s
  | 0, _ => rfl
  | s + 1, h => by simp only [olds]; rw [h s (by omega), olds_congr fun j hj => h j (by omega)]

theorem past_spec {E : Env} {o : Op} {T : Tmps} {v : AV} {μ : Nat → Heap} : ∀ {s k : Nat}, pastOk E o T v k (olds μ s) = true → ∀ j, j < s → s ≤ j + k → opV o E T (μ j) 0 = .val v
  | 0, _, _, j, hj, _ => by omega
  | s + 1, 0, _, j, hj, hk => by omega
  | s + 1, k + 1, h, j, hj, hk => by
    simp only [olds, pastOk] at h
    rw [band_eq] at h
    by_cases e : j = s
    · rw [e]; exact orIs_eq h.1
    · exact past_spec h.2 j (by omega) (by omega)
theorem pend_spec {E : Env} {H : Heap} {s : Nat} : ∀ {l : List Pend}, pendOk E H s l = true → ∀ p ∈ l, s ≤ p.hi → opV p.o E p.T H 0 = .val p.v
  | [], _, p, hp, _ => by simp at hp
  | q :: l, h, p, hp, hs => by
    simp only [pendOk] at h
    rw [band_eq] at h
    rcases List.mem_cons.1 hp with rfl | hp
    · have := h.1
      rw [show Nat.ble s p.hi = true from ble_iff.2 hs] at this
      exact orIs_eq this
    · exact pend_spec h.2 p hp hs

noncomputable def putF (d : Option Tmp) (v : AV) (T : Tmps) (j : Nat) : Option AV :=
  match d with
  | some t => if j = t then some v else T.get j
  | none => T.get j

/-- One step of the run in the text's order. -/
structure StepK (C : Ctx) (all : List Oper) (it : Item) (T T' : Tmps) (H H' : Heap) (n n' s s' : Nat) (v : AV) (Hs' : Heap) : Prop where
  put : ∀ j, T'.get j = putF it.o.dst v T j
  lt : ∀ t, it.o.dst = some t → t < C.nt
  want : ∃ b, wantedV it.o.guard all T = some b ∧
    (b = false → v = .tup [] ∧ H' = H ∧ n' = n ∧ (it.kind = 3 → s' = s + 1 ∧ Hs' = H) ∧ (it.kind ≠ 3 → s' = s)) ∧
    (b = true →
      (it.kind = 0 → opV it.o.op C.E T .lf 0 = .val v ∧ H' = H ∧ n' = n ∧ s' = s) ∧
      (it.kind = 1 → H' = H ∧ n' = n ∧ s' = s) ∧
      (it.kind = 2 → n' = n + 1 ∧ s' = s ∧ ∃ H0 obj, opV it.o.op C.E T .lf n = .mem v H0 n' ∧ H0.get n = some obj ∧ ∀ b, H'.get b = if b = n then some obj else H.get b) ∧
      (it.kind = 3 → s' = s + 1 ∧ Hs' = H' ∧ (opV it.o.op C.E T H n = .mem v H' n' ∨ ∃ f args bare, opV it.o.op C.E T H n = .enter f args ∧ C.call f args H n = .ret v bare H' n')))

/-- The run. -/
structure RunK (C : Ctx) (all : List Oper) (its : List Item) (S : DS) (T T' : Tmps) (H H' : Heap) (n n' : Nat) (μ0 : Nat → Heap) (τ : Nat → Tmps) (η : Nat → Heap) (ν σ : Nat → Nat) (υ : Nat → AV) (μ : Nat → Heap) : Prop where
  t0 : τ 0 = T
  h0 : η 0 = H
  n0 : ν 0 = n
  s0 : σ 0 = S.s
  t1 : τ its.length = T'
  h1 : η its.length = H'
  n1 : ν its.length = n'
  old : ∀ j, j ≤ S.s → μ j = μ0 j
  up : ∀ k, k ≤ its.length → S.s ≤ σ k
  step : ∀ k it, its[k]? = some it → StepK C all it (τ k) (τ (k + 1)) (η k) (η (k + 1)) (ν k) (ν (k + 1)) (σ k) (σ (k + 1)) (υ k) (μ (σ k + 1))
  mem : its.length = 0 → True
  read : ∀ k it, its[k]? = some it → it.kind = 1 → wantedV it.o.guard all (τ k) = some true → ∀ j, it.lo ≤ j → j ≤ it.hi → j ≤ σ its.length → opV it.o.op C.E (τ k) (μ j) 0 = .val (υ k)
  pend : ∀ p ∈ S.pend, ∀ j, S.s < j → j ≤ p.hi → j ≤ σ its.length → opV p.o C.E p.T (μ j) 0 = .val p.v

theorem put_get {d : Option Tmp} {nt : Nat} {T : Tmps} {v : AV} {K : Kont} {D : Dfr} {H : Heap} {n : Nat} {r : CR} (hr : r ≠ .fail) (hp : putD d nt T v K D H n = r) :
    ∃ T1, K T1 D H n = r ∧ (∀ j, T1.get j = putF d v T j) ∧ ∀ t, d = some t → t < nt := by
  cases d with
  | none => exact ⟨T, hp, fun j => rfl, fun t e => by cases e⟩
  | some t =>
    have e : putD (some t) nt T v K D H n = Bool.rec (motive := fun _ => CR) .fail (Tr.putK .fail depth T t (some v) fun T' => K T' D H n) (Nat.blt t nt) := rfl
    rw [e] at hp
    cases hb : Nat.blt t nt with
    | false => rw [hb] at hp; exact absurd hp.symm hr
    | true =>
      rw [hb] at hp
      have hp : Tr.putK .fail depth T t (some v) (fun T' => K T' D H n) = r := hp
      rcases Tr.putK_spec depth T t (some v) with ⟨T1, h1, h2⟩ | hbad
      · rw [h1] at hp; exact ⟨T1, hp, fun j => h2 j, fun t' e => by cases e; exact blt_iff.1 hb⟩
      · rw [hbad] at hp; exact absurd hp.symm hr

/-- Ahead of a run, one step more. -/
theorem RunK.cons {C : Ctx} {all : List Oper} {it : Item} {its : List Item} {S S1 : DS} {T T1 T' : Tmps} {H H1 H' : Heap} {n n1 n' : Nat} {μ0 μ1 : Nat → Heap} {τ : Nat → Tmps} {η : Nat → Heap} {ν σ : Nat → Nat} {υ : Nat → AV} {μ : Nat → Heap} {v : AV}
    (r : RunK C all its S1 T1 T' H1 H' n1 n' μ1 τ η ν σ υ μ) (hs : StepK C all it T T1 H H1 n n1 S.s S1.s v (μ (S.s + 1))) (hle : S.s ≤ S1.s) (hμ : ∀ j, j ≤ S.s → μ1 j = μ0 j)
    (hread : it.kind = 1 → wantedV it.o.guard all T = some true → ∀ j, it.lo ≤ j → j ≤ it.hi → j ≤ σ its.length → opV it.o.op C.E T (μ j) 0 = .val v)
    (hpend : ∀ p ∈ S.pend, ∀ j, S.s < j → j ≤ p.hi → j ≤ σ its.length → opV p.o C.E p.T (μ j) 0 = .val p.v) :
    RunK C all (it :: its) S T T' H H' n n' μ0 (fun k => match k with | 0 => T | k + 1 => τ k) (fun k => match k with | 0 => H | k + 1 => η k) (fun k => match k with | 0 => n | k + 1 => ν k)
      (fun k => match k with | 0 => S.s | k + 1 => σ k) (fun k => match k with | 0 => v | k + 1 => υ k) μ where
  t0 := rfl
  h0 := rfl
  n0 := rfl
  s0 := rfl
  t1 := r.t1
  h1 := r.h1
  n1 := r.n1
  old := fun j hj => by rw [r.old j (by omega), hμ j hj]
  up := fun k hk => by
    cases k with
    | zero => exact Nat.le_refl _
    | succ k => exact Nat.le_trans hle (r.up k (by simpa using hk))
  step := fun k it' hk => by
    cases k with
    | zero =>
      simp only [List.getElem?_cons_zero, Option.some.injEq] at hk
      subst hk
      simpa only [r.t0, r.h0, r.n0, r.s0] using hs
    | succ k => exact r.step k it' (by simpa using hk)
  mem := fun _ => trivial
  read := fun k it' hk => by
    cases k with
    | zero =>
      simp only [List.getElem?_cons_zero, Option.some.injEq] at hk
      subst hk
      exact hread
    | succ k => exact r.read k it' (by simpa using hk)
  pend := hpend
end Go.Am
