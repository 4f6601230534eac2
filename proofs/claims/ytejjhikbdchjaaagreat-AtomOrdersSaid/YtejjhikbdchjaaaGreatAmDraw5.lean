/-
  AM: regions with an open order: counting those that write.
-/
import Derived.Test.YtejjhikbdchjaaaGreatAmDraw4
set_option linter.unusedSectionVars false
namespace Go.Am
variable [Vals]

theorem places_sigma {σ : Nat → Nat} : ∀ {l : List Nat} {i0 : Nat}, (∀ k kd, l[k]? = some kd → (kd = 3 → σ (i0 + k + 1) = σ (i0 + k) + 1) ∧ (kd ≠ 3 → σ (i0 + k + 1) = σ (i0 + k))) →
    (∀ q x, (placesOf 3 i0 l)[q]? = some x → σ x = σ i0 + q) ∧ σ (i0 + l.length) = σ i0 + (placesOf 3 i0 l).length
  | [], i0, _ => by simp [placesOf]
  | kd :: l, i0, h => by
    have h0 := h 0 kd (by simp)
    have hs : ∀ k kd', l[k]? = some kd' → (kd' = 3 → σ (i0 + 1 + k + 1) = σ (i0 + 1 + k) + 1) ∧ (kd' ≠ 3 → σ (i0 + 1 + k + 1) = σ (i0 + 1 + k)) := by
      intro k kd' hk
      have := h (k + 1) kd' (by simpa using hk)
      rw [show i0 + 1 + k = i0 + (k + 1) by omega]; exact this
    obtain ⟨ih1, ih2⟩ := places_sigma (σ := σ) (l := l) (i0 := i0 + 1) hs
    simp only [Nat.add_zero] at h0
    simp only [placesOf]
    have hl : i0 + (kd :: l).length = i0 + 1 + l.length := by simp; omega
    cases hb : Nat.beq kd 3 with
    | true =>
      have hk := Nat.eq_of_beq_eq_true hb
      have h1 := h0.1 hk
      refine ⟨fun q x hq => ?_, by rw [hl, ih2, h1]; simp; omega⟩
      cases q with
      | zero => simp at hq; subst hq; rfl
      | succ q => have := ih1 q x (by simpa using hq); omega
    | false =>
      have hk := Nat.ne_of_beq_eq_false hb
      have h1 := h0.2 hk
      exact ⟨fun q x hq => by have := ih1 q x hq; omega, by rw [hl, ih2, h1]⟩

theorem countIn_le {m j : Nat} {σ : Nat → Nat} : ∀ {l : List Nat} {i0 : Nat}, (∀ q x, l[q]? = some x → σ x = i0 + q) → (∀ x ∈ l, hasB m x = true → σ x < j) → countIn m l ≤ j - i0
  | [], _, _, _ => by simp [countIn]
  | x :: l, i0, h, hj => by
    have h0 := h 0 x (by simp)
    have ih := countIn_le (m := m) (j := j) (σ := σ) (l := l) (i0 := i0 + 1) (fun q y hq => by have := h (q + 1) y (by simpa using hq); omega) fun y hy => hj y (by simp [hy])
    simp only [countIn]
    cases hb : hasB m x with
    | true => have := hj x (by simp) hb; simp only; omega
    | false => simp only; omega

theorem countNot_ge {an : List Nat} {k j : Nat} {σ : Nat → Nat} : ∀ {l : List Nat} {i0 : Nat}, (∀ q x, l[q]? = some x → σ x = i0 + q) → (∀ x ∈ l, ∃ m, nth x an = some m) → (∀ x ∈ l, σ x < j → ¬ Anc an k x) → min j (i0 + l.length) ≤ i0 + countNot an k l
  | [], i0, _, _, _ => by simp [countNot]; omega
  | x :: l, i0, h, hm, hj => by
    have h0 := h 0 x (by simp)
    have ih := countNot_ge (an := an) (k := k) (j := j) (σ := σ) (l := l) (i0 := i0 + 1) (fun q y hq => by have := h (q + 1) y (by simpa using hq); omega) (fun y hy => hm y (by simp [hy])) fun y hy => hj y (by simp [hy])
    obtain ⟨m, hmx⟩ := hm x (by simp)
    simp only [countNot, hmx, List.length_cons]
    cases hb : hasB m k with
    | true =>
      have : ¬ σ x < j := fun hlt => hj x (by simp) hlt ⟨m, hmx, hb⟩
      simp only; omega
    | false => simp only; omega

theorem filter_lt {α : Type} {p q : α → Bool} {i : α} : ∀ {l : List α}, (∀ x, q x = true → p x = true) → i ∈ l → p i = true → q i = false → (l.filter q).length < (l.filter p).length
  | x :: l, h, hi, hp, hq => by
    have hle : ∀ l : List α, (l.filter q).length ≤ (l.filter p).length := by
      intro l
      induction l with
      | nil => simp
      | cons y l ih =>
        simp only [List.filter_cons]
        cases hqy : q y with
        | true => rw [h y hqy]; simpa using ih
        | false => cases p y <;> simp <;> omega
    simp only [List.filter_cons]
    rcases List.mem_cons.1 hi with rfl | hi
    · rw [hp, hq]; simp; have := hle l; omega
    · have ih := filter_lt (l := l) h hi hp hq
      cases hqx : q x with
      | true => rw [h x hqx]; simpa using ih
      | false => cases p x <;> simp <;> omega

theorem ready_mem {ops : Array Oper} {listed : Array Bool} {i : Nat} : i ∈ Region.ready .any ops listed ↔ i < ops.size ∧ listed.getD i true = false ∧ ∃ o, ops[i]? = some o ∧ ∀ e ∈ o.after.toList, Region.binds .any e = true → listed.getD e.on false = true := by
  unfold Region.ready
  rw [List.mem_filter, List.mem_range]
  constructor
  · rintro ⟨h1, h2⟩
    rw [Bool.and_eq_true] at h2
    obtain ⟨h2, h3⟩ := h2
    cases ho : ops[i]? with
    | none => rw [ho] at h3; simp at h3
    | some o =>
      rw [ho] at h3
      simp only [Option.map_some, Option.getD_some, Array.all_eq_true_iff_forall_mem] at h3
      refine ⟨h1, by simpa using h2, o, rfl, fun e he hb => ?_⟩
      have := h3 e (by simpa using he)
      rw [hb] at this
      simpa using this
  · rintro ⟨h1, h2, o, ho, h3⟩
    refine ⟨h1, ?_⟩
    rw [ho]
    simp only [h2, Option.map_some, Option.getD_some, Bool.not_false, Bool.true_and, Array.all_eq_true_iff_forall_mem]
    intro e he
    cases hb : Region.binds .any e with
    | false => rfl
    | true => simpa using h3 e (by simpa using he) hb
end Go.Am
