/-
  AM: regions with an open order: one more done.
-/
import Derived.Test.YtejjhikbdchjaaaGreatAmDraw6
set_option linter.unusedVariables false
set_option linter.unusedSectionVars false
namespace Go.Am
variable [Vals]

section
variable {E : Env} {P : Program} {C : Ctx} {ops : Array Oper} {its : List Item} {T T' : Tmps} {H H' : Heap} {n n' : Nat} {τ : Nat → Tmps} {η : Nat → Heap} {ν σ : Nat → Nat} {υ : Nat → AV} {μ : Nat → Heap}
variable (X : Setup P E C ops its T T' H H' n n' τ η ν σ υ μ)
variable {β0 β : Ren} {w0 w : World} {D : Dfr} {S : Nat → Prop} {j : Nat} {a : Act}
include X

/-- Its place among those that write. -/
theorem Setup.place (I : Inv (T := T) (H := H) (n := n) (n' := n') (C := C) (ops := ops) (its := its) (τ := τ) (ν := ν) (σ := σ) (υ := υ) (μ := μ) β0 w0 D S j β a w) {i : Nat} {o : Oper} (hi : i < its.length) (ho : ops.toList[i]? = some o) (hS : ¬ S i) (hanc : ∀ k, Anc (ancs ops.toList []) k i → S k) (hk : kindOf o.op = 3) : σ i = j := by
  have h1 : ¬ σ i < j := fun h => hS ((I.wr i o ho hk).2 h)
  rcases Nat.lt_or_ge j (σ i) with h | h
  · exfalso
    -- someone ahead that writes has place j
    have key : ∀ d, d ≤ i → j < σ d → ∃ k o', k < d ∧ ops.toList[k]? = some o' ∧ kindOf o'.op = 3 ∧ σ k = j := by
      intro d
      induction d with
      | zero => intro _ h; rw [X.run.s0] at h; exact absurd h (Nat.not_lt_zero _)
      | succ d ih =>
        intro hd h
        by_cases hlt : j < σ d
        · obtain ⟨k, o', a1, a2⟩ := ih (by omega) hlt
          exact ⟨k, o', by omega, a2⟩
        · obtain ⟨it, o', hit, ho', hio, hki, _⟩ := X.item (k := d) (by omega)
          have hs := X.sig hit
          by_cases h3 : it.kind = 3
          · have := (hs.1 h3).1
            exact ⟨d, o', by omega, ho', by rw [← hki]; exact h3, by omega⟩
          · have := hs.2 h3; omega
    obtain ⟨k, o', a1, a2, a3, a4⟩ := key i (Nat.le_refl _) h
    have := hanc k (X.plan.wr i o k o' ho hk a2 (.inl a3) a1)
    have := (I.wr k o' a2 a3).1 this
    omega
  · omega

/-- On. -/
theorem Inv.next (I : Inv (T := T) (H := H) (n := n) (n' := n') (C := C) (ops := ops) (its := its) (τ := τ) (ν := ν) (σ := σ) (υ := υ) (μ := μ) β0 w0 D S j β a w) {i : Nat} {o : Oper} {it : Item} (hit : its[i]? = some it) (ho : ops.toList[i]? = some o) (hio : it.o = o) (hS : ¬ S i)
    (hbind : ∀ k, Bind ops.toList i k → S k) {j' : Nat} (hj : (kindOf o.op = 3 → j' = j + 1 ∧ σ i = j) ∧ (kindOf o.op ≠ 3 → j' = j)) {β' : Ren} {w' : World} {cv : Value} (hle : β.le β') (hcv : VR β' (υ i) cv)
    (hmem : ∃ hh, Post β0 H.get w0 n β' hh w' n' ∧ Mem.sub (μ j').get hh ∧ ∀ k obj, (k = i ∨ S k) → Maker C ops.toList its τ ν υ k obj → j' ≤ σ k → hh (ν k) = some obj)
    (hfresh : ∀ k, k < its.length → k ≠ i → ¬ S k → Fresh β' (ν k) (ν (k + 1))) :
    Inv (T := T) (H := H) (n := n) (n' := n') (C := C) (ops := ops) (its := its) (τ := τ) (ν := ν) (σ := σ) (υ := υ) (μ := μ) β0 w0 D (fun k => k = i ∨ S k) j' β' (a.put o.dst cv) w' := by
  have hilt : i < its.length := by
    rcases Nat.lt_or_ge i its.length with h | h
    · exact h
    · rw [List.getElem?_eq_none h] at hit; cases hit
  have hdlt : ∀ t, o.dst = some t → t < a.tmps.size := fun t ht => Nat.lt_of_lt_of_le ((X.run.step i it hit).lt t (by rw [hio]; exact ht)) I.nt
  have hother : ∀ t, o.dst ≠ some t → (a.put o.dst cv).tmps.getD t undef = a.tmps.getD t undef := by
    intro t ht
    cases hd : o.dst with
    | none => rfl
    | some d =>
      rw [hd] at ht
      show (a.tmps.setIfInBounds d cv).getD t undef = _
      rw [Array.getD_eq_getD_getElem?, Array.getElem?_setIfInBounds_ne (fun e => ht (by rw [e])), ← Array.getD_eq_getD_getElem?]
  refine ⟨?_, ?_, ?_, ?_, ?_, ?_, ?_, ?_, hmem, ?_⟩
  · rintro k (rfl | h)
    · exact hilt
    · exact I.lt k h
  · rintro k q (rfl | h) hb
    · exact .inr (hbind q hb)
    · exact .inr (I.closed k q h hb)
  · intro k ok hok hk
    by_cases e : k = i
    · subst e
      rw [ho] at hok; cases hok
      have := hj.1 hk
      exact ⟨fun _ => by omega, fun _ => .inl rfl⟩
    · have hiff := I.wr k ok hok hk
      constructor
      · rintro (h | h)
        · exact absurd h e
        · have := hiff.1 h
          by_cases hk3 : kindOf o.op = 3
          · have := hj.1 hk3; omega
          · have := hj.2 hk3; omega
      · intro h
        right
        rw [hiff]
        by_cases hk3 : kindOf o.op = 3
        · obtain ⟨h1, h2⟩ := hj.1 hk3
          have hklt : k < its.length := by
            rw [X.plan.len]
            rcases Nat.lt_or_ge k ops.toList.length with h | h
            · exact h
            · rw [List.getElem?_eq_none h] at hok; cases hok
          obtain ⟨itk, o2, hitk, hok2, _, hkk, _⟩ := X.item hklt
          rw [hok] at hok2; cases hok2
          have s1 := ((X.sig hit).1 (by
            obtain ⟨it2, o2, q1, q2, _, q4, _⟩ := X.item hilt
            rw [hit] at q1; cases q1
            rw [ho] at q2; cases q2
            rw [q4]; exact hk3)).1
          have s2 := ((X.sig hitk).1 (by rw [hkk]; exact hk)).1
          rcases Nat.lt_or_gt_of_ne e with hlt | hgt
          · have := X.sg (i := k + 1) (k := i) (by omega) (by omega)
            omega
          · have := X.sg (i := i + 1) (k := k) (by omega) (by omega)
            omega
        · have := hj.2 hk3; omega
  · by_cases hk3 : kindOf o.op = 3
    · obtain ⟨h1, h2⟩ := hj.1 hk3
      have s1 := ((X.sig hit).1 (by
            obtain ⟨it2, o2, q1, q2, _, q4, _⟩ := X.item hilt
            rw [hit] at q1; cases q1
            rw [ho] at q2; cases q2
            rw [q4]; exact hk3)).1
      have := X.sg (i := i + 1) (k := its.length) (by omega) (Nat.le_refl _)
      omega
    · rw [hj.2 hk3]; exact I.jle
  · rintro k ok t (rfl | h) hok hd
    · rw [ho] at hok; cases hok
      have hlt := hdlt t hd
      rw [hd]
      show VR β' (υ k) ((a.tmps.setIfInBounds t cv).getD t undef)
      rw [Array.getD_eq_getD_getElem?, Array.getElem?_setIfInBounds_self_of_lt hlt]
      exact hcv
    · have hne : o.dst ≠ some t := by
        intro e
        have := X.plan.dst i k o ok t ho hok e hd
        subst this; exact hS h
      rw [hother t hne]
      exact (I.tmp k ok t h hok hd).mono hle
  · intro t v hall hv
    have hne : o.dst ≠ some t := hall i o (.inl rfl) ho
    rw [hother t hne]
    exact (I.old t v (fun k ok hk hok => hall k ok (.inr hk) hok) hv).mono hle
  · cases hd : o.dst with
    | none => exact I.nt
    | some d => show C.nt ≤ (a.tmps.setIfInBounds d cv).size; simpa using I.nt
  · have : (a.put o.dst cv).defers = a.defers := by cases o.dst <;> rfl
    rw [this]; exact I.dr.mono hle
  · intro k hk hns
    exact hfresh k hk (fun e => hns (.inl e)) (fun h => hns (.inr h))
end
end Go.Am
