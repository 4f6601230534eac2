/-
  AM: regions with an open order: all of them. AM is sound.
-/
import Derived.Test.YtejjhikbdchjaaaGreatAmDraw8
set_option linter.unusedVariables false
set_option linter.unusedSectionVars false
namespace Go.Am
variable [Vals]

section
variable {E : Env} {P : Program} {C : Ctx} {ops : Array Oper} {its : List Item} {T T' : Tmps} {H H' : Heap} {n n' : Nat} {τ : Nat → Tmps} {η : Nat → Heap} {ν σ : Nat → Nat} {υ : Nat → AV} {μ : Nat → Heap}
variable {β0 : Ren} {w0 : World} {D : Dfr}

def Done (listed : Array Bool) (k : Nat) : Prop := listed[k]? = some true

theorem Inv.congr {S S' : Nat → Prop} {j : Nat} {β : Ren} {a : Act} {w : World} (h : ∀ k, S k ↔ S' k)
    (I : Inv (T := T) (H := H) (n := n) (n' := n') (C := C) (ops := ops) (its := its) (τ := τ) (ν := ν) (σ := σ) (υ := υ) (μ := μ) β0 w0 D S j β a w) :
    Inv (T := T) (H := H) (n := n) (n' := n') (C := C) (ops := ops) (its := its) (τ := τ) (ν := ν) (σ := σ) (υ := υ) (μ := μ) β0 w0 D S' j β a w := by
  have : S = S' := funext fun k => propext (h k)
  subst this; exact I

theorem draw_any (X : Setup P E C ops its T T' H H' n n' τ η ν σ υ μ) (r0 : Rel β0 H.get w0) (f0 : Fresh β0 n n') {Q : Exit → Act → World → Prop}
    (hQ : ∀ j β a w, Inv (T := T) (H := H) (n := n) (n' := n') (C := C) (ops := ops) (its := its) (τ := τ) (ν := ν) (σ := σ) (υ := υ) (μ := μ) β0 w0 D (fun k => k < its.length) j β a w → Q .normal a w) :
    ∀ (fuel : Nat) (listed : Array Bool) (j : Nat) (β : Ren) (a : Act) (w : World), listed.size = ops.size →
      Inv (T := T) (H := H) (n := n) (n' := n') (C := C) (ops := ops) (its := its) (τ := τ) (ν := ν) (σ := σ) (υ := υ) (μ := μ) β0 w0 D (Done listed) j β a w →
      ((List.range ops.size).filter fun k => !(listed.getD k true)).length ≤ fuel → wpAny P .any ops Q fuel listed a w := by
  have hlen : its.length = ops.size := by rw [X.plan.len]; simp
  have hend : ∀ (listed : Array Bool) (j : Nat) (β : Ren) (a : Act) (w : World), listed.size = ops.size →
      Inv (T := T) (H := H) (n := n) (n' := n') (C := C) (ops := ops) (its := its) (τ := τ) (ν := ν) (σ := σ) (υ := υ) (μ := μ) β0 w0 D (Done listed) j β a w → Region.ready .any ops listed = [] → Q .normal a w := by
    intro listed j β a w hsz I hr
    have all : ∀ k, k < its.length → Done listed k := by
      intro k
      induction k using Nat.strongRecOn with
      | _ k ih =>
        intro hk
        have hk' : k < listed.size := by omega
        cases hb : listed[k] with
        | true => simp [Done, hk', hb]
        | false =>
          exfalso
          have : k ∈ Region.ready .any ops listed := by
            rw [ready_mem]
            refine ⟨by omega, by simp [Array.getD_eq_getD_getElem?, hk', hb], ops[k]'(by omega), by simp [show k < ops.size by omega], fun e he hbi => ?_⟩
            have hlt := X.plan.back k e.on ⟨ops[k]'(by omega), e, by simp [show k < ops.size by omega], he, hbi, rfl⟩
            have hd := ih e.on hlt (by omega)
            have hd : listed[e.on]? = some true := hd
            simp [Array.getD_eq_getD_getElem?, hd]
          rw [hr] at this; cases this
    exact hQ j β a w (I.congr fun k => ⟨fun h => I.lt k h, all k⟩)
  intro fuel
  induction fuel with
  | zero =>
    intro listed j β a w hsz I hf
    have hr : Region.ready .any ops listed = [] := by
      rw [List.eq_nil_iff_forall_not_mem]
      intro i hi
      rw [ready_mem] at hi
      obtain ⟨h1, h2, _⟩ := hi
      have : i ∈ (List.range ops.size).filter fun k => !(listed.getD k true) := by
        rw [List.mem_filter]; exact ⟨by simpa using h1, by simp [h2]⟩
      have hl := List.eq_nil_of_length_eq_zero (Nat.le_zero.1 hf)
      rw [hl] at this; cases this
    exact ⟨hr, hend listed j β a w hsz I hr⟩
  | succ fuel ih =>
    intro listed j β a w hsz I hf
    refine ⟨hend listed j β a w hsz I, fun i hi => ?_⟩
    rw [ready_mem] at hi
    obtain ⟨h1, h2, o, ho, h3⟩ := hi
    have hil : i < listed.size := by omega
    have hfalse : listed[i]? = some false := by
      rw [Array.getD_eq_getD_getElem?, Array.getElem?_eq_getElem hil] at h2
      rw [Array.getElem?_eq_getElem hil]
      simpa using h2
    have hS : ¬ Done listed i := by unfold Done; rw [hfalse]; simp
    have hoL : ops.toList[i]? = some o := by simpa using ho
    have hbind : ∀ k, Bind ops.toList i k → Done listed k := by
      rintro k ⟨o2, e, q1, q2, q3, rfl⟩
      rw [hoL] at q1; cases q1
      have := h3 e q2 q3
      rw [Array.getD_eq_getD_getElem?] at this
      unfold Done
      cases hx : listed[e.on]? with
      | none => rw [hx] at this; simp at this
      | some b => rw [hx] at this; simp at this; rw [this]
    have hone := Setup.one X r0 f0 I (K := wpAny P .any ops Q fuel (listed.setIfInBounds i true)) (Q := Q) hoL hS hbind (fun j' β' a' w' I' => ?_)
    · unfold wpOp
      simp only [ho]
      split at hone
      · rename_i hw; rw [if_pos hw]; exact .inl hone
      · rename_i hw; rw [if_neg hw]; exact hone
    · refine ih (listed.setIfInBounds i true) j' β' a' w' (by simpa using hsz) (I'.congr fun k => ?_) ?_
      · unfold Done
        by_cases e : k = i
        · subst e; simp [hil]
        · rw [Array.getElem?_setIfInBounds_ne (fun x => e x.symm)]
          exact ⟨fun h => h.resolve_left e, fun h => .inr h⟩
      · have hlt := filter_lt (p := fun k => !(listed.getD k true)) (q := fun k => !((listed.setIfInBounds i true).getD k true)) (i := i) (l := List.range ops.size) ?_ (by simpa using h1) (by simp only [h2]; rfl) ?_
        · have h9 := hf
          omega
        · intro x hx
          by_cases e : x = i
          · subst e; simp only [h2]; rfl
          · rw [Array.getD_eq_getD_getElem?, Array.getElem?_setIfInBounds_ne (fun y => e y.symm), ← Array.getD_eq_getD_getElem?] at hx
            exact hx
        · rw [Array.getD_eq_getD_getElem?, Array.getElem?_setIfInBounds_self_of_lt hil]; rfl

theorem draw_ok (ok : EnvOk E P) (hE : C.E = E) (hC : CallOk P E C.call) (hmix : P.follows .mixedOrders = true) : DrawOk P C := by
  intro id ops T D H n e T' D' H' n' hr
  unfold drawV at hr
  cases hp : plan ops.toList with
  | none => rw [hp] at hr; cases hr
  | some its =>
    rw [hp] at hr
    have hr : itemsV its ops.toList C ⟨H, [], 0, []⟩ T D H n = .out e T' D' H' n' := hr
    obtain ⟨he, hd, τ, η, ν, σ, υ, μ, run⟩ := trace its ⟨H, [], 0, []⟩ T D H n e T' D' H' n' (fun _ => H) hr rfl rfl
    subst he; subst hd
    have X : Setup P E C ops its T T' H H' n n' τ η ν σ υ μ := ⟨ok, hE, hC, plan_ok hp, run⟩
    have hlen : its.length = ops.size := by rw [X.plan.len]; simp
    have hnn : n ≤ n' := by rw [← run.n0, ← run.n1]; exact X.nu (Nat.zero_le _) (Nat.le_refl _)
    have hdom : ∀ b, H'.get b ≠ none → H.get b ≠ none ∨ (n ≤ b ∧ b < n') := by
      intro b hb
      rw [← run.h1] at hb
      have := X.dom its.length (Nat.le_refl _) b hb
      rwa [run.n1] at this
    refine ⟨⟨hnn, hdom⟩, fun β a w Q hs hf hQ => ?_⟩
    refine wp_region_any hmix (draw_any (β0 := β) (w0 := w) (D := D') X hs.rel hf ?_ ops.size _ 0 β a _ (by simp) ?_ ?_)
    · intro j β' a' w' I
      obtain ⟨hh, hpost, hsub, hmk⟩ := I.mem
      have hj : j = σ its.length := by
        rcases Nat.lt_or_ge j (σ its.length) with h | h
        · exfalso
          have key : ∀ d, d ≤ its.length → j < σ d → ∃ k o', k < d ∧ ops.toList[k]? = some o' ∧ kindOf o'.op = 3 ∧ σ k = j := by
            intro d
            induction d with
            | zero => intro _ h; rw [run.s0] at h; exact absurd h (Nat.not_lt_zero _)
            | succ d ih =>
              intro hd h
              by_cases hlt : j < σ d
              · obtain ⟨k, o', a1, a2⟩ := ih (by omega) hlt
                exact ⟨k, o', by omega, a2⟩
              · obtain ⟨it, o', hit, ho', hio, hki, _⟩ := X.item (k := d) (by omega)
                have hs := X.sig hit
                by_cases h3 : it.kind = 3
                · have := (hs.1 h3).1
                  exact ⟨d, o', by omega, ho', by rw [← hki]; exact h3, by omega⟩
                · have := hs.2 h3; omega
          obtain ⟨k, o', a1, a2, a3, a4⟩ := key its.length (Nat.le_refl _) h
          have := (I.wr k o' a2 a3).1 a1
          omega
        · have := I.jle; omega
      have hsub' : Mem.sub H'.get hh := by
        intro b o hb
        rw [← run.h1] at hb
        rcases X.has its.length (Nat.le_refl _) b o hb with h | ⟨k', q1, q2, rfl, q4⟩
        · exact hsub b o (by rw [hj]; exact h)
        · exact hmk k' o q1 q2 (by omega)
      refine hQ .normal a' w' ⟨trivial, β', hpost.subMem hsub', hpost.rel.sub hsub', ?_, I.nt, I.dr⟩
      intro t v hv
      rw [← run.t1] at hv
      rcases X.slot its.length (Nat.le_refl _) t v hv with ⟨i, o, q1, q2, q3, rfl⟩ | ⟨q1, q2⟩
      · exact I.tmp i o t q1 q2 q3
      · exact I.old t v (fun k o hk ho => q1 k o hk ho) q2
    · have hno : ∀ k, ¬ Done (Array.replicate ops.size false) k := by
        intro k hk
        unfold Done at hk
        rw [Array.getElem?_replicate] at hk
        split at hk <;> cases hk
      refine ⟨fun k h => absurd h (hno k), fun k i h => absurd h (hno k), fun k o _ _ => ⟨fun h => absurd h (hno k), fun h => absurd h (Nat.not_lt_zero _)⟩, Nat.zero_le _, fun k o t h => absurd h (hno k), fun t v _ hv => hs.tr t v hv, hs.nt, hs.dr, ?_, ?_⟩
      · refine ⟨H.get, ⟨hs.rel.heap rfl, fun _ _ k => k, fun _ _ k => k, fun _ _ => rfl, hnn, rfl, rfl, rfl, Nat.le_refl _, fun _ _ _ => rfl, fun _ k => .inl k, fun k h => h.elim (fun h => Thaw.of_ge (w := { w with drawn := w.drawn + 1 }) h) (fun h C e f hc => h C e f hc)⟩, ?_, fun k obj h => absurd h (hno k)⟩
        intro b o hb
        rw [run.old 0 (Nat.le_refl _)] at hb; exact hb
      · intro k hk _
        have m1 := X.nu (i := 0) (k := k) (Nat.zero_le _) (by omega)
        have m2 := X.nu (i := k + 1) (k := its.length) (by omega) (Nat.le_refl _)
        rw [run.n0] at m1
        rw [run.n1] at m2
        exact hf.mono m1 m2
    · refine Nat.le_trans (List.length_filter_le _ _) (by simp)

/-- AM is sound. -/
theorem am_soundX (ok : EnvOk E P) (hmix : P.follows .mixedOrders = true) {ov : Over} (hov : OvOk P E ov) (d : Nat) : CallOk P E (callX E ov d) :=
  callX_ok ok hov (fun _ hC _ => draw_ok ok rfl hC hmix) d
theorem am_sound (ok : EnvOk E P) (hmix : P.follows .mixedOrders = true) (d : Nat) : CallOk P E (callV E d) := am_soundX ok hmix noOver_ok d
end
end Go.Am
