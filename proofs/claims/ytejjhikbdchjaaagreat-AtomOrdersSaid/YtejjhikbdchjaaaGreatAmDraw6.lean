/-
  AM: regions with an open order: whatever the order, it comes to what the text's order comes to.
-/
import Derived.Test.YtejjhikbdchjaaaGreatAmDraw5
set_option linter.unusedVariables false
set_option linter.unusedSectionVars false
namespace Go.Am
variable [Vals]

section
variable {E : Env} {P : Program} {C : Ctx} {ops : Array Oper} {its : List Item} {T T' : Tmps} {H H' : Heap} {n n' : Nat} {μ0 : Nat → Heap} {τ : Nat → Tmps} {η : Nat → Heap} {ν σ : Nat → Nat} {υ : Nat → AV} {μ : Nat → Heap} {S0 : DS}

/-- A block made by the k-th. -/
def Maker (C : Ctx) (all : List Oper) (its : List Item) (τ : Nat → Tmps) (ν : Nat → Nat) (υ : Nat → AV) (k : Nat) (obj : AO) : Prop :=
  ∃ it H0, its[k]? = some it ∧ it.kind = 2 ∧ wantedV it.o.guard all (τ k) = some true ∧ opV it.o.op C.E (τ k) .lf (ν k) = .mem (υ k) H0 (ν (k + 1)) ∧ H0.get (ν k) = some obj

structure Setup (P : Program) (E : Env) (C : Ctx) (ops : Array Oper) (its : List Item) (T T' : Tmps) (H H' : Heap) (n n' : Nat) (τ : Nat → Tmps) (η : Nat → Heap) (ν σ : Nat → Nat) (υ : Nat → AV) (μ : Nat → Heap) : Prop where
  ok : EnvOk E P
  hE : C.E = E
  hC : CallOk P E C.call
  plan : PlanOk ops.toList its
  run : RunK C ops.toList its ⟨H, [], 0, []⟩ T T' H H' n n' (fun _ => H) τ η ν σ υ μ

variable (X : Setup P E C ops its T T' H H' n n' τ η ν σ υ μ)
include X

theorem Setup.item {k : Nat} (hk : k < its.length) : ∃ it o, its[k]? = some it ∧ ops.toList[k]? = some o ∧ it.o = o ∧ it.kind = kindOf o.op ∧
    it.lo = (match nth k (ancs ops.toList []) with | some m => countIn m (placesOf 3 0 (kinds ops.toList)) | none => 0) ∧ it.hi = countNot (ancs ops.toList []) k (placesOf 3 0 (kinds ops.toList)) := by
  obtain ⟨o, h1, h2, h3, h4, h5⟩ := X.plan.item k its[k] (by simp [hk])
  exact ⟨its[k], o, by simp [hk], h1, h2, h3, h4, h5⟩

theorem Setup.sig {k : Nat} {it : Item} (hk : its[k]? = some it) : (it.kind = 3 → σ (k + 1) = σ k + 1 ∧ μ (σ k + 1) = η (k + 1)) ∧ (it.kind ≠ 3 → σ (k + 1) = σ k) := by
  obtain ⟨b, _, h1, h2⟩ := (X.run.step k it hk).want
  cases b with
  | false =>
    obtain ⟨_, e2, _, e4, e5⟩ := h1 rfl
    exact ⟨fun h => ⟨(e4 h).1, by rw [(e4 h).2, e2]⟩, e5⟩
  | true =>
    obtain ⟨e0, e1, e2, e3⟩ := h2 rfl
    refine ⟨fun h => ⟨(e3 h).1, (e3 h).2.1⟩, fun h => ?_⟩
    obtain ⟨it', o, ha, hb, hc, hd, _⟩ := X.item (k := k) (by rcases Nat.lt_or_ge k its.length with h | h; exact h; rw [List.getElem?_eq_none h] at hk; cases hk)
    rw [hk] at ha; cases ha
    have hlt := X.plan.kind k o hb
    have : it.kind = 0 ∨ it.kind = 1 ∨ it.kind = 2 := by omega
    rcases this with h | h | h
    · exact (e0 h).2.2.2
    · exact (e1 h).2.2
    · exact (e2 h).2.1

theorem Setup.up {k : Nat} {it : Item} (hk : its[k]? = some it) : UpR (η k) (ν k) (η (k + 1)) (ν (k + 1)) := by
  obtain ⟨b, _, h1, h2⟩ := (X.run.step k it hk).want
  cases b with
  | false =>
    obtain ⟨_, e2, e3, _⟩ := h1 rfl
    rw [e2, e3]; exact UpR.refl _ _
  | true =>
    obtain ⟨e0, e1, e2, e3⟩ := h2 rfl
    obtain ⟨it', o, ha, hb, hc, hd, _⟩ := X.item (k := k) (by rcases Nat.lt_or_ge k its.length with h | h; exact h; rw [List.getElem?_eq_none h] at hk; cases hk)
    rw [hk] at ha; cases ha
    have hlt := X.plan.kind k o hb
    have : it.kind = 0 ∨ it.kind = 1 ∨ it.kind = 2 ∨ it.kind = 3 := by omega
    rcases this with h | h | h | h
    · rw [(e0 h).2.1, (e0 h).2.2.1]; exact UpR.refl _ _
    · rw [(e1 h).1, (e1 h).2.1]; exact UpR.refl _ _
    · obtain ⟨a1, _, H0, obj, a2, a3, a4⟩ := e2 h
      refine ⟨by omega, fun b hb => ?_⟩
      rw [a4 b] at hb
      by_cases e : b = ν k
      · exact .inr ⟨by omega, by omega⟩
      · rw [if_neg e] at hb; exact .inl hb
    · obtain ⟨_, _, h⟩ := e3 h
      rcases h with h | ⟨f, args, bare, h, hc⟩
      · have := op_up (E := C.E) (H := η k) (n := ν k) it.o.op (τ k)
        rw [h] at this; exact this
      · exact (X.hC _ _ _ _ _ _ _ _ hc).1

theorem Setup.get {k : Nat} (hk : k < its.length) : ∃ it, its[k]? = some it := ⟨its[k], by simp [hk]⟩

theorem Setup.mono : ∀ (d i : Nat), i + d ≤ its.length → ν i ≤ ν (i + d) ∧ σ i ≤ σ (i + d)
  | 0, i, _ => ⟨Nat.le_refl _, Nat.le_refl _⟩
  | d + 1, i, h => by
    obtain ⟨h1, h2⟩ := Setup.mono d i (by omega)
    obtain ⟨it, hit⟩ := X.get (k := i + d) (by omega)
    have h3 := (X.up hit).1
    have h4 := X.sig hit
    have h5 : σ (i + d) ≤ σ (i + d + 1) := by
      by_cases hk : it.kind = 3
      · have := (h4.1 hk).1; omega
      · have := h4.2 hk; omega
    exact ⟨by rw [show i + (d + 1) = i + d + 1 by omega]; omega, by rw [show i + (d + 1) = i + d + 1 by omega]; omega⟩
theorem Setup.nu {i k : Nat} (h : i ≤ k) (hk : k ≤ its.length) : ν i ≤ ν k := by
  have := (X.mono (k - i) i (by omega)).1
  rwa [show i + (k - i) = k by omega] at this
theorem Setup.sg {i k : Nat} (h : i ≤ k) (hk : k ≤ its.length) : σ i ≤ σ k := by
  have := (X.mono (k - i) i (by omega)).2
  rwa [show i + (k - i) = k by omega] at this

/-- What memory has on the way: from behind the last that wrote, or made since. -/
theorem Setup.has : ∀ k, k ≤ its.length → ∀ b o, (η k).get b = some o → (μ (σ k)).get b = some o ∨ ∃ k', k' < k ∧ Maker C ops.toList its τ ν υ k' o ∧ ν k' = b ∧ σ k' = σ k
  | 0, _, b, o, h => by
    left
    rw [X.run.h0] at h
    rw [X.run.s0, X.run.old 0 (Nat.le_refl _)]; exact h
  | k + 1, hk, b, o, h => by
    obtain ⟨it, hit⟩ := X.get (k := k) (by omega)
    have hs := X.sig hit
    by_cases h3 : it.kind = 3
    · left
      obtain ⟨e1, e2⟩ := hs.1 h3
      rw [e1, e2]; exact h
    · have hs := hs.2 h3
      have ih := Setup.has k (by omega) b o
      have keep : (η (k + 1)).get b = (η k).get b → (μ (σ (k + 1))).get b = some o ∨ ∃ k', k' < k + 1 ∧ Maker C ops.toList its τ ν υ k' o ∧ ν k' = b ∧ σ k' = σ (k + 1) := by
        intro e
        rw [e] at h
        rcases ih h with h | ⟨k', a1, a2, a3, a4⟩
        · left; rw [hs]; exact h
        · right; exact ⟨k', by omega, a2, a3, by rw [hs]; exact a4⟩
      obtain ⟨bb, hw, h1, h2⟩ := (X.run.step k it hit).want
      cases bb with
      | false => exact keep (by rw [(h1 rfl).2.1])
      | true =>
        obtain ⟨e0, e1, e2, e3⟩ := h2 rfl
        obtain ⟨it', o', ha, hb, hc, hd, _⟩ := X.item (k := k) (by omega)
        rw [hit] at ha; cases ha
        have hlt := X.plan.kind k o' hb
        have : it.kind = 0 ∨ it.kind = 1 ∨ it.kind = 2 := by omega
        rcases this with hk0 | hk0 | hk0
        · exact keep (by rw [(e0 hk0).2.1])
        · exact keep (by rw [(e1 hk0).1])
        · obtain ⟨a1, _, H0, obj, a2, a3, a4⟩ := e2 hk0
          by_cases e : b = ν k
          · rw [a4 b, if_pos e] at h
            cases h
            exact .inr ⟨k, by omega, ⟨it, H0, hit, hk0, hw, a2, a3⟩, e.symm, hs.symm⟩
          · exact keep (by rw [a4 b, if_neg e])

theorem Setup.dom : ∀ k, k ≤ its.length → ∀ b, (η k).get b ≠ none → H.get b ≠ none ∨ (n ≤ b ∧ b < ν k)
  | 0, _, b, h => by rw [X.run.h0] at h; exact .inl h
  | k + 1, hk, b, h => by
    obtain ⟨it, hit⟩ := X.get (k := k) (by omega)
    have hu := X.up hit
    have hn : n ≤ ν k := by rw [← X.run.n0]; exact X.nu (Nat.zero_le k) (by omega)
    have hu1 := hu.1
    rcases hu.2 b h with h | h
    · rcases Setup.dom k (by omega) b h with h | h
      · exact .inl h
      · exact .inr ⟨h.1, by omega⟩
    · exact .inr ⟨by omega, h.2⟩

/-- Slots on the way. -/
theorem Setup.slot : ∀ k, k ≤ its.length → ∀ t v, (τ k).get t = some v → (∃ i o, i < k ∧ ops.toList[i]? = some o ∧ o.dst = some t ∧ υ i = v) ∨ ((∀ i o, i < k → ops.toList[i]? = some o → o.dst ≠ some t) ∧ T.get t = some v)
  | 0, _, t, v, h => by rw [X.run.t0] at h; exact .inr ⟨fun i o hi => by omega, h⟩
  | k + 1, hk, t, v, h => by
    obtain ⟨it, o, hit, ho, hio, _⟩ := X.item (k := k) (by omega)
    have hp := (X.run.step k it hit).put t
    rw [h, hio] at hp
    have other : (τ k).get t = some v → o.dst ≠ some t → (∃ i o, i < k + 1 ∧ ops.toList[i]? = some o ∧ o.dst = some t ∧ υ i = v) ∨ ((∀ i o, i < k + 1 → ops.toList[i]? = some o → o.dst ≠ some t) ∧ T.get t = some v) := by
      intro hv hne
      rcases Setup.slot k (by omega) t v hv with ⟨i, o', a1, a2⟩ | ⟨a1, a2⟩
      · exact .inl ⟨i, o', by omega, a2⟩
      · refine .inr ⟨fun i o' hi ho' => ?_, a2⟩
        by_cases e : i = k
        · subst e; rw [ho] at ho'; cases ho'; exact hne
        · exact a1 i o' (by omega) ho'
    cases hd : o.dst with
    | none =>
      rw [hd] at hp
      exact other hp.symm (by rw [hd]; simp)
    | some t' =>
      rw [hd] at hp
      simp only [putF] at hp
      by_cases e : t = t'
      · rw [if_pos e] at hp
        cases hp
        exact .inl ⟨k, o, by omega, ho, by rw [hd, e], rfl⟩
      · rw [if_neg e] at hp
        exact other hp.symm (by rw [hd]; intro e2; cases e2; exact e rfl)

/-- Some of it done. -/
structure Inv (β0 : Ren) (w0 : World) (D : Dfr) (S : Nat → Prop) (j : Nat) (β : Ren) (a : Act) (w : World) : Prop where
  lt : ∀ k, S k → k < its.length
  closed : ∀ k i, S k → Bind ops.toList k i → S i
  wr : ∀ k o, ops.toList[k]? = some o → kindOf o.op = 3 → (S k ↔ σ k < j)
  jle : j ≤ σ its.length
  tmp : ∀ k o t, S k → ops.toList[k]? = some o → o.dst = some t → VR β (υ k) (a.tmps.getD t undef)
  old : ∀ t v, (∀ k o, S k → ops.toList[k]? = some o → o.dst ≠ some t) → T.get t = some v → VR β v (a.tmps.getD t undef)
  nt : C.nt ≤ a.tmps.size
  dr : DR β D a.defers
  mem : ∃ hh, Post β0 H.get w0 n β hh w n' ∧ Mem.sub (μ j).get hh ∧ ∀ k obj, S k → Maker C ops.toList its τ ν υ k obj → j ≤ σ k → hh (ν k) = some obj
  fresh : ∀ k, k < its.length → ¬ S k → Fresh β (ν k) (ν (k + 1))

variable {β0 β : Ren} {w0 w : World} {D : Dfr} {S : Nat → Prop} {j : Nat} {a : Act}

theorem Setup.anc (I : Inv (T := T) (H := H) (n := n) (n' := n') (C := C) (ops := ops) (its := its) (τ := τ) (ν := ν) (σ := σ) (υ := υ) (μ := μ) β0 w0 D S j β a w) {k i : Nat} (hk : S k) (ha : Anc (ancs ops.toList []) i k) : S i :=
  anc_closed (fun k i h b => I.closed k i h b) k i hk ha

/-- A slot that the i-th (next) looks at. -/
theorem Setup.operand (I : Inv (T := T) (H := H) (n := n) (n' := n') (C := C) (ops := ops) (its := its) (τ := τ) (ν := ν) (σ := σ) (υ := υ) (μ := μ) β0 w0 D S j β a w) {i t : Nat} {v : AV} (hi : i < its.length) (hS : ¬ S i) (hanc : ∀ k, Anc (ancs ops.toList []) k i → S k)
    (huse : ∀ i' oi, ops.toList[i']? = some oi → oi.dst = some t → i' = i ∨ Anc (ancs ops.toList []) i' i ∨ Anc (ancs ops.toList []) i i') (hv : (τ i).get t = some v) : VR β v (a.tmps.getD t undef) := by
  rcases X.slot i (by omega) t v hv with ⟨i', o, h1, h2, h3, rfl⟩ | ⟨h1, h2⟩
  · rcases huse i' o h2 h3 with h | h | h
    · omega
    · exact I.tmp i' o t (hanc i' h) h2 h3
    · have := X.plan.lt _ _ h; omega
  · refine I.old t v (fun k o hk ho hd => ?_) h2
    rcases huse k o ho hd with h | h | h
    · subst h; exact hS hk
    · have := X.plan.lt _ _ h; exact h1 k o this ho hd
    · exact hS (X.anc I hk h)
end
end Go.Am
