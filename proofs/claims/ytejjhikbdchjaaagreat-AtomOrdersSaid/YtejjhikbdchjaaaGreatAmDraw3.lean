/-
  AM: regions with an open order: the run in the text's order, taken apart (on).
-/
import Derived.Test.YtejjhikbdchjaaaGreatAmDraw2
set_option linter.unusedSectionVars false
namespace Go.Am
variable [Vals]

theorem wrote_inv {C : Ctx} {S : DS} {K : DKont} {T T' : Tmps} {D D' : Dfr} {H H1 H' : Heap} {n n' e : Nat} (h : wrote C.E H1 S K T D H n = .out e T' D' H' n') :
    pendOk C.E H1 (S.s + 1) S.pend = true ∧ K ⟨H1, S.Hm :: S.old, S.s + 1, S.pend⟩ T D H n = .out e T' D' H' n' := by
  unfold wrote at h
  cases hp : pendOk C.E H1 (S.s + 1) S.pend with
  | false => rw [hp] at h; cases h
  | true => rw [hp] at h; exact ⟨rfl, h⟩

theorem trace {C : Ctx} {all : List Oper} : ∀ (its : List Item) (S : DS) (T : Tmps) (D : Dfr) (H : Heap) (n e : Nat) (T' : Tmps) (D' : Dfr) (H' : Heap) (n' : Nat) (μ0 : Nat → Heap),
    itemsV its all C S T D H n = .out e T' D' H' n' → μ0 S.s = S.Hm → S.old = olds μ0 S.s →
    e = 0 ∧ D' = D ∧ ∃ τ η ν σ υ μ, RunK C all its S T T' H H' n n' μ0 τ η ν σ υ μ
  | [], S, T, D, H, n, e, T', D', H', n', μ0, hr, hm, ho => by
    cases hr
    exact ⟨rfl, rfl, fun _ => T, fun _ => H, fun _ => n, fun _ => S.s, fun _ => .opq 0, μ0, ⟨rfl, rfl, rfl, rfl, rfl, rfl, rfl, fun _ _ => rfl, fun _ _ => Nat.le_refl _, fun k it hk => by simp at hk, fun _ => trivial, fun k it hk => by simp at hk,
      fun p _ j h1 _ h3 => by omega⟩⟩
  | it :: its, S, T, D, H, n, e, T', D', H', n', μ0, hr, hm, ho => by
    have hne : (CR.out e T' D' H' n') ≠ .fail := by simp
    have hr : dWant (wantedV it.o.guard all T) it C S (itemsV its all C) T D H n = .out e T' D' H' n' := hr
    -- behind one that writes
    have writes : ∀ {T1 : Tmps} {H1 : Heap} {n1 : Nat} {v : AV}, wrote C.E H1 S (itemsV its all C) T1 D H1 n1 = .out e T' D' H' n' →
        (∀ μ : Nat → Heap, μ (S.s + 1) = H1 → StepK C all it T T1 H H1 n n1 S.s (S.s + 1) v (μ (S.s + 1))) → (it.kind = 1 → wantedV it.o.guard all T = some true → False) →
        e = 0 ∧ D' = D ∧ ∃ τ η ν σ υ μ, RunK C all (it :: its) S T T' H H' n n' μ0 τ η ν σ υ μ := by
      intro T1 H1 n1 v hw hs hk
      obtain ⟨hp, hrest⟩ := wrote_inv hw
      have hlt : ∀ j, j ≤ S.s → (fun j => if j = S.s + 1 then H1 else μ0 j) j = μ0 j := fun j hj => if_neg (by omega)
      obtain ⟨he, hd, τ, η, ν, σ, υ, μ, r⟩ := trace its _ T1 D H1 n1 e T' D' H' n' (fun j => if j = S.s + 1 then H1 else μ0 j) hrest (if_pos rfl) (by
        show S.Hm :: S.old = olds _ (S.s + 1)
        simp only [olds]
        rw [olds_congr (μ' := μ0) fun j hj => hlt j (by omega), ← ho]
        rw [if_neg (by omega), hm])
      have hμ1 : μ (S.s + 1) = H1 := by rw [r.old (S.s + 1) (Nat.le_refl _)]; exact if_pos rfl
      refine ⟨he, hd, _, _, _, _, _, μ, RunK.cons r (hs μ hμ1) (Nat.le_succ _) hlt (fun k w => (hk k w).elim) ?_⟩
      intro p hp' j h1 h2 h3
      by_cases hj : j = S.s + 1
      · rw [hj, hμ1]; exact pend_spec hp p hp' (by omega)
      · exact r.pend p hp' j (by show S.s + 1 < j; omega) h2 h3
    -- behind one that does not
    have stays : ∀ {T1 : Tmps} {H1 : Heap} {n1 : Nat} {v : AV}, itemsV its all C S T1 D H1 n1 = .out e T' D' H' n' →
        (∀ Hs, StepK C all it T T1 H H1 n n1 S.s S.s v Hs) → (it.kind = 1 → wantedV it.o.guard all T = some true → False) →
        e = 0 ∧ D' = D ∧ ∃ τ η ν σ υ μ, RunK C all (it :: its) S T T' H H' n n' μ0 τ η ν σ υ μ := by
      intro T1 H1 n1 v hrest hs hk
      obtain ⟨he, hd, τ, η, ν, σ, υ, μ, r⟩ := trace its S T1 D H1 n1 e T' D' H' n' μ0 hrest hm ho
      exact ⟨he, hd, _, _, _, _, _, μ, RunK.cons r (hs _) (Nat.le_refl _) (fun _ _ => rfl) (fun k w => (hk k w).elim) r.pend⟩
    cases hw : wantedV it.o.guard all T with
    | none => rw [hw] at hr; cases hr
    | some b =>
      rw [hw] at hr
      cases b with
      | false =>
        have hr : putD it.o.dst C.nt T (.tup []) (dSkip (Nat.beq it.kind 3) C S (itemsV its all C) H) D H n = .out e T' D' H' n' := hr
        obtain ⟨T1, h1, h2, h3⟩ := put_get hne hr
        cases hk : Nat.beq it.kind 3 with
        | true =>
          rw [hk] at h1
          have hk := Nat.eq_of_beq_eq_true hk
          refine writes (v := .tup []) h1 (fun μ hμ => ⟨h2, h3, false, hw, fun _ => ⟨rfl, rfl, rfl, fun _ => ⟨rfl, hμ⟩, fun hne => absurd hk hne⟩, fun e => by cases e⟩) (fun _ w => by rw [hw] at w; cases w)
        | false =>
          rw [hk] at h1
          have hk := Nat.ne_of_beq_eq_false hk
          refine stays (v := .tup []) h1 (fun Hs => ⟨h2, h3, false, hw, fun _ => ⟨rfl, rfl, rfl, fun e => absurd e hk, fun _ => rfl⟩, fun e => by cases e⟩) (fun _ w => by rw [hw] at w; cases w)
      | true =>
        have hr : dGo it.kind it C S (itemsV its all C) T D H n = .out e T' D' H' n' := hr
        by_cases k0 : it.kind = 0
        · rw [k0] at hr
          have hr : dPure (opV it.o.op C.E T .lf 0) it C S (itemsV its all C) T D H n = .out e T' D' H' n' := hr
          cases hop : opV it.o.op C.E T .lf 0 with
          | val v =>
            rw [hop] at hr
            obtain ⟨T1, h1, h2, h3⟩ := put_get hne hr
            refine stays h1 (fun Hs => ⟨h2, h3, true, hw, (fun e => by cases e), fun _ => ⟨fun _ => ⟨hop, rfl, rfl, rfl⟩, ?_, ?_, ?_⟩⟩) (fun k1 => by omega) <;> (intro hk; omega)
          | _ => rw [hop] at hr; cases hr
        by_cases k1 : it.kind = 1
        · rw [k1] at hr
          have hr : dRead (opV it.o.op C.E T S.Hm 0) it C S (itemsV its all C) T D H n = .out e T' D' H' n' := hr
          cases hop : opV it.o.op C.E T S.Hm 0 with
          | val v =>
            rw [hop] at hr
            simp only [dRead] at hr
            cases hpast : pastOk C.E it.o.op T v (Nat.sub S.s it.lo) S.old with
            | false => rw [hpast] at hr; cases hr
            | true =>
              rw [hpast] at hr
              simp only [dRead2] at hr
              obtain ⟨T1, h1, h2, h3⟩ := put_get hne hr
              have hstep : ∀ Hs, StepK C all it T T1 H H n n S.s S.s v Hs := fun Hs => ⟨h2, h3, true, hw, (fun e => by cases e), fun _ => ⟨(fun hk => by omega), fun _ => ⟨rfl, rfl, rfl⟩, (fun hk => by omega), fun hk => by omega⟩⟩
              have hle : ∀ j, it.lo ≤ j → j ≤ S.s → opV it.o.op C.E T (μ0 j) 0 = .val v := by
                intro j hlo hj
                by_cases hjs : j = S.s
                · rw [hjs, hm]; exact hop
                · rw [ho] at hpast
                  refine past_spec hpast j (by omega) ?_
                  show S.s ≤ j + (S.s - it.lo)
                  omega
              cases hb : Nat.ble it.hi S.s with
              | true =>
                rw [hb] at h1
                have hb := ble_iff.1 hb
                obtain ⟨he, hd, τ, η, ν, σ, υ, μ, r⟩ := trace its S T1 D H n e T' D' H' n' μ0 h1 hm ho
                refine ⟨he, hd, _, _, _, _, _, μ, RunK.cons r (hstep _) (Nat.le_refl _) (fun _ _ => rfl) (fun _ _ j hlo hhi _ => ?_) r.pend⟩
                rw [r.old j (by omega)]
                exact hle j hlo (by omega)
              | false =>
                rw [hb] at h1
                obtain ⟨he, hd, τ, η, ν, σ, υ, μ, r⟩ := trace its ⟨S.Hm, S.old, S.s, ⟨it.o.op, T, v, it.hi⟩ :: S.pend⟩ T1 D H n e T' D' H' n' μ0 h1 hm ho
                refine ⟨he, hd, _, _, _, _, _, μ, RunK.cons r (hstep _) (Nat.le_refl _) (fun _ _ => rfl) (fun _ _ j hlo hhi hp => ?_) fun p hp j a1 a2 a3 => r.pend p (List.mem_cons_of_mem _ hp) j a1 a2 a3⟩
                by_cases hj : j ≤ S.s
                · rw [r.old j hj]; exact hle j hlo hj
                · exact r.pend ⟨it.o.op, T, v, it.hi⟩ List.mem_cons_self j (by show S.s < j; omega) hhi hp
          | _ => rw [hop] at hr; cases hr
        by_cases k2 : it.kind = 2
        · rw [k2] at hr
          have hr : dMake (opV it.o.op C.E T .lf n) it C S (itemsV its all C) T D H n = .out e T' D' H' n' := hr
          cases hop : opV it.o.op C.E T .lf n with
          | mem v H0 n1 =>
            rw [hop] at hr
            simp only [dMake] at hr
            cases hb : Nat.beq n1 (Nat.succ n) with
            | false => rw [hb] at hr; cases hr
            | true =>
              rw [hb] at hr
              have hb := Nat.eq_of_beq_eq_true hb
              cases hg : H0.get n with
              | none => rw [hg] at hr; cases hr
              | some obj =>
                rw [hg] at hr
                simp only [dMk1] at hr
                cases hp : Tr.put depth H n (some obj) with
                | none => rw [hp] at hr; cases hr
                | some H1 =>
                  rw [hp] at hr
                  simp only [dMk2] at hr
                  obtain ⟨T1, h1, h2, h3⟩ := put_get hne hr
                  refine stays h1 (fun Hs => ⟨h2, h3, true, hw, (fun e => by cases e), fun _ => ⟨?_, ?_, fun _ => ⟨hb, rfl, H0, obj, hop, hg, Tr.put_spec hp⟩, ?_⟩⟩) (fun hk => by omega) <;> (intro hk; omega)
          | _ => rw [hop] at hr; cases hr
        by_cases k3 : it.kind = 3
        · rw [k3] at hr
          have hr : dWrite (opV it.o.op C.E T H n) it C S (itemsV its all C) T D H n = .out e T' D' H' n' := hr
          cases hop : opV it.o.op C.E T H n with
          | mem v H1 n1 =>
            rw [hop] at hr
            have hr : putD it.o.dst C.nt T v (wrote C.E H1 S (itemsV its all C)) D H1 n1 = .out e T' D' H' n' := hr
            obtain ⟨T1, h1, h2, h3⟩ := put_get hne hr
            refine writes h1 (fun μ hμ => ⟨h2, h3, true, hw, (fun e => by cases e), fun _ => ⟨?_, ?_, ?_, fun _ => ⟨rfl, hμ, .inl hop⟩⟩⟩) (fun hk => by omega) <;> (intro hk; omega)
          | enter f args =>
            rw [hop] at hr
            have hr : dCall (C.call f args H n) it C S (itemsV its all C) T D = .out e T' D' H' n' := hr
            cases hc : C.call f args H n with
            | fail => rw [hc] at hr; cases hr
            | ret v bare H1 n1 =>
              rw [hc] at hr
              have hr : putD it.o.dst C.nt T v (wrote C.E H1 S (itemsV its all C)) D H1 n1 = .out e T' D' H' n' := hr
              obtain ⟨T1, h1, h2, h3⟩ := put_get hne hr
              refine writes h1 (fun μ hμ => ⟨h2, h3, true, hw, (fun e => by cases e), fun _ => ⟨?_, ?_, ?_, fun _ => ⟨rfl, hμ, .inr ⟨f, args, bare, hop, hc⟩⟩⟩⟩) (fun hk => by omega) <;> (intro hk; omega)
          | _ => rw [hop] at hr; cases hr
        · exfalso
          have : dGo it.kind it C S (itemsV its all C) T D H n = .fail := by
            generalize it.kind = q at k0 k1 k2 k3
            match q, k0, k1, k2, k3 with
            | 0, h, _, _, _ => exact absurd rfl h
            | 1, _, h, _, _ => exact absurd rfl h
            | 2, _, _, h, _ => exact absurd rfl h
            | 3, _, _, _, h => exact absurd rfl h
            | _ + 4, _, _, _, _ => rfl
          rw [this] at hr; cases hr
end Go.Am
