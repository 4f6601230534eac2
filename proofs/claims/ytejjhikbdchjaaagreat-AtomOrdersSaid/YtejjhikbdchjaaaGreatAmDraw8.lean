/-
  AM: regions with an open order: the next one, whichever it is.
-/
import Derived.Test.YtejjhikbdchjaaaGreatAmDraw7
set_option linter.unusedVariables false
set_option linter.unusedSectionVars false
namespace Go.Am
variable [Vals]

/-- A guard, where only its slot is known. -/
theorem wanted_on {β : Ren} {ops : Array Oper} {o : Oper} {T : Tmps} {a : Act} {b : Bool}
    (ht : ∀ g w og t v, o.guard = some (g, w) → ops.toList[g]? = some og → og.dst = some t → T.get t = some v → VR β v (a.tmps.getD t undef)) (hw : wantedV o.guard ops.toList T = some b) : Region.wanted o (yielded ops a.tmps) = b := by
  cases hg : o.guard with
  | none => unfold Region.wanted; rw [hg] at hw ⊢; cases hw; rfl
  | some jw =>
    obtain ⟨g, wv⟩ := jw
    rw [hg] at hw
    simp only [wantedV] at hw
    cases hj : nth g ops.toList with
    | none => rw [hj] at hw; cases hw
    | some og =>
      have hj' : ops.toList[g]? = some og := nth_list hj
      cases hd : og.dst with
      | none =>
        rw [hj] at hw
        obtain ⟨d, op, ty, pos, af, gg⟩ := og
        simp only at hd; subst hd; cases hw
      | some t =>
        cases hT : T.get t with
        | none =>
          rw [hj] at hw
          obtain ⟨d, op, ty, pos, af, gg⟩ := og
          simp only at hd; subst hd
          simp only [wanted2, hT] at hw; cases hw
        | some v =>
          -- a table that has that slot alone
          have hv := ht g wv og t v hg hj' hd hT
          have e : wantedV o.guard ops.toList T = wanted3 (some v) wv := by
            rw [hg]
            simp only [wantedV, hj]
            obtain ⟨d, op, ty, pos, af, gg⟩ := og
            simp only at hd; subst hd
            simp only [wanted2, hT]
          have hw' : wanted3 (some v) wv = some b := by rw [← e, hg]; simp only [wantedV]; exact hw
          have hy : yielded ops a.tmps g = match a.tmps[t]? with | some (.bool b) => some b | _ => none := by
            have hj2 : ops[g]? = some og := by simpa using hj'
            simp only [yielded, hj2, Option.bind_some, hd]
            rfl
          unfold Region.wanted
          simp only [hg]
          cases v with
          | bool c =>
            have hb : b = (c == wv) := by cases c <;> cases wv <;> cases hw' <;> rfl
            generalize hx : a.tmps.getD t undef = x at hv
            cases hv
            rw [Array.getD_eq_getD_getElem?] at hx
            cases hq : a.tmps[t]? with
            | none => rw [hq] at hx; simp [undef] at hx
            | some y => rw [hq] at hx; simp at hx; subst hx; simp only [hy, hq, hb]; cases c <;> cases wv <;> rfl
          | tup l =>
            cases hw'
            generalize hx : a.tmps.getD t undef = x at hv
            cases hv
            rw [Array.getD_eq_getD_getElem?] at hx
            cases hq : a.tmps[t]? with
            | none => simp only [hy, hq]; rfl
            | some y => rw [hq] at hx; simp at hx; subst hx; simp only [hy, hq]; rfl
          | _ => cases hw'

theorem rel_lf {β : Ren} {h : Mem} {w : World} (r : Rel β h w) : Rel β (Tr.get (.lf : Heap)) w := r.sub fun b o hb => by cases hb

section
variable {E : Env} {P : Program} {C : Ctx} {ops : Array Oper} {its : List Item} {T T' : Tmps} {H H' : Heap} {n n' : Nat} {τ : Nat → Tmps} {η : Nat → Heap} {ν σ : Nat → Nat} {υ : Nat → AV} {μ : Nat → Heap}
variable (X : Setup P E C ops its T T' H H' n n' τ η ν σ υ μ)
variable {β0 β : Ren} {w0 w : World} {D : Dfr} {S : Nat → Prop} {j : Nat} {a : Act}
include X

open Classical in
theorem Setup.one (r0 : Rel β0 H.get w0) (f0 : Fresh β0 n n') (I : Inv (T := T) (H := H) (n := n) (n' := n') (C := C) (ops := ops) (its := its) (τ := τ) (ν := ν) (σ := σ) (υ := υ) (μ := μ) β0 w0 D S j β a w) {i : Nat} {o : Oper} (ho : ops.toList[i]? = some o) (hS : ¬ S i)
    (hbind : ∀ k, Bind ops.toList i k → S k) {K : Act → World → Prop} {Q : Exit → Act → World → Prop}
    (hK : ∀ j' β' a' w', Inv (T := T) (H := H) (n := n) (n' := n') (C := C) (ops := ops) (its := its) (τ := τ) (ν := ν) (σ := σ) (υ := υ) (μ := μ) β0 w0 D (fun k => k = i ∨ S k) j' β' a' w' → K a' w') :
    if Region.wanted o (yielded ops a.tmps) then o.wp P a w K Q else K (a.put o.dst undef) w := by
  have hilt : i < its.length := by
    rw [X.plan.len]
    rcases Nat.lt_or_ge i ops.toList.length with h | h
    · exact h
    · rw [List.getElem?_eq_none h] at ho; cases ho
  obtain ⟨it, o', hit, ho', hio, hkind, hlo, hhi⟩ := X.item hilt
  rw [ho] at ho'; cases ho'
  have hstep := X.run.step i it hit
  have hanc : ∀ k, Anc (ancs ops.toList []) k i → S k := by
    intro k hk
    obtain ⟨q, hq, h⟩ := anc_iff.1 hk
    have hSq := hbind q hq
    rcases h with rfl | ⟨_, h⟩
    · exact hSq
    · exact X.anc I hSq h
  obtain ⟨b, hw, hb0, hb1⟩ := hstep.want
  rw [hio] at hw
  have hwant : Region.wanted o (yielded ops a.tmps) = b := by
    refine wanted_on (β := β) (T := τ i) (fun g wv og t v hg hog hd hv => ?_) hw
    refine X.operand I hilt hS hanc (fun i' oi hoi hdi => ?_) hv
    have := X.plan.dst g i' og oi t hog hoi hd hdi
    subst this
    exact .inr (.inl (X.plan.guard i o g wv ho hg))
  have hev : ∀ x ∈ o.op.operands, VR β (evO x (τ i)) (a.eval x) := by
    intro x hx
    cases x with
    | tmp t =>
      show VR β (Option.rec (motive := fun _ => AV) (.opq 0) (fun v => v) ((τ i).get t)) (a.tmps.getD t undef)
      cases hv : (τ i).get t with
      | none => exact .opq 0 _
      | some v => exact X.operand I hilt hS hanc (fun i' oi hoi hdi => X.plan.use i o t i' oi ho hx hoi hdi) hv
    | const v => exact ofV_rel 4 v
    | global g => exact .opq 0 _
    | func f => exact .func f [] [] #[] #[] .nil .nil
  obtain ⟨hh, hpost, hsub, hmk⟩ := I.mem
  have hrel := hpost.rel
  have hnun : n ≤ ν i := by rw [← X.run.n0]; exact X.nu (Nat.zero_le i) (by omega)
  have hnu1 : ν (i + 1) ≤ n' := by rw [← X.run.n1]; exact X.nu (by omega) (Nat.le_refl _)
  have hfr := I.fresh i hilt hS
  have hη : kindOf o.op = 3 → Mem.sub (η i).get hh := by
    intro hk3 b ob hb
    have hpl := X.place I hilt ho hS hanc hk3
    rcases X.has i (by omega) b ob hb with h | ⟨k', a1, a2, rfl, a4⟩
    · exact hsub b ob (by rw [← hpl]; exact h)
    · obtain ⟨itk, H0, q1, q2, _⟩ := id a2
      obtain ⟨itk', ok, p1, p2, _, p4, _⟩ := X.item (k := k') (by omega)
      rw [q1] at p1; cases p1
      exact hmk k' ob (hanc k' (X.plan.wr i o k' ok ho hk3 p2 (.inr (by rw [← p4]; exact q2)) a1)) a2 (by omega)
  have notMaker : ∀ obj, it.kind ≠ 2 → ¬ Maker C ops.toList its τ ν υ i obj := by
    rintro obj hk ⟨it2, H0, q1, q2, _⟩
    rw [hit] at q1; cases q1; exact hk q2
  have keepFresh : ∀ {β' : Ren} {h1 h2 : Mem} {w1 w2 : World}, Post β h1 w1 (ν i) β' h2 w2 (ν (i + 1)) → ∀ k, k < its.length → k ≠ i → ¬ S k → Fresh β' (ν k) (ν (k + 1)) := by
    intro β' h1 h2 w1 w2 p k hk hne hns
    refine (I.fresh k hk hns).keep p ?_
    rcases Nat.lt_or_gt_of_ne hne with h | h
    · exact .inl (X.nu (by omega) (by omega))
    · exact .inr (X.nu (by omega) (by omega))
  -- nothing in memory has turned
  have still : kindOf o.op ≠ 3 → it.kind ≠ 2 ∨ b = false → ∀ cv, VR β (υ i) cv → K (a.put o.dst cv) w := by
    intro hk3 hk2 cv hcv
    refine hK j β _ w (I.next X hit ho hio hS hbind ⟨fun h => absurd h hk3, fun _ => rfl⟩ (fun _ _ h => h) hcv ⟨hh, hpost, hsub, ?_⟩ fun k hk _ hns => I.fresh k hk hns)
    rintro k obj (rfl | hk) hm hj
    · exfalso
      rcases hk2 with hk2 | hk2
      · exact notMaker obj hk2 hm
      · obtain ⟨it2, H0, q1, _, q3, _⟩ := hm
        rw [hit] at q1; cases q1
        rw [hio, hw, hk2] at q3; cases q3
    · exact hmk k obj hk hm hj
  -- one that writes
  have writes : kindOf o.op = 3 → ∀ β' w' cv, VR β' (υ i) cv → Post β (η i).get w (ν i) β' (η (i + 1)).get w' (ν (i + 1)) → K (a.put o.dst cv) w' := by
    intro hk3 β' w' cv hcv hp
    have hpl := X.place I hilt ho hS hanc hk3
    obtain ⟨hs1, hs2⟩ := (X.sig hit).1 (by rw [hkind]; exact hk3)
    have hup := X.up hit
    let g : Mem := fun b => if ∃ k obj, S k ∧ Maker C ops.toList its τ ν υ k obj ∧ ν k = b ∧ i < k then hh b else none
    have gspec : ∀ b, g b ≠ none → ∃ k obj, S k ∧ Maker C ops.toList its τ ν υ k obj ∧ ν k = b ∧ i < k := by
      intro b hb
      by_cases h : ∃ k obj, S k ∧ Maker C ops.toList its τ ν υ k obj ∧ ν k = b ∧ i < k
      · exact h
      · exact absurd (if_neg h) hb
    have gsub : Mem.sub g hh := by
      intro b ob hb
      have hne : g b ≠ none := by rw [hb]; simp
      have := gspec b hne
      have e : g b = hh b := if_pos this
      rw [← e]; exact hb
    have far : ∀ b, g b ≠ none → n ≤ b ∧ b < n' ∧ ν (i + 1) ≤ b := by
      intro b hb
      obtain ⟨k, obj, h1, h2, rfl, h4⟩ := gspec b hb
      have hk := I.lt k h1
      obtain ⟨itk, H0, q1, q2, q3, q4, q5⟩ := h2
      have e2 := (X.run.step k itk q1).want
      obtain ⟨bb, ew, _, e1⟩ := e2
      rw [q3] at ew; cases ew
      have hn1 := ((e1 rfl).2.2.1 q2).1
      have m1 := X.nu (i := i + 1) (k := k) (by omega) (by omega)
      have m2 := X.nu (i := k + 1) (k := its.length) (by omega) (Nat.le_refl _)
      have m3 := X.nu (i := i) (k := i + 1) (by omega) (by omega)
      rw [X.run.n1] at m2
      omega
    have disj0 : ∀ q, q ≤ i + 1 → ∀ b, g b ≠ none → (η q).get b = none := by
      intro q hq b hb
      obtain ⟨f1, f2, f3⟩ := far b hb
      cases hx : (η q).get b with
      | none => rfl
      | some ob =>
        exfalso
        rcases X.dom q (by omega) b (by rw [hx]; simp) with h | ⟨_, h⟩
        · have hβ0 : ∃ bi, β0 b = some bi := by
            cases hb0 : H.get b with
            | none => exact absurd hb0 h
            | some ob0 =>
              cases ob0 with
              | cells l => obtain ⟨bi, hbi, _⟩ := r0.row b l hb0; exact ⟨bi, hbi⟩
              | map l => obtain ⟨bi, hbi, _⟩ := r0.map b l hb0; exact ⟨bi, hbi⟩
              | ro l => obtain ⟨bi, hbi, _⟩ := r0.ro b l hb0; exact ⟨bi, hbi⟩
          obtain ⟨bi, hbi⟩ := hβ0
          rw [f0 b f1 f2] at hbi; cases hbi
        · have := X.nu (i := q) (k := i + 1) hq (by omega)
          omega
    have pp := Post.step hpost (hη hk3) gsub (disj0 i (by omega)) hp (fun b hb => .inr (far b hb).2.2) hnun hnu1
    refine hK (j + 1) β' _ w' (I.next X hit ho hio hS hbind ⟨fun _ => ⟨rfl, hpl⟩, fun h => absurd hk3 h⟩ hp.le hcv ⟨_, pp, ?_, ?_⟩ (keepFresh hp))
    · intro b ob hb
      rw [← hpl, hs2] at hb
      have : g b = none := by
        cases hg : g b with
        | none => rfl
        | some og =>
          exfalso
          have := disj0 (i + 1) (Nat.le_refl _) b (by rw [hg]; simp)
          rw [hb] at this; cases this
      rw [Mem.over_none this]; exact hb
    · rintro k obj (rfl | hk) hm hj
      · exact absurd hm (notMaker obj (by rw [hkind]; omega))
      · have hik : i < k := by
          rcases Nat.lt_or_ge i k with h | h
          · exact h
          · have := X.sg (i := k) (k := i) h (by omega)
            omega
        have e : g (ν k) = hh (ν k) := if_pos ⟨k, obj, hk, hm, rfl, hik⟩
        have hkk := hmk k obj hk hm (by omega)
        exact Mem.over_some (by rw [e]; exact hkk)
  rw [hwant]
  cases b with
  | false =>
    rw [if_neg (by simp)]
    obtain ⟨e1, e2, e3, e4, e5⟩ := hb0 rfl
    have hvu : VR β (υ i) undef := by rw [e1]; exact .tup [] #[] .nil
    by_cases hk3 : kindOf o.op = 3
    · refine writes hk3 β w undef hvu ?_
      rw [e2, e3]
      exact Post.refl (hrel.sub (hη hk3))
    · exact still hk3 (.inr rfl) undef hvu
  | true =>
    rw [if_pos rfl]
    obtain ⟨k0, k1, k2, k3⟩ := hb1 rfl
    rw [hio] at k0 k2 k3
    have hE := X.hE
    have hlt4 := X.plan.kind i o ho
    have nx : ∀ {v : AV} {β' : Ren} {nxt : Next} {w' : World}, NxR β' v nxt → (∀ cv, VR β' v cv → K (a.put o.dst cv) w') → o.upon P a K Q (.ok nxt w') := by
      rintro v β' nxt w' (⟨cv, rfl, hv⟩ | ⟨rfl, hv⟩) h
      · exact h cv hv
      · exact h undef hv
    unfold Oper.wp
    by_cases hk0 : it.kind = 0
    · obtain ⟨hop, _⟩ := k0 hk0
      have hx := op_on (n := 0) (H := .lf) (hE ▸ X.ok) o (rel_lf hrel) hev
      rw [hop] at hx
      obtain ⟨nxt, h1, h2⟩ := hx
      rw [h1]
      exact nx h2 (still (by omega) (.inl (by omega)))
    by_cases hk1 : it.kind = 1
    · have hread := X.run.read i it hit hk1 (by rw [hio]; exact hw) j ?_ ?_ I.jle
      · rw [hio] at hread
        have hx := op_on (n := 0) (H := μ j) (hE ▸ X.ok) o (hrel.sub hsub) hev
        rw [hread] at hx
        obtain ⟨nxt, h1, h2⟩ := hx
        rw [h1]
        exact nx h2 (still (by omega) (.inl (by omega)))
      · -- enough have written
        have hsig := places_sigma (σ := σ) (l := kinds ops.toList) (i0 := 0) (fun k kd hk => by
          rw [kinds_get] at hk
          cases hok : ops.toList[k]? with
          | none => rw [hok] at hk; cases hk
          | some ok =>
            rw [hok] at hk
            simp only [Option.map_some, Option.some.injEq] at hk
            obtain ⟨itk, ok', q1, q2, _, q4, _⟩ := X.item (k := k) (by rw [X.plan.len]; rcases Nat.lt_or_ge k ops.toList.length with h | h; exact h; rw [List.getElem?_eq_none h] at hok; cases hok)
            rw [hok] at q2; cases q2
            have := X.sig q1
            rw [q4, hk] at this
            rw [Nat.zero_add]
            exact ⟨fun e => (this.1 e).1, this.2⟩)
        rw [hlo]
        cases hm : nth i (ancs ops.toList []) with
        | none => exact Nat.zero_le _
        | some m =>
          have := countIn_le (m := m) (j := j) (σ := σ) (i0 := 0) (fun q x hq => by have := hsig.1 q x hq; rw [X.run.s0] at this; exact this) (l := placesOf 3 0 (kinds ops.toList)) (fun x hx hb => by
            obtain ⟨ox, q1, q2⟩ := places_mem.1 hx
            exact (I.wr x ox q1 q2).1 (hanc x ⟨m, hm, hb⟩))
          simpa using this
      · -- not too many
        have hsig := places_sigma (σ := σ) (l := kinds ops.toList) (i0 := 0) (fun k kd hk => by
          rw [kinds_get] at hk
          cases hok : ops.toList[k]? with
          | none => rw [hok] at hk; cases hk
          | some ok =>
            rw [hok] at hk
            simp only [Option.map_some, Option.some.injEq] at hk
            obtain ⟨itk, ok', q1, q2, _, q4, _⟩ := X.item (k := k) (by rw [X.plan.len]; rcases Nat.lt_or_ge k ops.toList.length with h | h; exact h; rw [List.getElem?_eq_none h] at hok; cases hok)
            rw [hok] at q2; cases q2
            have := X.sig q1
            rw [q4, hk] at this
            rw [Nat.zero_add]
            exact ⟨fun e => (this.1 e).1, this.2⟩)
        rw [hhi]
        have hlen : (kinds ops.toList).length = its.length := by
          rw [X.plan.len]
          generalize ops.toList = l
          induction l with
          | nil => rfl
          | cons x l ih => simp [kinds, ih]
        have := countNot_ge (an := ancs ops.toList []) (k := i) (j := j) (σ := σ) (i0 := 0) (fun q x hq => by have := hsig.1 q x hq; rw [X.run.s0] at this; exact this) (l := placesOf 3 0 (kinds ops.toList)) (fun x hx => by
          obtain ⟨ox, q1, q2⟩ := places_mem.1 hx
          obtain ⟨g1, _, _⟩ := ancs_spec ops.toList []
          have hxl : x < ops.toList.length := by
            rcases Nat.lt_or_ge x ops.toList.length with h | h
            · exact h
            · rw [List.getElem?_eq_none h] at q1; cases q1
          rw [nth_eq]
          exact ⟨_, List.getElem?_eq_getElem (by simp only [List.length_nil, Nat.zero_add] at g1; omega)⟩) (fun x hx hlt ha => by
          obtain ⟨ox, q1, q2⟩ := places_mem.1 hx
          exact hS (X.anc I ((I.wr x ox q1 q2).2 hlt) ha))
        have h2 := hsig.2
        rw [X.run.s0, hlen, Nat.zero_add] at h2
        have hj := I.jle
        have hz : (DS.mk H [] 0 []).s = 0 := rfl
        omega
    by_cases hk2 : it.kind = 2
    · obtain ⟨e1, e2, H0, obj, hop, hg, e3⟩ := k2 hk2
      have hx := op_on (n := ν i) (H := .lf) (hE ▸ X.ok) o (rel_lf hrel) hev
      rw [hop] at hx
      obtain ⟨nxt, w', β', h1, h2, hp⟩ := hx hfr
      rw [h1]
      refine nx h2 fun cv hcv => ?_
      have hgn : ∀ b, hh b ≠ none → b < ν i ∨ ν (i + 1) ≤ b := by
        intro b hb
        have hβ : ∃ bi, β b = some bi := by
          cases hb0 : hh b with
          | none => exact absurd hb0 hb
          | some ob0 =>
            cases ob0 with
            | cells l => obtain ⟨bi, hbi, _⟩ := hrel.row b l hb0; exact ⟨bi, hbi⟩
            | map l => obtain ⟨bi, hbi, _⟩ := hrel.map b l hb0; exact ⟨bi, hbi⟩
            | ro l => obtain ⟨bi, hbi, _⟩ := hrel.ro b l hb0; exact ⟨bi, hbi⟩
        obtain ⟨bi, hbi⟩ := hβ
        rcases Nat.lt_or_ge b (ν i) with h | h
        · exact .inl h
        · rcases Nat.lt_or_ge b (ν (i + 1)) with h' | h'
          · rw [hfr b h h'] at hbi; cases hbi
          · exact .inr h'
      have pp := Post.step hpost (h := Tr.get (.lf : Heap)) (g := hh) (fun b o hb => by cases hb) (fun b o hb => hb) (fun b _ => rfl) hp hgn hnun hnu1
      refine hK j β' _ w' (I.next X hit ho hio hS hbind ⟨fun h => by omega, fun _ => rfl⟩ hp.le hcv ⟨_, pp, ?_, ?_⟩ (keepFresh hp))
      · intro b ob hb
        exact Mem.over_some (hsub b ob hb)
      · rintro k ob (rfl | hk) hm hj
        · obtain ⟨it2, H2, q1, q2, q3, q4, q5⟩ := hm
          rw [hit] at q1; cases q1
          rw [hio, hop] at q4; cases q4
          rw [hg] at q5; cases q5
          have : hh (ν k) = none := by
            cases hx : hh (ν k) with
            | none => rfl
            | some ob0 =>
              exfalso
              rcases hgn (ν k) (by rw [hx]; simp) with h | h <;> omega
          rw [Mem.over_none this]; exact hg
        · exact Mem.over_some (hmk k ob hk hm hj)
    · have hk3 : kindOf o.op = 3 := by omega
      obtain ⟨e1, e2, hop⟩ := k3 (by rw [hkind]; exact hk3)
      have hx := op_on (n := ν i) (H := η i) (hE ▸ X.ok) o (hrel.sub (hη hk3)) hev
      rcases hop with hop | ⟨f, args, bare, hop, hc⟩
      · rw [hop] at hx
        obtain ⟨nxt, w', β', h1, h2, hp⟩ := hx hfr
        rw [h1]
        exact nx h2 fun cv hcv => writes hk3 β' w' cv hcv hp
      · rw [hop] at hx
        obtain ⟨_, hbody, hcall⟩ := X.hC _ _ _ _ _ _ _ _ hc
        obtain ⟨cargs, h1, h2⟩ := hx (by rw [hE]; exact hbody)
        rw [h1]
        refine Calls.mono (hcall β w cargs (hrel.sub (hη hk3)) h2 hfr).1 ?_
        rintro en w' ⟨cv, β', rfl, hcv, hp⟩
        exact writes hk3 β' w' cv hcv hp
end
end Go.Am
