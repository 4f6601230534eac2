/-
  AM: code and calls (on).
-/
import Derived.Test.YtejjhikbdchjaaaGreatAmCode
set_option linter.unusedSectionVars false
namespace Go.Am
variable [Vals]

section
variable {E : Env} {P : Program} {C : Ctx} {w : World} {β : Ren} {n : Nat}

def CodeOk (P : Program) (C : Ctx) (c : Code) : Prop := ∀ T D H n e T' D' H' n', codeV c C T D H n = .out e T' D' H' n' → UpR H n H' n' ∧
  ∀ β a w (Q : Exit → Act → World → Prop), St β C.nt T D H.get a w → Fresh β n n' → (∀ ex a' w', Outcome β H.get w n C.nt e T' D' H' n' ex a' w' → Q ex a' w') → c.wp P Q a w

def DrawOk (P : Program) (C : Ctx) : Prop := ∀ id (ops : Array Oper) T D H n e T' D' H' n', drawV ops.toList C T D H n = .out e T' D' H' n' → UpR H n H' n' ∧
  ∀ β a w (Q : Exit → Act → World → Prop), St β C.nt T D H.get a w → Fresh β n n' → (∀ ex a' w', Outcome β H.get w n C.nt e T' D' H' n' ex a' w' → Q ex a' w') → (Code.region id ops true).wp P Q a w

theorem er_zero {ex : Exit} (h : ER 0 ex) : ex = .normal := by cases ex <;> first | rfl | exact h.elim
theorem er_succ {k : Nat} {ex : Exit} (h : ER (k + 1) ex) : ex ≠ .normal := by
  intro e; subst e
  cases k <;> exact h.elim

theorem Outcome.trans {h h1 : Mem} {w1 : World} {β1 : Ren} {n1 nt e n' : Nat} {T' : Tmps} {D' : Dfr} {H' : Heap} {ex : Exit} {a' : Act} {w' : World} (p : Post β h w n β1 h1 w1 n1) (o : Outcome β1 h1 w1 n1 nt e T' D' H' n' ex a' w') : Outcome β h w n nt e T' D' H' n' ex a' w' := by
  obtain ⟨k1, β', k2, k3⟩ := o
  exact ⟨k1, β', p.trans k2, k3⟩

theorem rounds_ok {c : Code} (hc : CodeOk P C c) : ∀ (k : Nat) T D H n e T' D' H' n', roundsV k (codeV c C) T D H n = .out e T' D' H' n' → UpR H n H' n' ∧
    ∀ β a w (Q : Exit → Act → World → Prop), St β C.nt T D H.get a w → Fresh β n n' → (∀ ex a' w', Outcome β H.get w n C.nt e T' D' H' n' ex a' w' → Q ex a' w') →
      ∀ (b : Frame) (kk : List Go.Item) (cs : List Frame), ∃ e a' w', Q e a' w' ∧ Arrives P (lone (b.at a (.code c :: .inLoop c :: kk)) cs w) b kk cs e a' w' := by
  intro k
  induction k with
  | zero => intro T D H n e T' D' H' n' hr; cases hr
  | succ k ih =>
    intro T D H n e T' D' H' n' hr
    have hr : thenV (codeV c C T D H n) (roundsV k (codeV c C)) = .out e T' D' H' n' := hr
    cases hcv : codeV c C T D H n with
    | fail => rw [hcv] at hr; cases hr
    | out e1 T1 D1 H1 n1 =>
      rw [hcv] at hr
      obtain ⟨hn1, hwp⟩ := hc _ _ _ _ _ _ _ _ _ hcv
      cases e1 with
      | zero =>
        have hr : roundsV k (codeV c C) T1 D1 H1 n1 = .out e T' D' H' n' := hr
        obtain ⟨hn2, hrest⟩ := ih _ _ _ _ _ _ _ _ _ hr
        refine ⟨hn1.trans hn2, fun β a w Q hs hf hQ b kk cs => ?_⟩
        obtain ⟨ex, a1, w1, ho, harr⟩ := hwp β a w _ hs (hf.mono (Nat.le_refl _) hn2.1) (fun ex a' w' o => o) b (.inLoop c :: kk) cs
        obtain ⟨he, β1, hp, hs1⟩ := ho
        have := er_zero he
        subst this
        obtain ⟨e2, a2, w2, hq2, harr2⟩ := hrest β1 a1 w1 Q hs1 (hp.fresh hf) (fun ex a' w' o => hQ ex a' w' (o.trans hp)) b kk cs
        exact ⟨e2, a2, w2, hq2, .of_steps (Steps.trans harr (.one step_inLoop)) harr2⟩
      | succ e1 =>
        have hr : CR.out (e1 + 1) T1 D1 H1 n1 = .out e T' D' H' n' := hr
        cases hr
        refine ⟨hn1, fun β a w Q hs hf hQ b kk cs => ?_⟩
        obtain ⟨ex, a1, w1, ho, harr⟩ := hwp β a w _ hs hf (fun ex a' w' o => o) b (.inLoop c :: kk) cs
        have hne := er_succ ho.1
        exact ⟨ex, a1, w1, hQ _ _ _ ho, .pass (x := .inLoop c) rfl (fun _ _ => .inl hne) harr⟩

theorem loop_wp {c : Code} {Q : Exit → Act → World → Prop} {a : Act}
    (h : ∀ (b : Frame) (kk : List Go.Item) (cs : List Frame), ∃ e a' w', Q e a' w' ∧ Arrives P (lone (b.at a (.code c :: .inLoop c :: kk)) cs w) b kk cs e a' w') : (Code.loop c).wp P Q a w := by
  intro b k cs
  obtain ⟨e, a', w', hq, harr⟩ := h b k cs
  exact ⟨e, a', w', hq, .of_steps (.one step_loop) harr⟩

theorem code_ok (ok : EnvOk E P) (hE : C.E = E) (hC : CallOk P E C.call) (hD : DrawOk P C) (c : Code) : CodeOk P C c := by
  induction c with
  | skip =>
    intro T D H n e T' D' H' n' hr
    cases hr
    exact ⟨UpR.refl _ _, fun β a w Q hs hf hQ => wp_skip (hQ _ _ _ ⟨trivial, β, Post.refl hs.rel, hs⟩)⟩
  | region id ops draw =>
    intro T D H n e T' D' H' n' hr
    cases draw with
    | true => exact hD id ops _ _ _ _ _ _ _ _ _ hr
    | false =>
      have hr : opsV ops.toList ops.toList C T D H n = .out e T' D' H' n' := hr
      exact ⟨opsV_up hC _ _ _ _ _ _ _ _ _ _ _ hr, fun β a w Q hs hf hQ => wp_region_list (ops_ok ok hE hC _ hr hs hf hQ)⟩
  | seq x y ihx ihy =>
    intro T D H n e T' D' H' n' hr
    have hr : thenV (codeV x C T D H n) (codeV y C) = .out e T' D' H' n' := hr
    cases hcv : codeV x C T D H n with
    | fail => rw [hcv] at hr; cases hr
    | out e1 T1 D1 H1 n1 =>
      rw [hcv] at hr
      obtain ⟨hn1, hwp⟩ := ihx _ _ _ _ _ _ _ _ _ hcv
      cases e1 with
      | zero =>
        have hr : codeV y C T1 D1 H1 n1 = .out e T' D' H' n' := hr
        obtain ⟨hn2, hrest⟩ := ihy _ _ _ _ _ _ _ _ _ hr
        refine ⟨hn1.trans hn2, fun β a w Q hs hf hQ => wp_seq (hwp β a w _ hs (hf.mono (Nat.le_refl _) hn2.1) ?_)⟩
        rintro ex a1 w1 ⟨he, β1, hp, hs1⟩
        have := er_zero he
        subst this
        exact hrest β1 a1 w1 Q hs1 (hp.fresh hf) fun ex a' w' o => hQ ex a' w' (o.trans hp)
      | succ e1 =>
        have hr : CR.out (e1 + 1) T1 D1 H1 n1 = .out e T' D' H' n' := hr
        cases hr
        refine ⟨hn1, fun β a w Q hs hf hQ => wp_seq (hwp β a w _ hs hf ?_)⟩
        intro ex a1 w1 ho
        have hne := er_succ ho.1
        have := hQ _ _ _ ho
        cases ex <;> first | exact absurd rfl hne | exact this
  | cond x y z ihy ihz =>
    intro T D H n e T' D' H' n' hr
    have hr : condV (evO x T) (codeV y C) (codeV z C) T D H n = .out e T' D' H' n' := hr
    cases hx : evO x T with
    | bool b =>
      rw [hx] at hr
      have hev : ∀ {β : Ren} {a : Act}, TR β T a.tmps → a.eval x = .bool b := by
        intro β a ht
        have := evO_rel ht x
        rw [hx] at this
        generalize a.eval x = y at this
        cases this; rfl
      cases b with
      | true =>
        obtain ⟨hn, hwp⟩ := ihy _ _ _ _ _ _ _ _ _ hr
        exact ⟨hn, fun β a w Q hs hf hQ => wp_cond_true (hev hs.tr) (hwp β a w Q hs hf hQ)⟩
      | false =>
        obtain ⟨hn, hwp⟩ := ihz _ _ _ _ _ _ _ _ _ hr
        exact ⟨hn, fun β a w Q hs hf hQ => wp_cond_false (hev hs.tr) (hwp β a w Q hs hf hQ)⟩
    | _ => rw [hx] at hr; cases hr
  | block id x ih =>
    intro T D H n e T' D' H' n' hr
    replace hr : blkV (codeV x C T D H n) id = .out e T' D' H' n' := hr
    cases hcv : codeV x C T D H n with
    | fail => rw [hcv] at hr; cases hr
    | out e1 T1 D1 H1 n1 =>
      rw [hcv] at hr
      obtain ⟨hn1, hwp⟩ := ih _ _ _ _ _ _ _ _ _ hcv
      cases e1 with
      | zero =>
        have hr : CR.out 0 T1 D1 H1 n1 = .out e T' D' H' n' := hr
        cases hr
        refine ⟨hn1, fun β a w Q hs hf hQ => wp_block (hwp β a w _ hs hf ?_)⟩
        intro ex a1 w1 ho
        have := er_zero ho.1
        subst this
        exact hQ _ _ _ ho
      | succ e1 => cases e1 with
      | zero =>
        have hr : CR.out 1 T1 D1 H1 n1 = .out e T' D' H' n' := hr
        cases hr
        refine ⟨hn1, fun β a w Q hs hf hQ => wp_block (hwp β a w _ hs hf ?_)⟩
        intro ex a1 w1 ho
        have hq := hQ _ _ _ ho
        cases ex <;> first | exact hq | exact ho.1.elim
      | succ e1 =>
        replace hr : blk1 (Nat.beq e1 id) e1 T1 D1 H1 n1 = .out e T' D' H' n' := hr
        cases hb : Nat.beq e1 id with
        | true =>
          rw [hb] at hr
          have hb := Nat.eq_of_beq_eq_true hb
          subst hb
          cases hr
          refine ⟨hn1, fun β a w Q hs hf hQ => wp_block (hwp β a w _ hs hf ?_)⟩
          intro ex a1 w1 ho
          obtain ⟨he, ho'⟩ := ho
          cases ex <;> first | exact he.elim | skip
          have he : _ = e1 := he
          subst he
          simp only [Exit.inBlock, if_true]
          exact hQ _ _ _ ⟨trivial, ho'⟩
        | false =>
          rw [hb] at hr
          have hb := Nat.ne_of_beq_eq_false hb
          cases hr
          refine ⟨hn1, fun β a w Q hs hf hQ => wp_block (hwp β a w _ hs hf ?_)⟩
          intro ex a1 w1 ho
          have hq := hQ _ _ _ ho
          obtain ⟨he, ho'⟩ := ho
          cases ex <;> first | exact he.elim | skip
          have he : _ = e1 := he
          subst he
          simp only [Exit.inBlock]
          rw [if_neg hb]
          exact hq
  | loop x ih =>
    intro T D H n e T' D' H' n' hr
    have hr : roundsV rounds (codeV x C) T D H n = .out e T' D' H' n' := hr
    obtain ⟨hn, h⟩ := rounds_ok ih rounds _ _ _ _ _ _ _ _ _ hr
    exact ⟨hn, fun β a w Q hs hf hQ => loop_wp (h β a w Q hs hf hQ)⟩
  | exit id =>
    intro T D H n e T' D' H' n' hr
    cases hr
    exact ⟨UpR.refl _ _, fun β a w Q hs hf hQ => wp_exit (hQ _ _ _ ⟨rfl, β, Post.refl hs.rel, hs⟩)⟩
  | ret =>
    intro T D H n e T' D' H' n' hr
    cases hr
    exact ⟨UpR.refl _ _, fun β a w Q hs hf hQ => wp_ret (hQ _ _ _ ⟨trivial, β, Post.refl hs.rel, hs⟩)⟩
  | _ => intro T D H n e T' D' H' n' hr; cases hr
end
end Go.Am
