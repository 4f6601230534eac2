/-
  AM: calls.
-/
import Derived.Test.YtejjhikbdchjaaaGreatAmCode2
set_option linter.unusedSectionVars false
namespace Go.Am
variable [Vals]

section
variable {E : Env} {P : Program} {w : World} {β : Ren} {n : Nat}

theorem putL_rel : ∀ {l : List AV} {l' : List Value} {i : Nat} {T T0 : Tmps} {A : Array Value} , VRs β l l' → putL l i (some T) = some T0 → (∀ j v, T.get j = some v → j < i ∧ VR β v (A.getD j undef)) → (∀ j, A.toList[i + j]? = l'[j]? ∨ l'[j]? = none) →
    ∀ j v, T0.get j = some v → VR β v (A.getD j undef)
  | [], l', i, T, T0, A, _, hp, hT, _ => by cases hp; exact fun j v hj => (hT j v hj).2
  | x :: l, _, i, T, T0, A, .cons _ x' _ l' hx hl, hp, hT, hA => by
    simp only [putL] at hp
    cases hq : Tr.put depth T i (some x) with
    | none => rw [hq] at hp; cases l <;> cases hp
    | some T1 =>
      rw [hq] at hp
      refine putL_rel hl hp ?_ ?_
      · intro j v hj
        rw [Tr.put_spec hq] at hj
        by_cases e : j = i
        · rw [if_pos e] at hj; cases hj
          subst e
          have := hA 0
          simp at this
          refine ⟨by omega, ?_⟩
          rw [Array.getD_eq_getD_getElem?, this]; exact hx
        · rw [if_neg e] at hj
          have := hT j v hj
          exact ⟨by omega, this.2⟩
      · intro j
        have := hA (j + 1)
        rw [show i + 1 + j = i + (j + 1) by omega]
        simpa using this

theorem fits_le : ∀ {l : List AV} {m : Nat}, fits l m = true → l.length ≤ m
  | [], _, _ => Nat.zero_le _
  | _ :: _, 0, h => by cases h
  | _ :: l, m + 1, h => by have := fits_le (l := l) (m := m) h; simp; omega

theorem dfrs_up {call : CallF} (hC : CallOk P E call) : ∀ {D : Dfr} {H H' : Heap} {n n' : Nat}, dfrsV call D H n = some (H', n') → UpR H n H' n'
  | [], H, H', n, n', h => by cases h; exact UpR.refl _ _
  | (f, args) :: l, H, H', n, n', h => by
    simp only [dfrsV] at h
    cases hc : call f args H n with
    | fail => rw [hc] at h; cases h
    | ret v bare H1 n1 =>
      rw [hc] at h
      cases bare with
      | false => cases h
      | true =>
        have h : dfrsV call l H1 n1 = some (H', n') := h
        have h1 := (hC _ _ _ _ _ _ _ _ hc).1
        exact h1.trans (dfrs_up hC h)

/-- Calls put off are made. -/
theorem leaves_ok (ok : EnvOk E P) {call : CallF} (hC : CallOk P E call) {fn : Func} {tmps : Array Value} {R : Ending → World → Prop} : ∀ {D : Dfr} {ds : List Deferred} {β : Ren} {H H' : Heap} {n n' : Nat} {w : World},
    dfrsV call D H n = some (H', n') → DR β D ds → Rel β H.get w → Fresh β n n' →
    (∀ β' w', Post β H.get w n β' H'.get w' n' → ∃ v, (results fn tmps).run P w' = .ok v w' ∧ R (.returned v) w') → Leaves P fn tmps R ds .returning w
  | [], [], β, H, H', n, n', w, h, _, r, hf, hR => by cases h; exact hR β w (Post.refl r)
  | (f, args) :: l, d :: ds, β, H, H', n, n', w, h, ⟨⟨cap, dargs, h1, h2, h3⟩, k⟩, r, hf, hR => by
    simp only [dfrsV] at h
    cases hc : call f args H n with
    | fail => rw [hc] at h; cases h
    | ret v bare H1 n1 =>
      rw [hc] at h
      cases bare with
      | false => cases h
      | true =>
        have h : dfrsV call l H1 n1 = some (H', n') := h
        obtain ⟨hn, hb, hcall⟩ := hC _ _ _ _ _ _ _ _ hc
        have hn1 := (dfrs_up hC h).1
        subst h1
        have hcd := (hcall β w (dargs ++ cap) r h2 (hf.mono (Nat.le_refl _) hn1)).2 rfl .returning
        refine leaves_cons (by simp) (by rw [h3]; exact callFunc_body ok hb _) (CallsD.mono hcd ?_)
        rintro e u' w1 ⟨rfl, cv, β1, rfl, hv, hp⟩
        exact leaves_ok ok hC h (k.mono hp.le) hp.rel (hp.fresh hf) fun β' w' hp' => hR β' w' (hp.trans hp')

def resF (tmps : Array Value) : ResultVar → Sem Value
  | .tmp t => pure (tmps.getD t undef)
  | .cell a t => do loadVar t (← asAddr (tmps.getD a undef))
theorem results_eq (fn : Func) (tmps : Array Value) : results fn tmps =
    (fn.results.mapM (resF tmps) >>= fun vs => pure (if h : vs.size = 1 then vs[0] else .tuple vs)) := by
  unfold results
  congr 2

theorem res_rel (ok : EnvOk E P) {T : Tmps} {H : Heap} {tmps : Array Value} (r : Rel β H.get w) (ht : TR β T tmps) : ∀ (l : List ResultVar) (vs : List AV), ressV l E T H = some vs →
    ∃ vs' : List Value, (l.mapM (resF tmps)).run P w = .ok vs' w ∧ VRs β vs vs'
  | [], vs, h => by cases h; exact ⟨[], by simp, .nil⟩
  | x :: l, vs, h => by
    simp only [ressV] at h
    cases hx : resV x E T H with
    | none => rw [hx] at h; cases h
    | some v =>
      rw [hx] at h
      simp only [consR] at h
      cases hl : ressV l E T H with
      | none => rw [hl] at h; cases h
      | some vs0 =>
        rw [hl] at h; cases h
        obtain ⟨vs', h1, h2⟩ := res_rel ok r ht l vs0 hl
        have key : ∃ v', (resF tmps x).run P w = .ok v' w ∧ VR β v v' := by
          cases x with
          | tmp t => exact ⟨_, rfl, ht t v hx⟩
          | cell a t =>
            simp only [resV] at hx
            cases hT : T.get a with
            | none => rw [hT] at hx; cases hx
            | some p =>
              rw [hT] at hx
              have hv := ht a p hT
              generalize hq : tmps.getD a undef = q at hv
              cases hv with
              | ptr b o i hi =>
                obtain ⟨v', k1, k2⟩ := loadVar_rel ok r hi hx
                exact ⟨v', by simp only [resF, hq]; simp [asAddr, k1], k2⟩
              | _ => cases hx
        obtain ⟨v', k1, k2⟩ := key
        refine ⟨v' :: vs', ?_, .cons _ _ _ _ k2 h2⟩
        rw [List.mapM_cons]
        simp only [Sem.run_bind, k1, Result.andThen_ok, h1, Sem.run_pure]

theorem results_rel (ok : EnvOk E P) {fn : Func} {T : Tmps} {H H' : Heap} {tmps : Array Value} {d bare : Bool} {v : AV} {n n' : Nat} (r : Rel β H.get w) (ht : TR β T tmps) (h : ret1 (ressV fn.results.toList E T H) d H n = .ret v bare H' n') :
    H' = H ∧ n' = n ∧ bare = d ∧ ∃ v', (results fn tmps).run P w = .ok v' w ∧ VR β v v' := by
  cases hr : ressV fn.results.toList E T H with
  | none => rw [hr] at h; cases h
  | some vs =>
    rw [hr] at h
    obtain ⟨vs', h1, h2⟩ := res_rel ok r ht _ _ hr
    have hrun : ∀ y, y = (if h : vs'.toArray.size = 1 then vs'.toArray[0] else .tuple vs'.toArray : Value) → (results fn tmps).run P w = .ok y w := by
      intro y hy
      rw [results_eq]
      simp only [Array.mapM_eq_mapM_toList, Sem.run_bind, Sem.run_map]
      rw [h1]
      simp only [Result.andThen_ok, Sem.run_pure]
      rw [hy]
    cases h2 with
    | nil => cases h; exact ⟨rfl, rfl, rfl, _, hrun _ rfl, .tup _ _ .nil⟩
    | cons x x' l l' hx hl =>
      cases hl with
      | nil => cases h; exact ⟨rfl, rfl, rfl, _, hrun x' rfl, hx⟩
      | cons y y' l l' hy hl =>
        cases h
        refine ⟨rfl, rfl, rfl, _, hrun (.tuple (x' :: y' :: l').toArray) ?_, .tup _ _ (.cons _ _ _ _ hx (.cons _ _ _ _ hy hl))⟩
        rw [dif_neg (by simp)]

theorem dr_nil {D : Dfr} {ds : List Deferred} (h : DR β D ds) (hb : bareD D = true) : D = [] ∧ ds = [] := by
  cases D with
  | nil => cases ds with
    | nil => exact ⟨rfl, rfl⟩
    | cons => exact h.elim
  | cons => cases hb

theorem call_step (ok : EnvOk E P) {call : CallF} (hC : CallOk P E call) (hD : ∀ nt, DrawOk P ⟨E, call, nt⟩) : CallOk P E fun f args H n => call1 (E.funcs.get f) E call args H n := by
  intro f args H n v bare H' n' hr
  replace hr : call1 (E.funcs.get f) E call args H n = .ret v bare H' n' := hr
  cases hf : E.funcs.get f with
  | none => rw [hf] at hr; cases hr
  | some fn =>
    rw [hf] at hr
    simp only [call1] at hr
    cases hb : fn.body with
    | none => rw [hb] at hr; cases hr
    | some c =>
      rw [hb] at hr
      simp only [body1] at hr
      cases hfit : fits args fn.ntmps with
      | false => rw [hfit] at hr; cases hr
      | true =>
        rw [hfit] at hr
        simp only [body2] at hr
        cases hp : putL args 0 (some .lf) with
        | none => rw [hp] at hr; cases hr
        | some T0 =>
          rw [hp] at hr
          simp only [body3] at hr
          have hfits := fits_le hfit
          cases hcv : codeV c ⟨E, call, fn.ntmps⟩ T0 [] H n with
          | fail => rw [hcv] at hr; cases hr
          | out e T1 D1 H1 n1 =>
            rw [hcv] at hr
            have he : (e = 0 ∨ e = 1) ∧ end1 (dfrsV call D1 H1 n1) (bareD D1) E fn.results.toList T1 = .ret v bare H' n' := by
              cases e with
              | zero => exact ⟨.inl rfl, hr⟩
              | succ e => cases e with
                | zero => exact ⟨.inr rfl, hr⟩
                | succ e => cases hr
            obtain ⟨he, hr⟩ := he
            cases hdf : dfrsV call D1 H1 n1 with
            | none => rw [hdf] at hr; cases hr
            | some Hn =>
              obtain ⟨H2, n2⟩ := Hn
              rw [hdf] at hr
              simp only [end1] at hr
              have hret : H' = H2 ∧ n' = n2 ∧ bare = bareD D1 := by
                cases hrs : ressV fn.results.toList E T1 H2 with
                | none => rw [hrs] at hr; cases hr
                | some vs =>
                  rw [hrs] at hr
                  cases vs with
                  | nil => cases hr; exact ⟨rfl, rfl, rfl⟩
                  | cons x vs => cases vs with
                    | nil => cases hr; exact ⟨rfl, rfl, rfl⟩
                    | cons y vs => cases hr; exact ⟨rfl, rfl, rfl⟩
              obtain ⟨rfl, rfl, rfl⟩ := hret
              obtain ⟨hn1, hwp⟩ := code_ok ok rfl hC (hD fn.ntmps) c _ _ _ _ _ _ _ _ _ hcv
              have hn2' := dfrs_up hC hdf
              have hn2 := hn2'.1
              obtain ⟨hf1, _⟩ := ok.funcs f fn hf
              refine ⟨hn1.trans hn2', ⟨fn, c, hf, hb⟩, fun β w cargs r hargs hfr => ?_⟩
              have hs0 : St β fn.ntmps T0 [] H.get { tmps := cargs ++ Array.replicate (fn.ntmps - cargs.size) undef, defers := [] } w := by
                refine ⟨r, ?_, by simp; omega, trivial⟩
                refine putL_rel hargs hp (fun j v h => by cases h) ?_
                intro j
                by_cases hj : j < cargs.size
                · left
                  rw [Array.toList_append, List.getElem?_append_left (by simp; omega)]
                  simp
                · right; simp; omega
              have hres : ∀ {β' : Ren} {a' : Act} {w' : World} {β2 w2}, TR β' T1 a'.tmps → Post β' H1.get w' n1 β2 H'.get w2 n' → ∃ v', (results fn a'.tmps).run P w2 = .ok v' w2 ∧ VR β2 v v' := by
                intro β' a' w' β2 w2 ht hp2
                exact (results_rel ok hp2.rel (ht.mono hp2.le) hr).2.2.2
              constructor
              · refine calls_of_wp_defers hf1 hb (hwp β _ w _ hs0 (hfr.mono (Nat.le_refl _) hn2) ?_)
                rintro ex a' w' ⟨hex, β', hp1, hs1⟩
                have hl : Leaves P fn a'.tmps (RetOk β H.get w n v H' n') a'.defers .returning w' := by
                  refine leaves_ok ok hC hdf hs1.dr hp1.rel (hp1.fresh hfr) fun β2 w2 hp2 => ?_
                  obtain ⟨v', k1, k2⟩ := hres hs1.tr hp2
                  exact ⟨v', k1, v', β2, rfl, k2, hp1.trans hp2⟩
                rcases he with rfl | rfl
                · have := er_zero hex; subst this; exact hl
                · cases ex <;> first | exact hl | exact hex.elim
              · intro hbare u
                refine callsD_of_wp hf1 hb (hwp β _ w _ hs0 (hfr.mono (Nat.le_refl _) hn2) ?_)
                rintro ex a' w' ⟨hex, β', hp1, hs1⟩
                obtain ⟨hd1, hd2⟩ := dr_nil hs1.dr hbare
                have hl : a'.defers = [] ∧ ∃ v', (results fn a'.tmps).run P w' = .ok v' w' ∧ RetOk β H.get w n v H' n' (.returned v') w' := by
                  subst hd1
                  cases hdf
                  obtain ⟨v', k1, k2⟩ := hres hs1.tr (Post.refl hp1.rel)
                  exact ⟨hd2, v', k1, v', β', rfl, k2, hp1⟩
                rcases he with rfl | rfl
                · have := er_zero hex; subst this; exact hl
                · cases ex <;> first | exact hl | exact hex.elim

/-- What is known of calls beforehand is so. -/
def OvOk (P : Program) (E : Env) (ov : Over) : Prop := CallOk P E fun f args H n => ovr (ov f args H n) .fail
theorem noOver_ok : OvOk P E noOver := by intro f args H n v bare H' n' h; cases h

theorem callX_ok (ok : EnvOk E P) {ov : Over} (hov : OvOk P E ov) (hD : ∀ call, CallOk P E call → ∀ nt, DrawOk P ⟨E, call, nt⟩) : ∀ d, CallOk P E (callX E ov d)
  | 0 => by intro f args H n v bare H' n' hr; cases hr
  | d + 1 => by
    have ih := call_step ok (callX_ok ok hov hD d) (hD _ (callX_ok ok hov hD d))
    intro f args H n v bare H' n' hr
    replace hr : ovr (ov f args H n) (call1 (E.funcs.get f) E (callX E ov d) args H n) = .ret v bare H' n' := hr
    cases h : ov f args H n with
    | none => rw [h] at hr; exact ih f args H n v bare H' n' hr
    | some r => rw [h] at hr; exact hov f args H n v bare H' n' (show ovr (ov f args H n) .fail = _ by rw [h]; exact hr)
end
end Go.Am
