/-
  AM: code and calls: what AM says of them holds (regions with an open order are left to the next text).
-/
import Derived.Test.YtejjhikbdchjaaaGreatAmUp
set_option linter.unusedSectionVars false
namespace Go.Am
variable [Vals]

/-- Calls put off. -/
def DR (β : Ren) : Dfr → List Deferred → Prop
  | [], [] => True
  | (f, args) :: l, d :: ds => (∃ cap dargs, d = ⟨.fn (.func f) cap, dargs⟩ ∧ VRs β args (dargs ++ cap).toList ∧ invoke (.fn (.func f) cap) dargs = callFunc f (dargs ++ cap)) ∧ DR β l ds
  | _, _ => False
theorem DR.mono {β β' : Ren} (h : β.le β') : ∀ {l : Dfr} {ds : List Deferred}, DR β l ds → DR β' l ds
  | [], [], _ => trivial
  | (_, _) :: _, _ :: _, ⟨⟨cap, dargs, h1, h2, h3⟩, k⟩ => ⟨⟨cap, dargs, h1, h2.mono h, h3⟩, DR.mono h k⟩
  | [], _ :: _, k => k.elim
  | (_, _) :: _, [], k => k.elim
theorem TR.mono {β β' : Ren} (h : β.le β') {T : Tmps} {tm : Array Value} (k : TR β T tm) : TR β' T tm := fun t v hv => (k t v hv).mono h

structure St (β : Ren) (nt : Nat) (T : Tmps) (D : Dfr) (h : Mem) (a : Act) (w : World) : Prop where
  rel : Rel β h w
  tr : TR β T a.tmps
  nt : nt ≤ a.tmps.size
  dr : DR β D a.defers

/-- An exit, by AM's number. -/
def ER : Nat → Exit → Prop
  | 0, .normal => True
  | 1, .ret => True
  | k + 2, .exit id => id = k
  | _, _ => False

def Outcome (β : Ren) (h : Mem) (w : World) (n nt : Nat) (e : Nat) (T' : Tmps) (D' : Dfr) (H' : Heap) (n' : Nat) (ex : Exit) (a' : Act) (w' : World) : Prop :=
  ER e ex ∧ ∃ β', Post β h w n β' H'.get w' n' ∧ St β' nt T' D' H'.get a' w'

def RetOk (β : Ren) (h : Mem) (w : World) (n : Nat) (v : AV) (H' : Heap) (n' : Nat) (e : Ending) (w' : World) : Prop :=
  ∃ cv β', e = .returned cv ∧ VR β' v cv ∧ Post β h w n β' H'.get w' n'
def CallOk (P : Program) (E : Env) (call : CallF) : Prop := ∀ f args H n v bare H' n', call f args H n = .ret v bare H' n' → UpR H n H' n' ∧ HasBody E f ∧
  ∀ β w (cargs : Array Value), Rel β H.get w → VRs β args cargs.toList → Fresh β n n' → Calls P f cargs w (RetOk β H.get w n v H' n') ∧
    (bare = true → ∀ u, CallsD P f cargs u w fun e u' w' => u' = u ∧ RetOk β H.get w n v H' n' e w')

section
variable {E : Env} {P : Program} {C : Ctx} {w : World} {β : Ren} {n : Nat}

theorem TR.put {T T1 : Tmps} {tm : Array Value} {t : Nat} {v : AV} {cv : Value} (h : TR β T tm) (hv : VR β v cv) (ht : t < tm.size) (hT : ∀ j, T1.get j = if j = t then some v else T.get j) : TR β T1 (tm.setIfInBounds t cv) := by
  intro j u hj
  rw [hT] at hj
  by_cases e : j = t
  · rw [if_pos e] at hj; cases hj
    subst e
    rw [Array.getD_eq_getD_getElem?, Array.getElem?_setIfInBounds_self_of_lt ht]
    exact hv
  · rw [if_neg e] at hj
    have := h j u hj
    rw [Array.getD_eq_getD_getElem?, Array.getElem?_setIfInBounds_ne (fun x => e x.symm), ← Array.getD_eq_getD_getElem?]
    exact this

theorem put_ok {d : Option Tmp} {nt : Nat} {T : Tmps} {v : AV} {cv : Value} {K : Kont} {D : Dfr} {H : Heap} {r : CR} {a : Act} (hr : r ≠ .fail) (hp : putD d nt T v K D H n = r) (ht : TR β T a.tmps) (hn : nt ≤ a.tmps.size) (hv : VR β v cv) :
    ∃ T1, K T1 D H n = r ∧ TR β T1 (a.put d cv).tmps ∧ nt ≤ (a.put d cv).tmps.size ∧ (a.put d cv).defers = a.defers ∧ (∀ j, T1.get j = match d with | some t => if j = t then some v else T.get j | none => T.get j) := by
  cases d with
  | none => exact ⟨T, hp, ht, hn, rfl, fun j => rfl⟩
  | some t =>
    have e : putD (some t) nt T v K D H n = Bool.rec (motive := fun _ => CR) .fail (Tr.putK .fail depth T t (some v) fun T' => K T' D H n) (Nat.blt t nt) := rfl
    rw [e] at hp
    cases hb : Nat.blt t nt with
    | false => rw [hb] at hp; exact absurd hp.symm hr
    | true =>
      rw [hb] at hp
      have hlt := blt_iff.1 hb
      have hp : Tr.putK .fail depth T t (some v) (fun T' => K T' D H n) = r := hp
      rcases Tr.putK_spec depth T t (some v) with ⟨T1, h1, h2⟩ | hbad
      · rw [h1] at hp
        refine ⟨T1, hp, ht.put hv (by omega) h2, ?_, rfl, fun j => h2 j⟩
        show nt ≤ (a.tmps.setIfInBounds t cv).size
        simpa using hn
      · rw [hbad] at hp; exact absurd hp.symm hr

theorem put_go {d : Option Tmp} {nt : Nat} {T : Tmps} {v : AV} {K : Kont} {D : Dfr} {H : Heap} {r : CR} (hr : r ≠ .fail) (hp : putD d nt T v K D H n = r) : ∃ T1, K T1 D H n = r := by
  cases d with
  | none => exact ⟨T, hp⟩
  | some t =>
    have e : putD (some t) nt T v K D H n = Bool.rec (motive := fun _ => CR) .fail (Tr.putK .fail depth T t (some v) fun T' => K T' D H n) (Nat.blt t nt) := rfl
    rw [e] at hp
    cases hb : Nat.blt t nt with
    | false => rw [hb] at hp; exact absurd hp.symm hr
    | true =>
      rw [hb] at hp
      have hp : Tr.putK .fail depth T t (some v) (fun T' => K T' D H n) = r := hp
      rcases Tr.putK_spec depth T t (some v) with ⟨T1, h1, h2⟩ | hbad
      · rw [h1] at hp; exact ⟨T1, hp⟩
      · rw [hbad] at hp; exact absurd hp.symm hr

def KUp (K : Kont) : Prop := ∀ T D H n e T' D' H' n', K T D H n = .out e T' D' H' n' → UpR H n H' n'

/-- One operation, and on. -/
theorem op_step (ok : EnvOk E P) (hE : C.E = E) (hC : CallOk P E C.call) {o : Oper} {K : Kont} {Kp : Act → World → Prop} {Q : Exit → Act → World → Prop} {T T' : Tmps} {D D' : Dfr} {H H' : Heap} {e n' : Nat} {a : Act}
    (hr : opRes (opV o.op C.E T H n) o.dst C T K D H n = .out e T' D' H' n') (hs : St β C.nt T D H.get a w) (hf : Fresh β n n') (hup : KUp K) 
    (hK : ∀ β1 T1 D1 H1 n1 a1 w1, Post β H.get w n β1 H1.get w1 n1 → St β1 C.nt T1 D1 H1.get a1 w1 → K T1 D1 H1 n1 = .out e T' D' H' n' → Kp a1 w1) : o.wp P a w Kp Q := by
  subst hE
  have hop := op_ok (n := n) ok o hs.rel hs.tr
  have hu := op_up (E := C.E) (H := H) (n := n) o.op T
  have hne : (CR.out e T' D' H' n') ≠ .fail := by simp
  unfold Oper.wp
  cases ho : opV o.op C.E T H n with
  | fail => rw [ho] at hr; cases hr
  | val v =>
    rw [ho] at hr hop
    obtain ⟨nx, h1, h2⟩ := hop
    rw [h1]
    rcases h2 with ⟨cv, rfl, hv⟩ | ⟨rfl, hv⟩
    · obtain ⟨T1, k1, k2, k3, k4, _⟩ := put_ok (a := a) hne hr hs.tr hs.nt hv
      exact hK β T1 D H n _ w (Post.refl hs.rel) ⟨hs.rel, k2, k3, by rw [k4]; exact hs.dr⟩ k1
    · obtain ⟨T1, k1, k2, k3, k4, _⟩ := put_ok (a := a) hne hr hs.tr hs.nt hv
      exact hK β T1 D H n _ w (Post.refl hs.rel) ⟨hs.rel, k2, k3, by rw [k4]; exact hs.dr⟩ k1
  | mem v H1 n1 =>
    rw [ho] at hr hop hu
    obtain ⟨T0, hT0⟩ := put_go hne hr
    have hn1 : n1 ≤ n' := (hup _ _ _ _ _ _ _ _ _ hT0).1
    obtain ⟨nx, w1, β1, h1, h2, hp⟩ := hop (hf.mono (Nat.le_refl _) hn1)
    rw [h1]
    rcases h2 with ⟨cv, rfl, hv⟩ | ⟨rfl, hv⟩
    · obtain ⟨T1, k1, k2, k3, k4, _⟩ := put_ok (a := a) hne hr (hs.tr.mono hp.le) hs.nt hv
      exact hK β1 T1 D H1 n1 _ w1 hp ⟨hp.rel, k2, k3, by rw [k4]; exact hs.dr.mono hp.le⟩ k1
    · obtain ⟨T1, k1, k2, k3, k4, _⟩ := put_ok (a := a) hne hr (hs.tr.mono hp.le) hs.nt hv
      exact hK β1 T1 D H1 n1 _ w1 hp ⟨hp.rel, k2, k3, by rw [k4]; exact hs.dr.mono hp.le⟩ k1
  | enter f args =>
    rw [ho] at hr hop
    have hr : opCall (C.call f args H n) o.dst C.nt T K D = .out e T' D' H' n' := hr
    cases hc : C.call f args H n with
    | fail => rw [hc] at hr; cases hr
    | ret v bare H1 n1 =>
      rw [hc] at hr
      simp only [opCall] at hr
      obtain ⟨hn, hb, hcall⟩ := hC _ _ _ _ _ _ _ _ hc
      obtain ⟨T0, hT0⟩ := put_go hne hr
      have hn1 : n1 ≤ n' := (hup _ _ _ _ _ _ _ _ _ hT0).1
      obtain ⟨cargs, h1, h2⟩ := hop hb
      rw [h1]
      refine Calls.mono (hcall β w cargs hs.rel h2 (hf.mono (Nat.le_refl _) hn1)).1 ?_
      rintro en w1 ⟨cv, β1, rfl, hv, hp⟩
      obtain ⟨T1, k1, k2, k3, k4, _⟩ := put_ok (a := a) hne hr (hs.tr.mono hp.le) hs.nt hv
      exact hK β1 T1 D H1 n1 _ w1 hp ⟨hp.rel, k2, k3, by rw [k4]; exact hs.dr.mono hp.le⟩ k1
  | dfr f args =>
    rw [ho] at hr hop
    have hr : putD o.dst C.nt T (.tup []) K ((f, args) :: D) H n = .out e T' D' H' n' := hr
    obtain ⟨cap, dargs, h1, h2, h3⟩ := hop
    rw [h1]
    obtain ⟨T1, k1, k2, k3, k4, _⟩ := put_ok (a := { a with defers := ⟨.fn (.func f) cap, dargs⟩ :: a.defers }) (cv := undef) hne hr hs.tr hs.nt (.tup [] #[] .nil)
    exact hK β T1 ((f, args) :: D) H n _ w (Post.refl hs.rel) ⟨hs.rel, k2, k3, by rw [k4]; exact ⟨⟨cap, dargs, rfl, h2, h3⟩, hs.dr⟩⟩ k1

theorem opRes_up (hC : CallOk P E C.call) {o : Op} {d : Option Tmp} {K : Kont} {T T' : Tmps} {D D' : Dfr} {H H' : Heap} {e n' : Nat} (hup : KUp K) (hr : opRes (opV o C.E T H n) d C T K D H n = .out e T' D' H' n') : UpR H n H' n' := by
  have hu := op_up (E := C.E) (H := H) (n := n) o T
  have hne : (CR.out e T' D' H' n') ≠ .fail := by simp
  cases ho : opV o C.E T H n with
  | fail => rw [ho] at hr; cases hr
  | val v => rw [ho] at hr; obtain ⟨T0, hT0⟩ := put_go hne hr; exact hup _ _ _ _ _ _ _ _ _ hT0
  | mem v H1 n1 =>
    rw [ho] at hr hu
    have hu : UpR H n H1 n1 := hu
    obtain ⟨T0, hT0⟩ := put_go hne hr
    exact hu.trans (hup _ _ _ _ _ _ _ _ _ hT0)
  | enter f args =>
    rw [ho] at hr
    have hr : opCall (C.call f args H n) d C.nt T K D = .out e T' D' H' n' := hr
    cases hc : C.call f args H n with
    | fail => rw [hc] at hr; cases hr
    | ret v bare H1 n1 =>
      rw [hc] at hr
      obtain ⟨hn, _⟩ := hC _ _ _ _ _ _ _ _ hc
      obtain ⟨T0, hT0⟩ := put_go hne hr
      exact hn.trans (hup _ _ _ _ _ _ _ _ _ hT0)
  | dfr f args => rw [ho] at hr; obtain ⟨T0, hT0⟩ := put_go hne hr; exact hup _ _ _ _ _ _ _ _ _ hT0

theorem operV_up (hC : CallOk P E C.call) {o : Oper} {all : List Oper} {K : Kont} (hup : KUp K) : KUp (operV o all C K) := by
  intro T D H n e T' D' H' n' hr
  obtain ⟨d, op, ty, pos, af, g⟩ := o
  cases g with
  | none => exact opRes_up hC hup hr
  | some jw =>
    have hr : opGo (wantedV (some jw) all T) op d C T K D H n = .out e T' D' H' n' := hr
    cases hw : wantedV (some jw) all T with
    | none => rw [hw] at hr; cases hr
    | some b =>
      rw [hw] at hr
      cases b with
      | true => exact opRes_up hC hup hr
      | false => obtain ⟨T0, hT0⟩ := put_go (by simp) hr; exact hup _ _ _ _ _ _ _ _ _ hT0

theorem opsV_cons (o : Oper) (l all : List Oper) (C : Ctx) : opsV (o :: l) all C = operV o all C (opsV l all C) := rfl
theorem opsV_up (hC : CallOk P E C.call) (all : List Oper) : ∀ l, KUp (opsV l all C)
  | [] => by intro T D H n e T' D' H' n' hr; cases hr; exact UpR.refl _ _
  | o :: l => by rw [opsV_cons]; exact operV_up hC (opsV_up hC all l)

/-- What AM says of a guard. -/
theorem wanted_ok {ops : Array Oper} {o : Oper} {T : Tmps} {a : Act} {b : Bool} (ht : TR β T a.tmps) (hw : wantedV o.guard ops.toList T = some b) : Region.wanted o (yielded ops a.tmps) = b := by
  unfold Region.wanted
  cases hg : o.guard with
  | none => rw [hg] at hw; cases hw; rfl
  | some jw =>
    obtain ⟨j, w⟩ := jw
    rw [hg] at hw
    simp only [wantedV] at hw
    cases hj : nth j ops.toList with
    | none => rw [hj] at hw; cases hw
    | some oj =>
      rw [hj] at hw
      have hj' : ops[j]? = some oj := by simpa using nth_list hj
      obtain ⟨d, op, ty, pos, af, g⟩ := oj
      cases d with
      | none => cases hw
      | some t =>
        simp only [wanted2] at hw
        have hy : yielded ops a.tmps j = match a.tmps[t]? with | some (.bool b) => some b | _ => none := by
          simp [yielded, hj']; rfl
        cases hT : T.get t with
        | none => rw [hT] at hw; cases hw
        | some v =>
          rw [hT] at hw
          have hv := ht t v hT
          cases v with
          | bool c =>
            have hb : b = (c == w) := by cases c <;> cases w <;> cases hw <;> rfl
            generalize hx : a.tmps.getD t undef = x at hv
            cases hv
            rw [Array.getD_eq_getD_getElem?] at hx
            cases hq : a.tmps[t]? with
            | none => rw [hq] at hx; simp [undef] at hx
            | some y => rw [hq] at hx; simp at hx; subst hx; simp only [hy, hq, hb]; cases c <;> cases w <;> rfl
          | tup l =>
            cases hw
            generalize hx : a.tmps.getD t undef = x at hv
            cases hv
            rw [Array.getD_eq_getD_getElem?] at hx
            cases hq : a.tmps[t]? with
            | none => simp only [hy, hq]; rfl
            | some y => rw [hq] at hx; simp at hx; subst hx; simp only [hy, hq]; rfl
          | _ => cases hw

/-- Operations, one after another. -/
theorem ops_ok (ok : EnvOk E P) (hE : C.E = E) (hC : CallOk P E C.call) {ops : Array Oper} : ∀ (l : List Oper) {T T' : Tmps} {D D' : Dfr} {H H' : Heap} {e n n' : Nat} {β : Ren} {a : Act} {w : World} {Q : Exit → Act → World → Prop},
    opsV l ops.toList C T D H n = .out e T' D' H' n' → St β C.nt T D H.get a w → Fresh β n n' → (∀ ex a' w', Outcome β H.get w n C.nt e T' D' H' n' ex a' w' → Q ex a' w') → wpList P ops Q l a w
  | [], T, T', D, D', H, H', e, n, n', β, a, w, Q, hr, hs, hf, hQ => by
    cases hr
    exact hQ .normal a w ⟨trivial, β, Post.refl hs.rel, hs⟩
  | o :: l, T, T', D, D', H, H', e, n, n', β, a, w, Q, hr, hs, hf, hQ => by
    have hne : (CR.out e T' D' H' n') ≠ .fail := by simp
    have hup := opsV_up (C := C) hC ops.toList l
    rw [opsV_cons] at hr
    have hnext : ∀ β1 T1 D1 H1 n1 a1 w1, Post β H.get w n β1 H1.get w1 n1 → St β1 C.nt T1 D1 H1.get a1 w1 → opsV l ops.toList C T1 D1 H1 n1 = .out e T' D' H' n' → wpList P ops Q l a1 w1 := by
      intro β1 T1 D1 H1 n1 a1 w1 hp hs1 hr1
      refine ops_ok ok hE hC l hr1 hs1 (hp.fresh hf) fun ex a' w' ho => hQ ex a' w' ?_
      obtain ⟨h1, β', h2, h3⟩ := ho
      exact ⟨h1, β', hp.trans h2, h3⟩
    obtain ⟨b, hb1, hb2⟩ : ∃ b, wantedV o.guard ops.toList T = some b ∧ (b = true → opRes (opV o.op C.E T H n) o.dst C T (opsV l ops.toList C) D H n = .out e T' D' H' n') ∧ (b = false → putD o.dst C.nt T (.tup []) (opsV l ops.toList C) D H n = .out e T' D' H' n') := by
      obtain ⟨d, op, ty, pos, af, g⟩ := o
      cases g with
      | none => exact ⟨true, rfl, fun _ => hr, fun e => by cases e⟩
      | some jw =>
        have hr : opGo (wantedV (some jw) ops.toList T) op d C T (opsV l ops.toList C) D H n = .out e T' D' H' n' := hr
        cases hw : wantedV (some jw) ops.toList T with
        | none => rw [hw] at hr; cases hr
        | some b =>
          rw [hw] at hr
          refine ⟨b, rfl, fun e => ?_, fun e => ?_⟩ <;> subst e <;> exact hr
    have hwant := wanted_ok (a := a) hs.tr hb1
    unfold wpList
    cases b with
    | true => rw [if_pos hwant]; exact .inl (op_step ok hE hC (hb2.1 rfl) hs hf hup hnext)
    | false =>
      rw [if_neg (by rw [hwant]; simp)]
      obtain ⟨T1, k1, k2, k3, k4, _⟩ := put_ok (a := a) (cv := undef) hne (hb2.2 rfl) hs.tr hs.nt (.tup [] #[] .nil)
      exact hnext β T1 D H n _ w (Post.refl hs.rel) ⟨hs.rel, k2, k3, by rw [k4]; exact hs.dr⟩ k1
end
end Go.Am
