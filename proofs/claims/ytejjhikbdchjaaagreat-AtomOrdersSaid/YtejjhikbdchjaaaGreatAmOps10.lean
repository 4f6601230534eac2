/-
  AM: operations, all.
-/
import Derived.Test.YtejjhikbdchjaaaGreatAmOps9
set_option linter.unusedSectionVars false
namespace Go.Am
variable [Vals]

section
variable {E : Env} {P : Program} {w : World} {β : Ren} {n : Nat}

/-- What an operation has handed on. -/
def NxR (β : Ren) (v : AV) (nx : Next) : Prop := (∃ cv, nx = .value cv ∧ VR β v cv) ∨ (nx = .skip ∧ VR β v undef)

def HasBody (E : Env) (f : FuncId) : Prop := ∃ fn c, E.funcs.get f = some fn ∧ fn.body = some c

/-- What AM says of an operation, holds. -/
def OKN (E : Env) (P : Program) (β : Ren) (h : Mem) (w : World) (n : Nat) (s : Sem Next) : OR → Prop
  | .fail => True
  | .val v => ∃ nx, s.run P w = .ok nx w ∧ NxR β v nx
  | .mem v H n' => Fresh β n n' → ∃ nx w' β', s.run P w = .ok nx w' ∧ NxR β' v nx ∧ Post β h w n β' H.get w' n'
  | .enter f args => HasBody E f → ∃ cargs, s.run P w = .ok (.enter f cargs) w ∧ VRs β args cargs.toList
  | .dfr f args => ∃ cap dargs, s.run P w = .ok (.defer ⟨.fn (.func f) cap, dargs⟩) w ∧ VRs β args (dargs ++ cap).toList ∧
      (invoke (.fn (.func f) cap) dargs) = callFunc f (dargs ++ cap)

variable {h : Mem}

theorem okn_v {s : Sem Value} {o : OR} (k : OK1 P β h w n s o) : OKN E P β h w n (do pure (.value (← s))) o := by
  cases o with
  | fail => trivial
  | val v => obtain ⟨cv, h1, h2⟩ := k; exact ⟨.value cv, by simp [h1], .inl ⟨cv, rfl, h2⟩⟩
  | mem v H n' => intro hf; obtain ⟨cv, w', β', h1, h2, h3⟩ := k hf; exact ⟨.value cv, w', β', by simp [h1], .inl ⟨cv, rfl, h2⟩, h3⟩
  | enter f a => exact k.elim
  | dfr f a => exact k.elim
theorem okn_u {s : Sem Unit} {o : OR} (k : OK1 P β h w n (do s; pure (.tuple #[])) o) : OKN E P β h w n (do s; pure .skip) o := by
  have inv : ∀ {cv w'}, ((do s; pure (.tuple #[])) : Sem Value).run P w = .ok cv w' → s.run P w = .ok () w' ∧ cv = .tuple #[] := by
    intro cv w' e
    rw [Sem.run_bind] at e
    cases hs : s.run P w with
    | halt a b => rw [hs] at e; cases e
    | ok a b =>
      rw [hs] at e
      simp only [Result.andThen_ok, Sem.run_pure, Result.ok.injEq] at e
      obtain ⟨rfl, rfl⟩ := e
      exact ⟨rfl, rfl⟩
  cases o with
  | fail => trivial
  | val v => obtain ⟨cv, h1, h2⟩ := k; obtain ⟨h3, rfl⟩ := inv h1; exact ⟨.skip, by simp [h3], .inr ⟨rfl, h2⟩⟩
  | mem v H n' => intro hf; obtain ⟨cv, w', β', h1, h2, h3⟩ := k hf; obtain ⟨h4, rfl⟩ := inv h1; exact ⟨.skip, w', β', by simp [h4], .inr ⟨rfl, h2⟩, h3⟩
  | enter f a => exact k.elim
  | dfr f a => exact k.elim

/-- Slots: what AM knows of them. -/
def TR (β : Ren) (T : Tmps) (tm : Array Value) : Prop := ∀ t v, T.get t = some v → VR β v (tm.getD t undef)

theorem evO_rel {T : Tmps} {a : Act} (ht : TR β T a.tmps) (x : Operand) : VR β (evO x T) (a.eval x) := by
  cases x with
  | tmp t =>
    show VR β (Option.rec (motive := fun _ => AV) (.opq 0) (fun v => v) (T.get t)) (a.tmps.getD t undef)
    cases hv : T.get t with
    | none => exact .opq 0 _
    | some v => exact ht t v hv
  | const v => exact ofV_rel 4 v
  | global g => exact .opq 0 _
  | func f => exact .func f [] [] #[] #[] .nil .nil
theorem evL_on {T : Tmps} {a : Act} : ∀ l : List Operand, (∀ x ∈ l, VR β (evO x T) (a.eval x)) → VRs β (evL l T) (l.map a.eval)
  | [], _ => .nil
  | x :: l, h => .cons _ _ _ _ (h x (by simp)) (evL_on l fun y hy => h y (by simp [hy]))
theorem evP_on {T : Tmps} {a : Act} : ∀ l : List (Nat × Operand), (∀ x ∈ l.map (·.2), VR β (evO x T) (a.eval x)) → PRs β (evP l T) (l.map fun (i, x) => (i, a.eval x))
  | [], _ => .nil
  | (i, x) :: l, h => .cons _ _ _ _ _ (h x (by simp)) (evP_on l fun y hy => h y (by simp only [List.map_cons, List.mem_cons]; exact .inr hy))
theorem evOO_on {T : Tmps} {a : Act} (x : Option Operand) (h : ∀ y ∈ x, VR β (evO y T) (a.eval y)) : OptVR β (evOO x T) (x.map a.eval) := by
  cases x with
  | none => exact .none
  | some x => exact .some _ _ (h x rfl)

theorem builtin_ok (ok : EnvOk E P) {H : Heap} {b : Builtin} {ts : Array TypeId} {ty : TypeId} {cs : Array Bool} {l : List AV} {args : Array Value} (r : Rel β H.get w) (hl : VRs β l args.toList) :
    OKN E P β H.get w n (builtin b ts ty cs args) (builtinV b ts.toList l E H n) := by
  obtain ⟨args⟩ := args
  cases b <;> try trivial
  case len =>
    cases hts : ts.toList with
    | nil => trivial
    | cons t tl =>
      cases hl with
      | nil => trivial
      | cons x x' l l' hx hl => cases hl with
        | nil => exact okn_v (len_ok ok hts r hx)
        | cons => trivial
  case append =>
    cases hts : ts.toList with
    | nil => trivial
    | cons t tl => cases tl with
      | nil => trivial
      | cons u tl =>
        cases hl with
        | nil => trivial
        | cons x x' l l' hx hl => cases hl with
          | nil => trivial
          | cons y y' l l' hy hl => cases hl with
            | nil => exact okn_v (append_ok ok hts r hx hy)
            | cons => trivial
  case copy =>
    cases hts : ts.toList with
    | nil => trivial
    | cons t tl =>
      cases hl with
      | nil => trivial
      | cons x x' l l' hx hl => cases hl with
        | nil => trivial
        | cons y y' l l' hy hl => cases hl with
          | nil => exact okn_v (copy_ok ok hts r hx hy)
          | cons => trivial
  case max =>
    cases hl with
    | nil => cases ts.toList <;> trivial
    | cons x x' l l' hx hl => cases hl with
      | nil => cases ts.toList <;> cases x <;> trivial
      | cons y y' l l' hy hl => cases hl with
        | nil => exact okn_v (max_ok hx hy)
        | cons => cases ts.toList <;> cases x <;> cases y <;> trivial
  case min =>
    cases hl with
    | nil => cases ts.toList <;> trivial
    | cons x x' l l' hx hl => cases hl with
      | nil => cases ts.toList <;> cases x <;> trivial
      | cons y y' l l' hy hl => cases hl with
        | nil => exact okn_v (min_ok hx hy)
        | cons => cases ts.toList <;> cases x <;> cases y <;> trivial

theorem fnArgs_rel {f : AV} {f' : Value} {l all : List AV} {args : Array Value} {g : FuncId} (hf : VR β f f') (hl : VRs β l args.toList) (he : fnArgs f l = some (g, all)) :
    ∃ first cap, f' = .func (.func g) first cap ∧ VRs β all (first ++ args ++ cap).toList := by
  cases hf with
  | func g' first cap first' cap' h1 h2 =>
    simp only [fnArgs] at he
    cases ha : app l cap with
    | none => rw [ha] at he; cases first <;> cases he
    | some z =>
      rw [ha] at he
      simp only [appO] at he
      cases hb : app first z with
      | none => rw [hb] at he; cases he
      | some y =>
        rw [hb] at he
        cases he
        refine ⟨first', cap', rfl, ?_⟩
        have := h1.app (hl.app h2 ha) hb
        simpa using this
  | _ => cases he

theorem callFunc_body (ok : EnvOk E P) {f : FuncId} (hb : HasBody E f) (args : Array Value) : (callFunc f args).run P w = .ok (.enter f args) w := by
  obtain ⟨fn, c, h1, h2⟩ := hb
  obtain ⟨h3, h4⟩ := ok.funcs f fn h1
  simp [callFunc, h3, h2]
  simpa using h4

theorem wrapNil {ts : Array TypeId} {t : TypeId} {a : Addr} {s m : ByteArray} : (Builtin.ssaWrapNilChk_ ts t #[.pointer (some a), .string s, .string m]).run P w = .ok (.pointer (some a)) w := rfl

theorem meth_ok (ok : EnvOk E P) {H : Heap} {t : TypeId} {v u : AV} {v' : Value} {name : String} {f : FuncId} (r : Rel β H.get w) (hv : VR β v v') (h : methV E H t v name = some (f, u)) (m : Nat) :
    ∃ u', (method (m + 1) t v' name).run P w = .ok (f, u') w ∧ VR β u u' := by
  unfold methV at h
  cases hi : info E t with
  | none => rw [hi] at h; cases h
  | some i =>
    have hP := ok.types t i hi
    rw [hi] at h
    simp only [meth1] at h
    cases hm : i.methods.toList.find? (fun m => m.name == name) with
    | none => rw [hm] at h; cases h
    | some q =>
      rw [hm] at h
      have hm' : i.methods.find? (fun m => m.name == name) = some q := by rw [← Array.find?_toList]; exact hm
      obtain ⟨nm, sg, path, fn⟩ := q
      simp only [meth2] at h
      obtain ⟨pl⟩ := path
      cases pl with
      | cons => cases h
      | nil =>
        simp only [recv0] at h
        cases fn with
        | none => cases h
        | some g =>
          obtain ⟨g, p⟩ := g
          simp only [recv1] at h
          cases hu : und E t with
          | none => rw [hu] at h; cases h
          | some d =>
            rw [hu] at h
            have hun := ok_run_und (w := w) ok hu
            cases d <;> try cases h
            rename_i e
            cases p with
            | true =>
              simp only [recv2, Option.some.injEq, Prod.mk.injEq] at h
              obtain ⟨rfl, rfl⟩ := h
              refine ⟨v', ?_, hv⟩
              simp [method, typeInfo, hP, hm', follow, receiverAt, hun, Place.get]
            | false =>
              cases hv with
              | ptr b o i hb =>
                simp only [recv2] at h
                cases hl : loadAt E H e b o with
                | none => rw [hl] at h; cases h
                | some x =>
                  rw [hl] at h
                  simp only [recv3, Option.some.injEq, Prod.mk.injEq] at h
                  obtain ⟨rfl, rfl⟩ := h
                  obtain ⟨x', k1, k2⟩ := loadVar_rel ok r hb hl
                  refine ⟨x', ?_, k2⟩
                  simp [method, typeInfo, hP, hm', follow, receiverAt, hun, Place.get, strVal, wrapNil, asAddr, k1]
              | _ => cases h

theorem inv_ok (ok : EnvOk E P) {H : Heap} {x : AV} {x' : Value} {name : String} {l : List AV} {l' : Array Value} (r : Rel β H.get w) (hx : VR β x x') (hl : VRs β l l'.toList) :
    OKN E P β H.get w n (invoke (.fn (.method name) #[]) (#[x'] ++ l')) (invV x name l E H) := by
  cases hx with
  | iface t v v' hv =>
    simp only [invV]
    cases hm : methV E H t v name with
    | none => trivial
    | some p =>
      obtain ⟨f, u⟩ := p
      intro hb
      obtain ⟨u', k1, k2⟩ := meth_ok ok r hv hm (P.types.size + 99)
      refine ⟨#[u'] ++ l', ?_, by simpa using .cons _ _ _ _ k2 hl⟩
      have e : P.types.size + Made.depth = P.types.size + 99 + 1 := rfl
      have e2 : (#[Value.iface t v'] ++ l').extract 1 (#[Value.iface t v'] ++ l').size = l' := by
        apply Array.ext'
        rw [Array.toList_extract]
        simp only [Array.toList_append, List.extract, Array.size_append]
        simp [List.take_of_length_le]
      unfold invoke
      simp only [callMethod]
      have e3 : (#[Value.iface t v'] ++ l')[0]? = some (Value.iface t v') := by rw [Array.getElem?_append_left (Nat.zero_lt_one)]; rfl
      rw [e3, e2]
      simp only [Sem.run_bind, run_program, Result.andThen_ok, e, k1]
      exact callFunc_body ok hb _
  | _ => trivial

theorem call_ok (ok : EnvOk E P) {H : Heap} {T : Tmps} {a : Act} {c : Call} {ty : TypeId} (r : Rel β H.get w) (ht : ∀ x ∈ c.operands, VR β (evO x T) (a.eval x)) :
    OKN E P β H.get w n (do let d ← resolve a.eval c ty; invoke d.target d.args) (callOp c.callee c.args c.argTypes E T H n) := by
  obtain ⟨callee, args, ts⟩ := c
  have hargs : VRs β (evL args.toList T) (args.map a.eval).toList := by
    have := evL_on args.toList fun x hx => ht x (by simp [Call.operands] at hx ⊢; exact .inr hx)
    simpa using this
  cases callee with
  | builtin b =>
    have := builtin_ok (n := n) (ty := ty) (cs := args.map fun | .const _ => true | _ => false) ok (b := b) (ts := ts) (args := args.map a.eval) r hargs
    exact this
  | invoke x name =>
    have := inv_ok (n := n) (name := name) ok r (ht x (by simp [Call.operands])) hargs
    exact this
  | value f =>
    simp only [callOp, resolveV]
    cases he : fnArgs (evO f T) (evL args.toList T) with
    | none => trivial
    | some p =>
      obtain ⟨g, all⟩ := p
      obtain ⟨first, cap, h1, h2⟩ := fnArgs_rel (args := args.map a.eval) (ht f (by simp [Call.operands])) hargs he
      have hrun : ((do let d ← resolve a.eval ⟨.value f, args, ts⟩ ty; invoke d.target d.args) : Sem Next).run P w = (callFunc g (first ++ args.map a.eval ++ cap)).run P w := by
        simp [resolve, h1, Deferred.ofValue, invoke]
      simp only [enterO, enterV]
      cases hb : Nat.beq g E.bits with
      | false =>
        intro hbody
        exact ⟨_, by rw [hrun]; exact callFunc_body ok hbody _, h2⟩
      | true =>
        have hb := Nat.eq_of_beq_eq_true hb
        subst hb
        simp only [enter1]
        generalize first ++ args.map a.eval ++ cap = A at *
        obtain ⟨A⟩ := A
        unfold bitsV
        split
        · cases h2 with
          | cons _ _ _ _ k1 k2 => cases k2; cases k1
                                  exact ⟨_, by rw [hrun]; exact ok.bits _ w, .inl ⟨_, rfl, .int _ _⟩⟩
        · trivial

theorem dfr_ok {H : Heap} {T : Tmps} {a : Act} {c : Call} {ty : TypeId} (ht : ∀ x ∈ c.operands, VR β (evO x T) (a.eval x)) :
    OKN E P β H.get w n (do pure (.defer (← resolve a.eval c ty))) (dfrO (resolveV c.callee c.args.toList T)) := by
  obtain ⟨callee, args, ts⟩ := c
  have hargs : VRs β (evL args.toList T) (args.map a.eval).toList := by
    have := evL_on args.toList fun x hx => ht x (by simp [Call.operands] at hx ⊢; exact .inr hx)
    simpa using this
  cases callee with
  | builtin b => trivial
  | invoke x name => trivial
  | value f =>
    simp only [resolveV]
    cases he : fnArgs (evO f T) (evL args.toList T) with
    | none => trivial
    | some p =>
      obtain ⟨g, all⟩ := p
      obtain ⟨first, cap, h1, h2⟩ := fnArgs_rel (args := args.map a.eval) (ht f (by simp [Call.operands])) hargs he
      refine ⟨cap, first ++ args.map a.eval, ?_, h2, rfl⟩
      simp [resolve, h1, Deferred.ofValue]

theorem nil_ok {x : AV} {x' : Value} (hx : VR β x x') {s : Sem Next} (hs : (∀ p, x' = .pointer (some p) → s = pure (.value x')) ∧ (∀ f a b, x' = .func (.func f) a b → s = pure (.value x')) ∧ (∀ t v, x' = .iface t v → s = pure (.value x'))) :
    OKN E P β h w n s (nilV x) := by
  cases hx with
  | ptr b o i hi => exact ⟨_, by rw [hs.1 _ rfl]; rfl, .inl ⟨_, rfl, .ptr b o i hi⟩⟩
  | func f a c a' c' ha hc => exact ⟨_, by rw [hs.2.1 _ _ _ rfl]; rfl, .inl ⟨_, rfl, .func f a c a' c' ha hc⟩⟩
  | iface t v v' hv => exact ⟨_, by rw [hs.2.2 _ _ rfl]; rfl, .inl ⟨_, rfl, .iface t v v' hv⟩⟩
  | _ => trivial

theorem op_on (ok : EnvOk E P) {H : Heap} {T : Tmps} {a : Act} (o : Oper) (r : Rel β H.get w) (ht : ∀ x ∈ o.op.operands, VR β (evO x T) (a.eval x)) : OKN E P β H.get w n (execOp a.eval o) (opV o.op E T H n) := by
  obtain ⟨dst, op, ty, pos, after, guard⟩ := o
  simp only at ht
  cases op <;> try trivial
  case move x => exact ⟨_, rfl, .inl ⟨_, rfl, ht x (by simp [Op.operands])⟩⟩
  case assign x => exact ⟨_, rfl, .inl ⟨_, rfl, ht x (by simp [Op.operands])⟩⟩
  case pick c x y => 
    have := okn_v (E := E) (n := n) (h := H.get) (w := w) (P := P) (pick_ok (ht c (by simp [Op.operands])) (ht x (by simp [Op.operands])) (ht y (by simp [Op.operands])))
    exact cast (by congr 1; simp [execOp]) this
  case alloc e => exact okn_v (alloc_ok ok r)
  case box e x => exact okn_v (box_ok r (ht x (by simp [Op.operands])))
  case build t ps => exact okn_v (build_ok ok (by have := evP_on ps.toList fun x hx => ht x (by simpa [Op.operands] using hx); simpa using this))
  case buildSlice t len ps => exact okn_v (buildSlice_ok ok r (by have := evP_on ps.toList fun x hx => ht x (by simpa [Op.operands] using hx); simpa using this))
  case load t x => exact okn_v (load_ok ok r (ht x (by simp [Op.operands])))
  case store t x y => exact okn_u (store_ok ok r (ht x (by simp [Op.operands])) (ht y (by simp [Op.operands])))
  case nilCheck x =>
    refine nil_ok (ht x (by simp [Op.operands])) ⟨fun p e => ?_, fun f a b e => ?_, fun t v e => ?_⟩ <;> simp [execOp, e]
  case binOp op t x y yt => exact okn_v (binOp_ok ok (ht x (by simp [Op.operands])) (ht y (by simp [Op.operands])))
  case unOp op t x => exact okn_v (unOp_ok (ht x (by simp [Op.operands])))
  case convert c d x => exact okn_v (conv_ok ok (ht x (by simp [Op.operands])))
  case makeInterface t x => exact okn_v (iface_ok ok (ht x (by simp [Op.operands])))
  case makeFunc fn first cap =>
    cases fn <;> try trivial
    case func f =>
      exact okn_v (n := n) (h := H.get) ⟨_, rfl, .func f _ _ _ _ (by have := evL_on first.toList fun x hx => ht x (by simp [Op.operands] at hx ⊢; exact .inl hx); simpa using this) (by have := evL_on cap.toList fun x hx => ht x (by simp [Op.operands] at hx ⊢; exact .inr hx); simpa using this)⟩
  case makeMap t x => exact okn_v (makeMap_ok r a.eval)
  case makeSlice t l c => exact okn_v (makeSlice_ok ok r (ht l (by simp [Op.operands])) (ht c (by simp [Op.operands])))
  case slice t x lo hi mx => exact okn_v (slice_ok ok r (ht x (by simp [Op.operands])) (evOO_on lo fun y hy => ht y (by cases hy; simp [Op.operands])) (evOO_on hi fun y hy => ht y (by cases hy; simp [Op.operands])) (evOO_on mx fun y hy => ht y (by cases hy; simp [Op.operands])))
  case fieldAddr t x f => exact okn_v (fieldAddr_ok ok (ht x (by simp [Op.operands])))
  case field t x f => exact okn_v (field_ok ok (ht x (by simp [Op.operands])))
  case indexAddr t x i => exact okn_v (indexAddr_ok ok (ht x (by simp [Op.operands])) (ht i (by simp [Op.operands])))
  case index t x i => exact okn_v (index_ok ok (ht x (by simp [Op.operands])) (ht i (by simp [Op.operands])))
  case lookup t x i co => exact okn_v (lookup_ok ok r (ht x (by simp [Op.operands])) (ht i (by simp [Op.operands])))
  case mapUpdate t m k v => exact okn_u (mapUpdate_ok ok r (ht m (by simp [Op.operands])) (ht k (by simp [Op.operands])) (ht v (by simp [Op.operands])))
  case typeAssert x t b co => exact okn_v (asrt_ok ok (ht x (by simp [Op.operands])))
  case extract t i => exact okn_v (extr_ok (ht t (by simp [Op.operands])))
  case call c => exact call_ok ok r ht
  case defer c => exact dfr_ok ht

theorem op_ok (ok : EnvOk E P) {H : Heap} {T : Tmps} {a : Act} (o : Oper) (r : Rel β H.get w) (ht : TR β T a.tmps) : OKN E P β H.get w n (execOp a.eval o) (opV o.op E T H n) :=
  op_on ok o r fun x _ => evO_rel ht x
end
end Go.Am
