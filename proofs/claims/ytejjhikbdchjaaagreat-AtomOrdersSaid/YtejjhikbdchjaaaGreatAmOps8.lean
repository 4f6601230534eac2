/-
  AM: operations on maps.
-/
import Derived.Test.YtejjhikbdchjaaaGreatAmOps7
set_option linter.unusedSectionVars false
namespace Go.Am
variable [Vals]

section
variable {E : Env} {P : Program} {t : TypeId} {w : World} {β : Ren} {n : Nat}

/-- One who looks for a key. -/
structure Finder (β : Ren) (k : AV) (k' : Value) (F : List MapEntry → Nat → Option (Nat × Value) → Prop) : Prop where
  nil : ∀ i, F [] i none
  hit : ∀ e es i x, VR β x e.key → keyEq k x = some true → F (e :: es) i (some (i, e.val)) ∧ e.key = k'
  miss : ∀ e es i x r, VR β x e.key → keyEq k x = some false → F es (i + 1) r → F (e :: es) i r

def FoundR (β : Ren) (k' : Value) (i0 : Nat) (es : List MapEntry) : Option AV → Option (Nat × Value) → Prop
  | none, none => True
  | some v, some (i, v') => VR β v v' ∧ ∃ m e, i = i0 + m ∧ es[m]? = some e ∧ e.key = k'
  | _, _ => False

theorem find_rel {k : AV} {k' : Value} {F : List MapEntry → Nat → Option (Nat × Value) → Prop} (f : Finder β k k' F) {l : List (AV × AV)} {es : List MapEntry} (h : Ents β l es) :
    ∀ {r : Option AV} (i0 : Nat), findK k l = some r → ∃ r', F es i0 r' ∧ FoundR β k' i0 es r r' := by
  induction h with
  | nil => intro r i0 hr; cases hr; exact ⟨none, f.nil i0, trivial⟩
  | cons x v e l es hk hv hl ih =>
    intro r i0 hr
    simp only [findK] at hr
    cases hq : keyEq k x with
    | none => rw [hq] at hr; cases hr
    | some b =>
      rw [hq] at hr
      cases b with
      | true =>
        cases hr
        obtain ⟨h1, h2⟩ := f.hit e es i0 x hk hq
        exact ⟨_, h1, hv, 0, e, rfl, rfl, h2⟩
      | false =>
        simp only [findGo] at hr
        obtain ⟨r', h1, h2⟩ := ih (i0 + 1) hr
        refine ⟨r', f.miss e es i0 x r' hk hq h1, ?_⟩
        cases r with
        | none => cases r' with
          | none => trivial
          | some _ => exact h2
        | some u => cases r' with
          | none => exact h2
          | some p =>
            obtain ⟨i, v'⟩ := p
            obtain ⟨k1, m, e', k2, k3, k4⟩ := h2
            exact ⟨k1, m + 1, e', by omega, by simpa using k3, k4⟩

def SetR (β : Ren) (k' v' : Value) (i0 : Nat) (es : List MapEntry) (l2 : List (AV × AV)) : Option (Nat × Value) → Prop
  | none => ∀ born, Ents β l2 (es ++ [⟨k', v', born⟩])
  | some (i, _) => ∃ m e, i = i0 + m ∧ es[m]? = some e ∧ e.key = k' ∧ Ents β l2 (es.modify m fun e => { e with key := k', val := v' })

theorem set_rel {k v : AV} {k' v' : Value} {F : List MapEntry → Nat → Option (Nat × Value) → Prop} (f : Finder β k k' F) (hkk : VR β k k') (hvv : VR β v v') {l : List (AV × AV)} {es : List MapEntry} (h : Ents β l es) :
    ∀ {l2 : List (AV × AV)} (i0 : Nat), setK k v l = some l2 → ∃ r', F es i0 r' ∧ SetR β k' v' i0 es l2 r' := by
  induction h with
  | nil => intro l2 i0 hr; cases hr; exact ⟨none, f.nil i0, fun born => .cons _ _ ⟨k', v', born⟩ _ _ hkk hvv .nil⟩
  | cons x u e l es hk hv hl ih =>
    intro l2 i0 hr
    simp only [setK] at hr
    cases hq : keyEq k x with
    | none => rw [hq] at hr; cases hr
    | some b =>
      rw [hq] at hr
      cases b with
      | true =>
        cases hr
        obtain ⟨h1, h2⟩ := f.hit e es i0 x hk hq
        exact ⟨_, h1, 0, e, rfl, rfl, h2, .cons _ _ { e with key := k', val := v' } _ _ hkk hvv hl⟩
      | false =>
        simp only [setGo] at hr
        cases hs : setK k v l with
        | none => rw [hs] at hr; cases hr
        | some l3 =>
          rw [hs] at hr; cases hr
          obtain ⟨r', h1, h2⟩ := ih (i0 + 1) hs
          refine ⟨r', f.miss e es i0 x r' hk hq h1, ?_⟩
          cases r' with
          | none => exact fun born => .cons _ _ e _ _ hk hv (h2 born)
          | some p =>
            obtain ⟨i, _⟩ := p
            obtain ⟨m, e', k1, k2, k3, k4⟩ := h2
            exact ⟨m + 1, e', by omega, by simpa using k2, k3, by simpa using .cons _ _ e _ _ hk hv k4⟩

theorem finder_int {kk j : IntKind} {a : Int} : Finder β (.int kk a) (.int kk a) (fun es i r => Instr.findNow (.int j) (.int kk a) es i = some r) where
  nil := fun i => rfl
  hit := fun e es i x hx hq => by
    generalize he : e.key = y at hx
    cases hx with
    | int k2 c =>
      simp only [keyEq] at hq
      cases hk : kbeq kk k2 with
      | false => rw [hk] at hq; cases hq
      | true =>
        rw [hk] at hq
        obtain rfl := kbeq_eq.1 hk
        simp only [ikeyEq, ibeq_eq, Option.some.injEq, beq_iff_eq] at hq
        subst hq
        exact ⟨by simp [Instr.findNow, he, Instr.sameNow], rfl⟩
    | _ => cases hq
  miss := fun e es i x r hx hq hr => by
    generalize he : e.key = y at hx
    cases hx with
    | int k2 c =>
      simp only [keyEq] at hq
      cases hk : kbeq kk k2 with
      | false => rw [hk] at hq; cases hq
      | true =>
        rw [hk] at hq
        obtain rfl := kbeq_eq.1 hk
        simp only [ikeyEq, ibeq_eq, Option.some.injEq] at hq
        simp only [Instr.findNow, he, Instr.sameNow, if_true, hq]
        exact hr
    | _ => cases hq

theorem finder_pair (ok : EnvOk E P) {kt : TypeId} (hm : memb kt E.keys = true) {a b : Int} :
    Finder β (.agg [.int .i64 a, .int .i64 b]) (.agg #[.int .i64 a, .int .i64 b]) (fun es i r => (Instr.findAsking kt (.agg #[.int .i64 a, .int .i64 b]) es i).run P w = .ok r w) where
  nil := fun i => by simp [Instr.findAsking]
  hit := fun e es i x hx hq => by
    generalize he : e.key = y at hx
    cases hx with
    | agg l l' hl =>
      simp only [keyEq] at hq
      obtain ⟨i1, j1, k1, l1, h1, h2, h3⟩ := pairEq_rel (β := β) (a' := #[.int .i64 a, .int .i64 b]) (.cons _ _ _ _ (.int _ _) (.cons _ _ _ _ (.int _ _) .nil)) hl hq
      subst h2
      simp only [Array.mk.injEq, List.cons.injEq, Value.int.injEq, true_and, and_true] at h1
      obtain ⟨rfl, rfl⟩ := h1
      have h3' := h3.symm
      simp only [Bool.and_eq_true, beq_iff_eq] at h3'
      obtain ⟨rfl, rfl⟩ := h3'
      exact ⟨by simp [Instr.findAsking, he, (ok.keys kt hm a b a b false w).2], rfl⟩
    | _ => cases hq
  miss := fun e es i x r hx hq hr => by
    generalize he : e.key = y at hx
    cases hx with
    | agg l l' hl =>
      simp only [keyEq] at hq
      obtain ⟨i1, j1, k1, l1, h1, h2, h3⟩ := pairEq_rel (β := β) (a' := #[.int .i64 a, .int .i64 b]) (.cons _ _ _ _ (.int _ _) (.cons _ _ _ _ (.int _ _) .nil)) hl hq
      subst h2
      simp only [Array.mk.injEq, List.cons.injEq, Value.int.injEq, true_and, and_true] at h1
      obtain ⟨rfl, rfl⟩ := h1
      have hq' := (ok.keys kt hm a b k1 l1 false w).2
      rw [← h3] at hq'
      simp [Instr.findAsking, he, hq', hr]
    | _ => cases hq

theorem same_int (k : IntKind) (a : Int) : ∀ n, Instr.sameBits n (.int k a) (.int k a) = true := by intro n; cases n <;> simp [Instr.sameBits]
theorem same_pair (a b : Int) (n : Nat) : Instr.sameBits (n + 1) (.agg #[.int .i64 a, .int .i64 b]) (.agg #[.int .i64 a, .int .i64 b]) = true := by simp [Instr.sameBits, same_int]

theorem check_int {kt : TypeId} {em : Bool} {kk j : IntKind} {a : Int} (hr : (underlying kt).run P w = .ok (.int j) w) (m : Nat) : (Instr.checkKey em (m + 1) kt (.int kk a)).run P w = .ok () w := by
  simp only [Instr.checkKey, Sem.run_bind, hr, Result.andThen_ok]
  rfl

/-- A key of AM's that may be one: it is checked, and looked for, as AM has it. -/
theorem key_ok (ok : EnvOk E P) {kt : TypeId} {d : TypeDesc} {k : AV} {k' : Value} (hu : und E kt = some d) (hk : VR β k k') (hok : keyOk (some d) (memb kt E.keys) k = true) :
    (∀ em (w : World), (Instr.checkKey em 10000 kt k').run P w = .ok () w) ∧ Instr.sameBits 10000 k' k' = true ∧
    ∃ F : List MapEntry → Nat → Option (Nat × Value) → Prop, Finder β k k' F ∧ ∀ es r, F es 0 r → (Instr.findKey kt k' es).run P w = .ok r w := by
  have hr := ok_run_und (w := w) ok hu
  cases d with
  | int j =>
    cases hk with
    | int kk a =>
      refine ⟨fun em w => ?_, same_int kk a _, _, finder_int (j := j), fun es r hF => ?_⟩
      · have hr' := ok_run_und (w := w) ok hu
        exact check_int hr' 9999
      · simp [Instr.findKey, hr, hF]
    | _ => cases hok
  | array len e =>
    cases hm : memb kt E.keys with
    | false => rw [hm] at hok; cases hok
    | true =>
      rw [hm] at hok
      cases hk with
      | agg l l' hl =>
        simp only [keyOk] at hok
        unfold isPair at hok
        split at hok
        · rename_i a b
          have e := VR.ints hl
          subst e
          refine ⟨fun em w => (ok.keys kt hm a b a b em w).1, same_pair a b 9999, _, finder_pair (w := w) ok hm, fun es r hF => ?_⟩
          cases es with
          | nil =>
            simp only [Instr.findAsking, Sem.run_pure, Result.ok.injEq] at hF
            obtain ⟨rfl, _⟩ := hF
            simp [Instr.findKey, hr, Instr.findNow]
          | cons e es =>
            simp only [Instr.findKey, Sem.run_bind, hr, Result.andThen_ok, Instr.findNow, Instr.sameNow]
            exact hF
        · cases hok
      | _ => cases hok
  | _ => cases hok

theorem lookup_ok (ok : EnvOk E P) {H : Heap} {m k : AV} {m' k' : Value} {co : Bool} (r : Rel β H.get w) (hm : VR β m m') (hk : VR β k k') : OK1 P β H.get w n (Instr.lookup t m' k' co) (lookupV E H t m k co) := by
  unfold lookupV
  cases hu : und E t with
  | none => trivial
  | some d =>
    have hr := ok_run_und (w := w) ok hu
    cases d with
    | map kt e =>
      cases hm with
      | map b i hi =>
        simp only [look1]
        cases huk : und E kt with
        | none => trivial
        | some dk =>
          cases hok : keyOk (some dk) (memb kt E.keys) k with
          | false => trivial
          | true =>
            cases hb : H.get b with
            | none => trivial
            | some ob => cases ob with
              | cells _ => trivial
              | ro _ => trivial
              | map l =>
                obtain ⟨j, hj, es, clock, h1, h2⟩ := r.map b l hb
                rw [hi] at hj; cases hj
                have hg : (getObj i.blk).run P w = .ok (.map es clock) w := by simp [getObj, Sem.run, h1]
                simp only [look2]
                cases hf : findK k l with
                | none => trivial
                | some res =>
                  obtain ⟨hc, _, F, fF, hF⟩ := key_ok (w := w) ok huk hk hok
                  obtain ⟨r', hr1, hr2⟩ := find_rel fF h2 0 hf
                  have hfk := hF _ _ hr1
                  cases res with
                  | some v =>
                    cases r' with
                    | none => exact hr2.elim
                    | some p =>
                      obtain ⟨idx, v'⟩ := p
                      obtain ⟨hv, _⟩ := hr2
                      simp only [look3]
                      refine okTup_ok hv ?_
                      simp only [Instr.lookup, Sem.run_bind, hr, Result.andThen_ok, hg, Sem.run_pure, hc, hfk]
                  | none =>
                    cases r' with
                    | some p => exact hr2.elim
                    | none =>
                      simp only [look3]
                      cases hz : zeroOf E e with
                      | none => trivial
                      | some z =>
                        obtain ⟨z', hz1, hz2⟩ := ok_run_zero (w := w) (β := β) ok hz
                        simp only [look4]
                        refine okTup_ok hz2 ?_
                        simp only [Instr.lookup, Sem.run_bind, hr, Result.andThen_ok, hg, Sem.run_pure, hc, hfk, hz1]
      | _ => trivial
    | _ => trivial

theorem setObj_map {r : Nat} {es es' : Array MapEntry} {c c' : Nat} (hg : w.heap[r]? = some (.map es c)) : (setObj r (.map es' c')).run P w = .ok () { w with heap := w.heap.setIfInBounds r (.map es' c') } := by
  simp [setObj, Sem.run, hg]

theorem mapUpdate_ok (ok : EnvOk E P) {H : Heap} {m k v : AV} {m' k' v' : Value} (r : Rel β H.get w) (hm : VR β m m') (hk : VR β k k') (hv : VR β v v') :
    OK1 P β H.get w n (do Instr.mapUpdate t m' k' v'; pure (.tuple #[])) (mapUpdateV E H n t m k v) := by
  unfold mapUpdateV
  cases hu : und E t with
  | none => trivial
  | some d =>
    have hr := ok_run_und (w := w) ok hu
    cases d with
    | map kt e =>
      cases hm with
      | map b i hi =>
        simp only [mup1]
        cases huk : und E kt with
        | none => trivial
        | some dk =>
          cases hok : keyOk (some dk) (memb kt E.keys) k with
          | false => trivial
          | true =>
            cases hb : H.get b with
            | none => trivial
            | some ob => cases ob with
              | cells _ => trivial
              | ro _ => trivial
              | map l =>
                obtain ⟨j, hj, es, clock, h1, h2⟩ := r.map b l hb
                rw [hi] at hj; cases hj
                have hg : (getObj i.blk).run P w = .ok (.map es clock) w := by simp [getObj, Sem.run, h1]
                simp only [mup2]
                cases hs : setK k v l with
                | none => trivial
                | some l2 =>
                  simp only [mup3]
                  cases hp : Tr.put depth H b (some (.map l2)) with
                  | none => trivial
                  | some H' =>
                    simp only [memO]
                    intro _
                    obtain ⟨hc, hsb, F, fF, hF⟩ := key_ok (w := w) ok huk hk hok
                    obtain ⟨r', hr1, hr2⟩ := set_rel fF hk hv h2 0 hs
                    have hfk := hF _ _ hr1
                    have hlt : i.blk < w.heap.size := (Array.getElem?_eq_some_iff.1 h1).1
                    have post : ∀ es' c', Ents β l2 es'.toList → Post β H.get w n β H'.get { w with heap := w.heap.setIfInBounds i.blk (.map es' c') } n := by
                      intro es' c' hes
                      rw [set_of_put hp]
                      refine post_set r (Own.map hb) hi ?_ (by simp) rfl rfl rfl (by intro x ex; cases ex) ?_
                      · intro k hk; simp [Ne.symm hk]
                      · intro x ex; cases ex
                        exact ⟨es', c', by simp [hlt], hes⟩
                    cases r' with
                    | none =>
                      refine ⟨.tuple #[], _, β, ?_, .tup _ _ .nil, post (es.push ⟨k', v', clock⟩) (clock + 1) (by simpa using hr2 clock)⟩
                      simp only [Instr.mapUpdate, Sem.run_bind, hr, Result.andThen_ok, hg, Sem.run_pure, hc, hfk, setObj_map h1]
                    | some p =>
                      obtain ⟨idx, v0⟩ := p
                      obtain ⟨m, e0, hm0, hm1, hm2, hm3⟩ := hr2
                      have hidx : idx = m := by omega
                      subst hidx
                      have hm1' : es[idx]? = some e0 := by simpa using hm1
                      refine ⟨.tuple #[], _, β, ?_, .tup _ _ .nil, post (es.modify idx fun e => { e with key := k', val := v' }) clock (by simpa using hm3)⟩
                      simp only [Instr.mapUpdate, Sem.run_bind, hr, Result.andThen_ok, hg, Sem.run_pure, hc, hfk, hm1', Option.map_some, Option.getD_some, hm2, Instr.keyThatStays, hsb, if_true, setObj_map h1]
      | _ => trivial
    | _ => trivial
end
end Go.Am
