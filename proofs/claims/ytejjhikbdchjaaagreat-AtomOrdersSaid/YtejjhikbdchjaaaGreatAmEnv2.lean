/-
  AM at this seat's program (on): what it is asked of the program holds.
-/
import Derived.Test.YtejjhikbdchjaaaGreatAmEnv
set_option linter.unusedSectionVars false
namespace Go.Proofs.YtejjhikbdchjaaaGreat
open Go.Am
variable [Vals]
set_option maxRecDepth 100000

theorem eq186 (m : Nat) {a b c d : Int} {w : World} : (Op.equalIn (m + 2) 186 (.agg #[.int .i64 a, .int .i64 b]) (.agg #[.int .i64 c, .int .i64 d])).run Tryz.prog w = .ok (a == c && b == d) w := by
  have p0 : ∀ x y : Value, (part 3 #[x, y] 0).run Tryz.prog w = .ok x w := fun x y => part3 (by decide)
  have p1 : ∀ x y : Value, (part 3 #[x, y] 1).run Tryz.prog w = .ok y w := fun x y => part3 (by decide)
  have e1 : ∀ x y : Int, (Op.equalIn (m + 1) 3 (.int .i64 x) (.int .i64 y)).run Tryz.prog w = .ok (x == y) w := fun x y => eq_int
  have s3 : (sizeOf 3).run Tryz.prog w = .ok 1 w := size3
  unfold Op.equalIn
  simp [run_underlying Tryz.underlying186, Std.Legacy.Range.forIn_eq_forIn_range', Std.Legacy.Range.size, List.range', p0, p1, e1, s3]
  cases h1 : a == c <;> cases h2 : b == d <;> simp_all

theorem check3 (m : Nat) {em : Bool} {a : Int} {w : World} : (Instr.checkKey em (m + 1) 3 (.int .i64 a)).run Tryz.prog w = .ok () w :=
  check_int (j := .i64) (by rw [run_underlying Tryz.underlying3]) m
theorem check186 (m : Nat) {em : Bool} {a b : Int} {w : World} : (Instr.checkKey em (m + 2) 186 (.agg #[.int .i64 a, .int .i64 b])).run Tryz.prog w = .ok () w := by
  have p0 : ∀ x y : Value, (part 3 #[x, y] 0).run Tryz.prog w = .ok x w := fun x y => part3 (by decide)
  have p1 : ∀ x y : Value, (part 3 #[x, y] 1).run Tryz.prog w = .ok y w := fun x y => part3 (by decide)
  have e1 : ∀ x : Int, (Instr.checkKey em (m + 1) 3 (.int .i64 x)).run Tryz.prog w = .ok () w := fun x => check3 m
  have s3 : (sizeOf 3).run Tryz.prog w = .ok 1 w := size3
  unfold Instr.checkKey
  simp [run_underlying Tryz.underlying186, Std.Legacy.Range.forIn_eq_forIn_range', Std.Legacy.Range.size, List.range', p0, p1, e1, s3]

theorem memb_one {t u : TypeId} (h : memb t [u] = true) : t = u := by
  simp only [memb, bor_eq, Bool.or_false] at h
  exact Nat.eq_of_beq_eq_true h

section
variable {sym : BinOp → AV → AV → Option AV} {cnv : TypeId → TypeId → AV → Option AV}
def SymOk (sym : BinOp → AV → AV → Option AV) : Prop := ∀ op x y r, sym op x y = some r → ∀ (β : Ren) t X Y w x' y', VR β x x' → VR β y y' → ∃ r', (do eqGuard op t X Y x' y'; binOp op t x' y' : Sem Value).run Tryz.prog w = .ok r' w ∧ VR β r r'
def CnvOk (cnv : TypeId → TypeId → AV → Option AV) : Prop := ∀ c d x r, cnv c d x = some r → ∀ (β : Ren) w x', VR β x x' → ∃ r', (convert c d x').run Tryz.prog w = .ok r' w ∧ VR β r r'
theorem noSym_ok : SymOk noSym := fun _ _ _ _ h => (by cases h)
theorem noCnv_ok : CnvOk noCnv := fun _ _ _ _ h => (by cases h)

theorem envOkS (hsym : SymOk sym) (hcnv : CnvOk cnv) : EnvOk (envS sym cnv) Tryz.prog where
  types := fun t i h => (type_lt h).2
  funcs := fun f fn h => by
    have h1 := Tr.ofList_lf (show (Tr.ofList Tryz.prog.funcs.toList 0 .lf).get f = some fn from h)
    refine ⟨by simpa using h1, ?_⟩
    have := List.all_eq_true.1 namesOk fn (List.mem_of_getElem? h1)
    simpa using this
  structs := fun t fs h => by
    unfold und info at h
    cases hi : (envS sym cnv).types.get t with
    | none => rw [hi] at h; cases h
    | some i =>
      rw [hi] at h
      cases hd : i.desc with
      | named nm u =>
        simp only [und1, und2, hd, info] at h
        cases hu : (envS sym cnv).types.get u with
        | none => rw [hu] at h; cases h
        | some j =>
          rw [hu] at h
          exact struct_of hu (Option.some.inj h)
      | struct fs' =>
        simp only [und1, und2, hd, Option.some.injEq, TypeDesc.struct.injEq] at h
        subst h
        exact struct_of hi hd
      | _ => simp [und1, und2, hd] at h
  zeros := fun t i h hs => by
    have h1 := (type_lt h).1
    have hm : i ∈ Tryz.prog.types.toList := by
      have : Tryz.prog.types.toList[t]? = some i := by simpa using h1
      exact List.mem_of_getElem? this
    have := List.all_eq_true.1 zerosOk i hm
    unfold zeroOk at this
    rw [Bool.or_eq_true] at this
    rcases this with h | h
    · exact absurd (Nat.eq_of_beq_eq_true h) hs
    · cases hz : i.zero with
      | none => rw [hz] at h; cases h
      | some z => rw [hz] at h; exact ⟨z, rfl, Nat.eq_of_beq_eq_true h⟩
  bits := fun b w => by
    have h1 : (Tryz.f155.name == "runtime.NumGoroutine") = false := by kernel_rfl
    have h2 : Tryz.f155.body = none := by kernel_rfl
    show (callFunc 155 #[.float .f64 b]).run Tryz.prog w = _
    unfold callFunc
    simp only [Sem.run_bind, run_program, Result.andThen_ok, Tryz.func155]
    rw [h1]
    simp only [Bool.false_eq_true, if_false, h2, Option.isNone_none, if_true, Sem.run_bind, run_mark, Result.andThen_ok, findNext155, find155]
    rfl
  eqs := fun t h => by
    have := memb_one h
    subst this
    exact ⟨Tryz.eqGuardType228, fun a b c d w => eq228 9998⟩
  keys := fun t h => by
    have := memb_one h
    subst this
    exact fun a b c d em w => ⟨check186 9998, eq186 9998⟩
  syms := hsym
  cnvs := hcnv

theorem amOkX (hsym : SymOk sym) (hcnv : CnvOk cnv) {ov : Over} (hov : OvOk Tryz.prog (envS sym cnv) ov) (d : Nat) : CallOk Tryz.prog (envS sym cnv) (callX (envS sym cnv) ov d) :=
  am_soundX (envOkS hsym hcnv) Tryz.checked.mixed hov d
theorem amOk (d : Nat) : CallOk Tryz.prog env (callV env d) := amOkX noSym_ok noCnv_ok noOver_ok d
end

omit [Vals] in
/-- A call that AM has seen through, from nothing: the model comes to the same. -/
theorem closed_call {f : FuncId} {d : Nat} {b : Bool} {bare : Bool} {H' : Heap} {n' : Nat} (h : callV env d f [] .lf 0 = .ret (.bool b) bare H' n') (w : World) :
    Calls Tryz.prog f #[] w fun e w' => e = .returned (.bool b) ∧ w'.os = w.os ∧ w'.tape = w.tape ∧ w'.output = w.output ∧ w.heap.size ≤ w'.heap.size ∧ (∀ k, k < w.heap.size → w'.heap[k]? = w.heap[k]?) ∧ ∀ k, w.heap.size ≤ k → Thaw w' k := by
  let _ : Vals := ⟨fun _ => 0, fun _ => 0⟩
  obtain ⟨_, _, hc⟩ := amOk d f [] .lf 0 _ _ _ _ h
  have hrel : Rel (fun _ => none) (Tr.get (.lf : Heap)) w := ⟨fun b l hb => (by cases hb), fun b l hb => (by cases hb), fun b l hb => (by cases hb), fun b b' i i' hb => absurd rfl hb.ne⟩
  refine Calls.mono (hc (fun _ => none) w #[] hrel .nil (fun b _ _ => rfl)).1 ?_
  rintro e w' ⟨cv, β', rfl, hv, hp⟩
  cases hv
  refine ⟨rfl, hp.os, hp.tape, hp.output, hp.size, fun k hk => hp.frame k hk ?_, fun k hk => hp.thaw k (.inl hk)⟩
  rintro ⟨b, i, hb, _⟩
  exact hb.ne rfl
end Go.Proofs.YtejjhikbdchjaaaGreat
