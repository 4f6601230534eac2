/-
  AM: operations that turn values into values (on).
-/
import Derived.Test.YtejjhikbdchjaaaGreatAmOps
import Derived.Great.FillDense
import Derived.Laws.Tables
set_option linter.unusedSectionVars false
namespace Go.Am
variable [Vals]

section
variable {E : Env} {P : Program} {t : TypeId} {w : World} {β : Ren} {h : Mem} {n : Nat}

theorem VR.ints {i j : Int} {a : Array Value} (h : VRs β [.int .i64 i, .int .i64 j] a.toList) : a = #[.int .i64 i, .int .i64 j] := by
  obtain ⟨a⟩ := a
  cases h with
  | cons _ _ _ _ h1 h2 =>
    cases h2 with
    | cons _ _ _ _ h2 h3 => cases h3; cases h1; cases h2; rfl
theorem pairEq_rel {a b : List AV} {a' b' : Array Value} {r : Bool} (ha : VRs β a a'.toList) (hb : VRs β b b'.toList) (hr : pairEq a b = some r) :
    ∃ i j k l : Int, a' = #[.int .i64 i, .int .i64 j] ∧ b' = #[.int .i64 k, .int .i64 l] ∧ r = (i == k && j == l) := by
  unfold pairEq at hr
  split at hr
  · rename_i i j k l
    cases hr
    exact ⟨i, j, k, l, VR.ints ha, VR.ints hb, by rw [ibeq_eq, ibeq_eq]; cases (i == k) <;> rfl⟩
  · cases hr

/-- The cases of '=='. -/
inductive EqC (E : Env) (t : TypeId) : TypeDesc → AV → AV → Bool → Prop
  | bool (a b : Bool) : EqC E t .bool (.bool a) (.bool b) (a == b)
  | pnn (e) : EqC E t (.pointer e) .nilp .nilp true
  | pnp (e b o) : EqC E t (.pointer e) .nilp (.ptr b o) false
  | ppn (e b o) : EqC E t (.pointer e) (.ptr b o) .nilp false
  | snn (e) : EqC E t (.slice e) .nils .nils true
  | sns (e a b c d x s) : EqC E t (.slice e) .nils (.slice a b c d x s) false
  | ssn (e a b c d x s) : EqC E t (.slice e) (.slice a b c d x s) .nils false
  | fnn (p r v) : EqC E t (.func p r v) .nilf .nilf true
  | fnf (p r v a b c) : EqC E t (.func p r v) .nilf (.func a b c) false
  | ffn (p r v a b c) : EqC E t (.func p r v) (.func a b c) .nilf false
  | agg (fs a b r) (hm : memb t E.eqs = true) (hr : pairEq a b = some r) : EqC E t (.struct fs) (.agg a) (.agg b) r
theorem eqV_case {d : TypeDesc} {x y : AV} {b : Bool} (he : eqV (some d) x y E t = some b) : EqC E t d x y b := by
  unfold eqV at he
  split at he
  case h_1 => obtain rfl := Option.some.inj ‹some d = some _›; cases he; cases b <;> exact .bool true _
  case h_2 => obtain rfl := Option.some.inj ‹some d = some _›; rename_i b' _; cases b' <;> cases he <;> exact .bool false _
  case h_12 =>
    obtain rfl := Option.some.inj ‹some d = some _›
    unfold aggEq at he
    split at he
    · exact .agg _ _ _ _ (by assumption) he
    · cases he
  case h_13 => cases he
  all_goals (obtain rfl := Option.some.inj ‹some d = some _›; cases he; constructor)

theorem eqGuard_ok {u v : Value} {op : BinOp} {X Y : Operand} (h1 : ∀ a b, u ≠ .agg a ∨ v ≠ .agg b) (h2 : u ≠ .nilIface ∨ v ≠ .nilIface) : (eqGuard op t X Y u v).run P w = .ok () w := by
  cases op <;> first
    | rfl
    | (cases u <;> cases v <;> first
        | rfl
        | (exfalso; rcases h2 with h2 | h2 <;> exact h2 rfl)
        | (exfalso; rename_i p q; rcases h1 p q with h1 | h1 <;> exact h1 rfl))

theorem eqV_ok (ok : EnvOk E P) {x y : AV} {x' y' : Value} {b : Bool} (hx : VR β x x') (hy : VR β y y') (he : eqV (und E t) x y E t = some b) :
    ((Op.equal t x' y').run P w = .ok b w ∧ (∀ op X Y, (eqGuard op t X Y x' y').run P w = .ok () w)) ∧
    (binOp .eql t x' y' = do pure (.bool (← Op.equal t x' y'))) ∧ (binOp .neq t x' y' = do pure (.bool (!(← Op.equal t x' y')))) := by
  cases hu : und E t with
  | none =>
    rw [hu] at he
    unfold eqV at he
    split at he <;> first | (cases he; done) | (exact nomatch ‹none = some _›)
  | some d =>
    rw [hu] at he
    have hr := ok_run_und (w := w) ok hu
    have key : ∀ m, (∀ fs, d ≠ .struct fs) → (Op.equalIn (m + 1) t x' y').run P w = .ok b w := by
      intro m hs
      have hc := eqV_case he
      cases hc <;> first
        | (exact absurd rfl (hs _))
        | (cases hx; cases hy; simp [Op.equalIn, hr])
    have hc := eqV_case he
    by_cases hs : ∃ fs, d = .struct fs
    · obtain ⟨fs, rfl⟩ := hs
      cases hc with
      | agg _ a b r hm hr' =>
        cases hx with | agg _ a' ha => cases hy with | agg _ b' hb =>
          obtain ⟨i, j, k, l, rfl, rfl, rfl⟩ := pairEq_rel ha hb hr'
          obtain ⟨h1, h2⟩ := ok.eqs t hm
          refine ⟨⟨h2 i j k l w, fun op X Y => ?_⟩, rfl, rfl⟩
          cases op <;> first
            | rfl
            | simp [eqGuard, h1]
    · refine ⟨⟨key 9999 fun fs e => hs ⟨fs, e⟩, fun op X Y => eqGuard_ok ?_ ?_⟩, ?_, ?_⟩
      · cases hc <;> first
          | exact absurd ⟨_, rfl⟩ hs
          | (cases hx; cases hy; simp; done)
      · cases hc <;> first
          | exact absurd ⟨_, rfl⟩ hs
          | (cases hx; cases hy; simp; done)
      · cases hc <;> first
          | exact absurd ⟨_, rfl⟩ hs
          | (cases hx; cases hy; rfl)
      · cases hc <;> first
          | exact absurd ⟨_, rfl⟩ hs
          | (cases hx; cases hy; rfl)

theorem othOp_ok (ok : EnvOk E P) {x y : AV} {x' y' : Value} {op : BinOp} {X Y : Operand} (hx : VR β x x') (hy : VR β y y') :
    OK1 P β h w n (do eqGuard op t X Y x' y'; binOp op t x' y') (othOp op x y E t) := by
  cases op <;> try trivial
  case eql =>
    simp only [othOp]
    cases he : eqV (und E t) x y E t with
    | none => trivial
    | some b =>
      obtain ⟨⟨h1, h2⟩, h3, _⟩ := eqV_ok (w := w) ok hx hy he
      exact vbool_ok (by simp [h2, h3, h1])
  case neq =>
    simp only [othOp]
    cases he : eqV (und E t) x y E t with
    | none => trivial
    | some b =>
      obtain ⟨⟨h1, h2⟩, _, h3⟩ := eqV_ok (w := w) ok hx hy he
      exact vbool_ok (by simp [h2, h3, h1, bnot_eq])

theorem guard_num {op : BinOp} {X Y : Operand} {x y : Value} (hx : (∃ k a, x = .int k a) ∨ ∃ a, x = .float .f64 a) : (eqGuard op t X Y x y).run P w = .ok () w := by
  rcases hx with ⟨k, a, rfl⟩ | ⟨a, rfl⟩ <;> exact eqGuard_ok (by simp) (by simp)

theorem shl_ok {k k' : IntKind} {a b : Int} : OK1 P β h w n (binOp .shl t (.int k a) (.int k' b)) (shlN b k a) := by
  cases b with
  | negSucc b => trivial
  | ofNat b =>
    refine vint_ok ?_
    have : ¬ ((b : Int) < 0) := by omega
    simp [binOp, Op.shift, this]
theorem shr_ok {k k' : IntKind} {a b : Int} : OK1 P β h w n (binOp .shr t (.int k a) (.int k' b)) (shrN b k a) := by
  cases b with
  | negSucc b => trivial
  | ofNat b =>
    refine vint1_ok ?_
    have : ¬ ((b : Int) < 0) := by omega
    simp [binOp, Op.shift, this]

theorem OK1.guarded {s : Sem Unit} {r : Sem Value} {o : OR} (hs : s.run P w = .ok () w) (k : OK1 P β h w n r o) : OK1 P β h w n (do s; r) o := by
  cases o <;> simp only [OK1, Sem.run_bind, hs, Result.andThen_ok] at k ⊢ <;> exact k

theorem symOp_ok (ok : EnvOk E P) (b : Bool) {x y : AV} {x' y' : Value} {op : BinOp} {X Y : Operand} (hx : VR β x x') (hy : VR β y y') :
    OK1 P β h w n (do eqGuard op t X Y x' y'; binOp op t x' y') (symOp b op x y E t) := by
  cases b with
  | true =>
    show OK1 P β h w n (do eqGuard op t X Y x' y'; binOp op t x' y') (symO (E.sym op x y))
    cases hq : E.sym op x y with
    | none => trivial
    | some r => exact ok.syms _ _ _ _ hq _ _ _ _ _ _ _ hx hy
  | false => exact othOp_ok ok hx hy

theorem binOp_ok (ok : EnvOk E P) {x y : AV} {x' y' : Value} {op : BinOp} {X Y : Operand} (hx : VR β x x') (hy : VR β y y') :
    OK1 P β h w n (do eqGuard op t X Y x' y'; binOp op t x' y') (binOpV x y op E t) := by
  unfold binOpV
  split
  · cases hx; cases hy
    rename_i k a k' b
    refine OK1.guarded (guard_num (.inl ⟨_, _, rfl⟩)) ?_
    unfold intOp1
    split
    · exact shl_ok
    · exact shr_ok
    · cases hk : kbeq k k' with
      | false => trivial
      | true => obtain rfl := kbeq_eq.1 hk; exact intOp_ok
  · cases hx; cases hy
    exact OK1.guarded (guard_num (.inr ⟨_, rfl⟩)) fltOp_ok
  · exact symOp_ok ok _ hx hy

theorem unOp_ok {x : AV} {x' : Value} {op : UnOp} (hx : VR β x x') : OK1 P β h w n (Op.unary op x') (unOpV op x) := by
  unfold unOpV
  split
  · cases hx; exact vbool_ok (by simp [Op.unary, bnot_eq])
  · cases hx; exact vint_ok (by simp only [Op.unary, Op.intArith]; rfl)
  · trivial

theorem conv_ok (ok : EnvOk E P) {x : AV} {x' : Value} {c d : TypeId} (hx : VR β x x') : OK1 P β h w n (convert c d x') (convV E c d x) := by
  unfold convV
  cases isSym x with
  | true =>
    show OK1 P β h w n (convert c d x') (symO (E.cnv c d x))
    cases hq : E.cnv c d x with
    | none => trivial
    | some r => exact ok.cnvs _ _ _ _ hq _ _ _ hx
  | false =>
  simp only [conv0]
  cases hc : und E c with
  | none => trivial
  | some tc =>
    cases hd : und E d with
    | none => trivial
    | some td =>
      have h1 := ok_run_und (w := w) ok hc
      have h2 := ok_run_und (w := w) ok hd
      unfold conv1
      split
      · rename_i e1 e2; cases e1; cases e2; cases hx
        exact vint_ok (by simp [convert, h1, h2, Conv.intToInt])
      · rename_i e1 e2; cases e1; cases e2; cases hx
        rw [natS_eq]
        exact ⟨_, by simp [convert, h1, h2, Conv.intToFloat], .flt _⟩
      · trivial
end
end Go.Am
