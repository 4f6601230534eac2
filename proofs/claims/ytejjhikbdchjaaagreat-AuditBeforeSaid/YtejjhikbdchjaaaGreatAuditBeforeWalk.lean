/-
  'AuditBefore': the call answers true and leaves all as it was, at any two rows of four numbers.
-/
import Derived.Test.YtejjhikbdchjaaaGreatAuditBeforeSeen
namespace Go.Proofs.YtejjhikbdchjaaaGreat.auditBefore
open Go.Am Go.ChangeShapes Go.RowKit
set_option maxRecDepth 100000

theorem sym_int [Vals] {op : BinOp} {k k' : IntKind} {a b : Int} {t : TypeId} {r : AV} (h : ∀ t, binOpV (.int k a) (.int k' b) op env t = .val r) (β : Ren) (X Y : Operand) (w : World) :
    ∃ r', (do eqGuard op t X Y (.int k a) (.int k' b); binOp op t (.int k a) (.int k' b) : Sem Value).run Tryz.prog w = .ok r' w ∧ VR β r r' := by
  have := binOp_ok (n := 0) (h := fun _ => none) (w := w) (t := t) (X := X) (Y := Y) (op := op) (envOkS noSym_ok noCnv_ok) (VR.int (β := β) k a) (VR.int (β := β) k' b)
  rw [h t] at this
  exact this

theorem bsym_ok [Vals] {p q r : Bool} (hp : iblt (Vals.σ 3) (Vals.σ 6) = p) (hq : ibeq (Vals.σ 0) (Vals.σ 4) = q) (hr : iblt (Vals.σ 1) (Vals.σ 5) = r) : SymOk (bsym p q r) := by
  intro op x y u hs β t X Y w x' y' hx hy
  unfold bsym at hs
  split at hs
  · cases hs; cases hx; cases hy
    exact sym_int (fun t => by show vbool (iblt (Vals.σ 3) (Vals.σ 6)) = _; rw [hp]; cases p <;> rfl) β X Y w
  · cases hs; cases hx; cases hy
    exact sym_int (fun t => by show vbool (ibeq (Vals.σ 0) (Vals.σ 4)) = _; rw [hq]; cases q <;> rfl) β X Y w
  · cases hs; cases hx; cases hy
    exact sym_int (fun t => by show vbool (iblt (Vals.σ 1) (Vals.σ 5)) = _; rw [hr]; cases r <;> rfl) β X Y w
  · cases hs

theorem walk_ints (a0 a1 a2 a3 b0 b1 b2 b3 : Int) (W : World) :
    Calls Tryz.prog 8 #[.agg #[.int .i64 a0, .int .i64 a1, .int .i64 a2, .int .i64 a3], .agg #[.int .i64 b0, .int .i64 b1, .int .i64 b2, .int .i64 b3]] W fun e W' => e = .returned (.bool true) ∧ Kept W W' := by
  let _ : Vals := ⟨fun i => match i with | 0 => a0 | 1 => a1 | 2 => a2 | 3 => a3 | 4 => b0 | 5 => b1 | 6 => b2 | _ => b3, fun _ => 0⟩
  have hs := seen (iblt a3 b2) (ibeq a0 b0) (iblt a1 b1)
  cases hc : callX (envS (bsym (iblt a3 b2) (ibeq a0 b0) (iblt a1 b1)) noCnv) (trueOv [14, 26, 34, 41]) 100 8 inp .lf 0 with
  | fail => rw [hc] at hs; cases hs
  | ret v bare H' n' =>
    rw [hc] at hs
    cases v <;> first | (cases hs; done) | skip
    rename_i b
    cases b with
    | false => cases hs
    | true =>
      obtain ⟨_, _, hcall⟩ := amOkX (bsym_ok rfl rfl rfl) noCnv_ok (over_true awakes) 100 8 _ _ _ _ _ _ _ hc
      refine Calls.mono (hcall (fun _ => none) W _ (rel_nil W) ?_ (fun b _ _ => rfl)).1 ?_
      · exact .cons _ _ _ _ (.agg _ _ (.cons _ _ _ _ (.sym .i64 0) (.cons _ _ _ _ (.sym .i64 1) (.cons _ _ _ _ (.sym .i64 2) (.cons _ _ _ _ (.sym .i64 3) .nil)))))
          (.cons _ _ _ _ (.agg _ _ (.cons _ _ _ _ (.sym .i64 4) (.cons _ _ _ _ (.sym .i64 5) (.cons _ _ _ _ (.sym .i64 6) (.cons _ _ _ _ (.sym .i64 7) .nil))))) .nil)
      · rintro e w' ⟨cv, β', rfl, hv, hp⟩
        cases hv
        exact ⟨rfl, kept_of_post hp own_lf⟩

section
variable {H : Type} {enc : TypeId × Value → H}
theorem open4 {W : World} {base b0 : Nat} {sp : Nat → Bool} {held : Bool} {v : Value} {d : DataW H} {ps : List MemPlace} (h : DataW.Trod enc Tryz.prog W base sp held 81 v d ps) (hv : Value.okWide Tryz.prog W .any b0 81 v) :
    ∃ a b c e : Int, v = .agg #[.int .i64 a, .int .i64 b, .int .i64 c, .int .i64 e] := by
  unfold Value.okWide at hv
  rw [Tryz.underlying81] at hv
  obtain ⟨cs, rfl, hs, _⟩ := hv
  have h81 : Tryz.prog.cellsOf 81 = 4 := by kernel_rfl
  have h3 : Tryz.prog.cellsOf 3 = 1 := by kernel_rfl
  rw [h81] at hs
  obtain ⟨n, hn⟩ := h
  obtain ⟨l⟩ := cs
  match l, hs with
  | [c0, c1, c2, c3], _ =>
    obtain ⟨y0, y1, y2, y3, m, _, e0, e1, e2, e3⟩ := trod_array4 Tryz.underlying81 h3 (show DataW.trod enc Tryz.prog W base sp held n 81 [c0, c1, c2, c3] = some (d, ps) from hn)
    obtain ⟨a, ea, _⟩ := DataW.trod_int Tryz.underlying3 e0
    obtain ⟨b, eb, _⟩ := DataW.trod_int Tryz.underlying3 e1
    obtain ⟨c, ec, _⟩ := DataW.trod_int Tryz.underlying3 e2
    obtain ⟨e, ee, _⟩ := DataW.trod_int Tryz.underlying3 e3
    cases ea; cases eb; cases ec; cases ee
    exact ⟨a, b, c, e, rfl⟩

theorem walk (W : World) {base : Nat} {v1 v2 : Value} {d1 d2 : DataW H} {p1 p2 : List MemPlace} (h1 : DataW.Trod enc Tryz.prog W 0 (fun _ => true) true 81 v1 d1 p1) (h2 : DataW.Trod enc Tryz.prog W 0 (fun _ => true) true 81 v2 d2 p2)
    (o1 : Value.okWide Tryz.prog W .any base 81 v1) (o2 : Value.okWide Tryz.prog W .any base 81 v2) :
    Calls Tryz.prog 8 #[v1, v2] W fun e W' => e = .returned (.bool true) ∧ Kept W W' := by
  obtain ⟨a0, a1, a2, a3, rfl⟩ := open4 h1 o1
  obtain ⟨b0, b1, b2, b3, rfl⟩ := open4 h2 o2
  exact walk_ints a0 a1 a2 a3 b0 b1 b2 b3 W
end
theorem typesIn : ∀ t ∈ Tryz.f8.params.toList, t < Tryz.prog.types.size := by
  rw [Tryz.params8]
  intro t ht
  have : t = 81 := by simpa using ht
  subst this
  exact of_decide_eq_true (by kernel_rfl)
def wit : Input := ⟨#[], #[.agg #[.int .i64 0, .int .i64 0, .int .i64 0, .int .i64 0], .agg #[.int .i64 0, .int .i64 0, .int .i64 0, .int .i64 0]], []⟩
end Go.Proofs.YtejjhikbdchjaaaGreat.auditBefore
