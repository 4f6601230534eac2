/-
  AM at this seat's program.
-/
import Derived.Test.YtejjhikbdchjaaaGreatChecked
import Derived.Test.YtejjhikbdchjaaaGreatAmSound
import Derived.Eval
import Derived.KernelRfl
namespace Go.Proofs.YtejjhikbdchjaaaGreat
open Go.Am
set_option maxRecDepth 100000

noncomputable def envS (sym : BinOp → AV → AV → Option AV) (cnv : TypeId → TypeId → AV → Option AV) : Am.Env :=
  { types := Tr.ofList Tryz.prog.types.toList 0 .lf, funcs := Tr.ofList Tryz.prog.funcs.toList 0 .lf, bits := 155, eqs := [228], keys := [186], sym := sym, cnv := cnv }
def noSym : BinOp → AV → AV → Option AV := fun _ _ _ => none
def noCnv : TypeId → TypeId → AV → Option AV := fun _ _ _ => none
noncomputable abbrev env : Am.Env := envS noSym noCnv
section
variable {sym : BinOp → AV → AV → Option AV} {cnv : TypeId → TypeId → AV → Option AV}

def structOk (n : Nat) (i : TypeInfo) : Bool := match i.desc with | .struct fs => fs.toList.all fun f => Nat.blt f.type n | _ => true
def zeroOk (i : TypeInfo) : Bool := Nat.beq i.size 0 || match i.zero with | some z => Nat.beq z.cells.size i.size | none => false

theorem namesOk : Tryz.prog.funcs.toList.all (fun fn => !(fn.name == "runtime.NumGoroutine")) = true := by kernel_rfl
theorem structsOk : Tryz.prog.types.toList.all (structOk 384) = true := by kernel_rfl
theorem zerosOk : Tryz.prog.types.toList.all zeroOk = true := by kernel_rfl
theorem find155 : Extern.find Tryz.f155 = some Extern.MathFloatBits.float64bits := by kernel_rfl
theorem findNext155 : Extern.findNext Tryz.f155 = none := by kernel_rfl

theorem type_lt {t : Nat} {i : TypeInfo} (h : (envS sym cnv).types.get t = some i) : Tryz.prog.types[t]? = some i ∧ Tryz.prog.info? t = some i := by
  have h1 := Tr.ofList_lf (show (Tr.ofList Tryz.prog.types.toList 0 .lf).get t = some i from h)
  have h2 : Tryz.prog.types[t]? = some i := by simpa using h1
  refine ⟨h2, ?_⟩
  have hlt : t < Tryz.prog.types.size := by
    rcases Nat.lt_or_ge t Tryz.prog.types.size with h | h
    · exact h
    · rw [Array.getElem?_eq_none h] at h2; cases h2
  show Tables.info? Tryz.prog.toTables t = some i
  unfold Tables.info?
  rw [if_pos hlt]; exact h2

theorem struct_of {t : Nat} {i : TypeInfo} (h : (envS sym cnv).types.get t = some i) {fs : Array Field} (hd : i.desc = .struct fs) : ∀ f ∈ fs.toList, ∃ j, Tryz.prog.info? f.type = some j := by
  let _ : Vals := ⟨fun _ => 0, fun _ => 0⟩
  intro f hf
  have h1 := (type_lt h).1
  have hm : i ∈ Tryz.prog.types.toList := by
    have : Tryz.prog.types.toList[t]? = some i := by simpa using h1
    exact List.mem_of_getElem? this
  have := List.all_eq_true.1 structsOk i hm
  unfold structOk at this
  rw [hd] at this
  have hlt := blt_iff.1 (List.all_eq_true.1 this f hf)
  have hsz := Tryz.types_size
  have hlt' : f.type < Tryz.prog.types.size := by rw [hsz]; exact hlt
  refine ⟨Tryz.prog.types[f.type], ?_⟩
  show Tables.info? Tryz.prog.toTables f.type = _
  unfold Tables.info?
  rw [if_pos hlt']
  exact Array.getElem?_eq_getElem hlt'

theorem eq_int {m : Nat} {a b : Int} {w : World} : (Op.equalIn (m + 1) 3 (.int .i64 a) (.int .i64 b)).run Tryz.prog w = .ok (a == b) w := by
  simp [Op.equalIn, run_underlying Tryz.underlying3]
theorem part3 {a b : Value} {w : World} {i : Nat} (hi : i < 2) : (part 3 #[a, b] i).run Tryz.prog w = .ok (#[a, b][i]'(by simpa using hi)) w := by
  have : (#[a, b] : Array Value)[i]? = some (#[a, b][i]'(by simpa using hi)) := Array.getElem?_eq_getElem _
  simp [part, isAgg, run_underlying Tryz.underlying3, this]
theorem size3 {w : World} : (sizeOf 3).run Tryz.prog w = .ok 1 w := by
  have h : Tryz.prog.info? 3 = some Tryz.t3 := by kernel_rfl
  have h2 : Tryz.t3.size = 1 := by kernel_rfl
  simp [sizeOf, typeInfo, h, h2]
theorem eq228 (m : Nat) {a b c d : Int} {w : World} : (Op.equalIn (m + 2) 228 (.agg #[.int .i64 a, .int .i64 b]) (.agg #[.int .i64 c, .int .i64 d])).run Tryz.prog w = .ok (a == c && b == d) w := by
  have p0 : ∀ x y : Value, (part 3 #[x, y] 0).run Tryz.prog w = .ok x w := fun x y => part3 (by decide)
  have p1 : ∀ x y : Value, (part 3 #[x, y] 1).run Tryz.prog w = .ok y w := fun x y => part3 (by decide)
  have e1 : ∀ x y : Int, (Op.equalIn (m + 1) 3 (.int .i64 x) (.int .i64 y)).run Tryz.prog w = .ok (x == y) w := fun x y => eq_int
  unfold Op.equalIn
  simp [run_underlying Tryz.underlying228, Tryz.stoodInHeld228, p0, p1, e1]
  cases h1 : a == c <;> cases h2 : b == d <;> simp_all
end
end Go.Proofs.YtejjhikbdchjaaaGreat
