/-
  'AuditTimes': the call answers true and leaves all as it was, at any row of bytes.
-/
import Derived.Test.YtejjhikbdchjaaaGreatAuditTimesAll
import Derived.ChangeSlices
namespace Go.Proofs.YtejjhikbdchjaaaGreat.auditTimes
open Go.Am Go.ChangeShapes Go.RowKit
set_option maxRecDepth 100000
set_option linter.unusedSectionVars false

noncomputable def runAt (l : List Nat) (x : AV) (apart : Bool) (H : Heap) : FR := callX (envS (rsym l) noCnv) (trueOv [14, 26, 34, 41]) 100 10 [x, .bool apart] H 1

theorem seenNil (b : Bool) : isTrue (runAt [] .nils b .lf) = true := by cases b <;> kernel_rfl
theorem seenNone (b : Bool) : isTrue (runAt [] (.slice 0 0 0 0 false 1) b .lf) = true := by cases b <;> kernel_rfl
theorem seenMore (b : Bool) (m c : Nat) : isTrue (runAt [] (.slice 0 0 (m + 5) c false 1) b .lf) = true := by cases b <;> kernel_rfl

section
variable [Vals]
theorem rsym_ok {l : List Nat} (hl : ∀ i r, nth i l = some r → Vals.σ i = ((3 * (Vals.σ i).toNat.div 3 + r : Nat) : Int) ∧ r < 3) : SymOk (rsym l) := by
  intro op x y u hs β t X Y w x' y' hx hy
  unfold rsym at hs
  split at hs
  · rename_i i
    cases hr : nth i l with
    | none => rw [hr] at hs; cases hs
    | some r =>
      rw [hr] at hs; cases hs
      cases hx; cases hy
      obtain ⟨h1, h2⟩ := hl i r hr
      have key : ∀ t, binOpV (.int .u8 (Vals.σ i)) (.int .u8 3) .rem env t = .val (.int .u8 (Int.ofNat r)) := by
        intro t
        show vint1 (Int.tmod (Vals.σ i) 3) .u8 = _
        have : Int.tmod (Vals.σ i) 3 = Int.ofNat r := by rw [h1]; show Int.ofNat _ = _; congr 1; show _ % 3 = r; omega
        rw [this]
        simp only [vint1, natS_eq, vintP]
      have := binOp_ok (n := 0) (h := fun _ => none) (w := w) (t := t) (X := X) (Y := Y) (op := .rem) (envOkS noSym_ok noCnv_ok) (VR.int (β := β) .u8 (Vals.σ i)) (VR.int (β := β) .u8 3)
      rw [key t] at this
      exact this
  · cases hs
end

/-- What AM has seen, of the model's call. -/
theorem walk_of {l : List Nat} {x : AV} {xv : Value} {b : Bool} {H : Heap} (V : Vals) {β : Ren} (hl : ∀ i r, nth i l = some r → Vals.σ i = ((3 * (Vals.σ i).toNat.div 3 + r : Nat) : Int) ∧ r < 3)
    (hs : isTrue (runAt l x b H) = true) {W : World} (hr : Rel β H.get W) (hx : VR β x xv) (hf : ∀ k, 1 ≤ k → β k = none) (hno : ∀ k, ¬ Own H.get k) :
    Calls Tryz.prog 10 #[xv, .bool b] W fun e W' => e = .returned (.bool true) ∧ Kept W W' := by
  unfold runAt at hs
  cases hc : callX (envS (rsym l) noCnv) (trueOv [14, 26, 34, 41]) 100 10 [x, .bool b] H 1 with
  | fail => rw [hc] at hs; cases hs
  | ret v bare H' n' =>
    rw [hc] at hs
    cases v <;> first | (cases hs; done) | skip
    rename_i c
    cases c with
    | false => cases hs
    | true =>
      obtain ⟨_, _, hcall⟩ := amOkX (rsym_ok hl) noCnv_ok (over_true awakes) 100 10 _ _ _ _ _ _ _ hc
      refine Calls.mono (hcall β W _ hr (.cons _ _ _ _ hx (.cons _ _ _ _ (.bool b) .nil)) (fun k hk _ => hf k hk)).1 ?_
      rintro e w' ⟨cv, β', rfl, hv, hp⟩
      cases hv
      exact ⟨rfl, kept_of_post hp hno⟩

theorem nth_len {α : Type} : ∀ {i : Nat} {l : List α} {x : α}, nth i l = some x → i < l.length
  | i, [], _, h => by cases i <;> cases h
  | 0, _ :: _, _, _ => by simp
  | i + 1, _ :: l, _, h => by have := nth_len (l := l) h; simp; omega
theorem syms_rel [Vals] {β : Ren} : ∀ (n i : Nat) (L : List Value), L.length = n → (∀ j, j < n → L[j]? = some (.int .u8 (Vals.σ (i + j)))) → VRs β (syms i n) L
  | 0, _, [], _, _ => .nil
  | n + 1, i, v :: L, hl, h => by
    have h0 := h 0 (by omega)
    simp at h0
    subst h0
    refine .cons _ _ _ _ (.sym .u8 i) (syms_rel n (i + 1) L (by simpa using hl) fun j hj => ?_)
    have := h (j + 1) (by omega)
    simp at this
    rw [this, show i + 1 + j = i + (j + 1) by omega]

theorem rel_ro [Vals] {W : World} {blk off cap n : Nat} {C : Array Value} {T : TypeId} {f : Nat × Nat} (hC : W.heap[blk]? = some (.cells C T f)) (h1 : off + cap ≤ C.size) (h2 : n ≤ cap) (h3 : ∀ j, j < n → C[off + j]? = some (.int .u8 (Vals.σ j))) :
    Rel (fun b => if b = 0 then some ⟨blk, off, cap⟩ else none) (mem n).get W := by
  have hm : ∀ b o, (mem n).get b = some o → b = 0 ∧ o = .ro (syms 0 n) := by
    intro b o hb
    cases b with
    | zero => cases hb; exact ⟨rfl, rfl⟩
    | succ b => unfold mem at hb; rw [Tr.get_nd_succ] at hb; split at hb <;> cases hb
  have hlen : ∀ i k, (syms i k).length = k := by
    intro i k
    induction k generalizing i with
    | zero => rfl
    | succ k ih => simp [syms, ih]
  refine ⟨fun b l hb => ?_, fun b l hb => ?_, fun b l hb => ?_, fun b b' i i' hb => ?_⟩
  · cases (hm b _ hb).2
  · cases (hm b _ hb).2
  · obtain ⟨rfl, e⟩ := hm b _ hb
    cases e
    refine ⟨⟨blk, off, cap⟩, rfl, C, T, f, hC, h1, by rw [hlen]; exact h2, ?_⟩
    rw [hlen]
    refine syms_rel n 0 _ (by simp; omega) fun j hj => ?_
    rw [List.getElem?_take, if_pos hj, List.getElem?_drop, Nat.zero_add]
    simpa using h3 j hj
  · obtain ⟨o, ho, hw⟩ := hb
    rw [(hm b _ ho).2] at hw; cases hw

theorem own_mem (n : Nat) (k : Nat) : ¬ Own (mem n).get k := by
  rintro ⟨o, ho, hw⟩
  cases k with
  | zero => cases ho; cases hw
  | succ b => unfold mem at ho; rw [@Tr.get_nd_succ] at ho; split at ho <;> cases ho

/-- The remainders. -/
def rems (zs : List Int) : Nat → Nat → List Nat
  | _, 0 => []
  | i, n + 1 => (zs.getD i 0).toNat % 3 :: rems zs (i + 1) n
theorem rems_nth (zs : List Int) : ∀ (n i j r : Nat), nth j (rems zs i n) = some r → r = (zs.getD (i + j) 0).toNat % 3 ∧ j < n
  | 0, i, j, r, h => by cases j <;> cases h
  | n + 1, i, 0, r, h => by cases h; exact ⟨rfl, by omega⟩
  | n + 1, i, j + 1, r, h => by
    have := rems_nth zs n (i + 1) j r h
    rw [show i + 1 + j = i + (j + 1) by omega] at this
    exact ⟨this.1, by omega⟩

theorem run_all (zs : List Int) (n : Nat) (h0 : 0 < n) (hn : n ≤ 4) (b : Bool) : run (rems zs 0 n) b = true := by
  have lt : ∀ i, (zs.getD i 0).toNat % 3 < 3 := fun i => Nat.mod_lt _ (by decide)
  match n, h0, hn with
  | 1, _, _ => exact all1 _ (lt _) b
  | 2, _, _ => exact all2 _ (lt _) _ (lt _) b
  | 3, _, _ => exact all3 _ (lt _) _ (lt _) _ (lt _) b
  | 4, _, _ => exact all4 _ (lt _) _ (lt _) _ (lt _) _ (lt _) b
theorem rems_len (zs : List Int) : ∀ (n i : Nat), (rems zs i n).length = n
  | 0, _ => rfl
  | n + 1, i => by simp [rems, rems_len zs n]

theorem one_cell {v u : Value} (h : v.cells.toList = [u]) (hn : ∀ l, v ≠ .agg l) : v = u := by
  cases v <;> first | exact absurd rfl (hn _) | (simp [Value.cells] at h; exact h)
section
variable {H : Type} {enc : TypeId × Value → H}
theorem walk (W : World) {base : Nat} {v1 v2 : Value} {d1 d2 : DataW H} {p1 p2 : List MemPlace} (h1 : DataW.Trod enc Tryz.prog W 0 (fun _ => true) true 76 v1 d1 p1) (h2 : DataW.Trod enc Tryz.prog W 0 (fun _ => true) true 4 v2 d2 p2)
    (o1 : Value.okWide Tryz.prog W .any base 76 v1) (o2 : Value.okWide Tryz.prog W .any base 4 v2) :
    Calls Tryz.prog 10 #[v1, v2] W fun e W' => e = .returned (.bool true) ∧ Kept W W' := by
  have hb : ∃ b, v2 = .bool b := by
    unfold Value.okWide Cell.okWide Cell.ok at o2
    rw [Tryz.underlying4] at o2
    cases v2 <;> first | exact ⟨_, rfl⟩ | exact o2.elim
  obtain ⟨b, rfl⟩ := hb
  obtain ⟨fuel, hf⟩ := h1
  have hc1 : Tryz.prog.cellsOf 5 = 1 := by kernel_rfl
  unfold Value.okWide Cell.okWide at o1
  rw [Tryz.underlying76] at o1
  rcases open_ints Tryz.underlying76 Tryz.underlying5 hc1 hf with ⟨hv, _⟩ | ⟨a, len, cap, zs, hv, _, hle, _, hzs, _, hcell, hwf⟩
  · have : v1 = .slice none 0 0 := one_cell hv (by rintro l rfl; exact o1)
    subst this
    let V : Vals := ⟨fun _ => 0, fun _ => 0⟩
    exact walk_of V (fun i r h => by cases i <;> cases h) (seenNil b) (rel_nil W) .nils (fun _ _ => rfl) own_lf
  · have : v1 = .slice (some a) len cap := one_cell hv (by rintro l rfl; exact o1)
    subst this
    simp only [if_true] at hzs
    have hsp : a.spot = none ∧ ∃ C T f, W.heap[a.block]? = some (.cells C T f) := by
      simp only [Cell.ok, Tryz.underlying76] at o1
      obtain ⟨_, _, _, hs, row, cells, hsh, _⟩ := o1
      refine ⟨hs, ?_⟩
      unfold World.shape? at hsh
      split at hsh
      · rename_i C T f hC; exact ⟨C, T, f, hC⟩
      · cases hsh
    obtain ⟨blk, off, spot⟩ := a
    obtain ⟨hs, C, T, f, hC⟩ := hsp
    simp only at hs hC
    subst hs
    let V : Vals := ⟨fun i => zs.getD i 0, fun _ => 0⟩
    have hβ : ∀ k, 1 ≤ k → (fun b => if b = 0 then some (BI.mk blk off cap) else none : Ren) k = none := fun k hk => by simp only []; rw [if_neg (by omega)]
    have hx : ∀ c, c ≤ cap → len ≤ c → VR (fun b => if b = 0 then some (BI.mk blk off cap) else none) (.slice 0 0 len c false 1) (.slice (some ⟨blk, off, none⟩) len cap) := by
      intro c hc hl
      have := VR.slice (β := fun b => if b = 0 then some (BI.mk blk off cap) else none) 0 0 len c cap false 1 ⟨blk, off, cap⟩ rfl hc hl (by intro h; cases h) (by show 0 + cap * 1 ≤ cap; omega)
      exact this
    by_cases h5 : 5 ≤ len
    · obtain ⟨m, rfl⟩ : ∃ m, len = m + 5 := ⟨len - 5, by omega⟩
      exact walk_of V (fun i r h => by cases i <;> cases h) (seenMore b m cap) (β := fun b => if b = 0 then some (BI.mk blk off cap) else none)
        ⟨fun b l hb => (by cases hb), fun b l hb => (by cases hb), fun b l hb => (by cases hb), fun b b' i i' hb => absurd rfl hb.ne⟩ (hx cap (Nat.le_refl _) hle) hβ own_lf
    by_cases h0 : len = 0
    · subst h0
      exact walk_of V (fun i r h => by cases i <;> cases h) (seenNone b) (β := fun b => if b = 0 then some (BI.mk blk off cap) else none)
        ⟨fun b l hb => (by cases hb), fun b l hb => (by cases hb), fun b l hb => (by cases hb), fun b b' i i' hb => absurd rfl hb.ne⟩ (hx 0 (Nat.zero_le _) (Nat.le_refl _)) hβ own_lf
    · have hcC : ∀ j, j < cap → C[off + j]? = some (.int .u8 (zs.getD j 0)) := by
        intro j hj
        have := hcell j (by omega)
        rw [Addr.add_lit] at this
        unfold World.cell? at this
        rw [hC] at this
        exact this
      have hsz : off + cap ≤ C.size := by
        have := hcC (cap - 1) (by omega)
        rcases Nat.lt_or_ge (off + (cap - 1)) C.size with h | h
        · omega
        · rw [Array.getElem?_eq_none h] at this; cases this
      have hrun := run_all zs len (by omega) (by omega) b
      unfold run at hrun
      rw [rems_len] at hrun
      refine walk_of V (fun i r h => ?_) hrun (rel_ro hC hsz hle fun j hj => hcC j (by omega)) (hx len hle (Nat.le_refl _)) hβ (own_mem len)
      obtain ⟨h1, h2⟩ := rems_nth zs len 0 i r h
      rw [Nat.zero_add] at h1
      have hb : 0 ≤ zs.getD i 0 := by
        have := (range_u8 hwf i).1
        rwa [List.getD_eq_getElem?_getD]
      refine ⟨?_, by rw [h1]; exact Nat.mod_lt _ (by decide)⟩
      show zs.getD i 0 = ((3 * ((zs.getD i 0).toNat / 3) + r : Nat) : Int)
      rw [h1]
      omega
end
theorem typesIn : ∀ t ∈ Tryz.f10.params.toList, t < Tryz.prog.types.size := by
  rw [Tryz.params10]
  intro t ht
  have : t = 76 ∨ t = 4 := by simpa using ht
  rcases this with rfl | rfl <;> exact of_decide_eq_true (by kernel_rfl)
def wit : Input := ⟨#[], #[.slice none 0 0, .bool false], []⟩
end Go.Proofs.YtejjhikbdchjaaaGreat.auditTimes
