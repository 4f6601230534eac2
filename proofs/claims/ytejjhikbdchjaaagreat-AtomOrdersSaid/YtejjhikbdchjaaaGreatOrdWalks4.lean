/-
  A walk of the law's own choose.
-/
import Derived.Test.YtejjhikbdchjaaaGreatOrdWalks3
import Derived.Below
import Derived.Test.YtejjhikbdchjaaaGreatAmLaw
import Derived.WalkSmall
import Derived.Laws.NewBlocks
import Derived.Laws.MakeOwn
import Derived.Deep.OwnRows
import Derived.StillTailTactics
import Derived.BigRegion
namespace Go.Proofs.YtejjhikbdchjaaaGreat
open Go.RowKit Go.Am

theorem Kept.setCell {a w : World} (h : Kept a w) {p : Addr} (hp : a.heap.size ≤ p.block) (u : Value) : Kept a (w.setCell p u) where
  below := h.below.setCell hp u
  thaw := fun k hk C e f hc => by
    unfold World.setCell at hc
    rw [Array.getElem?_modify] at hc
    by_cases hkb : p.block = k
    · rw [if_pos hkb] at hc
      cases hx : w.heap[k]? with
      | none => rw [hx] at hc; cases hc
      | some o =>
        rw [hx] at hc
        cases o with
        | cells C' e' f' =>
          have := h.thaw k hk C' e' f' hx
          subst this
          simp only [Option.map_some, Option.some.injEq, Obj.cells.injEq] at hc
          exact hc.2.2.symm
        | _ => cases hc
    · rw [if_neg hkb] at hc
      exact h.thaw k hk C e f hc
theorem Kept.alloc {a w : World} (h : Kept a w) (c : Array Value) (t : TypeId) : Kept a (w.alloc (.cells c t)) where
  below := h.below.alloc h.below.size _
  thaw := fun k hk C e f hc => by
    have hh : (w.alloc (.cells c t)).heap = w.heap.push (.cells c t) := rfl
    rw [hh, Array.getElem?_push] at hc
    split at hc
    · cases hc; rfl
    · exact h.thaw k hk C e f hc
theorem Kept.drew {a w : World} (h : Kept a w) : Kept a w.drew := ⟨h.below.drew, fun k hk C e f hc => h.thaw k hk C e f hc⟩
theorem Kept.drewN {a w : World} (h : Kept a w) (n : Nat) : Kept a (w.drewN n) := ⟨below_drewN h.below n, fun k hk C e f hc => h.thaw k hk C e f hc⟩
theorem Kept.drewN_of {a w : World} (n : Nat) (h : w = a.drewN n) : Kept a w := by subst h; exact (Kept.refl a).drewN n

theorem info3' : (Tryz.prog.info? 3).map (fun i => (i.zero, i.size, i.bytes)) = some (some (.int .i64 0), 1, 8) := by kernel_rfl
theorem made (k : Nat) (hk : k ≤ 100) (w : World) : (Instr.makeSlice 24 (.int .i64 ((k : Int) + 1)) (.int .i64 ((k : Int) + 1))).run Tryz.prog w =
    .ok (.slice (some ⟨w.heap.size, 0, none⟩) (k + 1) (k + 1)) (w.alloc (.cells (madeCells #[.int .i64 0] (k + 1)) 3)) := by
  have h := run_make_row' (P := Tryz.prog) 24 3 (.int .i64 0) 8 Tryz.underlying24 info3' rfl .i64 .i64 (k + 1) (by omega) (by omega) w
  rwa [Int.natCast_add] at h
theorem made_get (k t : Nat) (h : t ≤ k) : (madeCells #[.int .i64 0] (k + 1))[t]? = some (.int .i64 0) := by
  unfold madeCells
  have : t < k + 1 := by omega
  simp [this, Nat.mod_one]

/-- A block's cells: whole numbers by their places. -/
structure RowIs (B k : Nat) (F : Nat → Nat) (w : World) : Prop where
  mk ::
  ex : ∃ C, w.heap[B]? = some (.cells C 3 (0, 0)) ∧ C.size = k + 1 ∧ ∀ t, t ≤ k → C[t]? = some (.int .i64 (F t))
theorem RowIs.cell {B k : Nat} {F : Nat → Nat} {w : World} (h : RowIs B k F w) {t : Nat} (ht : t ≤ k) : w.cell? ⟨B, t, none⟩ = some (.int .i64 (F t)) := by
  obtain ⟨C, h1, _, h3⟩ := h.ex
  unfold World.cell?
  rw [h1]
  exact h3 t ht
theorem RowIs.free {B k : Nat} {F : Nat → Nat} {w : World} (h : RowIs B k F w) (t : Nat) : w.frozen? ⟨B, t, none⟩ = false := by
  obtain ⟨C, h1, _⟩ := h.ex
  unfold World.frozen?
  rw [h1]
  simp
theorem RowIs.drewN {B k : Nat} {F : Nat → Nat} {w : World} (h : RowIs B k F w) (n : Nat) : RowIs B k F (w.drewN n) := ⟨h.ex⟩

theorem RowIs.congr {B k : Nat} {F G : Nat → Nat} {w : World} (h : RowIs B k F w) (e : ∀ t, t ≤ k → F t = G t) : RowIs B k G w := by
  obtain ⟨C, h1, h2, h3⟩ := h.ex
  exact ⟨C, h1, h2, fun t ht => by rw [h3 t ht, e t ht]⟩
theorem RowIs.set {B k : Nat} {F : Nat → Nat} {w : World} (h : RowIs B k F w) {t : Nat} (ht : t ≤ k) (v : Nat) : RowIs B k (fun s => if s = t then v else F s) (w.setCell ⟨B, t, none⟩ (.int .i64 v)).drew := by
  obtain ⟨C, h1, h2, h3⟩ := h.ex
  refine ⟨C.setIfInBounds t (.int .i64 v), ?_, by simp [h2], fun s hs => ?_⟩
  · show (w.setCell ⟨B, t, none⟩ (.int .i64 v)).heap[B]? = _
    unfold World.setCell
    rw [Array.getElem?_modify]
    simp [h1]
  · by_cases e : s = t
    · subst e
      rw [Array.getElem?_setIfInBounds_self_of_lt (by omega), if_pos rfl]
    · rw [Array.getElem?_setIfInBounds_ne (fun x => e x.symm), if_neg e, h3 s hs]
def row (i t : Nat) : Nat := min (Ord.C i t) 2147483648
/-- In the midst of a round: from the place above 'j' on the new ones. -/
def mid (i j t : Nat) : Nat := if j < t then row (i + 1) t else row i t
theorem row_le (i t : Nat) : row i t ≤ 2147483648 := Nat.min_le_right _ _
theorem mid_le (i j t : Nat) : mid i j t ≤ 2147483648 := by unfold mid; split <;> exact row_le _ _
theorem row_next (i t : Nat) : (if 2147483648 < ((row i (t + 1) : Nat) : Int) + ((row i t : Nat) : Int) then 2147483648 else ((row i (t + 1) : Nat) : Int) + ((row i t : Nat) : Int)) = ((row (i + 1) (t + 1) : Nat) : Int) := by
  unfold row
  rw [Ord.C_succ]
  split <;> omega
theorem mid_step (i p t : Nat) : (if t = p + 1 then row (i + 1) (p + 1) else mid i (p + 1) t) = mid i p t := by
  unfold mid
  by_cases e : t = p + 1
  · subst e; rw [if_pos rfl, if_pos (by omega)]
  · rw [if_neg e]
    by_cases h : p < t
    · rw [if_pos (by omega), if_pos h]
    · rw [if_neg (by omega), if_neg h]
theorem mid_end (i t : Nat) : mid i 0 t = row (i + 1) t := by
  unfold mid
  by_cases h : 0 < t
  · rw [if_pos h]
  · rw [if_neg h, show t = 0 by omega]; unfold row; rw [Ord.C_zero, Ord.C_zero]

set_option maxRecDepth 100000 in
theorem pascal (n k : Nat) (w : World) (hn : n ≤ 1000) (hk : k ≤ 100) :
    Calls Tryz.prog 28 #[.int .i64 n, .int .i64 k] w fun e w' => e = .returned (.int .i64 (min (Ord.C n k) 2147483648 : Nat)) ∧ Kept w w' := by
  have hmk := made k hk
  have hm0 := made_get k 0 (by omega)
  go_enter Tryz.func28, Tryz.ntmps28
  go_wp2
  clear hmk hm0
  go_loopw [6] (fun i wr => ∃ m : Nat, m ≤ n ∧ i = .int .i64 m ∧ RowIs w.heap.size k (row m) wr ∧ Kept w wr) (fun i _ => (n - (intOf i)).toNat)
  case atStart =>
    refine ⟨0, Nat.zero_le _, rfl, ?_, (Kept.refl _).alloc _ _⟩
    refine ⟨(madeCells #[.int .i64 0] (k + 1)).setIfInBounds 0 (.int .i64 1), ?_, by simp [size_madeCells], fun t ht => ?_⟩
    · show (w.heap.push _)[w.heap.size]? = _
      rw [Array.getElem?_push_size]
    · by_cases e : t = 0
      · subst e
        rw [Array.getElem?_setIfInBounds_self_of_lt (by rw [size_madeCells]; omega)]
        unfold row; rw [Ord.C_zero]; rfl
      · rw [Array.getElem?_setIfInBounds_ne (fun x => e x.symm), made_get k t ht]
        unfold row; rw [Ord.C_above 0 t (by omega)]; rfl
  case round =>
    obtain ⟨m, hm, rfl, hr, hb⟩ := hrel
    by_cases hlt : m < n
    · go_wp2
      go_loopw [7] (fun j wr => ∃ q : Nat, q ≤ k ∧ j = .int .i64 q ∧ RowIs w.heap.size k (mid m q) wr ∧ Kept w wr) (fun j _ => (intOf j).toNat)
      case atStart => exact ⟨k, Nat.le_refl _, rfl, hr.congr fun t ht => by unfold mid; rw [if_neg (by omega)], hb⟩
      case round =>
        obtain ⟨q, hq, rfl, hr2, hb2⟩ := hrel
        by_cases hq0 : 0 < q
        · obtain ⟨p, rfl⟩ : ∃ p, q = p + 1 := ⟨q - 1, by omega⟩
          have c1 := hr2.cell hq
          have c2 := hr2.cell (t := p) (by omega)
          have f1 := hr2.free (p + 1)
          have m1 : mid m (p + 1) (p + 1) = row m (p + 1) := by unfold mid; rw [if_neg (by omega)]
          have m2 : mid m (p + 1) p = row m p := by unfold mid; rw [if_neg (by omega)]
          rw [m1] at c1
          rw [m2] at c2
          have hv := row_next m p
          have b1 := row_le m (p + 1)
          have b2 := row_le m p
          have Hv := Lib.hid hv
          clear m1 m2 hv
          generalize row m (p + 1) = x1 at *
          generalize row m p = x2 at *
          go_wp2
          have e1 : ((p + 1 : Nat) : Int) = (p : Int) + 1 := rfl
          go_region
          have hs : RowIs w.heap.size k (mid m p) (wr.setCell ⟨w.heap.size, p + 1, none⟩ (.int .i64 ((row (m + 1) (p + 1) : Nat) : Int))).drew :=
            (hr2.set hq (row (m + 1) (p + 1))).congr fun t _ => mid_step m p t
          have hbs : Kept w (wr.setCell ⟨w.heap.size, p + 1, none⟩ (.int .i64 ((row (m + 1) (p + 1) : Nat) : Int))).drew := (hb2.setCell (Nat.le_refl _) _).drew
          rw [Hv.out]
          generalize (wr.setCell ⟨w.heap.size, p + 1, none⟩ (.int .i64 ((row (m + 1) (p + 1) : Nat) : Int))).drew = wr2 at *
          clear c1 c2 f1 Hv
          go_wp2
          go_roundw
          case rel => exact ⟨p, by omega, rfl, hs, hbs⟩
          case measure => simp [intOf]
        · obtain rfl : q = 0 := by omega
          go_wp2
          exact ⟨⟨m + 1, by omega, by go_num, hr2.congr fun t _ => mid_end m t, hb2⟩, by simp [intOf]; omega⟩
    · obtain rfl : m = n := by omega
      have c1 := hr.cell (Nat.le_refl k)
      go_wp2
      go_ret
      exact ⟨rfl, hb⟩
end Go.Proofs.YtejjhikbdchjaaaGreat
