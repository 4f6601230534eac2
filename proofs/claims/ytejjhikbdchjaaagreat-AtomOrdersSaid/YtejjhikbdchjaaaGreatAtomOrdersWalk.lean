/-
  'AtomOrders': the call answers true and leaves all as it was, at any row of numbers.
-/
import Derived.Test.YtejjhikbdchjaaaGreatOrdWalks4
import Derived.Test.YtejjhikbdchjaaaGreatAwake
import Derived.Deep.RegionWith
import Derived.Deep.RegionHeld3
import Derived.ChangeSlices
namespace Go.Proofs.YtejjhikbdchjaaaGreat.atomOrders
open Go.RowKit Go.Am Go.ChangeShapes

theorem awake_calls (w : World) : Calls Tryz.prog 26 #[] w fun e w' => e = .returned (.bool true) ∧ Kept w w' := by
  have h := awake26
  cases hc : callV env 100 26 [] .lf 0 with
  | fail => rw [hc] at h; cases h
  | ret v bare H' n' =>
    rw [hc] at h
    have hv : v = .bool true := by
      cases v <;> first | (cases h; done) | skip
      rename_i b
      cases b <;> first | rfl | (cases bare <;> cases h)
    subst hv
    exact (closed_call hc w).mono fun e w' ⟨h1, h2, h3, h4, h5, h6, h7⟩ => ⟨h1, ⟨h2, h3, h4, h5, h6⟩, h7⟩

theorem Ints.kept {v : Value} {len : Nat} {zs : List Int} {w w' : World} (h : Ints v len zs w) (hk : Kept w w') (hlt : ∀ b off cap, v = .slice (some ⟨b, off, none⟩) len cap → 0 < len → b < w.heap.size) : Ints v len zs w' := by
  rcases h with h | ⟨b, off, cap, rfl, hc⟩
  · exact .inl h
  · refine .inr ⟨b, off, cap, rfl, fun i hi => ?_⟩
    rw [hk.below.cell (hlt b off cap rfl (by omega))]
    exact hc i hi

set_option maxRecDepth 100000 in
theorem long (b off len cap : Nat) (w : World) (hl : 12 < len) (hm : len ≤ 9223372036854775807) :
    Calls Tryz.prog 5 #[.slice (some ⟨b, off, none⟩) len cap] w fun e w' => e = .returned (.bool true) ∧ Kept w w' := by
  have h12 : ((len : Int) > 12) := by omega
  go_enter Tryz.func5, Tryz.ntmps5
  go_wp2_with ((with_reducible refine (awake_calls _).mono ?_); rintro e w1 ⟨rfl, hk⟩)
  go_ret
  exact ⟨rfl, hk⟩

set_option maxRecDepth 100000 in
theorem neg (b off len cap f : Nat) (zs : List Int) (w : World) (hl : len ≤ 12) (hb : b < w.heap.size) (hc : ∀ i, i < len → w.cell? ⟨b, off + i, none⟩ = some (.int .i64 (zs.getD i 0))) (hf : f < len) (hn : zs.getD f 0 < 0) (h0 : ∀ i, i < f → 0 ≤ zs.getD i 0) :
    Calls Tryz.prog 5 #[.slice (some ⟨b, off, none⟩) len cap] w fun e w' => e = .returned (.bool true) ∧ Kept w w' := by
  have Hc := Lib.hid hc
  have H0 := Lib.hid h0
  have Hn := Lib.hid hn
  clear hc h0 hn
  go_enter Tryz.func5, Tryz.ntmps5
  go_wp2_with ((with_reducible refine (awake_calls _).mono ?_); rintro e w1 ⟨rfl, hk⟩)
  have hc1 : Hid (∀ i, i < len → w1.cell? ⟨b, off + i, none⟩ = some (.int .i64 (zs.getD i 0))) := fun i hi => by rw [hk.below.cell hb]; exact Hc.out i hi
  go_loop [5] (fun i => ∃ k : Nat, k ≤ f ∧ i = .int .i64 k) (fun i => len - (intOf i).toNat)
  case atStart => exact ⟨0, Nat.zero_le _, rfl⟩
  case round =>
    obtain ⟨k, hkf, rfl⟩ := hrel
    have hlt : k < len := by omega
    have hcell := hc1.out k hlt
    by_cases hkf2 : k < f
    · have h0 := H0.out k hkf2
      generalize zs.getD k 0 = z at hcell h0
      go_wp2
      go_round
      case rel => exact ⟨k + 1, by omega, by go_num⟩
      case measure => simp [intOf]; omega
    · obtain rfl : k = f := by omega
      have hn := Hn.out
      generalize hz : zs.getD k 0 = z at hcell hn
      clear hz
      go_wp2_with fail
      refine (orders_neg _ len k zs _ (by omega) (.inr ⟨b, off, cap, rfl, hc1.out⟩) hf Hn.out H0.out).mono ?_
      rintro e w2 ⟨rfl, rfl⟩
      go_wp2
      go_ret
      exact ⟨rfl, hk⟩

theorem pascal_sum (s z : Nat) (w : World) (hs : s ≤ 240) (hz : z ≤ 40) :
    Calls Tryz.prog 28 #[.int .i64 ((s : Int) + (z : Int)), .int .i64 z] w fun e w' => e = .returned (.int .i64 (min (Ord.C (s + z) z) 2147483648 : Nat)) ∧ Kept w w' := by
  have := pascal (s + z) z w (by omega) (by omega)
  rwa [Int.natCast_add] at this

theorem one_more (zs : List Int) (m s z p : Nat) (hp : min (Ord.P zs m) 1073741824 = p) (hP : Ord.P zs (m + 1) = Ord.P zs m * Ord.C (s + z) z) :
    (if 1073741824 < IntKind.i64.wrap ((p : Int) * ((min (Ord.C (s + z) z) 2147483648 : Nat) : Int)) then 1073741824 else IntKind.i64.wrap ((p : Int) * ((min (Ord.C (s + z) z) 2147483648 : Nat) : Int))) = ((min (Ord.P zs (m + 1)) 1073741824 : Nat) : Int) := by
  have h := Ord.min_mul (Ord.P zs m) (Ord.C (s + z) z) 1073741824 2147483648 (Ord.P_pos zs m) (Ord.C_pos _ _ (by omega)) (by omega) (by omega)
  rw [hp] at h
  rw [hP, ← h]
  have hpb : p ≤ 1073741824 := by rw [← hp]; exact Nat.min_le_right _ _
  have hxb : min (Ord.C (s + z) z) 2147483648 ≤ 2147483648 := Nat.min_le_right _ _
  generalize min (Ord.C (s + z) z) 2147483648 = x at *
  have hb : p * x ≤ 1073741824 * 2147483648 := Nat.mul_le_mul hpb hxb
  have e : IntKind.i64.wrap ((p : Int) * (x : Int)) = ((p * x : Nat) : Int) := by
    rw [← Int.natCast_mul]; exact IntWalk.i64_in _ (by omega)
  rw [e]
  split <;> omega
theorem pascal_at (s z : Nat) (wr w : World) (a : Addr) (v : Value) (e : w.heap = wr.heap) (e1 : w.os = wr.os) (e2 : w.tape = wr.tape) (e3 : w.output = wr.output) (hs : s ≤ 240) (hz : z ≤ 40) (ha : a.block < wr.heap.size) (hc : wr.cell? a = some v) :
    Calls Tryz.prog 28 #[.int .i64 ((s : Int) + (z : Int)), .int .i64 z] w fun e w' => e = .returned (.int .i64 (min (Ord.C (s + z) z) 2147483648 : Nat)) ∧ Hid (Kept wr w') ∧ w'.cell? a = some v := by
  refine (pascal_sum s z w hs hz).mono fun r w' ⟨h1, h2⟩ => ⟨h1, ?_, ?_⟩
  · refine ⟨⟨h2.below.os.trans e1, h2.below.tape.trans e2, h2.below.output.trans e3, by rw [← e]; exact h2.below.size, fun k hk => by rw [← e]; exact h2.below.block k (by rw [e]; exact hk)⟩, fun k hk => h2.thaw k (by rw [e]; exact hk)⟩
  · rw [h2.below.cell (by rw [e]; exact ha), World.cell?_of_block (w := wr) (by rw [e])]
    exact hc

set_option maxRecDepth 100000 in
set_option maxHeartbeats 300000 in
theorem good (b off len cap : Nat) (zs : List Int) (w : World) (hl : len ≤ 12) (hb : b < w.heap.size) (hc : ∀ i, i < len → w.cell? ⟨b, off + i, none⟩ = some (.int .i64 (zs.getD i 0))) (h0 : ∀ i, i < len → 0 ≤ zs.getD i 0 ∧ zs.getD i 0 ≤ 9223372036854775807) :
    Calls Tryz.prog 5 #[.slice (some ⟨b, off, none⟩) len cap] w fun e w' => e = .returned (.bool true) ∧ Kept w w' := by
  have Hc := Lib.hid hc
  have H0 := Lib.hid h0
  clear hc h0
  go_enter Tryz.func5, Tryz.ntmps5
  go_wp2_with ((with_reducible refine (awake_calls _).mono ?_); rintro e w1 ⟨rfl, hk⟩)
  have hc1 : Hid (∀ i, i < len → w1.cell? ⟨b, off + i, none⟩ = some (.int .i64 (zs.getD i 0))) := fun i hi => by rw [hk.below.cell hb]; exact Hc.out i hi
  go_loop [5] (fun i => ∃ k : Nat, k ≤ len ∧ i = .int .i64 k) (fun i => len - (intOf i).toNat)
  case atStart => exact ⟨0, Nat.zero_le _, rfl⟩
  case round =>
    obtain ⟨k, hkl, rfl⟩ := hrel
    by_cases hlt : k < len
    · have hcell := hc1.out k hlt
      have h0 := (H0.out k hlt).1
      have h0' : ¬ zs.getD k 0 < 0 := by omega
      generalize zs.getD k 0 = z at hcell h0 h0'
      go_wp2
      go_round
      case rel => exact ⟨k + 1, by omega, by go_num⟩
      case measure => simp [intOf]; omega
    · obtain rfl : k = len := by omega
      clear hlt hkl
      go_wp2
      go_loopw [3, 4, 6] (fun o n i wr => ∃ m : Nat, m ≤ k ∧ i = .int .i64 m ∧ n = .int .i64 (Ord.S zs m : Nat) ∧ o = .int .i64 (min (Ord.P zs m) 1073741824 : Nat) ∧ Hid (∀ t, t < m → zs.getD t 0 ≤ 40) ∧ Ord.S zs m ≤ 240 ∧ Kept w wr) (fun _ _ i _ => (k - (intOf i)).toNat)
      case atStart => exact ⟨0, Nat.zero_le _, rfl, rfl, rfl, fun t ht => (by omega), (by show 0 ≤ 240; omega), hk⟩
      case round =>
        obtain ⟨m, hm, rfl, rfl, rfl, h40, hS, hkr⟩ := hrel
        by_cases hlt : m < k
        · have hcell : wr.cell? ⟨b, off + m, none⟩ = some (.int .i64 (zs.getD m 0)) := by rw [hkr.below.cell hb]; exact Hc.out m hlt
          obtain ⟨z0, z1⟩ := H0.out m hlt
          obtain ⟨z, hz⟩ := Int.eq_ofNat_of_zero_le z0
          have hzn : (zs.getD m 0).toNat = z := by rw [hz]; rfl
          have hS1 : Hid (Ord.S zs (m + 1) = Ord.S zs m + z) := by show _ = _; rw [← hzn]; rfl
          have hP1 : Hid (Ord.P zs (m + 1) = Ord.P zs m * Ord.C (Ord.S zs m + z) z) := by show _ = _; rw [← hS1.out, ← hzn]; rfl
          have hPp := Lib.hid (Ord.P_pos zs m)
          have hzz : Hid (zs.getD m 0 = (z : Int)) := hz
          rw [hz] at hcell z1
          have z2 : z ≤ 9223372036854775807 := Int.ofNat_le.1 z1
          clear hz hzn z1 z0
          generalize hse : Ord.S zs m = s at *
          generalize hpe : min (Ord.P zs m) 1073741824 = p at *
          have hsb : s ≤ 240 := hS
          have hse := Lib.hid hse
          have hpb : p ≤ 1073741824 := by rw [← hpe]; exact Nat.min_le_right _ _
          have hpe2 := Lib.hid hpe
          clear hpe
          by_cases hz40 : 40 < z
          · have hi : (40 : Int) < (z : Int) := by omega
            go_wp2
            go_ret
            exact ⟨rfl, hkr⟩
          · by_cases hs200 : 200 < s
            · have hi : ¬ (40 : Int) < (z : Int) := by omega
              have hj : (200 : Int) < (s : Int) := by omega
              go_wp2
              go_ret
              exact ⟨rfl, hkr⟩
            · have hi : ¬ (40 : Int) < (z : Int) := by omega
              have hj : ¬ (200 : Int) < (s : Int) := by omega
              have hz40' : z ≤ 40 := by omega
              have hbr : b < wr.heap.size := Nat.lt_of_lt_of_le hb hkr.below.size
              go_wp2
              have ew : IntKind.i64.wrap ((s : Int) + (z : Int)) = (s : Int) + (z : Int) := IntWalk.i64_in _ (by omega)
              go_region_with (go_at_call 28; refine (pascal_at s z wr _ ⟨b, off + m, none⟩ (.int .i64 z) (by exact rfl) (by exact rfl) (by exact rfl) (by exact rfl) hsb hz40' hbr hcell).mono ?_; rintro e w2 ⟨rfl, hk2, hcell2⟩)
              all_goals
                have hval := one_more zs m s z p hpe2.out hP1.out
                rw [hval]
                clear hval ew
                go_wp2
                go_roundw
                case rel =>
                  refine ⟨m + 1, by omega, by go_num, ?_, rfl, ?_, ?_, hkr.trans hk2.out⟩
                  · rw [hS1.out]; go_num
                  · intro t ht
                    by_cases e : t = m
                    · subst e; rw [hzz.out]; omega
                    · exact h40.out t (by omega)
                  · rw [hS1.out]; omega
                case measure => simp [intOf]; omega
        · obtain rfl : m = k := by omega
          have hcr : Hid (∀ i, i < m → wr.cell? ⟨b, off + i, none⟩ = some (.int .i64 (zs.getD i 0))) := fun i hi => by rw [hkr.below.cell hb]; exact Hc.out i hi
          go_wp2_with fail
          refine (orders_ok b off m cap zs _ hl hcr.out (fun i hi => ⟨(H0.out i hi).1, h40.out i hi⟩) hS).mono ?_
          rintro e w2 ⟨rfl, d, rfl⟩
          go_wp2
          go_ret
          exact ⟨rfl, hkr.drewN d⟩

set_option maxRecDepth 100000 in
theorem seenNil : isTrue (callX env (trueOv [14, 26, 34, 41]) 100 5 [.nils] .lf 0) = true := by kernel_rfl
theorem none_at_all (w : World) : Calls Tryz.prog 5 #[.slice none 0 0] w fun e w' => e = .returned (.bool true) ∧ Kept w w' := by
  let _ : Vals := noVals
  have hs := seenNil
  cases hc : callX env (trueOv [14, 26, 34, 41]) 100 5 [.nils] .lf 0 with
  | fail => rw [hc] at hs; cases hs
  | ret v bare H' n' =>
    rw [hc] at hs
    cases v <;> first | (cases hs; done) | skip
    rename_i c
    cases c with
    | false => cases hs
    | true =>
      obtain ⟨_, _, hcall⟩ := amOkX noSym_ok noCnv_ok (over_true awakes) 100 5 _ _ _ _ _ _ _ hc
      refine Calls.mono (hcall (fun _ => none) w _ (rel_nil w) (.cons _ _ _ _ .nils .nil) (fun _ _ _ => rfl)).1 ?_
      rintro e w' ⟨cv, β', rfl, hv, hp⟩
      cases hv
      exact ⟨rfl, kept_of_post hp own_lf⟩

theorem first_neg (zs : List Int) : ∀ n, (∃ f, f < n ∧ zs.getD f 0 < 0 ∧ ∀ i, i < f → 0 ≤ zs.getD i 0) ∨ ∀ i, i < n → 0 ≤ zs.getD i 0
  | 0 => .inr fun i hi => by omega
  | n + 1 => by
    rcases first_neg zs n with ⟨f, h1, h2, h3⟩ | h
    · exact .inl ⟨f, by omega, h2, h3⟩
    · by_cases hn : zs.getD n 0 < 0
      · exact .inl ⟨n, by omega, hn, h⟩
      · refine .inr fun i hi => ?_
        by_cases e : i = n
        · subst e; omega
        · exact h i (by omega)
theorem one_cell {v u : Value} (h : v.cells.toList = [u]) (hn : ∀ l, v ≠ .agg l) : v = u := by
  cases v <;> first | exact absurd rfl (hn _) | (simp [Value.cells] at h; exact h)

section
variable {H : Type} {enc : TypeId × Value → H}
set_option maxRecDepth 100000 in
theorem walk (W : World) {base : Nat} {v1 : Value} {d1 : DataW H} {p1 : List MemPlace} (h1 : DataW.Trod enc Tryz.prog W 0 (fun _ => true) true 24 v1 d1 p1)
    (o1 : Value.okWide Tryz.prog W .any base 24 v1) :
    Calls Tryz.prog 5 #[v1] W fun e W' => e = .returned (.bool true) ∧ Kept W W' := by
  obtain ⟨fuel, hf⟩ := h1
  have hc1 : Tryz.prog.cellsOf 3 = 1 := by kernel_rfl
  unfold Value.okWide Cell.okWide at o1
  rw [Tryz.underlying24] at o1
  rcases open_ints Tryz.underlying24 Tryz.underlying3 hc1 hf with ⟨hv, _⟩ | ⟨a, len, cap, zs, hv, _, hle, hcap, hzs, _, hcell, hwf⟩
  · obtain rfl : v1 = .slice none 0 0 := one_cell hv (by rintro l rfl; exact o1)
    exact none_at_all W
  · obtain rfl : v1 = .slice (some a) len cap := one_cell hv (by rintro l rfl; exact o1)
    simp only [if_true] at hzs
    have hsp : a.spot = none ∧ a.block < W.heap.size := by
      simp only [Cell.ok, Tryz.underlying24] at o1
      obtain ⟨_, _, _, hs, row, cells, hsh, _⟩ := o1
      refine ⟨hs, ?_⟩
      unfold World.shape? at hsh
      rcases Nat.lt_or_ge a.block W.heap.size with h | h
      · exact h
      · rw [Array.getElem?_eq_none h] at hsh; cases hsh
    obtain ⟨blk, off, spot⟩ := a
    obtain ⟨hs, hb⟩ := hsp
    simp only at hs hb
    subst hs
    have hc : ∀ i, i < len → W.cell? ⟨blk, off + i, none⟩ = some (.int .i64 (zs.getD i 0)) := fun i hi => by
      have := hcell i (by omega)
      rwa [Addr.add_lit] at this
    by_cases h12 : 12 < len
    · exact long blk off len cap W h12 (by unfold maxLen at hcap; omega)
    · rcases first_neg zs len with ⟨f, q1, q2, q3⟩ | h
      · exact neg blk off len cap f zs W (by omega) hb hc q1 q2 q3
      · exact good blk off len cap zs W (by omega) hb hc fun i hi => ⟨h i hi, by have := (range_i64 hwf i).2; rwa [← List.getD_eq_getElem?_getD] at this⟩
end
theorem typesIn : ∀ t ∈ Tryz.f5.params.toList, t < Tryz.prog.types.size := by
  rw [Tryz.params5]
  intro t ht
  have : t = 24 := by simpa using ht
  subst this
  exact of_decide_eq_true (by kernel_rfl)
def wit : Input := ⟨#[], #[.slice none 0 0], []⟩
end Go.Proofs.YtejjhikbdchjaaaGreat.atomOrders
