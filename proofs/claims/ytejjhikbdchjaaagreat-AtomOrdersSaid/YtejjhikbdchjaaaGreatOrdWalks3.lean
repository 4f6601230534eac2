/-
  A walk of atom.Orders.
-/
import Derived.Test.YtejjhikbdchjaaaGreatOrdWalks2
namespace Go.Proofs.YtejjhikbdchjaaaGreat
open Go.RowKit

theorem orders_neg (v : Value) (len f : Nat) (zs : List Int) (w : World) (hl : len ≤ 4611686018427387904) (hv : Ints v len zs w) (hf : f < len) (hn : zs.getD f 0 < 0) (h0 : ∀ i, i < f → 0 ≤ zs.getD i 0) :
    Calls Tryz.prog 27 #[v] w fun e w' => e = .returned (.int .i64 0) ∧ w = w' := by
  have Hv := Lib.hid hv
  have H0 := Lib.hid h0
  have Hn := Lib.hid hn
  clear hv h0 hn
  go_enter Tryz.func27, Tryz.ntmps27
  go_wp2_with (refine (has_some v len f zs _ hl Hv.out hf Hn.out H0.out).mono ?_; rintro e w' ⟨rfl, rfl⟩)
  go_ret
  exact ⟨rfl, rfl⟩

theorem choose_sum (s z : Nat) (w : World) (h : s + z ≤ 100000) :
    Calls Tryz.prog 72 #[.int .i64 ((s : Int) + (z : Int)), .int .i64 z] w fun e w' => e = .returned (.int .i64 (min (Ord.C (s + z) z) 1073741824 : Nat)) ∧ ∃ d, w' = w.drewN d := by
  have := choose_any (s + z) z w h (by omega)
  rwa [Int.natCast_add] at this
theorem over_iff (o x : Nat) (hx : 0 < x) : (1073741824 / (x : Int) < (o : Int)) ↔ 1073741824 < o * x := by
  have h : (1073741824 / (x : Int) < (o : Int)) ↔ 1073741824 / x < o := Int.ofNat_lt
  rw [h, Nat.div_lt_iff_lt_mul hx]

set_option maxHeartbeats 400000 in
theorem orders_ok (b off len cap : Nat) (zs : List Int) (w : World) (hl : len ≤ 12) (hc : ∀ i, i < len → w.cell? ⟨b, off + i, none⟩ = some (.int .i64 (zs.getD i 0))) (h0 : ∀ i, i < len → 0 ≤ zs.getD i 0 ∧ zs.getD i 0 ≤ 40) (hs : Ord.S zs len ≤ 240) :
    Calls Tryz.prog 27 #[.slice (some ⟨b, off, none⟩) len cap] w fun e w' => e = .returned (.int .i64 (min (Ord.P zs len) 1073741824 : Nat)) ∧ ∃ d, w' = w.drewN d := by
  have Hc := Lib.hid hc
  have H0 := Lib.hid h0
  clear hc h0
  go_enter Tryz.func27, Tryz.ntmps27
  go_wp2_with (refine (has_none _ len zs _ (by omega) (.inr ⟨b, off, cap, rfl, Hc.out⟩) (fun i hi => (H0.out i hi).1)).mono ?_; rintro e w' ⟨rfl, rfl⟩)
  go_loopw [3, 4, 12] (fun o n i wr => ∃ k d : Nat, k ≤ len ∧ i = .int .i64 k ∧ n = .int .i64 (Ord.S zs k : Nat) ∧ o = .int .i64 (min (Ord.P zs k) 1073741824 : Nat) ∧ wr = w.drewN d) (fun _ _ i _ => (len - (intOf i)).toNat)
  case atStart => exact ⟨0, 0, Nat.zero_le _, rfl, rfl, rfl, rfl⟩
  case round =>
    obtain ⟨k, d, hk, rfl, rfl, rfl, rfl⟩ := hrel
    by_cases hlt : k < len
    · have hcell : (w.drewN d).cell? ⟨b, off + k, none⟩ = some (.int .i64 (zs.getD k 0)) := Hc.out k hlt
      obtain ⟨z0, z1⟩ := H0.out k hlt
      have hS : Ord.S zs (k + 1) ≤ 240 := Nat.le_trans (Ord.S_mono zs hlt) hs
      obtain ⟨z, hz⟩ := Int.eq_ofNat_of_zero_le z0
      have hzn : (zs.getD k 0).toNat = z := by rw [hz]; rfl
      have hS1 : Ord.S zs (k + 1) = Ord.S zs k + z := by rw [← hzn]; rfl
      have hmore := Ord.more zs k
      have hover := Ord.over zs k len hlt
      have hno := Ord.none_more zs k
      have hp0 : 0 < min (Ord.P zs k) 1073741824 := by have := Ord.P_pos zs k; omega
      have hpM : min (Ord.P zs k) 1073741824 ≤ 1073741824 := Nat.min_le_right _ _
      rw [hz] at hcell z1
      rw [hzn] at hmore hover hno
      rw [hS1] at hmore hover hno hS
      have hx0 : 0 < min (Ord.C (Ord.S zs k + z) z) 1073741824 := by have := Ord.C_pos (Ord.S zs k + z) z (by omega); omega
      have hxM : min (Ord.C (Ord.S zs k + z) z) 1073741824 ≤ 1073741824 := Nat.min_le_right _ _
      have Hm := Lib.hid hmore
      have Ho := Lib.hid hover
      have Hn := Lib.hid hno
      have HS := Lib.hid hS1
      clear hz hzn hS1 hmore hover hno
      have Hs : Hid (Ord.S zs k = Ord.S zs k) := rfl
      generalize hse : Ord.S zs k = s at *
      generalize hpe : min (Ord.P zs k) 1073741824 = p at *
      have z2 : z ≤ 40 := Int.ofNat_le.1 z1
      have Hp := Lib.hid hpe
      clear hse hpe z1 Hs
      by_cases hz0 : z = 0
      · have hb : ((z : Int) == 0) = true := by rw [beq_iff_eq]; omega
        go_wp2
        go_roundw
        case rel =>
          obtain ⟨q1, q2⟩ := Hn.out hz0
          exact ⟨k + 1, d, by omega, by go_num, by rw [HS.out, q1], by rw [q2, Hp.out], rfl⟩
        case measure => simp [intOf]; omega
      · have hb : ((z : Int) == 0) = false := nz z (by omega)
        go_wp2_with (refine (choose_sum s z _ (by omega)).mono ?_; rintro e w1 ⟨rfl, d1, rfl⟩)
        · rename_i hlt2
          have h4 := Ho.out ((over_iff _ _ hx0).1 hlt2)
          go_ret
          refine ⟨?_, d + d1, rfl⟩
          rw [h4]
          rfl
        · rename_i hle
          have h4 : p * min (Ord.C (s + z) z) 1073741824 ≤ 1073741824 := by
            rcases Nat.lt_or_ge 1073741824 (p * min (Ord.C (s + z) z) 1073741824) with h | h
            · exact absurd ((over_iff _ _ hx0).2 h) (Int.not_lt.2 hle)
            · exact h
          have h5 := Hm.out h4
          have h6 : wrap64 ((p : Int) * ((min (Ord.C (s + z) z) 1073741824 : Nat) : Int)) = ((min (Ord.P zs (k + 1)) 1073741824 : Nat) : Int) := by
            rw [← Int.natCast_mul, h5]
            exact wrap_nat _ (by omega)
          refine ⟨⟨k + 1, d + d1, by omega, by go_num, ?_, by rw [h6], rfl⟩, by simp [intOf]; omega⟩
          rw [HS.out]; go_num
    · obtain rfl : k = len := by omega
      go_wp2
      go_ret
      exact ⟨rfl, d, rfl⟩
end Go.Proofs.YtejjhikbdchjaaaGreat
