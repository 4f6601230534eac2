/-
  Walks of atom.gcd, atom.choose.
-/
import Derived.Test.YtejjhikbdchjaaaGreatChecked
import Derived.WalkKit
import Derived.WalkArith
import Derived.RegionTactic
import Derived.BigQuiet
import Derived.Deep.QuietTactic
import Derived.Outline
import Derived.ChangeAlike
import Derived.LoopTactic
import Derived.Lib.Hide
import Derived.IntWalk
import Derived.Deep.DeepCutAuto
import Derived.Test.YtejjhikbdchjaaaGreatOrdMath
namespace Go.Proofs.YtejjhikbdchjaaaGreat
open Go.RowKit
theorem drewN_drewN (w : World) (n m : Nat) : (w.drewN n).drewN m = w.drewN (n + m) := by
  show ({ w with drawn := w.drawn + n + m } : World) = { w with drawn := w.drawn + (n + m) }
  rw [Nat.add_assoc]
theorem emod_cast (x y : Nat) : ((x : Int) % (y : Int)) = ((x % y : Nat) : Int) := rfl
set_option maxHeartbeats 400000 in
theorem gcd_any (a b : Nat) (w : World) (ha : a ≤ 4611686018427387904) (hb : b ≤ 4611686018427387904) :
    Calls Tryz.prog 110 #[.int .i64 a, .int .i64 b] w fun e w' => e = .returned (.int .i64 (Nat.gcd a b : Nat)) ∧ ∃ n, w' = w.drewN n := by
  go_enter Tryz.func110, Tryz.ntmps110
  go_wp2
  go_loopw [0, 1] (fun s t wr => ∃ x y n : Nat, s = .int .i64 x ∧ t = .int .i64 y ∧ x ≤ 4611686018427387904 ∧ y ≤ 4611686018427387904 ∧ Hid (Nat.gcd x y = Nat.gcd a b) ∧ wr = w.drewN n) (fun _ t _ => (intOf t).toNat)
  case atStart => exact ⟨a, b, 0, rfl, rfl, ha, hb, rfl, rfl⟩
  case round =>
    obtain ⟨x, y, n, rfl, rfl, hx, hy, hg, rfl⟩ := hrel
    by_cases h : y = 0
    · subst h
      go_wp2
      go_ret
      refine ⟨?_, n, rfl⟩
      have := hg.out
      rw [Nat.gcd_zero_right] at this
      show Ending.returned (Value.int .i64 (x : Int)) = _
      rw [this]
    · have h1 : ((y : Int) != 0) = true := by simpa using h
      have h2 : ((y : Int) == 0) = false := by simpa using h
      have h3 : 0 < y := Nat.pos_of_ne_zero h
      go_wp2
      go_quiet (fail)
      go_roundw
      case rel =>
        have hm : x % y ≤ 4611686018427387904 := Nat.le_trans (Nat.le_of_lt (Nat.mod_lt _ h3)) hy
        exact ⟨_, _, _, _, _, _, _, _, ⟨y, x % y, n + nq, rfl, rfl, hy, hm, by have := hg.out; rw [Nat.gcd_comm, Nat.gcd_rec, Nat.gcd_comm] at this; exact this, drewN_drewN _ _ _⟩, rfl⟩
      case measure => 
        show ((x : Int) % (y : Int)).toNat < ((y : Int)).toNat
        rw [emod_cast]
        exact Nat.mod_lt _ h3

theorem wrap_nat (n : Nat) (h : n ≤ 4611686018427387904) : wrap64 (n : Int) = n := by unfold wrap64; omega
theorem nz (n : Nat) (h : 0 < n) : ((n : Int) == 0) = false := by rw [beq_eq_false_iff_ne]; omega
theorem step_facts (m j p : Nat) (hj : 1 ≤ j) (hm : m + j ≤ 100000) (hp3 : 0 < p) (hp2 : p ≤ 1073741824) (hp : p = Ord.C (m + (j - 1)) (j - 1)) :
    ∃ jg x y q : Nat, (((Nat.gcd p j : Nat) : Int) == 0) = false ∧ 0 < jg ∧ jg ≤ 100000 ∧ 0 < y ∧ y ≤ 100000 ∧ x ≤ 1073741824 ∧ q ≤ 1073741824 ∧ ((jg : Int) == 0) = false ∧ ((y : Int) == 0) = false ∧ Hid (x * y = Ord.C (m + j) j) ∧ Hid (1073741824 / y < x ↔ 1073741824 < x * y) ∧
      wrap64 ((j : Int) / ((Nat.gcd p j : Nat) : Int)) = jg ∧ ((m : Int) + (j : Int)) / (jg : Int) = y ∧ Hid (wrap64 (1073741824 / (y : Int)) = q) ∧ wrap64 ((p : Int) / ((Nat.gcd p j : Nat) : Int)) = x ∧ Hid (wrap64 ((x : Int) * (y : Int)) = ((x * y : Nat) : Int)) := by
  have g0 : 0 < Nat.gcd p j := Nat.gcd_pos_of_pos_left _ hp3
  have hx := Ord.next_of m j (by omega)
  have hy := Ord.next_pos m j (by omega)
  simp only at hx
  rw [← hp] at hx hy
  have hjl : j / Nat.gcd p j ≤ j := Nat.div_le_self _ _
  have hyl : (m + j) / (j / Nat.gcd p j) ≤ m + j := Nat.div_le_self _ _
  have hxl : p / Nat.gcd p j ≤ p := Nat.div_le_self _ _
  have hql : 1073741824 / ((m + j) / (j / Nat.gcd p j)) ≤ 1073741824 := Nat.div_le_self _ _
  have hxy : p / Nat.gcd p j * ((m + j) / (j / Nat.gcd p j)) ≤ 1073741824 * 100000 := Nat.mul_le_mul (by omega) (by omega)
  refine ⟨j / Nat.gcd p j, p / Nat.gcd p j, (m + j) / (j / Nat.gcd p j), 1073741824 / ((m + j) / (j / Nat.gcd p j)), nz _ g0, Nat.div_pos (Nat.le_of_dvd (by omega) (Nat.gcd_dvd_right _ _)) g0, by omega, hy, by omega, by omega, hql, nz _ (Nat.div_pos (Nat.le_of_dvd (by omega) (Nat.gcd_dvd_right _ _)) g0), nz _ hy, hx, ?_, ?_, ?_, ?_, ?_, ?_⟩
  · show _ ↔ _; rw [Nat.div_lt_iff_lt_mul hy]
  · exact wrap_nat _ (by omega)
  · rfl
  · exact wrap_nat (1073741824 / ((m + j) / (j / Nat.gcd p j))) (by omega)
  · exact wrap_nat _ (by omega)
  · show wrap64 _ = _; rw [← Int.natCast_mul]; exact wrap_nat _ (by omega)
set_option maxHeartbeats 150000 in
theorem choose_low (n k : Nat) (w : World) (hn : n ≤ 100000) (hk : 2 * k ≤ n) :
    Calls Tryz.prog 72 #[.int .i64 n, .int .i64 k] w fun e w' => e = .returned (.int .i64 (min (Ord.C n k) 1073741824 : Nat)) ∧ ∃ d, w' = w.drewN d := by
  go_enter Tryz.func72, Tryz.ntmps72
  go_wp2
  go_loopw [5, 6] (fun o i wr => ∃ p j d : Nat, o = .int .i64 p ∧ i = .int .i64 j ∧ 1 ≤ j ∧ j ≤ k + 1 ∧ Hid (p = Ord.C (n - k + (j - 1)) (j - 1)) ∧ p ≤ 1073741824 ∧ 0 < p ∧ wr = w.drewN d) (fun _ i _ => (k + 1 - (intOf i)).toNat)
  case atStart => exact ⟨1, 1, 0, rfl, rfl, by omega, by omega, by rw [Nat.sub_self, Ord.C_zero]; rfl, by omega, by omega, rfl⟩
  case round =>
    obtain ⟨p, j, d, rfl, rfl, h1, h2, hp, hp2, hp3, rfl⟩ := hrel
    by_cases h : j ≤ k
    · go_wp2_with fail
      refine (gcd_any p j _ (by omega) (by omega)).mono ?_
      rintro e w1 ⟨rfl, d1, rfl⟩
      obtain ⟨jg, x, y, q, a0, a1, a2, a3, a4, a5, a6, f1, f2, hx, hq, e1, e2, e3, e4, e5⟩ := step_facts (n - k) j p (by omega) (by omega) hp3 hp2 hp.out
      rw [Int.ofNat_sub (by omega)] at e2
      generalize Nat.gcd p j = g at *
      go_wp2
      · rename_i hg0
        subst hg0
        cases a0
      · rename_i hlt
        go_ret
        refine ⟨?_, d + d1, rfl⟩
        have h3 : 1073741824 / y < x := Int.ofNat_lt.1 hlt
        have h4 := hq.out.1 h3
        rw [hx.out] at h4
        have h5 := Ord.C_diag_le (n - k) (k - j) j
        rw [show j + (k - j) = k by omega, show n - k + k = n by omega] at h5
        rw [Nat.min_eq_right (by omega)]
        rfl
      · rename_i hle
        have h3 : ¬ 1073741824 / y < x := fun h => Int.not_lt.2 hle (Int.ofNat_lt.2 h)
        have h4 : ¬ 1073741824 < x * y := fun h => h3 (hq.out.2 h)
        have h5 := hx.out
        have h6 := Ord.C_pos (n - k + j) j (by omega)
        go_roundw
        case rel =>
          refine ⟨x * y, j + 1, d + d1, by rw [e5.out], by go_num, by omega, by omega, ?_, by omega, by omega, rfl⟩
          show _ = _
          rw [h5, Nat.add_sub_cancel]
        case measure => simp [intOf]; omega
    · go_wp2
      go_ret
      refine ⟨?_, d, rfl⟩
      have e : p = Ord.C n k := by
        have := hp.out
        rw [show j - 1 = k by omega, show n - k + k = n by omega] at this
        exact this
      show Ending.returned (Value.int .i64 (p : Int)) = _
      rw [e] at hp2 ⊢
      rw [Nat.min_eq_left hp2]
set_option maxHeartbeats 150000 in
theorem choose_high (K k : Nat) (w : World) (hn : K + k ≤ 100000) (hk : k < K) :
    Calls Tryz.prog 72 #[.int .i64 ((K : Int) + (k : Int)), .int .i64 K] w fun e w' => e = .returned (.int .i64 (min (Ord.C (K + k) k) 1073741824 : Nat)) ∧ ∃ d, w' = w.drewN d := by
  have E1 : (K : Int) + (k : Int) - (K : Int) = (k : Int) := by omega
  have E2 : (K : Int) + (k : Int) - (k : Int) = (K : Int) := by omega
  go_enter Tryz.func72, Tryz.ntmps72
  go_wp2
  go_loopw [5, 6] (fun o i wr => ∃ p j d : Nat, o = .int .i64 p ∧ i = .int .i64 j ∧ 1 ≤ j ∧ j ≤ k + 1 ∧ Hid (p = Ord.C (K + (j - 1)) (j - 1)) ∧ p ≤ 1073741824 ∧ 0 < p ∧ wr = w.drewN d) (fun _ i _ => (k + 1 - (intOf i)).toNat)
  case atStart => exact ⟨1, 1, 0, rfl, rfl, by omega, by omega, by rw [Nat.sub_self, Ord.C_zero]; rfl, by omega, by omega, rfl⟩
  case round =>
    obtain ⟨p, j, d, rfl, rfl, h1, h2, hp, hp2, hp3, rfl⟩ := hrel
    by_cases h : j ≤ k
    · go_wp2_with fail
      refine (gcd_any p j _ (by omega) (by omega)).mono ?_
      rintro e w1 ⟨rfl, d1, rfl⟩
      obtain ⟨jg, x, y, q, a0, a1, a2, a3, a4, a5, a6, f1, f2, hx, hq, e1, e2, e3, e4, e5⟩ := step_facts K j p (by omega) (by omega) hp3 hp2 hp.out
      generalize Nat.gcd p j = g at *
      go_wp2
      · rename_i hg0
        subst hg0
        cases a0
      · rename_i hlt
        go_ret
        refine ⟨?_, d + d1, rfl⟩
        have h3 : 1073741824 / y < x := Int.ofNat_lt.1 hlt
        have h4 := hq.out.1 h3
        rw [hx.out] at h4
        have h5 := Ord.C_diag_le K (k - j) j
        rw [show j + (k - j) = k by omega] at h5
        rw [Nat.min_eq_right (by omega)]
        rfl
      · rename_i hle
        have h3 : ¬ 1073741824 / y < x := fun h => Int.not_lt.2 hle (Int.ofNat_lt.2 h)
        have h4 : ¬ 1073741824 < x * y := fun h => h3 (hq.out.2 h)
        have h5 := hx.out
        have h6 := Ord.C_pos (K + j) j (by omega)
        go_roundw
        case rel =>
          refine ⟨x * y, j + 1, d + d1, by rw [e5.out], by go_num, by omega, by omega, ?_, by omega, by omega, rfl⟩
          show _ = _
          rw [h5, Nat.add_sub_cancel]
        case measure => simp [intOf]; omega
    · go_wp2
      go_ret
      refine ⟨?_, d, rfl⟩
      have e : p = Ord.C (K + k) k := by
        have := hp.out
        rw [show j - 1 = k by omega] at this
        exact this
      show Ending.returned (Value.int .i64 (p : Int)) = _
      rw [e] at hp2 ⊢
      rw [Nat.min_eq_left hp2]

theorem choose_any (n k : Nat) (w : World) (hn : n ≤ 100000) (hk : k ≤ n) :
    Calls Tryz.prog 72 #[.int .i64 n, .int .i64 k] w fun e w' => e = .returned (.int .i64 (min (Ord.C n k) 1073741824 : Nat)) ∧ ∃ d, w' = w.drewN d := by
  by_cases h : 2 * k ≤ n
  · exact choose_low n k w hn h
  · have := choose_high k (n - k) w (by omega) (by omega)
    rw [show k + (n - k) = n by omega, Ord.C_sub n k hk, show (k : Int) + ((n - k : Nat) : Int) = (n : Int) by omega] at this
    exact this
end Go.Proofs.YtejjhikbdchjaaaGreat
