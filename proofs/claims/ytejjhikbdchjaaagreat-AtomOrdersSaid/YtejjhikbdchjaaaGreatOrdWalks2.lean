/-
  Walks of slices.ContainsFunc at 'is it below nought', of atom.Orders.
-/
import Derived.Test.YtejjhikbdchjaaaGreatOrdWalks
import Derived.Deep.RegionWith
namespace Go.Proofs.YtejjhikbdchjaaaGreat
open Go.RowKit

theorem neg_yes (x : Int) (w : World) (h : x < 0) : Calls Tryz.prog 71 #[.int .i64 x] w fun e w' => e = .returned (.bool true) ∧ w = w' := by
  go_enter Tryz.func71, Tryz.ntmps71
  go_wp2
  go_ret
  exact ⟨rfl, rfl⟩
theorem neg_no (x : Int) (w : World) (h : 0 ≤ x) : Calls Tryz.prog 71 #[.int .i64 x] w fun e w' => e = .returned (.bool false) ∧ w = w' := by
  have h' : ¬ x < 0 := by omega
  go_enter Tryz.func71, Tryz.ntmps71
  go_wp2
  go_ret
  exact ⟨rfl, rfl⟩

set_option maxHeartbeats 400000 in
theorem idx_none (b off len cap : Nat) (zs : List Int) (w : World) (hl : len ≤ 4611686018427387904) (hc : ∀ i, i < len → w.cell? ⟨b, off + i, none⟩ = some (.int .i64 (zs.getD i 0))) (h0 : ∀ i, i < len → 0 ≤ zs.getD i 0) :
    Calls Tryz.prog 109 #[.slice (some ⟨b, off, none⟩) len cap, .func (.func 71) #[] #[]] w fun e w' => e = .returned (.int .i64 (-1)) ∧ w = w' := by
  have Hc := Lib.hid hc
  have H0 := Lib.hid h0
  clear hc h0
  go_enter Tryz.func109, Tryz.ntmps109
  go_wp2
  go_loop [8] (fun i => ∃ k : Nat, k ≤ len ∧ i = .int .i64 k) (fun i => len - (intOf i).toNat)
  case atStart => exact ⟨0, Nat.zero_le _, rfl⟩
  case round =>
    obtain ⟨k, hk, rfl⟩ := hrel
    by_cases hlt : k < len
    · have hcell := Hc.out k hlt
      have h0 := H0.out k hlt
      generalize zs.getD k 0 = z at hcell h0
      go_wp2_with (first | (refine (neg_no _ _ (by assumption)).mono ?_; rintro e w' ⟨rfl, rfl⟩))
      go_round
      case rel => exact ⟨k + 1, by omega, by go_num⟩
      case measure => simp [intOf]; omega
    · go_wp2
      go_ret
      exact ⟨rfl, rfl⟩

set_option maxHeartbeats 400000 in
theorem idx_some (b off len cap f : Nat) (zs : List Int) (w : World) (hl : len ≤ 4611686018427387904) (hc : ∀ i, i < len → w.cell? ⟨b, off + i, none⟩ = some (.int .i64 (zs.getD i 0))) (hf : f < len) (hn : zs.getD f 0 < 0) (h0 : ∀ i, i < f → 0 ≤ zs.getD i 0) :
    Calls Tryz.prog 109 #[.slice (some ⟨b, off, none⟩) len cap, .func (.func 71) #[] #[]] w fun e w' => e = .returned (.int .i64 f) ∧ w = w' := by
  have Hc := Lib.hid hc
  have H0 := Lib.hid h0
  clear hc h0
  go_enter Tryz.func109, Tryz.ntmps109
  go_wp2
  go_loop [8] (fun i => ∃ k : Nat, k ≤ f ∧ i = .int .i64 k) (fun i => len - (intOf i).toNat)
  case atStart => exact ⟨0, Nat.zero_le _, rfl⟩
  case round =>
    obtain ⟨k, hk, rfl⟩ := hrel
    have hlt : k < len := by omega
    have hcell := Hc.out k hlt
    by_cases hkf : k < f
    · have h0 := H0.out k hkf
      clear hn
      generalize zs.getD k 0 = z at hcell h0
      go_wp2_with (first | (refine (neg_no _ _ (by assumption)).mono ?_; rintro e w' ⟨rfl, rfl⟩))
      go_round
      case rel => exact ⟨k + 1, by omega, by go_num⟩
      case measure => simp [intOf]; omega
    · obtain rfl : k = f := by omega
      generalize zs.getD k 0 = z at hcell hn
      go_wp2_with (first | (refine (neg_yes _ _ (by assumption)).mono ?_; rintro e w' ⟨rfl, rfl⟩))
      go_ret
      exact ⟨rfl, rfl⟩
set_option maxHeartbeats 400000 in
theorem idx_nil (w : World) :
    Calls Tryz.prog 109 #[.slice none 0 0, .func (.func 71) #[] #[]] w fun e w' => e = .returned (.int .i64 (-1)) ∧ w = w' := by
  go_enter Tryz.func109, Tryz.ntmps109
  go_wp2
  refine wp_loop_rounds 1 ?_
  rw [rounds_succ]
  go_wp2
  go_ret
  exact ⟨rfl, rfl⟩

/-- The slice, as the walks take it. -/
def Ints (v : Value) (len : Nat) (zs : List Int) (w : World) : Prop :=
  (v = .slice none 0 0 ∧ len = 0) ∨ ∃ b off cap, v = .slice (some ⟨b, off, none⟩) len cap ∧ ∀ i, i < len → w.cell? ⟨b, off + i, none⟩ = some (.int .i64 (zs.getD i 0))

theorem has_none (v : Value) (len : Nat) (zs : List Int) (w : World) (hl : len ≤ 4611686018427387904) (hv : Ints v len zs w) (h0 : ∀ i, i < len → 0 ≤ zs.getD i 0) :
    Calls Tryz.prog 70 #[v, .func (.func 71) #[] #[]] w fun e w' => e = .returned (.bool false) ∧ w = w' := by
  rcases hv with ⟨rfl, rfl⟩ | ⟨b, off, cap, rfl, hc⟩
  · clear h0 hl
    go_enter Tryz.func70, Tryz.ntmps70
    go_wp2_with (refine (idx_nil _).mono ?_; rintro e w' ⟨rfl, rfl⟩)
    go_ret
    exact ⟨rfl, rfl⟩
  · have Hc := Lib.hid hc
    have H0 := Lib.hid h0
    clear hc h0
    go_enter Tryz.func70, Tryz.ntmps70
    go_wp2_with (refine (idx_none b off len cap zs _ hl Hc.out H0.out).mono ?_; rintro e w' ⟨rfl, rfl⟩)
    go_ret
    exact ⟨rfl, rfl⟩
theorem has_some (v : Value) (len f : Nat) (zs : List Int) (w : World) (hl : len ≤ 4611686018427387904) (hv : Ints v len zs w) (hf : f < len) (hn : zs.getD f 0 < 0) (h0 : ∀ i, i < f → 0 ≤ zs.getD i 0) :
    Calls Tryz.prog 70 #[v, .func (.func 71) #[] #[]] w fun e w' => e = .returned (.bool true) ∧ w = w' := by
  rcases hv with ⟨rfl, rfl⟩ | ⟨b, off, cap, rfl, hc⟩
  · omega
  · have Hc := Lib.hid hc
    have H0 := Lib.hid h0
    have Hn := Lib.hid hn
    clear hc h0 hn
    go_enter Tryz.func70, Tryz.ntmps70
    go_wp2_with (refine (idx_some b off len cap f zs _ hl Hc.out hf Hn.out H0.out).mono ?_; rintro e w' ⟨rfl, rfl⟩)
    go_ret
    exact ⟨rfl, rfl⟩
end Go.Proofs.YtejjhikbdchjaaaGreat
