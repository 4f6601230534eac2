/-
  'Rows.AtomOrdersSaid': the law answers true, its arguments read as they did. (The frame began as the shell that proof-skeleton.mjs prints; the walk is AM's.)
-/
import Derived.Test.YtejjhikbdchjaaaGreatAtomOrdersFacts
import Derived.Test.YtejjhikbdchjaaaGreatAtomOrdersWalk
namespace Go.Proofs.YtejjhikbdchjaaaGreat.atomOrders
open Go.ChangeShapes Go.WideShapes Go.ChangeAt Go.RowKit
set_option linter.unusedVariables false

theorem own : ownKnob Tryz.prog.godebug = none := by kernel_rfl

set_option maxRecDepth 100000 in
theorem lifted (os : Os) (started : os.Started) (H : Type) (enc : TypeId × Value → H) :
    ReturnsInHanded {} Tryz.checked os 5 .any (Rows.atomOrdersSpec.pre6 enc Tryz.prog Tryz.f5 Rows.atomOrdersRow.domain false) (Rows.atomOrdersSpec.post enc Tryz.prog Tryz.f5 false true false false) := by
  refine returnsInHanded_of_change (C := Tryz.checked) own started (by kernel_rfl) Tryz.func5
    (ChangeSpec.witness6 (enc := enc) (C := Tryz.checked) false wit 8 (by kernel_rfl) (by kernel_rfl) (by kernel_rfl) (by kernel_rfl)) ?_
  intro W base args ds gs before hval0 hW hcnd _
  have hval : ∀ (j : Nat) t v, Tryz.f5.params[j]? = some t → args[j]? = some v → Value.okWide Tryz.prog W .any base t v := hval0
  have hW' := hW
  obtain ⟨p, q, hA0, hV, rfl, hfz, hnd⟩ := hW
  have hA : DataW.TrodAll enc Tryz.prog W 0 (fun _ => true) true Tryz.f5.params.toList args.toList ds p := hA0
  obtain ⟨rfl, rfl⟩ := trodVars_none hV
  simp only [List.append_nil] at hW'
  have hlt : ∀ x ∈ p, x.block < W.heap.size := fun x hx => by simpa using hW'.lt x hx
  have hA2 := hA
  rw [Tryz.params5] at hA hval
  obtain ⟨v1, d1, rfl, rfl, h1⟩ := trodAll_one hA
  refine (walk W h1 (hval 0 _ _ rfl rfl)).mono fun e W' ⟨he, hk⟩ => ?_
  subst he
  have hg := hk.grown
  exact ⟨_, rfl, post_of_same (pv := []) hW' (fun _ _ _ => (trodAll_cons_mk (shut_bool Tryz.underlying4 _) trodAll_mk0)) (fun sp hsp => trodAll_keep hk typesIn hA2 hlt hsp) (fun _ _ => rfl) (List.append_nil _).symm
    (hg.frame _) hg.2.1 (ok_one (by kernel_rfl) rfl (okWide_bool_mk Tryz.underlying4 _))⟩

theorem over : Rows.atomOrdersRow.holds Tryz.pinned (OpenSpec.ofChange Rows.atomOrdersSpec) :=
  OpenClaim.holds_of_wide 5 Tryz.f5 rfl rfl rfl rfl rfl rfl rfl ⟨rfl, rfl, rfl, rfl, rfl⟩ rfl rfl rfl rfl rfl named Tryz.func5 closed
    inst wrapper
    (fun os started H enc _ => lifted os started H enc)

/-- THE STATEMENT. -/
theorem proved : Rows.AtomOrdersSaid := over
end Go.Proofs.YtejjhikbdchjaaaGreat.atomOrders
