/-
  'Rows.AuditTimesSaid': the law answers true, its arguments read as they did. (The frame began as the shell that proof-skeleton.mjs prints; the walk is AM's.)
-/
import Derived.Test.YtejjhikbdchjaaaGreatAuditTimesFacts
import Derived.Test.YtejjhikbdchjaaaGreatAuditTimesWalk
namespace Go.Proofs.YtejjhikbdchjaaaGreat.auditTimes
open Go.ChangeShapes Go.WideShapes Go.ChangeAt Go.RowKit
set_option linter.unusedVariables false

theorem own : ownKnob Tryz.prog.godebug = none := by kernel_rfl

set_option maxRecDepth 100000 in
theorem lifted (os : Os) (started : os.Started) (H : Type) (enc : TypeId × Value → H) :
    ReturnsInHanded {} Tryz.checked os 10 .any (Rows.auditTimesSpec.pre6 enc Tryz.prog Tryz.f10 Rows.auditTimesRow.domain false) (Rows.auditTimesSpec.post enc Tryz.prog Tryz.f10 false true false false) := by
  refine returnsInHanded_of_change (C := Tryz.checked) own started (by kernel_rfl) Tryz.func10
    (ChangeSpec.witness6 (enc := enc) (C := Tryz.checked) false wit 8 (by kernel_rfl) (by kernel_rfl) (by kernel_rfl) (by kernel_rfl)) ?_
  intro W base args ds gs before hval0 hW hcnd _
  have hval : ∀ (j : Nat) t v, Tryz.f10.params[j]? = some t → args[j]? = some v → Value.okWide Tryz.prog W .any base t v := hval0
  have hW' := hW
  obtain ⟨p, q, hA0, hV, rfl, hfz, hnd⟩ := hW
  have hA : DataW.TrodAll enc Tryz.prog W 0 (fun _ => true) true Tryz.f10.params.toList args.toList ds p := hA0
  obtain ⟨rfl, rfl⟩ := trodVars_none hV
  simp only [List.append_nil] at hW'
  have hlt : ∀ x ∈ p, x.block < W.heap.size := fun x hx => by simpa using hW'.lt x hx
  have hA2 := hA
  rw [Tryz.params10] at hA hval
  obtain ⟨v1, v2, d1, d2, p1, p2, rfl, rfl, rfl, h1, h2⟩ := trodAll_two hA
  refine (walk W h1 h2 (hval 0 _ _ rfl rfl) (hval 1 _ _ rfl rfl)).mono fun e W' ⟨he, hk⟩ => ?_
  subst he
  have hg := hk.grown
  exact ⟨_, rfl, post_of_same (pv := []) hW' (fun _ _ _ => (trodAll_cons_mk (shut_bool Tryz.underlying4 _) trodAll_mk0)) (fun sp hsp => trodAll_keep hk typesIn hA2 hlt hsp) (fun _ _ => rfl) (List.append_nil _).symm
    (hg.frame _) hg.2.1 (ok_one (by kernel_rfl) rfl (okWide_bool_mk Tryz.underlying4 _))⟩

theorem over : Rows.auditTimesRow.holds Tryz.pinned (OpenSpec.ofChange Rows.auditTimesSpec) :=
  OpenClaim.holds_of_wide 10 Tryz.f10 rfl rfl rfl rfl rfl rfl rfl ⟨rfl, rfl, rfl, rfl, rfl⟩ rfl rfl rfl rfl rfl named Tryz.func10 closed
    inst wrapper
    (fun os started H enc _ => lifted os started H enc)

/-- THE STATEMENT. -/
theorem proved : Rows.AuditTimesSaid := over
end Go.Proofs.YtejjhikbdchjaaaGreat.auditTimes
