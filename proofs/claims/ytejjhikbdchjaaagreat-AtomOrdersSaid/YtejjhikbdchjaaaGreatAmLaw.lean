/-
  A law with arguments that the call leaves alone: what is kept; what its arguments read as behind it.
-/
import Derived.Test.YtejjhikbdchjaaaGreatAmOver
import Derived.WalkKit
import Derived.ProofKit
import Derived.OpenShut
import Derived.Carry
import Derived.Laws.IdiomArrays
import Derived.Test.YtejjhikbdchjaaaGreatSeatFacts
set_option linter.unusedSectionVars false
namespace Go.Proofs.YtejjhikbdchjaaaGreat
open Go.Am Go.RowKit Go.ChangeShapes

abbrev noVals : Vals := ⟨fun _ => 0, fun _ => 0⟩
theorem thaw_ge {w : World} {k : Nat} (h : w.heap.size ≤ k) : Thaw w k := @Thaw.of_ge noVals _ _ h
/-- All that was there is as it was; what is new may be written. -/
structure Kept (W W' : World) : Prop where
  below : Below W.heap.size W W'
  thaw : ∀ k, W.heap.size ≤ k → Thaw W' k
theorem Kept.refl (W : World) : Kept W W := ⟨Below.refl _ _, fun _ h => thaw_ge h⟩
theorem Kept.grown {W W' : World} (h : Kept W W') : Grown W W' := grown_of h.below.os h.below.output h.below.size h.below.block h.thaw
theorem Kept.trans {a b c : World} (h : Kept a b) (k : Kept b c) : Kept a c where
  below := h.below.trans (k.below.mono h.below.size)
  thaw := fun i hi => by
    rcases Nat.lt_or_ge i b.heap.size with hlt | hge
    · intro C e f hc
      rw [k.below.block i hlt] at hc
      exact h.thaw i hi C e f hc
    · exact k.thaw i hge

theorem kept_of_post [Vals] {β β' : Ren} {h h' : Mem} {w w' : World} {n n' : Nat} (p : Post β h w n β' h' w' n') (hno : ∀ b, ¬ Own h b) : Kept w w' :=
  ⟨⟨p.os, p.tape, p.output, p.size, fun k hk => p.frame k hk fun ⟨b, _, hb, _⟩ => hno b hb⟩, fun k hk => p.thaw k (.inl hk)⟩

theorem trodAll_keep {H : Type} {enc : TypeId × Value → H} {W W' : World} (hk : Kept W W') {sp : Nat → Bool} : ∀ {ts : List TypeId} {vs : List Value} {ds : List (DataW H)} {ps : List MemPlace}, (∀ t ∈ ts, t < Tryz.prog.types.size) →
    DataW.TrodAll enc Tryz.prog W 0 (fun _ => true) true ts vs ds ps → (∀ x ∈ ps, x.block < W.heap.size) → (∀ p ∈ ps, sp p.block = true) → DataW.TrodAll enc Tryz.prog W' 0 sp true ts vs ds ps := by
  intro ts vs ds ps hT h hlt hsp
  refine DataW.TrodAll.respare (kids_rows laidOut mapsRows) (fun t e => slicesFull t e) hT ?_ hsp
  clear hsp hT
  induction ts generalizing vs ds ps with
  | nil => cases vs <;> cases ds <;> exact h
  | cons t ts ih =>
    cases vs with
    | nil => cases ds <;> exact h.elim
    | cons v vs =>
      cases ds with
      | nil => exact h.elim
      | cons d ds =>
        obtain ⟨p, q, ⟨n, hn⟩, h2, rfl⟩ := h
        exact ⟨p, q, ⟨n, DataW.trod_carry n _ _ _ hn fun x hx => hk.below.same (hlt x (List.mem_append_left _ hx))⟩, ih h2 (fun x hx => hlt x (List.mem_append_right _ hx)), rfl⟩
theorem rel_nil [Vals] (w : World) : Rel (fun _ => none) (Tr.get (.lf : Heap)) w := ⟨fun b l hb => (by cases hb), fun b l hb => (by cases hb), fun b l hb => (by cases hb), fun b b' i i' hb => absurd rfl hb.ne⟩
theorem own_lf (b : Nat) : ¬ Own (Tr.get (.lf : Heap)) b := fun h => @Own.ne noVals _ _ h rfl
end Go.Proofs.YtejjhikbdchjaaaGreat
