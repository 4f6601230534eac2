/-
  A law without arguments that AM has seen through.
-/
import Derived.Test.YtejjhikbdchjaaaGreatAmEnv2
import Derived.RowKit3
namespace Go.Proofs.YtejjhikbdchjaaaGreat
open Go.Am Go.RowKit

def isTrue : FR → Bool
  | .ret (.bool true) _ _ _ => true
  | _ => false

theorem grown_of {w w' : World} (h1 : w'.os = w.os) (h2 : w'.output = w.output) (h3 : w.heap.size ≤ w'.heap.size) (h4 : ∀ k, k < w.heap.size → w'.heap[k]? = w.heap[k]?) (h5 : ∀ k, w.heap.size ≤ k → Thaw w' k) : Grown w w' := by
  refine ⟨⟨h1, h2, fun i hi => ?_⟩, fun a => ?_, h3⟩
  · rw [h4 i hi]
    cases hx : w.heap[i]? with
    | none => rfl
    | some o => cases o <;> first | rfl | exact ⟨rfl, rfl, rfl, fun _ _ => rfl⟩ | exact .inr ⟨rfl, rfl⟩
  · unfold World.frozen?
    rcases Nat.lt_or_ge a.block w.heap.size with h | h
    · rw [h4 _ h]
    · rw [Array.getElem?_eq_none h]
      have ht := h5 _ h
      cases hx : w'.heap[a.block]? with
      | none => rfl
      | some o =>
        cases o with
        | cells C e f =>
          have := ht C e f hx
          subst this
          simp
        | _ => rfl

theorem closed_true {f : FuncId} {d : Nat} (h : isTrue (callV env d f [] .lf 0) = true) (w : World) : Calls Tryz.prog f #[] w fun e w' => e = .returned (.bool true) ∧ Grown w w' := by
  cases hc : callV env d f [] .lf 0 with
  | fail => rw [hc] at h; cases h
  | ret v bare H' n' =>
    rw [hc] at h
    cases v <;> first | (cases h; done) | skip
    rename_i b
    cases b with
    | false => cases h
    | true => exact (closed_call hc w).mono fun e w' ⟨h1, h2, _, h3, h4, h5, h6⟩ => ⟨h1, grown_of h2 h3 h4 h5 h6⟩
end Go.Proofs.YtejjhikbdchjaaaGreat
