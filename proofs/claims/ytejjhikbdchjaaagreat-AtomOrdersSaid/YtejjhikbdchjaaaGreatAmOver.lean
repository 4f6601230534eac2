/-
  Calls without arguments that AM has seen come to true: known beforehand wherever they are made.
-/
import Derived.Test.YtejjhikbdchjaaaGreatAmClosed
set_option linter.unusedSectionVars false
namespace Go.Proofs.YtejjhikbdchjaaaGreat
open Go.Am Go.RowKit
variable [Vals]

theorem rel_frame {β : Ren} {h : Mem} {w w' : World} (r : Rel β h w) (hf : ∀ k, k < w.heap.size → w'.heap[k]? = w.heap[k]?) : Rel β h w' where
  row := fun b l hb => by
    obtain ⟨i, hi, C, e, hC, k⟩ := r.row b l hb
    have hlt := r.live (by rw [hb]; simp) hi
    exact ⟨i, hi, C, e, by rw [hf _ hlt]; exact hC, k⟩
  map := fun b l hb => by
    obtain ⟨i, hi, es, c, hC, k⟩ := r.map b l hb
    have hlt := r.live (by rw [hb]; simp) hi
    exact ⟨i, hi, es, c, by rw [hf _ hlt]; exact hC, k⟩
  ro := fun b l hb => by
    obtain ⟨i, hi, C, e, f, hC, k⟩ := r.ro b l hb
    have hlt := r.live (by rw [hb]; simp) hi
    exact ⟨i, hi, C, e, f, by rw [hf _ hlt]; exact hC, k⟩
  apart := r.apart

def isTrueB : FR → Bool
  | .ret (.bool true) true _ _ => true
  | _ => false

def trueOv2 : Bool → Heap → Nat → Option FR
  | true, H, n => some (.ret (.bool true) true H n)
  | false, _, _ => none
def trueOv (l : List FuncId) : Over := fun f args H n => match args with
  | [] => trueOv2 (memb f l) H n
  | _ :: _ => none

theorem memb_mem : ∀ {t : TypeId} {l : List TypeId}, memb t l = true → t ∈ l
  | _, [], h => by cases h
  | t, u :: l, h => by
    rw [memb, bor_eq, Bool.or_eq_true] at h
    rcases h with h | h
    · rw [Nat.eq_of_beq_eq_true h]; exact List.mem_cons_self
    · exact List.mem_cons_of_mem _ (memb_mem h)

/-- What has come of a call from nothing, at any memory. -/
theorem ret_any {β : Ren} {H : Heap} {w : World} {n : Nat} (r : Rel β H.get w) {H' : Heap} {n' : Nat} {e : Ending} {w' : World} (h : RetOk (fun _ => none) (Tr.get (.lf : Heap)) w 0 (.bool true) H' n' e w') :
    RetOk β H.get w n (.bool true) H n e w' := by
  obtain ⟨cv, β', rfl, hv, hp⟩ := h
  cases hv
  have hfr : ∀ k, k < w.heap.size → w'.heap[k]? = w.heap[k]? := fun k hk => hp.frame k hk (by rintro ⟨b, i, hb, _⟩; exact hb.ne rfl)
  exact ⟨_, β, rfl, .bool _, rel_frame r hfr, fun _ _ k => k, fun _ _ k => k, fun _ _ => rfl, Nat.le_refl _, hp.os, hp.tape, hp.output, hp.size, fun k hk _ => hfr k hk, fun k hk => .inl hk, hp.thaw⟩

theorem over_true {sym : BinOp → AV → AV → Option AV} {cnv : TypeId → TypeId → AV → Option AV} {l : List FuncId} (h : ∀ f, f ∈ l → ∃ d, isTrueB (callV env d f [] .lf 0) = true) : OvOk Tryz.prog (envS sym cnv) (trueOv l) := by
  intro f args H n v bare H' n' hr
  cases args with
  | cons => cases hr
  | nil =>
    cases hm : memb f l with
    | false => simp only [trueOv, hm, trueOv2, ovr] at hr; cases hr
    | true =>
      simp only [trueOv, hm, trueOv2, ovr] at hr
      cases hr
      obtain ⟨d, hd⟩ := h f (memb_mem hm)
      cases hc : callV env d f [] .lf 0 with
      | fail => rw [hc] at hd; cases hd
      | ret v bare H1 n1 =>
        rw [hc] at hd
        have hvb : v = .bool true ∧ bare = true := by
          cases v <;> first | (cases hd; done) | skip
          rename_i b
          cases b <;> cases bare <;> first | (cases hd; done) | exact ⟨rfl, rfl⟩
        obtain ⟨rfl, rfl⟩ := hvb
        obtain ⟨_, hb, hcall⟩ := amOk d f [] .lf 0 _ _ _ _ hc
        refine ⟨UpR.refl _ _, hb, fun β w cargs r hargs _ => ?_⟩
        have hrel : Rel (fun _ => none) (Tr.get (.lf : Heap)) w := ⟨fun b l hb => (by cases hb), fun b l hb => (by cases hb), fun b l hb => (by cases hb), fun b b' i i' hb => absurd rfl hb.ne⟩
        obtain ⟨k1, k2⟩ := hcall (fun _ => none) w cargs hrel (by generalize cargs.toList = l at hargs ⊢; cases hargs; exact .nil) (fun b _ _ => rfl)
        exact ⟨Calls.mono k1 fun e w' hq => ret_any r hq, fun _ u => CallsD.mono (k2 rfl u) fun e u' w' hq => ⟨hq.1, ret_any r hq.2⟩⟩

omit [Vals] in
theorem closed_trueX {l : List FuncId} (hl : ∀ f, f ∈ l → ∃ d, isTrueB (callV env d f [] .lf 0) = true) {f : FuncId} {d : Nat} (h : isTrue (callX env (trueOv l) d f [] .lf 0) = true) (w : World) : Calls Tryz.prog f #[] w fun e w' => e = .returned (.bool true) ∧ Grown w w' := by
  let _ : Vals := ⟨fun _ => 0, fun _ => 0⟩
  cases hc : callX env (trueOv l) d f [] .lf 0 with
  | fail => rw [hc] at h; cases h
  | ret v bare H' n' =>
    rw [hc] at h
    cases v <;> first | (cases h; done) | skip
    rename_i b
    cases b with
    | false => cases h
    | true =>
      obtain ⟨_, _, hcall⟩ := amOkX noSym_ok noCnv_ok (over_true hl) d f [] .lf 0 _ _ _ _ hc
      have hrel : Rel (fun _ => none) (Tr.get (.lf : Heap)) w := ⟨fun b l hb => (by cases hb), fun b l hb => (by cases hb), fun b l hb => (by cases hb), fun b b' i i' hb => absurd rfl hb.ne⟩
      refine Calls.mono (hcall (fun _ => none) w #[] hrel .nil (fun b _ _ => rfl)).1 ?_
      rintro e w' ⟨cv, β', rfl, hv, hp⟩
      cases hv
      exact ⟨rfl, grown_of hp.os hp.output hp.size (fun k hk => hp.frame k hk (by rintro ⟨b, i, hb, _⟩; exact hb.ne rfl)) fun k hk => hp.thaw k (.inl hk)⟩
end Go.Proofs.YtejjhikbdchjaaaGreat
