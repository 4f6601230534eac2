/-
  AM: what is not looked at stays.
-/
import Derived.Test.YtejjhikbdchjaaaGreatAmDraw3
set_option linter.unusedSectionVars false
namespace Go.Am
variable [Vals]

def Mem.sub (h h' : Mem) : Prop := ∀ b o, h b = some o → h' b = some o
def Mem.over (g h : Mem) : Mem := fun b => match g b with | some o => some o | none => h b

section
variable {β β' β0 : Ren} {h h' hh g h0 : Mem} {w w' w0 : World} {n n' n0 nm : Nat}

theorem Mem.sub_ne (s : Mem.sub h hh) {b : Nat} (hb : h b ≠ none) : hh b ≠ none := by
  cases ho : h b with
  | none => exact absurd ho hb
  | some o => rw [s b o ho]; simp
theorem Own.sub (s : Mem.sub h hh) {b : Nat} (k : Own h b) : Own hh b := by
  obtain ⟨o, h1, h2⟩ := k; exact ⟨o, s b o h1, h2⟩
theorem Rel.sub (r : Rel β hh w) (s : Mem.sub h hh) : Rel β h w where
  row := fun b l hb => r.row b l (s b _ hb)
  map := fun b l hb => r.map b l (s b _ hb)
  ro := fun b l hb => r.ro b l (s b _ hb)
  apart := fun b b' i i' hb hb' => r.apart b b' i i' (Own.sub s hb) (Mem.sub_ne s hb')
theorem Img.sub (s : Mem.sub h hh) {k : Nat} (i : Img β h k) : Img β hh k := by
  obtain ⟨b, j, hb, hj, hk⟩ := i
  exact ⟨b, j, Own.sub s hb, hj, hk⟩
theorem Mem.over_some {b : Nat} {o : AO} (hb : g b = some o) : Mem.over g h b = some o := by simp [Mem.over, hb]
theorem Mem.over_none {b : Nat} (hb : g b = none) : Mem.over g h b = h b := by simp [Mem.over, hb]
theorem Own.over {b : Nat} (k : Own (Mem.over g h) b) : Own g b ∨ (g b = none ∧ Own h b) := by
  obtain ⟨o, h1, h2⟩ := k
  cases hg : g b with
  | none => rw [Mem.over_none hg] at h1; exact .inr ⟨rfl, o, h1, h2⟩
  | some o' => rw [Mem.over_some hg] at h1; cases h1; exact .inl ⟨_, hg, h2⟩

/-- A part of memory is acted on; another part stays. -/
theorem frame_ok (r : Rel β hh w) (s : Mem.sub h hh) (sg : Mem.sub g hh) (disj : ∀ b, g b ≠ none → h b = none) (p : Post β h w n β' h' w' n') (hg : ∀ b, g b ≠ none → b < n ∨ n' ≤ b) :
    Rel β' (Mem.over g h') w' ∧ ∀ k, Img β' (Mem.over g h') k → Img β hh k ∨ w.heap.size ≤ k := by
  have hβ : ∀ b, g b ≠ none → β' b = β b := fun b hb => p.same b (hg b hb)
  have hnot : ∀ b i, g b ≠ none → β b = some i → ¬ Img β h i.blk := by
    rintro b i hb hi ⟨b0, i0, hb0, hi0, he⟩
    have := r.apart b0 b i0 i (Own.sub s hb0) (Mem.sub_ne sg hb) hi0 hi he
    subst this
    exact hb0.ne (disj b0 hb)
  have hlt : ∀ b i, g b ≠ none → β b = some i → i.blk < w.heap.size := fun b i hb hi => r.live (Mem.sub_ne sg hb) hi
  have hkeep : ∀ b i, g b ≠ none → β b = some i → w'.heap[i.blk]? = w.heap[i.blk]? := fun b i hb hi => p.frame _ (hlt b i hb hi) (hnot b i hb hi)
  have hother : ∀ b b' i i', g b ≠ none → Own h' b' → β' b = some i → β' b' = some i' → i.blk ≠ i'.blk := by
    intro b b' i i' hb hb' hi hi' he
    rw [hβ b hb] at hi
    rcases p.own i'.blk ⟨b', i', hb', hi', rfl⟩ with k | k
    · exact hnot b i hb hi (he ▸ k)
    · have := hlt b i hb hi; omega
  have hother2 : ∀ b b' i i', Own g b → h' b' ≠ none → β' b = some i → β' b' = some i' → i.blk = i'.blk → False := by
    intro b b' i i' hb hb' hi hi' he
    cases ho : h' b' with
    | none => exact hb' ho
    | some o =>
      cases hw : o.own with
      | true => exact hother b b' i i' hb.ne ⟨o, ho, hw⟩ hi hi' he
      | false =>
        cases o with
        | ro l =>
          have hr := p.ro b' l ho
          obtain ⟨j, hj, _⟩ := r.ro b' l (s b' _ hr)
          have := p.le _ _ hj
          rw [hi'] at this; cases this
          rw [hβ b hb.ne] at hi
          have := r.apart b b' i i' (Own.sub sg hb) (by rw [s b' _ hr]; simp) hi hj he
          subst this
          have := disj b hb.ne
          rw [hr] at this; cases this
        | _ => cases hw
  refine ⟨⟨?_, ?_, ?_, ?_⟩, ?_⟩
  · intro b l hb
    cases hgb : g b with
    | some o =>
      rw [Mem.over_some hgb] at hb; cases hb
      obtain ⟨i, hi, hr⟩ := r.row b l (sg b _ hgb)
      exact ⟨i, p.le _ _ hi, (hr.heap (hkeep b i (by rw [hgb]; simp) hi)).mono p.le⟩
    | none => rw [Mem.over_none hgb] at hb; exact p.rel.row b l hb
  · intro b l hb
    cases hgb : g b with
    | some o =>
      rw [Mem.over_some hgb] at hb; cases hb
      obtain ⟨i, hi, hr⟩ := r.map b l (sg b _ hgb)
      exact ⟨i, p.le _ _ hi, (hr.heap (hkeep b i (by rw [hgb]; simp) hi)).mono p.le⟩
    | none => rw [Mem.over_none hgb] at hb; exact p.rel.map b l hb
  · intro b l hb
    cases hgb : g b with
    | some o =>
      rw [Mem.over_some hgb] at hb; cases hb
      obtain ⟨i, hi, hr⟩ := r.ro b l (sg b _ hgb)
      exact ⟨i, p.le _ _ hi, (hr.heap (hkeep b i (by rw [hgb]; simp) hi)).mono p.le⟩
    | none => rw [Mem.over_none hgb] at hb; exact p.rel.ro b l hb
  · intro b b' i i' hb hb' hi hi' he
    rcases Own.over hb with gb | ⟨gb, hb⟩
    · by_cases gb' : g b' = none
      · rw [Mem.over_none gb'] at hb'; exact (hother2 b b' i i' gb hb' hi hi' he).elim
      · rw [hβ b gb.ne] at hi; rw [hβ b' gb'] at hi'
        exact r.apart b b' i i' (Own.sub sg gb) (Mem.sub_ne sg gb') hi hi' he
    · by_cases gb' : g b' = none
      · rw [Mem.over_none gb'] at hb'; exact p.rel.apart b b' i i' hb hb' hi hi' he
      · exact absurd he.symm (hother b' b i' i gb' hb hi' hi)
  · rintro k ⟨b, i, hb, hi, rfl⟩
    rcases Own.over hb with gb | ⟨gb, hb⟩
    · rw [hβ b gb.ne] at hi
      exact .inl ⟨b, i, Own.sub sg gb, hi, rfl⟩
    · rcases p.own _ ⟨b, i, hb, hi, rfl⟩ with k | k
      · exact .inl (Img.sub s k)
      · exact .inr k

/-- .. behind what was done before. -/
theorem Post.step (P : Post β0 h0 w0 n0 β hh w nm) (s : Mem.sub h hh) (sg : Mem.sub g hh) (disj : ∀ b, g b ≠ none → h b = none) (p : Post β h w n β' h' w' n') (hg : ∀ b, g b ≠ none → b < n ∨ n' ≤ b) (h1 : n0 ≤ n) (h2 : n' ≤ nm) :
    Post β0 h0 w0 n0 β' (Mem.over g h') w' nm := by
  obtain ⟨r', own'⟩ := frame_ok P.rel s sg disj p hg
  have hup := p.up
  have hro : ∀ b l, Mem.over g h' b = some (.ro l) → h0 b = some (.ro l) := by
    intro b l hb
    cases hgb : g b with
    | some o => rw [Mem.over_some hgb] at hb; cases hb; exact P.ro b l (sg b _ hgb)
    | none => rw [Mem.over_none hgb] at hb; exact P.ro b l (s b _ (p.ro b l hb))
  refine ⟨r', hro, fun b i k => p.le _ _ (P.le _ _ k), fun b hb => ?_, P.up, p.os.trans P.os, p.tape.trans P.tape, p.output.trans P.output, Nat.le_trans P.size p.size, fun k hk hn => ?_, fun k hk => ?_, fun k hk => p.thaw k (.inr (P.thaw k hk))⟩
  · rw [p.same b (by omega), P.same b hb]
  · have hs := P.size
    rw [p.frame k (by omega) (fun hi => ?_), P.frame k hk hn]
    rcases P.own k (Img.sub s hi) with hi | hi
    · exact hn hi
    · omega
  · have hs := P.size
    rcases own' k hk with hi | hi
    · exact P.own k hi
    · exact .inr (by omega)
theorem Post.subMem (P : Post β0 h0 w0 n0 β hh w nm) (s : Mem.sub h hh) : Post β0 h0 w0 n0 β h w nm :=
  ⟨P.rel.sub s, fun b l k => P.ro b l (s b _ k), P.le, P.same, P.up, P.os, P.tape, P.output, P.size, P.frame, fun k hk => P.own k (Img.sub s hk), P.thaw⟩
theorem Post.of_drew {w1 : World} (P : Post β0 h0 w0 n0 β hh w nm) (e1 : w1.heap = w0.heap) (e2 : w1.os = w0.os) (e3 : w1.tape = w0.tape) (e4 : w1.output = w0.output) : Post β0 h0 w1 n0 β hh w nm :=
  ⟨P.rel, P.ro, P.le, P.same, P.up, P.os.trans e2.symm, P.tape.trans e3.symm, P.output.trans e4.symm, by rw [e1]; exact P.size, fun k hk hn => by rw [e1]; exact P.frame k (by rw [← e1]; exact hk) hn, fun k hk => by rw [e1]; exact P.own k hk, fun k hk => P.thaw k (by rcases hk with h | h; exact .inl (by rw [← e1]; exact h); exact .inr (fun C e f hc => h C e f (by rw [e1]; exact hc)))⟩
theorem Fresh.keep (f : Fresh β n0 nm) (p : Post β h w n β' h' w' n') (hd : nm ≤ n ∨ n' ≤ n0) : Fresh β' n0 nm := by
  intro b hb hb'
  rw [p.same b (by omega)]; exact f b hb hb'
end
end Go.Am
