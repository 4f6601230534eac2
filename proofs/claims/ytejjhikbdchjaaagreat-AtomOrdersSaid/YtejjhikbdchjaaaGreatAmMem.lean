/-
  AM: memory made, written, let go: what becomes of the relation.
-/
import Derived.Test.YtejjhikbdchjaaaGreatAmRel
import Derived.Laws.AppendOwn
set_option linter.unusedSectionVars false
namespace Go.Am
variable [Vals]

def Mem.set (h : Mem) (n : Nat) (o : Option AO) : Mem := fun b => if b = n then o else h b
def Ren.set (β : Ren) (n : Nat) (i : BI) : Ren := fun b => if b = n then some i else β b

section
variable {β : Ren} {h : Mem} {w w' : World} {n : Nat}

theorem Ren.le_set (f : β n = none) (i : BI) : β.le (β.set n i) := by
  intro b j hj
  unfold Ren.set
  split
  · rename_i e; rw [e, f] at hj; cases hj
  · exact hj
theorem Ren.set_self (i : BI) : (β.set n i) n = some i := by simp [Ren.set]
theorem Ren.set_other {b : Nat} (i : BI) (hb : b ≠ n) : (β.set n i) b = β b := by simp [Ren.set, hb]

theorem RowAt.mono {β' : Ren} (k : β.le β') {i : BI} {l : List AV} (r : RowAt β i l w) : RowAt β' i l w :=
  let ⟨C, e, h1, h2, h3, h4⟩ := r; ⟨C, e, h1, h2, h3, h4.mono k⟩
theorem MapAt.mono {β' : Ren} (k : β.le β') {i : BI} {l : List (AV × AV)} (r : MapAt β i l w) : MapAt β' i l w :=
  let ⟨es, c, h1, h2⟩ := r; ⟨es, c, h1, h2.mono k⟩
theorem RowAt.heap {i : BI} {l : List AV} (r : RowAt β i l w) (e : w'.heap[i.blk]? = w.heap[i.blk]?) : RowAt β i l w' :=
  let ⟨C, t, h1, h2⟩ := r; ⟨C, t, by rw [e]; exact h1, h2⟩
theorem MapAt.heap {i : BI} {l : List (AV × AV)} (r : MapAt β i l w) (e : w'.heap[i.blk]? = w.heap[i.blk]?) : MapAt β i l w' :=
  let ⟨C, t, h1, h2⟩ := r; ⟨C, t, by rw [e]; exact h1, h2⟩

theorem RoAt.mono {β' : Ren} (k : β.le β') {i : BI} {l : List AV} (r : RoAt β i l w) : RoAt β' i l w :=
  let ⟨C, e, f, h1, h2, h3, h4⟩ := r; ⟨C, e, f, h1, h2, h3, h4.mono k⟩
theorem RoAt.heap {i : BI} {l : List AV} (r : RoAt β i l w) (e : w'.heap[i.blk]? = w.heap[i.blk]?) : RoAt β i l w' :=
  let ⟨C, t, f, h1, h2⟩ := r; ⟨C, t, f, by rw [e]; exact h1, h2⟩
theorem own_set_ne {x : Option AO} {b : Nat} (k : Own (h.set n x) b) (hb : b ≠ n) : Own h b := by
  obtain ⟨o, h1, h2⟩ := k
  unfold Mem.set at h1; rw [if_neg hb] at h1; exact ⟨o, h1, h2⟩
theorem own_none {b : Nat} (k : Own (h.set n none) b) : Own h b ∧ b ≠ n := by
  by_cases e : b = n
  · obtain ⟨o, h1, _⟩ := k; unfold Mem.set at h1; rw [if_pos e] at h1; cases h1
  · exact ⟨own_set_ne k e, e⟩
theorem ro_set {o : AO} {b : Nat} {l : List AV} (ho : o.own = true) (k : (h.set n (some o)) b = some (.ro l)) : b ≠ n ∧ h b = some (.ro l) := by
  unfold Mem.set at k
  split at k
  · cases k; cases ho
  · rename_i e; exact ⟨e, k⟩

/-- A new block behind all others. -/
theorem post_new {o : AO} {obj : Obj} {i : BI} (r : Rel β h w) (f : β n = none) (hi : i.blk = w.heap.size)
    (hh : w'.heap = w.heap.push obj) (hos : w'.os = w.os) (ht : w'.tape = w.tape) (ho : w'.output = w.output)
    (hrow : ∀ l, o = .cells l → RowAt (β.set n i) i l w') (hmap : ∀ l, o = .map l → MapAt (β.set n i) i l w') (hro : o.own = true := by rfl) :
    Post β h w n (β.set n i) (h.set n (some o)) w' (n + 1) := by
  have hle := Ren.le_set (β := β) f i
  have hnew : ∀ k, k < w.heap.size → w'.heap[k]? = w.heap[k]? := by
    intro k hk
    rw [hh, Array.getElem?_push, if_neg (by omega)]
  have hlive : ∀ b j, h b ≠ none → β b = some j → j.blk < w.heap.size := fun b j hb hj => r.live hb hj
  refine ⟨⟨?_, ?_, ?_, ?_⟩, fun b l k => (ro_set hro k).2, hle, ?_, Nat.le_succ _, hos, ht, ho, by rw [hh]; simp, fun k hk _ => hnew k hk, ?_, ?_⟩
  · intro b l hb
    unfold Mem.set at hb
    split at hb
    · rename_i e; subst e; cases hb; exact ⟨i, Ren.set_self i, hrow l rfl⟩
    · obtain ⟨j, hj, hr⟩ := r.row b l hb
      exact ⟨j, hle _ _ hj, (hr.heap (hnew _ (hlive b j (by rw [hb]; simp) hj))).mono hle⟩
  · intro b l hb
    unfold Mem.set at hb
    split at hb
    · rename_i e; subst e; cases hb; exact ⟨i, Ren.set_self i, hmap l rfl⟩
    · obtain ⟨j, hj, hr⟩ := r.map b l hb
      exact ⟨j, hle _ _ hj, (hr.heap (hnew _ (hlive b j (by rw [hb]; simp) hj))).mono hle⟩
  · intro b l hb
    obtain ⟨_, hb⟩ := ro_set hro hb
    obtain ⟨j, hj, hr⟩ := r.ro b l hb
    exact ⟨j, hle _ _ hj, (hr.heap (hnew _ (hlive b j (by rw [hb]; simp) hj))).mono hle⟩
  · intro b b' j j' hb hb' hj hj' he
    unfold Mem.set at hb'
    by_cases e : b = n
    · by_cases e' : b' = n
      · rw [e, e']
      · rw [if_neg e'] at hb'
        rw [e, Ren.set_self] at hj; rw [Ren.set_other i e'] at hj'
        cases hj
        have := hlive b' j' hb' hj'
        omega
    · have hb := own_set_ne hb e
      by_cases e' : b' = n
      · rw [e', Ren.set_self] at hj'; rw [Ren.set_other i e] at hj
        cases hj'
        have := hlive b j hb.ne hj
        omega
      · rw [if_neg e'] at hb'
        rw [Ren.set_other i e] at hj; rw [Ren.set_other i e'] at hj'
        exact r.apart b b' j j' hb hb' hj hj' he
  · intro b hb
    exact Ren.set_other i (by omega)
  · rintro k ⟨b, j, hb, hj, rfl⟩
    by_cases e : b = n
    · rw [e, Ren.set_self] at hj; cases hj; exact .inr (by omega)
    · rw [Ren.set_other i e] at hj; exact .inl ⟨b, j, own_set_ne hb e, hj, rfl⟩
  · intro k hk C e fz hc
    rcases Nat.lt_trichotomy k w.heap.size with hlt | heq | hgt
    · rw [hnew k hlt] at hc
      rcases hk with hk | hk
      · omega
      · exact hk C e fz hc
    · rw [heq, ← hi] at hc
      cases o with
      | cells l =>
        obtain ⟨C2, e2, h2, _⟩ := hrow l rfl
        rw [h2] at hc; cases hc; rfl
      | map l =>
        obtain ⟨es, c, h2, _⟩ := hmap l rfl
        rw [h2] at hc; cases hc
      | ro l => cases hro
    · rw [Array.getElem?_eq_none (by rw [hh]; simp; omega)] at hc; cases hc

/-- A block that is there is given other contents. -/
theorem post_set {o : AO} {i : BI} {b : Nat} (r : Rel β h w) (hb : Own h b) (hi : β b = some i)
    (hh : ∀ k, k ≠ i.blk → w'.heap[k]? = w.heap[k]?) (hs : w'.heap.size = w.heap.size) (hos : w'.os = w.os) (ht : w'.tape = w.tape) (ho : w'.output = w.output)
    (hrow : ∀ l, o = .cells l → RowAt β i l w') (hmap : ∀ l, o = .map l → MapAt β i l w') (hro : o.own = true := by rfl) :
    Post β h w n β (h.set b (some o)) w' n := by
  have hne : ∀ b' j, b' ≠ b → h b' ≠ none → β b' = some j → j.blk ≠ i.blk := fun b' j hn hb' hj he => hn (r.apart b b' i j hb hb' hi hj he.symm).symm
  refine ⟨⟨?_, ?_, ?_, ?_⟩, fun b' l k => (ro_set hro k).2, fun _ _ k => k, fun _ _ => rfl, Nat.le_refl _, hos, ht, ho, by rw [hs]; exact Nat.le_refl _, ?_, ?_, ?_⟩
  · intro b' l hl
    unfold Mem.set at hl
    split at hl
    · rename_i e; subst e; cases hl; exact ⟨i, hi, hrow l rfl⟩
    · rename_i e
      obtain ⟨j, hj, hr⟩ := r.row b' l hl
      exact ⟨j, hj, hr.heap (hh _ (hne b' j e (by rw [hl]; simp) hj))⟩
  · intro b' l hl
    unfold Mem.set at hl
    split at hl
    · rename_i e; subst e; cases hl; exact ⟨i, hi, hmap l rfl⟩
    · rename_i e
      obtain ⟨j, hj, hr⟩ := r.map b' l hl
      exact ⟨j, hj, hr.heap (hh _ (hne b' j e (by rw [hl]; simp) hj))⟩
  · intro b' l hl
    obtain ⟨e, hl⟩ := ro_set hro hl
    obtain ⟨j, hj, hr⟩ := r.ro b' l hl
    exact ⟨j, hj, hr.heap (hh _ (hne b' j e (by rw [hl]; simp) hj))⟩
  · intro b1 b2 j1 j2 h1 h2 k1 k2 he
    have g : ∀ x, h.set b (some o) x ≠ none → h x ≠ none := by
      intro x hx
      unfold Mem.set at hx
      split at hx
      · rename_i e; rw [e]; exact hb.ne
      · exact hx
    have g' : ∀ x, Own (h.set b (some o)) x → Own h x := by
      intro x hx
      by_cases e : x = b
      · rw [e]; exact hb
      · exact own_set_ne hx e
    exact r.apart b1 b2 j1 j2 (g' _ h1) (g _ h2) k1 k2 he
  · intro k hk him
    refine hh k fun e => him ⟨b, i, hb, hi, e.symm⟩
  · rintro k ⟨b', j, hb', hj, rfl⟩
    left
    by_cases e : b' = b
    · exact ⟨b', j, by rw [e]; exact hb, hj, rfl⟩
    · exact ⟨b', j, own_set_ne hb' e, hj, rfl⟩
  · intro k hk C e fz hc
    by_cases hki : k = i.blk
    · subst hki
      cases o with
      | cells l =>
        obtain ⟨C2, e2, h2, _⟩ := hrow l rfl
        rw [h2] at hc; cases hc; rfl
      | map l =>
        obtain ⟨es, c, h2, _⟩ := hmap l rfl
        rw [h2] at hc; cases hc
      | ro l => cases hro
    · rw [hh k hki] at hc
      rcases hk with hk | hk
      · exact Thaw.of_ge hk C e fz hc
      · exact hk C e fz hc

/-- A block is no longer looked at. -/
theorem post_drop {b : Nat} (r : Rel β h w) : Rel β (h.set b none) w := by
  have g : ∀ x, h.set b none x ≠ none → h x ≠ none := by
    intro x hx; unfold Mem.set at hx; split at hx
    · exact absurd rfl hx
    · exact hx
  refine ⟨fun b' l hl => ?_, fun b' l hl => ?_, fun b' l hl => ?_, fun b1 b2 j1 j2 h1 h2 => r.apart b1 b2 j1 j2 (own_none h1).1 (g _ h2)⟩
  · unfold Mem.set at hl; split at hl
    · cases hl
    · exact r.row b' l hl
  · unfold Mem.set at hl; split at hl
    · cases hl
    · exact r.map b' l hl
  · unfold Mem.set at hl; split at hl
    · cases hl
    · exact r.ro b' l hl
theorem img_drop {b k : Nat} (hk : Img β (h.set b none) k) : Img β h k := by
  obtain ⟨x, i, hx, hi, rfl⟩ := hk
  exact ⟨x, i, (own_none hx).1, hi, rfl⟩

/-- A block's name is given up for a new one that leads into the same block. -/
theorem post_move {b : Nat} {i j : BI} {l : List AV} (r : Rel β h w) (hb : Own h b) (hi : β b = some i) (f : β n = none) (hj : j.blk = i.blk)
    (hh : ∀ k, k ≠ i.blk → w'.heap[k]? = w.heap[k]?) (hs : w'.heap.size = w.heap.size) (hos : w'.os = w.os) (ht : w'.tape = w.tape) (ho : w'.output = w.output)
    (hrow : RowAt (β.set n j) j l w') :
    Post β h w n (β.set n j) ((h.set b none).set n (some (.cells l))) w' (n + 1) := by
  have hle := Ren.le_set (β := β) f j
  have hne : ∀ b' k, b' ≠ b → h b' ≠ none → β b' = some k → k.blk ≠ i.blk := fun b' k hn hb' hk he => hn (r.apart b b' i k hb hb' hi hk he.symm).symm
  have hbn : b ≠ n := fun e => by rw [e, f] at hi; cases hi
  have g : ∀ x, ((h.set b none).set n (some (.cells l))) x ≠ none → x = n ∨ (x ≠ n ∧ x ≠ b ∧ h x ≠ none) := by
    intro x hx
    by_cases e : x = n
    · exact .inl e
    · unfold Mem.set at hx
      rw [if_neg e] at hx
      by_cases e' : x = b
      · rw [if_pos e'] at hx; exact absurd rfl hx
      · rw [if_neg e'] at hx; exact .inr ⟨e, e', hx⟩
  have g' : ∀ x, Own ((h.set b none).set n (some (.cells l))) x → x = n ∨ (x ≠ n ∧ x ≠ b ∧ Own h x) := by
    intro x hx
    by_cases e : x = n
    · exact .inl e
    · have := own_none (own_set_ne hx e)
      exact .inr ⟨e, this.2, this.1⟩
  have gro : ∀ x l', ((h.set b none).set n (some (.cells l))) x = some (.ro l') → x ≠ n ∧ x ≠ b ∧ h x = some (.ro l') := by
    intro x l' hx
    obtain ⟨e, hx⟩ := ro_set rfl hx
    unfold Mem.set at hx; split at hx
    · cases hx
    · rename_i e'; exact ⟨e, e', hx⟩
  refine ⟨⟨?_, ?_, ?_, ?_⟩, fun x l' k => (gro x l' k).2.2, hle, fun b' hb' => Ren.set_other j (by omega), Nat.le_succ _, hos, ht, ho, by rw [hs]; exact Nat.le_refl _, ?_, ?_, ?_⟩
  · intro b' l' hl
    rcases g b' (by rw [hl]; simp) with e | ⟨e, e', hx⟩
    · subst e
      unfold Mem.set at hl; rw [if_pos rfl] at hl; cases hl
      exact ⟨j, Ren.set_self j, hrow⟩
    · unfold Mem.set at hl; rw [if_neg e, if_neg e'] at hl
      obtain ⟨k, hk, hr⟩ := r.row b' l' hl
      exact ⟨k, hle _ _ hk, (hr.heap (hh _ (hne b' k e' hx hk))).mono hle⟩
  · intro b' l' hl
    rcases g b' (by rw [hl]; simp) with e | ⟨e, e', hx⟩
    · subst e
      unfold Mem.set at hl; rw [if_pos rfl] at hl; cases hl
    · unfold Mem.set at hl; rw [if_neg e, if_neg e'] at hl
      obtain ⟨k, hk, hr⟩ := r.map b' l' hl
      exact ⟨k, hle _ _ hk, (hr.heap (hh _ (hne b' k e' hx hk))).mono hle⟩
  · intro b' l' hl
    obtain ⟨e, e', hl⟩ := gro b' l' hl
    obtain ⟨k, hk, hr⟩ := r.ro b' l' hl
    exact ⟨k, hle _ _ hk, (hr.heap (hh _ (hne b' k e' (by rw [hl]; simp) hk))).mono hle⟩
  · intro b1 b2 j1 j2 h1 h2 k1 k2 he
    rcases g' b1 h1 with e1 | ⟨e1, e1', x1⟩ <;> rcases g b2 h2 with e2 | ⟨e2, e2', x2⟩
    · rw [e1, e2]
    · rw [e1, Ren.set_self] at k1; rw [Ren.set_other j e2] at k2; cases k1
      exact absurd (by rw [← he, hj]) (hne b2 j2 e2' x2 k2)
    · rw [e2, Ren.set_self] at k2; rw [Ren.set_other j e1] at k1; cases k2
      exact absurd (by rw [he, hj]) (hne b1 j1 e1' x1.ne k1)
    · rw [Ren.set_other j e1] at k1; rw [Ren.set_other j e2] at k2
      exact r.apart b1 b2 j1 j2 x1 x2 k1 k2 he
  · intro k hk him
    exact hh k fun e => him ⟨b, i, hb, hi, e.symm⟩
  · rintro k ⟨b', k', hb', hk', rfl⟩
    left
    rcases g' b' hb' with e | ⟨e, e', hx⟩
    · rw [e, Ren.set_self] at hk'; cases hk'; exact ⟨b, i, hb, hi, hj.symm⟩
    · rw [Ren.set_other j e] at hk'; exact ⟨b', k', hx, hk', rfl⟩
  · intro k hk C e fz hc
    by_cases hki : k = i.blk
    · rw [hki, ← hj] at hc
      obtain ⟨C2, e2, h2, _⟩ := hrow
      rw [h2] at hc; cases hc; rfl
    · rw [hh k hki] at hc
      rcases hk with hk | hk
      · exact Thaw.of_ge hk C e fz hc
      · exact hk C e fz hc
end
end Go.Am
