/-
  AM: operations on memory (on): reading, writing, slices of slices, copies, lengths.
-/
import Derived.Test.YtejjhikbdchjaaaGreatAmOps5
set_option linter.unusedSectionVars false
namespace Go.Am
variable [Vals]

section
variable {E : Env} {P : Program} {t : TypeId} {w : World} {β : Ren} {n : Nat}

theorem RowAt.ro {i : BI} {l : List AV} (r : RowAt β i l w) : RoAt β i l w := by
  obtain ⟨C, e, h⟩ := r; exact ⟨C, e, _, h⟩
theorem RoAt.row {i : BI} {l : List AV} (r : RoAt β i l w) : ∃ L' : List Value, VRs β l L' ∧ ∀ j v, L'[j]? = some v → w.cell? ⟨i.blk, i.sh + j, none⟩ = some v := by
  obtain ⟨C, e, f, h1, h2, h3, h4⟩ := r
  refine ⟨_, h4, fun j v hj => ?_⟩
  rw [cell_of_row w i.blk (i.sh + j) C e f h1]
  rw [List.getElem?_take] at hj
  split at hj
  · rw [List.getElem?_drop] at hj; simpa using hj
  · cases hj
theorem RowAt.row {i : BI} {l : List AV} (r : RowAt β i l w) : ∃ L' : List Value, VRs β l L' ∧ ∀ j v, L'[j]? = some v → w.cell? ⟨i.blk, i.sh + j, none⟩ = some v := r.ro.row
/-- The cells of a row, to be read. -/
def AO.rd : AO → Option (List AV)
  | .cells l => some l
  | .ro l => some l
  | .map _ => none
theorem Rel.rd {H : Mem} {b : Nat} {o : AO} {l : List AV} {i : BI} (r : Rel β H w) (hb : H b = some o) (ho : o.rd = some l) (hi : β b = some i) : RoAt β i l w := by
  cases o with
  | cells l' => cases ho; obtain ⟨j, hj, k⟩ := r.row b _ hb; rw [hi] at hj; cases hj; exact k.ro
  | ro l' => cases ho; obtain ⟨j, hj, k⟩ := r.ro b _ hb; rw [hi] at hj; cases hj; exact k
  | map m => cases ho

/-- A value read. -/
theorem loadVar_rel (ok : EnvOk E P) {H : Mem} {b o : Nat} {i : BI} {v : AV} (r : Rel β H w) (hi : β b = some i) (hl : load1 (H b) E t o = some v) :
    ∃ v', (loadVar t ⟨i.blk, i.sh + o, none⟩).run P w = .ok v' w ∧ VR β v v' := by
  cases hb : H b with
  | none => rw [hb] at hl; cases hl
  | some ob =>
    rw [hb] at hl
    have key : ∃ l, ob.rd = some l ∧ partOf E t l o = some v := by
      cases ob with
      | map m => cases hl
      | cells l => exact ⟨l, rfl, hl⟩
      | ro l => exact ⟨l, rfl, hl⟩
    obtain ⟨l, hrd, hl⟩ := key
    · obtain ⟨L', hL, hcell⟩ := (r.rd hb hrd hi).row
      unfold partOf at hl
      cases ha : isAgg E t with
      | none => rw [ha] at hl; cases hl
      | some g =>
        rw [ha] at hl
        cases g with
        | false =>
          simp only [part1] at hl
          obtain ⟨v', h1, h2⟩ := hL.nth hl
          refine ⟨v', ?_, h2⟩
          simp [loadVar, ok_run_isAgg ok ha, hcell o v' h1]
        | true =>
          simp only [part1] at hl
          cases hs : sizeT E t with
          | none => rw [hs] at hl; cases hl
          | some s =>
            rw [hs] at hl
            simp only [part2] at hl
            cases hq : subL l o s with
            | none => rw [hq] at hl; cases hl
            | some q =>
              rw [hq] at hl; cases hl
              obtain ⟨h1, h2, h3⟩ := subL_rel hL hq
              have hlen : ((L'.drop o).take s).length = s := by simp; omega
              have hrun := run_loadCells_list (P := P) w ⟨i.blk, i.sh + o, none⟩ ((L'.drop o).take s) (by
                intro j u hj
                rw [Addr.add_lit, Nat.add_assoc]
                apply hcell
                rw [List.getElem?_take] at hj
                split at hj
                · rwa [List.getElem?_drop] at hj
                · cases hj)
              rw [hlen] at hrun
              exact ⟨.agg ((L'.drop o).take s).toArray, by simp [loadVar, ok_run_isAgg ok ha, ok_run_size ok hs, hrun], .agg _ _ (by simpa using h1)⟩

theorem load_ok (ok : EnvOk E P) {H : Heap} {x : AV} {x' : Value} (r : Rel β H.get w) (hx : VR β x x') : OK1 P β H.get w n (Instr.loadAt t x') (loadV x E H t) := by
  cases hx with
  | ptr b o i hi =>
    simp only [loadV]
    cases hl : loadAt E H t b o with
    | none => trivial
    | some v =>
      obtain ⟨v', h1, h2⟩ := loadVar_rel ok r hi hl
      exact ⟨v', by simp [Instr.loadAt, Instr.sureAddr, h1], h2⟩
  | _ => trivial

theorem plain_one {v : AV} {v' : Value} (h : VR β v v') (hp : plain v = true) : v'.oneCell' = true := by
  cases h <;> first | rfl | cases hp
theorem plainL_one : ∀ {l : List AV} {l' : List Value}, VRs β l l' → plainL l = true → ∀ v ∈ l', v.oneCell' = true
  | _, _, .nil, _ => by simp
  | _, _, .cons v v' l l' h hl, hp => by
    simp only [plainL] at hp
    rw [band_eq] at hp
    intro u hu
    rcases List.mem_cons.1 hu with rfl | hu
    · exact plain_one h hp.1
    · exact plainL_one hl hp.2 u hu

/-- Cells written into a block. -/
theorem store_raw {i : BI} {C : Array Value} {e : TypeId} {vs : List Value} {p : Nat} (hC : w.heap[i.blk]? = some (.cells C e (0, 0))) (hsz : i.sh + i.sz ≤ C.size) (hp : p + vs.length ≤ i.sz) (h1 : ∀ v ∈ vs, v.oneCell' = true) :
    ∃ C' : Array Value, (storeCells ⟨i.blk, i.sh + p, none⟩ vs).run P w = .ok () (w.setRow i.blk C') ∧ C'.size = C.size ∧ C'.toList.drop i.sh = overV p (C.toList.drop i.sh) vs ∧
      (w.setRow i.blk C').heap[i.blk]? = some (.cells C' e (0, 0)) := by
  have hr := run_storeCells_at P i.blk (i.sh + p) e vs 0 C w hC (by omega) h1
  refine ⟨_, hr, ?_, ?_, setRow_heap w i.blk C _ e _ hC⟩
  · simp; omega
  · have e1 : (C.toList.take (i.sh + p + 0) ++ vs ++ C.toList.drop (i.sh + p + 0 + vs.length)).toArray.toList = overV (i.sh + p) C.toList vs := by simp [overV]
    rw [e1]
    apply List.ext_getElem?
    intro k
    rw [List.getElem?_drop, overV_get _ _ _ (by simp; omega), overV_get _ _ _ (by simp; omega), List.getElem?_drop]
    by_cases hk : p ≤ k ∧ k < p + vs.length
    · rw [if_pos (by omega), if_pos hk]; congr 1; omega
    · rw [if_neg (by omega), if_neg hk]

/-- .. what AM looks at, too. -/
theorem poke_rel {H : Mem} {b o : Nat} {i : BI} {l l2 vs : List AV} {vs' : List Value} (r : Rel β H w) (hb : H b = some (.cells l)) (hi : β b = some i) (hvs : VRs β vs vs') (hp : plainL vs = true) (ho : over o l vs = some l2) :
    ∃ w', (storeCells ⟨i.blk, i.sh + o, none⟩ vs').run P w = .ok () w' ∧ Post β H w n β (H.set b (some (.cells l2))) w' n := by
  obtain ⟨i', hi', C, e, hC, h2, h3, h4⟩ := r.row b l hb
  rw [hi] at hi'; cases hi'
  have hov := h4.over hvs ho
  have hlen : ((C.toList.drop i.sh).take l.length).length = l.length := by simp; omega
  rw [hlen] at hov
  obtain ⟨C', hrun, hs, hd, hh⟩ := store_raw (P := P) (p := o) hC h2 (by have := hov.2; omega) (plainL_one hvs hp)
  refine ⟨_, hrun, post_set r (Own.cells hb) hi (fun k hk => setRow_other w i.blk k C' hk) (size_setRow w i.blk C') rfl rfl rfl ?_ (by intro x e; cases e)⟩
  intro x ex; cases ex
  have hl2 := over_length ho
  refine ⟨C', e, hh, by omega, by omega, ?_⟩
  rw [hd, hl2]
  have e1 : (overV o (C.toList.drop i.sh) vs').take l.length = overV o ((C.toList.drop i.sh).take l.length) vs' := by
    apply List.ext_getElem?
    intro k
    rw [List.getElem?_take, overV_get _ _ _ (by simp; have := hov.2; omega), overV_get _ _ _ (by rw [hlen]; exact hov.2), List.getElem?_take]
    by_cases hk : k < l.length
    · rw [if_pos hk, if_pos hk]
    · rw [if_neg hk, if_neg hk, if_neg (by have := hov.2; omega)]
  rw [e1]; exact hov.1

theorem poke_ok {H H' : Heap} {b o : Nat} {i : BI} {vs : List AV} {vs' : List Value} (r : Rel β H.get w) (hi : β b = some i) (hvs : VRs β vs vs') (hp : poke H b o vs = some H') :
    ∃ w', (storeCells ⟨i.blk, i.sh + o, none⟩ vs').run P w = .ok () w' ∧ Post β H.get w n β H'.get w' n := by
  unfold poke at hp
  cases hb : H.get b with
  | none => rw [hb] at hp; cases hp
  | some ob =>
    rw [hb] at hp
    cases ob with
    | map m => cases hp
    | ro l => cases hp
    | cells l =>
      simp only [poke1] at hp
      cases hpl : plainL vs with
      | false => rw [hpl] at hp; cases hp
      | true =>
        rw [hpl] at hp
        simp only [poke2] at hp
        cases ho : over o l vs with
        | none => rw [ho] at hp; cases hp
        | some l2 =>
          rw [ho] at hp
          simp only [setRow] at hp
          rw [set_of_put hp]
          exact poke_rel r hb hi hvs hpl ho

theorem store_ok (ok : EnvOk E P) {H : Heap} {x v : AV} {x' v' : Value} (r : Rel β H.get w) (hx : VR β x x') (hv : VR β v v') : OK1 P β H.get w n (do Instr.storeAt t x' v'; pure (.tuple #[])) (storeV x E H n t v) := by
  cases hx with
  | ptr b o i hi =>
    simp only [storeV]
    cases hl : storeAt E H t b o v with
    | none => trivial
    | some H' =>
      unfold storeAt at hl
      cases hs : sizeT E t with
      | none => rw [hs] at hl; cases hl
      | some s =>
        rw [hs] at hl
        cases s with
        | zero => cases hl
        | succ s =>
          simp only [store1] at hl
          cases hle : lenIs (s + 1) v.cells with
          | false => rw [hle] at hl; cases hl
          | true =>
            rw [hle] at hl
            simp only [store2] at hl
            have hlen := lenIs_eq hle
            have hc := hv.cells (fun e => by rw [e] at hlen; cases hlen)
            obtain ⟨w', h1, h2⟩ := poke_ok (P := P) (n := n) r hi hc hl
            intro _
            have hsz : v'.cells.size = s + 1 := by have := hc.toList; omega
            exact ⟨.tuple #[], w', β, by simp [Instr.storeAt, Instr.sureAddr, storeVar, ok_run_size ok hs, hsz, h1], .tup _ _ .nil, h2⟩
  | _ => trivial

/-- Bounds of a slice expression, and what they come to. -/
inductive OptVR (β : Ren) : Option AV → Option Value → Prop
  | none : OptVR β none none
  | some (v v') (h : VR β v v') : OptVR β (some v) (some v')

theorem bound_run {lo : Option AV} {lo' : Option Value} {d l y : Nat} {code : BoundsCode} (hb : bound lo d = some l) (h : OptVR β lo lo') (hle : l ≤ y) :
    (lo = none ∧ lo' = none ∧ l = d) ∨ ∃ v, lo ≠ none ∧ lo' = some v ∧ (Instr.sliceBound v y code).run P w = .ok l w := by
  cases h with
  | none => cases hb; exact .inl ⟨rfl, rfl, rfl⟩
  | some v v' hv =>
    right
    cases hv with
    | int k i =>
      cases i with
      | negSucc i => cases hb
      | ofNat i =>
        cases hb
        refine ⟨_, by simp, rfl, ?_⟩
        simp [Instr.sliceBound, asIntOf, hle]
    | _ => cases hb

theorem bounds_run {lo hi mx : Option AV} {lo' hi' mx' : Option Value} {len c c' l hh m : Nat} (hlo : OptVR β lo lo') (hhi : OptVR β hi hi') (hmx : OptVR β mx mx')
    (bl : bound lo 0 = some l) (bh : boundH mx hi len = some hh) (bm : bound mx c = some m) (h1 : l ≤ hh) (h2 : hh ≤ m) (h3 : m ≤ c) (hc : c ≤ c') :
    ∃ mr, (Instr.sliceBounds true len c' lo' hi' mx').run P w = .ok (l, hh, mr) w ∧ m ≤ mr ∧ mr ≤ c' ∧ (mx ≠ none → mr = m) ∧ (mx = none → mr = c' ∧ m = c) := by
  rcases bound_run (P := P) (w := w) (y := c') (code := .slice3Acap) bm hmx (by omega) with ⟨rfl, rfl, rfl⟩ | ⟨vm, hm0, rfl, hm⟩
  · refine ⟨c', ?_, by omega, Nat.le_refl _, fun e => absurd rfl e, fun _ => ⟨rfl, rfl⟩⟩
    have bh' : bound hi len = some hh := by cases hi <;> exact bh
    rcases bound_run (P := P) (w := w) (y := c') (code := .sliceAcap) bh' hhi (by omega) with ⟨rfl, rfl, rfl⟩ | ⟨vh, hh0, rfl, hhr⟩
    · rcases bound_run (P := P) (w := w) (y := hh) (code := .sliceB) bl hlo h1 with ⟨rfl, rfl, rfl⟩ | ⟨vl, hl0, rfl, hlr⟩
      · simp [Instr.sliceBounds]
      · simp [Instr.sliceBounds, hlr]
    · rcases bound_run (P := P) (w := w) (y := hh) (code := .sliceB) bl hlo h1 with ⟨rfl, rfl, rfl⟩ | ⟨vl, hl0, rfl, hlr⟩
      · simp [Instr.sliceBounds, hhr]
      · simp [Instr.sliceBounds, hhr, hlr]
  · refine ⟨m, ?_, Nat.le_refl _, by omega, fun _ => rfl, fun e => absurd e hm0⟩
    have bh' : bound hi len = some hh ∧ hi ≠ none := by
      cases hmx with
      | some _ _ _ => cases hhi with
        | none => cases bh
        | some _ _ _ => exact ⟨bh, by simp⟩
    rcases bound_run (P := P) (w := w) (y := m) (code := .slice3B) bh'.1 hhi h2 with ⟨rfl, rfl, rfl⟩ | ⟨vh, hh0, rfl, hhr⟩
    · exact absurd rfl bh'.2
    · rcases bound_run (P := P) (w := w) (y := hh) (code := .slice3C) bl hlo h1 with ⟨rfl, rfl, rfl⟩ | ⟨vl, hl0, rfl, hlr⟩
      · simp [Instr.sliceBounds, hm, hhr]
      · simp [Instr.sliceBounds, hm, hhr, hlr]
end
end Go.Am
