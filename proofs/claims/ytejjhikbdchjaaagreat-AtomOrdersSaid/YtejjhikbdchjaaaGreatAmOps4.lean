/-
  AM: operations on memory: made, read, written.
-/
import Derived.Test.YtejjhikbdchjaaaGreatAmOps3
import Derived.Laws.AppendOwn
set_option linter.unusedSectionVars false
namespace Go.Am
variable [Vals]

section
variable {E : Env} {P : Program} {t : TypeId} {w : World} {β : Ren} {h : Mem} {n : Nat}

/-- Parts of a literal. -/
inductive PRs (β : Ren) : List (Nat × AV) → List (Nat × Value) → Prop
  | nil : PRs β [] []
  | cons (i v v' l l') (h : VR β v v') (hl : PRs β l l') : PRs β ((i, v) :: l) ((i, v') :: l')

theorem overV_get (o : Nat) (l vs : List Value) (hle : o + vs.length ≤ l.length) (k : Nat) : (overV o l vs)[k]? = if o ≤ k ∧ k < o + vs.length then vs[k - o]? else l[k]? := by
  unfold overV
  have ho : (l.take o).length = o := by simp; omega
  by_cases h1 : k < o
  · rw [if_neg (by omega), List.append_assoc, List.getElem?_append_left (by omega), List.getElem?_take, if_pos h1]
  · rw [List.append_assoc, List.getElem?_append_right (by omega), ho]
    by_cases h2 : k < o + vs.length
    · rw [if_pos ⟨by omega, h2⟩, List.getElem?_append_left (by omega)]
    · rw [if_neg (by omega), List.getElem?_append_right (by omega), List.getElem?_drop]
      congr 1; omega
theorem overV_length (o : Nat) (l vs : List Value) (hle : o + vs.length ≤ l.length) : (overV o l vs).length = l.length := by
  simp [overV]; omega

theorem fill_step (o : Nat) (cs : Array Value) (vs : Array Value) (hle : o + vs.size ≤ cs.size) :
    (vs.zipIdx.foldl (fun cs (c, j) => cs.setIfInBounds (o + j) c) cs).toList = overV o cs.toList vs.toList := by
  obtain ⟨g1, g2⟩ := Go.Great.foldl_set o vs.toList 0 cs
  have e : vs.zipIdx.foldl (fun cs (x : Value × Nat) => cs.setIfInBounds (o + x.2) x.1) cs = (vs.toList.zipIdx 0).foldl (fun cs (x : Value × Nat) => cs.setIfInBounds (o + x.2) x.1) cs := by
    rw [← Array.foldl_toList, Array.toList_zipIdx]
  show (vs.zipIdx.foldl (fun cs (x : Value × Nat) => cs.setIfInBounds (o + x.2) x.1) cs).toList = _
  rw [e]
  apply List.ext_getElem?
  intro k
  have hk := g2 k
  rw [overV_get _ _ _ (by simpa using hle)]
  simp only [Array.getElem?_toList, Nat.add_zero, Array.length_toList] at hk ⊢
  rw [hk]
  by_cases h1 : o ≤ k ∧ k < o + vs.size
  · rw [if_pos ⟨h1.1, h1.2, by omega⟩, if_pos h1]
  · rw [if_neg (by omega), if_neg h1]

theorem fill_rel {place place' : Nat → Option (Nat × Nat)} (hp : ∀ i o s, place i = some (o, s) → place' i = some (o, s)) {ps : List (Nat × AV)} {ps' : List (Nat × Value)} (hps : PRs β ps ps') :
    ∀ {cs r : List AV} {cs' : Array Value}, VRs β cs cs'.toList → putParts place ps (some cs) = some r → ∃ r', Instr.fill place' cs' ps' = some r' ∧ VRs β r r'.toList := by
  induction hps with
  | nil => intro cs r cs' hcs hr; cases hr; exact ⟨cs', rfl, hcs⟩
  | cons i v v' l l' hv hl ih =>
    intro cs r cs' hcs hr
    simp only [putParts] at hr
    cases hpl : place i with
    | none => rw [hpl] at hr; simp only [place1] at hr; cases l <;> cases hr
    | some os =>
      obtain ⟨o, s⟩ := os
      rw [hpl] at hr
      cases s with
      | zero => simp only [place1] at hr; cases l <;> cases hr
      | succ s =>
        simp only [place1] at hr
        cases hle : lenIs (s + 1) v.cells with
        | false => rw [hle] at hr; simp only [place2] at hr; cases l <;> cases hr
        | true =>
          rw [hle] at hr
          simp only [place2] at hr
          cases ho : over o cs v.cells with
          | none => rw [ho] at hr; cases l <;> cases hr
          | some cs2 =>
            rw [ho] at hr
            have hlen := lenIs_eq hle
            have hc := hv.cells (fun e => by rw [e] at hlen; cases hlen)
            obtain ⟨h1, h2⟩ := hcs.over hc ho
            have hsz : v'.cells.size = s + 1 := by have := hc.toList; omega
            have h2' : o + v'.cells.size ≤ cs'.size := by simpa using h2
            have hf := fill_step o cs' v'.cells h2'
            obtain ⟨r', h3, h4⟩ := ih (cs' := v'.cells.zipIdx.foldl (fun cs (c, j) => cs.setIfInBounds (o + j) c) cs') (by rw [hf]; exact h1) hr
            refine ⟨r', ?_, h4⟩
            unfold Instr.fill
            simp only [hp i o (s + 1) hpl]
            rw [if_neg (by simp; omega)]
            exact h3

theorem places_rel {fs : List Field} {places : List (Nat × Nat)} (hm : fs.mapM (fun f => (P.info? f.type).map fun i => (f.offset, i.size)) = some places) :
    ∀ {i : Nat} {f : Field} {inf : TypeInfo}, fs[i]? = some f → P.info? f.type = some inf → places[i]? = some (f.offset, inf.size) := by
  induction fs generalizing places with
  | nil => intro i f inf hi; simp at hi
  | cons g fs ih =>
    intro i f inf hi hinf
    simp only [List.mapM_cons, Option.bind_eq_bind, Option.pure_def] at hm
    cases hg : P.info? g.type with
    | none => simp [hg] at hm
    | some ig =>
      cases hr : fs.mapM (fun f => (P.info? f.type).map fun i => (f.offset, i.size)) with
      | none => simp [hg, hr] at hm
      | some rest =>
        simp [hg, hr] at hm
        subst hm
        cases i with
        | zero => simp at hi; subst hi; rw [hg] at hinf; cases hinf; rfl
        | succ i => simpa using ih hr (by simpa using hi) hinf
theorem places_some : ∀ (fs : List Field), (∀ f ∈ fs, ∃ i, P.info? f.type = some i) → ∃ places, fs.mapM (fun f => (P.info? f.type).map fun i => (f.offset, i.size)) = some places
  | [], _ => ⟨[], rfl⟩
  | g :: fs, h => by
    obtain ⟨rest, hr⟩ := places_some fs fun f hf => h f (by simp [hf])
    obtain ⟨i, hi⟩ := h g (by simp)
    exact ⟨(g.offset, i.size) :: rest, by simp [List.mapM_cons, hi, hr]⟩

theorem build_ok (ok : EnvOk E P) {ps : List (Nat × AV)} {ps' : Array (Nat × Value)} (hps : PRs β ps ps'.toList) : OK1 P β h w n (Instr.build t ps') (buildV E t ps) := by
  unfold buildV
  cases hu : und E t with
  | none => trivial
  | some d =>
    have hpu := ok_und ok hu
    cases hz : zeroOf E t with
    | none =>
      cases d <;> try trivial
      case struct fs => simp only [cellsO, build1, putParts, aggO, valO]; cases ps <;> trivial
      case array l e => simp only [cellsO, build1]; cases sizeT E e <;> (try trivial); simp only [build2, putParts, aggO, valO]; cases ps <;> trivial
    | some z =>
      obtain ⟨z', hz1, hz2⟩ := ok_run_zero (w := w) (β := β) ok hz
      have hzi : ∃ i, info E t = some i ∧ i.zero = some z' := by
        unfold zeroOf at hz
        cases hi : info E t with
        | none => rw [hi] at hz; cases hz
        | some i =>
          refine ⟨i, rfl, ?_⟩
          have := ok_run_info (w := w) ok hi
          simp only [zeroValue, Sem.run_bind, this, Result.andThen_ok] at hz1
          cases hzz : i.zero with
          | none => rw [hzz] at hz1; simp at hz1
          | some v => rw [hzz] at hz1; simp at hz1; rw [hz1]
      obtain ⟨it, hit, hitz⟩ := hzi
      have hpi := ok.types t it hit
      have mk : ∀ {place place' r}, (∀ i o s, place i = some (o, s) → place' i = some (o, s)) → putParts place ps (cellsO (some z)) = some r → (∀ cells, Instr.fill place' z'.cells ps'.toList = some cells → (P.built t ps'.toList) = some cells) →
          OK1 P β h w n (Instr.build t ps') (.val (.agg r)) := by
        intro place place' r hpl hr hb
        simp only [cellsO] at hr
        cases hzc : z.cells with
        | nil => rw [hzc] at hr; cases ps <;> cases hr
        | cons c l =>
          rw [hzc] at hr
          simp only [cellsN] at hr
          rw [← hzc] at hr
          obtain ⟨r', h1, h2⟩ := fill_rel hpl hps (hz2.cells (by rw [hzc]; simp)) hr
          exact ⟨.agg r', run_build w t ps' r' (hb r' h1), .agg _ _ h2⟩
      cases d <;> try trivial
      case struct fs =>
        simp only [build1]
        cases hr : putParts (placeF E fs.toList) ps (cellsO (some z)) with
        | none => trivial
        | some r =>
          simp only [aggO, valO]
          obtain ⟨places, hm⟩ := places_some fs.toList (ok.structs t fs hu)
          refine mk (place' := (places.toArray[·]?)) ?_ hr ?_
          · intro i o s hi
            unfold placeF at hi
            cases hf : nth i fs.toList with
            | none => rw [hf] at hi; cases hi
            | some f =>
              rw [hf] at hi
              simp only [placeF1] at hi
              cases hs : sizeT E f.type with
              | none => rw [hs] at hi; cases hi
              | some s' =>
                rw [hs] at hi
                simp only [offSize, Option.some.injEq, Prod.mk.injEq] at hi
                obtain ⟨rfl, rfl⟩ := hi
                obtain ⟨inf, _, hsz, hpf⟩ := ok_size ok hs
                have := places_rel hm (nth_list hf) hpf
                rw [hsz] at this
                simpa using this
          · intro cells hc
            have hc' : Instr.fill (fun x => places[x]?) z'.cells ps'.toList = some cells := by simpa using hc
            simp [Program.built, hpi, hpu, hitz, hm, hc']
      case array len e =>
        simp only [build1]
        cases hs : sizeT E e with
        | none => trivial
        | some s =>
          simp only [build2]
          cases hr : putParts (placeA s) ps (cellsO (some z)) with
          | none => trivial
          | some r =>
            simp only [aggO, valO]
            obtain ⟨inf, _, hsz, hpf⟩ := ok_size ok hs
            refine mk (place' := fun i => some (i * s, s)) (fun i o s' hi => hi) hr ?_
            intro cells hc
            simp only [Program.built, hpi, hpu, hitz, hpf, hsz, hc]

theorem set_of_put {H H' : Heap} {b : Nat} {o : Option AO} (hp : Tr.put depth H b o = some H') : H'.get = Mem.set H.get b o := by
  funext j; exact Tr.put_spec hp j

/-- A new block. -/
theorem fresh_ok {H : Heap} {o : AO} {v : Nat → AV} {s : Sem Value} {w' : World} {obj : Obj} {i : BI} {cv : Value} (r : Rel β H.get w) (hi : i.blk = w.heap.size)
    (hrun : s.run P w = .ok cv w') (hh : w'.heap = w.heap.push obj) (hos : w'.os = w.os) (ht : w'.tape = w.tape) (ho : w'.output = w.output)
    (hv : β n = none → VR (β.set n i) (v n) cv)
    (hrow : β n = none → ∀ l, o = .cells l → RowAt (β.set n i) i l w') (hmap : β n = none → ∀ l, o = .map l → MapAt (β.set n i) i l w') (hro : o.own = true := by rfl) :
    OK1 P β H.get w n s (fresh H n o v) := by
  unfold fresh
  cases hp : Tr.put depth H n (some o) with
  | none => trivial
  | some H' =>
    simp only [fresh1, natS_eq, freshR]
    intro hf
    have hn : β n = none := hf n (Nat.le_refl _) (Nat.lt_succ_self _)
    have p := post_new r hn hi hh hos ht ho (hrow hn) (hmap hn) hro
    rw [← set_of_put hp] at p
    exact ⟨cv, w', β.set n i, hrun, hv hn, p⟩

/-- A new row of cells. -/
theorem row_new {i : BI} {l : List AV} {C : Array Value} {e : TypeId} {w' : World} (hi : i.blk = w.heap.size) (hsh : i.sh = 0) (hsz : i.sz = C.size)
    (hh : w'.heap = w.heap.push (.cells C e)) (hl : VRs β l (C.toList.take l.length)) (hle : l.length ≤ C.size) : RowAt β i l w' := by
  refine ⟨C, e, ?_, by omega, by omega, by rw [hsh, List.drop_zero]; exact hl⟩
  rw [hh, hi, Array.getElem?_push_size]

theorem alloc_ok (ok : EnvOk E P) {H : Heap} (r : Rel β H.get w) : OK1 P β H.get w n (Instr.alloc t true (.tuple #[])) (allocV (zeroOf E t) H n) := by
  cases hz : zeroOf E t with
  | none => trivial
  | some z =>
    obtain ⟨z', hz1, hz2⟩ := ok_run_zero (w := w) (β := β) ok hz
    simp only [allocV]
    refine fresh_ok (i := ⟨w.heap.size, 0, z'.cells.size⟩) (obj := .cells z'.cells t) (w' := w.alloc (.cells z'.cells t)) (cv := .pointer (some ⟨w.heap.size, 0, none⟩)) r rfl ?_ rfl rfl rfl rfl ?_ ?_ ?_
    · simp [Instr.alloc, hz1, newVar, newRow]
    · intro hn; exact .ptr n 0 _ (Ren.set_self _)
    · intro hn l e; cases e
      obtain ⟨h1, h2⟩ := hz2.cellsPart
      exact row_new rfl rfl rfl rfl (VRs.mono (Ren.le_set hn _) h1) h2
    · intro hn l e; cases e

theorem box_ok {H : Heap} {v : AV} {v' : Value} (r : Rel β H.get w) (hv : VR β v v') : OK1 P β H.get w n (Instr.box t v') (boxV v H n) := by
  unfold boxV
  refine fresh_ok (i := ⟨w.heap.size, 0, v'.cells.size⟩) (obj := .cells v'.cells t) (w' := w.alloc (.cells v'.cells t)) (cv := .pointer (some ⟨w.heap.size, 0, none⟩)) r rfl ?_ rfl rfl rfl rfl ?_ ?_ ?_
  · simp [Instr.box, newVar, newRow]
  · intro hn; exact .ptr n 0 _ (Ren.set_self _)
  · intro hn l e; cases e
    obtain ⟨h1, h2⟩ := hv.cellsPart
    exact row_new rfl rfl rfl rfl (VRs.mono (Ren.le_set hn _) h1) h2
  · intro hn l e; cases e

theorem makeMap_ok {H : Heap} {x : Option Operand} (r : Rel β H.get w) (f : Operand → Value) : OK1 P β H.get w n (Instr.makeMap t (x.map f)) (mkMap x H n) := by
  cases x with
  | some x => trivial
  | none =>
    simp only [mkMap]
    refine fresh_ok (i := ⟨w.heap.size, 0, 0⟩) (obj := .map #[] 0) (w' := w.alloc (.map #[] 0)) (cv := .map (some w.heap.size)) r rfl ?_ rfl rfl rfl rfl ?_ ?_ ?_
    · simp [Instr.makeMap]
    · intro hn; exact .map n _ (Ren.set_self _)
    · intro hn l e; cases e
    · intro hn l e; cases e
      exact ⟨#[], 0, by rw [show (w.alloc (.map #[] 0)).heap = w.heap.push (.map #[] 0) from rfl]; exact Array.getElem?_push_size, .nil⟩

/-- So many zero values. -/
theorem zero_rep (z : Array Value) (hz : z.size ≠ 0) : ∀ k, ((Array.range (k * z.size)).map (z[· % z.size]!)).toList = (List.replicate k z.toList).flatten := by
  intro k
  apply List.ext_getElem?
  intro j
  have hlen : ∀ k, (List.replicate k z.toList).flatten.length = k * z.size := by intro k; simp
  by_cases hj : j < k * z.size
  · have hq : j % z.size < z.size := Nat.mod_lt _ (by omega)
    have lhs : (((Array.range (k * z.size)).map (z[· % z.size]!)).toList)[j]? = some (z[j % z.size]'hq) := by
      simp [hj, getElem!_pos, hq]
    rw [lhs]
    clear lhs
    induction k generalizing j with
    | zero => simp at hj
    | succ k ih =>
      rw [List.replicate_succ, List.flatten_cons]
      by_cases h1 : j < z.size
      · rw [List.getElem?_append_left (by simpa using h1)]
        simp [Nat.mod_eq_of_lt h1, h1]
      · have h2 : j - z.size < k * z.size := by rw [Nat.succ_mul] at hj; omega
        rw [List.getElem?_append_right (by simpa using Nat.le_of_not_lt h1)]
        have e := ih (j := j - z.size) h2 (Nat.mod_lt _ (by omega))
        have em : (j - z.size) % z.size = j % z.size := (Nat.mod_eq_sub_mod (by omega)).symm
        simp only [em] at e
        simpa using e
  · rw [List.getElem?_eq_none (by simp; omega), List.getElem?_eq_none (by rw [hlen]; omega)]
end
end Go.Am
