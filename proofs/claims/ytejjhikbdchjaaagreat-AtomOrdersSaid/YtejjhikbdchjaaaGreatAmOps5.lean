/-
  AM: operations on memory (on): slices, reading, writing.
-/
import Derived.Test.YtejjhikbdchjaaaGreatAmOps4
set_option linter.unusedSectionVars false
namespace Go.Am
variable [Vals]

section
variable {E : Env} {P : Program} {t : TypeId} {w : World} {β : Ren} {n : Nat}

theorem zc_rel (ok : EnvOk E P) {e : TypeId} {s : Nat} {z : List AV} (hz : zc E e s = some z) : ∃ z', (zeroValue e).run P w = .ok z' w ∧ VRs β z z'.cells.toList ∧ z'.cells.size = s ∧ s ≠ 0 := by
  unfold zc at hz
  cases h0 : zeroOf E e with
  | none => rw [h0] at hz; cases hz
  | some v =>
    rw [h0] at hz
    obtain ⟨z', h1, h2⟩ := ok_run_zero (w := w) (β := β) ok h0
    cases s with
    | zero => cases hz
    | succ s =>
      simp only [zcO, zc1] at hz
      cases hl : lenIs (s + 1) v.cells with
      | false => rw [hl] at hz; cases hz
      | true =>
        rw [hl] at hz
        cases hz
        have hlen := lenIs_eq hl
        have hc := h2.cells (fun e => by rw [e] at hlen; cases hlen)
        exact ⟨z', h1, hc, by have := hc.toList; omega, by omega⟩

theorem over0_length : ∀ {l vs r : List AV}, over0 l vs = some r → r.length = l.length
  | l, [], r, h => by cases l <;> cases h <;> rfl
  | [], _ :: _, _, h => by cases h
  | x :: l, v :: vs, r, h => by
    simp only [over0, consO] at h
    split at h
    · cases h
    · rename_i r' hr'; cases h; simp [over0_length hr']
theorem over_length : ∀ {o : Nat} {l vs r : List AV}, over o l vs = some r → r.length = l.length
  | 0, l, vs, r, h => over0_length h
  | _ + 1, [], _, _, h => by cases h
  | o + 1, x :: l, vs, r, h => by
    simp only [over, consO] at h
    split at h
    · cases h
    · rename_i r' hr'; cases h; simp [over_length hr']

theorem map_range0 {α : Type} (f : Nat → α) : (Array.range 0).map f = #[] := Array.eq_empty_of_size_eq_zero (by simp)

/-- A row of zero values. -/
theorem zeros_rel (ok : EnvOk E P) {e : TypeId} {s k : Nat} {l : List AV} (hl : repsO k (zc E e s) = some l) :
    ∃ z', (zeroValue e).run P w = .ok z' w ∧ z'.cells.size = s ∧ s ≠ 0 ∧ VRs β l ((Array.range (k * s)).map (z'.cells[· % z'.cells.size]!)).toList := by
  cases hz : zc E e s with
  | none => rw [hz] at hl; cases hl
  | some z =>
    rw [hz] at hl
    obtain ⟨z', h1, h2, h3, h4⟩ := zc_rel (w := w) (β := β) ok hz
    refine ⟨z', h1, h3, h4, ?_⟩
    have hr := h2.reps hl
    have e := zero_rep z'.cells (by omega) k
    rw [h3] at e
    rw [h3, e]
    exact hr

theorem wrap64 {m : Nat} (h : m ≤ 4611686018427387904) : IntKind.i64.wrap (m : Int) = m := by
  simp [IntKind.wrap, IntKind.bits, IntKind.signed]; omega

theorem makeSlice_ok (ok : EnvOk E P) {H : Heap} {l c : AV} {l' c' : Value} (r : Rel β H.get w) (hl : VR β l l') (hc : VR β c c') : OK1 P β H.get w n (Instr.makeSlice t l' c') (makeSliceV E H n t l c) := by
  unfold makeSliceV
  cases hu : und E t with
  | none => trivial
  | some d =>
    have hr := ok_run_und (w := w) ok hu
    cases d with
    | slice e =>
      cases hl with
      | int k l =>
        cases l with
        | negSucc l => trivial
        | ofNat l =>
          cases hc with
          | int k2 c =>
            cases c with
            | negSucc c => trivial
            | ofNat c =>
              simp only [msl1, natS_eq]
              cases hi : info E e with
              | none => trivial
              | some j =>
                simp only [msl2]
                cases hb : band (Nat.ble l c) (band (Nat.ble c 1048576) (Nat.ble (Nat.mul j.bytes c) 1048576)) with
                | false => trivial
                | true =>
                  rw [band_eq, band_eq] at hb
                  obtain ⟨h1, h2, h3⟩ := hb
                  have h1 := ble_iff.1 h1
                  have h2 := ble_iff.1 h2
                  have h3 : j.bytes * c ≤ 1048576 := ble_iff.1 h3
                  simp only [msl3]
                  cases hf : repsO c (zc E e j.size) with
                  | none => trivial
                  | some row =>
                    obtain ⟨z', hz1, hz2, hz3, hz4⟩ := zeros_rel (w := w) (β := β) ok hf
                    have hpi := ok.types e j hi
                    have hti := ok_run_info (w := w) ok hi
                    simp only [freshO]
                    have hlen := hz4.length
                    simp at hlen
                    refine fresh_ok (i := ⟨w.heap.size, 0, c * j.size⟩) (w' := w.alloc (.cells ((Array.range (c * j.size)).map (z'.cells[· % z'.cells.size]!)) e)) (obj := .cells ((Array.range (c * j.size)).map (z'.cells[· % z'.cells.size]!)) e)
                      (cv := .slice (some ⟨w.heap.size, 0, none⟩) l c) r rfl ?_ rfl rfl rfl rfl ?_ ?_ ?_
                    · have w1 : IntKind.i64.wrap (l : Int) = l := wrap64 (by omega)
                      have w2 : IntKind.i64.wrap (c : Int) = c := wrap64 (by omega)
                      have b1 : ¬ ((281474976710656 : Int) < (j.bytes : Int) * (c : Int)) := by
                        have : (j.bytes : Int) * (c : Int) = ((j.bytes * c : Nat) : Int) := by simp
                        rw [this]; omega
                      have b2 : ¬ ((c : Int) < (l : Int)) := by omega
                      have b3 : ¬ ((c : Int) < 0) := by omega
                      have b4 : ¬ ((l : Int) < 0) := by omega
                      by_cases hc0 : c = 0
                      · subst hc0
                        have l0 : l = 0 := by omega
                        subst l0
                        have w0 : IntKind.i64.wrap 0 = 0 := rfl
                        simp [Instr.makeSlice, hr, asInt, asIntOf, hti, w0, sizeOf, newRow, map_range0]
                      · have hne : ¬ (c * j.size = 0) := Nat.mul_ne_zero hc0 hz3
                        simp [Instr.makeSlice, hr, asInt, asIntOf, hti, w1, w2, b1, b2, b3, b4, sizeOf, newRow, hz1, hne]
                    · intro hn
                      refine .slice n 0 l c c true j.size _ (Ren.set_self _) (Nat.le_refl _) h1 (fun _ => rfl) ?_
                      simp
                    · intro hn x ex; cases ex
                      refine row_new rfl rfl (by simp) rfl (VRs.mono (Ren.le_set hn _) ?_) (by simp; omega)
                      rw [List.take_of_length_le (by simp; omega)]
                      exact hz4
                    · intro hn x ex; cases ex
          | _ => trivial
      | _ => trivial
    | _ => trivial

theorem buildSlice_ok (ok : EnvOk E P) {H : Heap} {len : Nat} {ps : List (Nat × AV)} {ps' : Array (Nat × Value)} (r : Rel β H.get w) (hps : PRs β ps ps'.toList) :
    OK1 P β H.get w n (Instr.buildSlice t len ps') (buildSliceV E H n t len ps) := by
  unfold buildSliceV
  cases hu : und E t with
  | none => trivial
  | some d =>
    have hr := ok_run_und (w := w) ok hu
    cases d with
    | slice e =>
      simp only [bsl1]
      cases hs : sizeT E e with
      | none => trivial
      | some s =>
        simp only [bsl2]
        cases hb : Nat.ble (Nat.mul len s) 16777216 with
        | false => trivial
        | true =>
          have hb : len * s ≤ 16777216 := ble_iff.1 hb
          simp only [bsl3]
          cases hf : repsO len (zc E e s) with
          | none => simp only [putParts]; cases ps <;> trivial
          | some row =>
            cases hq : putParts (placeA s) ps (some row) with
            | none => trivial
            | some all =>
              obtain ⟨z', hz1, hz2, hz3, hz4⟩ := zeros_rel (w := w) (β := β) ok hf
              obtain ⟨r', hr1, hr2⟩ := fill_rel (place' := fun i => some (i * s, s)) (fun i o s' hi => hi) hps hz4 hq
              have hss := ok_run_size (w := w) ok hs
              simp only [freshO]
              have hsz : r'.size = len * s := by
                have e1 := hr2.toList
                have e2 := hz4.toList
                simp at e2
                have e3 : all.length = row.length := by
                  clear hr1 hr2 e1 e2 hz4 hf
                  induction ps generalizing row ps' with
                  | nil => cases hq; rfl
                  | cons p ps ih =>
                    obtain ⟨i, v⟩ := p
                    simp only [putParts] at hq
                    cases hpl : place1 (placeA s i) row v.cells with
                    | none => rw [hpl] at hq; cases ps <;> cases hq
                    | some row2 =>
                      rw [hpl] at hq
                      obtain ⟨ps''⟩ := ps'
                      cases hps with
                      | cons _ _ v' _ l' hv hl =>
                        rw [ih (ps' := ⟨l'⟩) hl row2 hq]
                        unfold placeA place1 at hpl
                        cases s with
                        | zero => cases hpl
                        | succ s =>
                          simp only at hpl
                          cases hle : lenIs (s + 1) v.cells with
                          | false => rw [hle] at hpl; cases hpl
                          | true =>
                            rw [hle] at hpl
                            simp only [place2] at hpl
                            exact over_length hpl
                omega
              refine fresh_ok (i := ⟨w.heap.size, 0, len * s⟩) (w' := w.alloc (.cells r' e)) (obj := .cells r' e)
                (cv := .slice (some ⟨w.heap.size, 0, none⟩) len len) r rfl ?_ rfl rfl rfl rfl ?_ ?_ ?_
              · have b1 : ¬ (16777216 < len * s) := by omega
                by_cases h0 : len = 0
                · subst h0
                  have hr1' : Instr.fill (fun i => some (i * s, s)) #[] ps'.toList = some r' := by simpa [map_range0] using hr1
                  simp [Instr.buildSlice, hr, hss, newRow, map_range0, hr1']
                · have hne : ¬ (len * s = 0) := Nat.mul_ne_zero h0 hz3
                  simp [Instr.buildSlice, hr, hss, b1, hne, hz1, newRow, hr1]
              · intro hn
                exact .slice n 0 len len len true s _ (Ren.set_self _) (Nat.le_refl _) (Nat.le_refl _) (fun _ => rfl) (by simp)
              · intro hn x ex; cases ex
                have := hr2.toList
                refine row_new rfl rfl (by simp [hsz]) rfl (VRs.mono (Ren.le_set hn _) ?_) (by omega)
                rw [List.take_of_length_le (by simp; omega)]
                exact hr2
              · intro hn x ex; cases ex
    | _ => trivial
end
end Go.Am
