/-
  AM: operations on memory (on): slices of slices, lengths, copies, maps.
-/
import Derived.Test.YtejjhikbdchjaaaGreatAmOps6
set_option linter.unusedSectionVars false
namespace Go.Am
variable [Vals]

section
variable {E : Env} {P : Program} {t : TypeId} {w : World} {β : Ren} {n : Nat}

theorem Rel.get (H : Heap) {b : Nat} {l : List AV} {i : BI} (r : Rel β H.get w) (hb : H.get b = some (.cells l)) (hi : β b = some i) : RowAt β i l w := by
  obtain ⟨j, hj, hr⟩ := r.row b l hb
  rw [hi] at hj; cases hj; exact hr

theorem slice_ok (ok : EnvOk E P) {H : Heap} {x : AV} {x' : Value} {lo hi mx : Option AV} {lo' hi' mx' : Option Value} (r : Rel β H.get w) (hx : VR β x x')
    (hlo : OptVR β lo lo') (hhi : OptVR β hi hi') (hmx : OptVR β mx mx') : OK1 P β H.get w n (Instr.sliceAt t x' lo' hi' mx') (sliceV E H n t x lo hi mx) := by
  unfold sliceV
  cases hu : und E t with
  | none => trivial
  | some d =>
    have hr := ok_run_und (w := w) ok hu
    cases d with
    | slice e =>
      cases hs : sizeT E e with
      | none => cases x <;> simp only [sl1, hs] <;> trivial
      | some s =>
        have hss := ok_run_size (w := w) ok hs
        cases hx with
        | nils =>
          simp only [sl1, hs]
          cases bl : bound lo 0 with
          | none => trivial
          | some l => cases bh : boundH mx hi 0 with
            | none => cases l <;> trivial
            | some hh => cases bm : bound mx 0 with
              | none => cases l <;> cases hh <;> trivial
              | some m =>
                cases l with
                | succ l => trivial
                | zero => cases hh with
                  | succ hh => trivial
                  | zero => cases m with
                    | succ m => trivial
                    | zero =>
                      obtain ⟨mr, h1, h2, h3, h4, h5⟩ := bounds_run (P := P) (w := w) (c' := 0) hlo hhi hmx bl bh bm (Nat.le_refl _) (Nat.le_refl _) (Nat.le_refl _) (Nat.le_refl _)
                      have : mr = 0 := by omega
                      subst this
                      exact ⟨_, by simp [Instr.sliceAt, Instr.slice, hr, h1, hss], .nils⟩
        | slice b o len c c' ex es i hbi hc hl hxx hrr =>
          simp only [sl1, hs]
          cases bl : bound lo 0 with
          | none => trivial
          | some l => cases bh : boundH mx hi len with
            | none => trivial
            | some hh => cases bm : bound mx c with
              | none => trivial
              | some m =>
                simp only [sl2]
                cases hg : band (Nat.beq s es) (band (Nat.ble l hh) (band (Nat.ble hh m) (Nat.ble m c))) with
                | false => trivial
                | true =>
                  rw [band_eq, band_eq, band_eq] at hg
                  obtain ⟨g0, g1, g2, g3⟩ := hg
                  have g0 := Nat.eq_of_beq_eq_true g0
                  have g1 := ble_iff.1 g1
                  have g2 := ble_iff.1 g2
                  have g3 := ble_iff.1 g3
                  subst g0
                  obtain ⟨mr, h1, h2, h3, h4, h5⟩ := bounds_run (P := P) (w := w) (c' := c') hlo hhi hmx bl bh bm g1 g2 g3 hc
                  have hrun : ∀ cv, cv = Value.slice (some (if mr = l then ⟨i.blk, i.sh + o, none⟩ else ⟨i.blk, i.sh + (o + l * s), none⟩)) (hh - l) (mr - l) →
                      (Instr.sliceAt t (.slice (some ⟨i.blk, i.sh + o, none⟩) len c') lo' hi' mx').run P w = .ok cv w := by
                    intro cv e
                    subst e
                    simp only [Instr.sliceAt, Instr.slice, Sem.run_bind, hr, Result.andThen_ok, h1, hss, Sem.run_pure, Option.map_some, Addr.add_lit, Nat.add_assoc]
                    by_cases e : mr = l
                    · rw [if_pos e, if_pos e]
                    · rw [if_neg e, if_neg e]
                  have hmr : mr * s ≤ c' * s := Nat.mul_le_mul_right _ h3
                  have hsub : (mr - l) * s = mr * s - l * s := Nat.sub_mul _ _ _
                  have hlm : l * s ≤ mr * s := Nat.mul_le_mul_right _ (by omega)
                  simp only [sl3]
                  cases hex : orB mx ex with
                  | true =>
                    have hmm : mr = m := by
                      cases hmx with
                      | some _ _ _ => exact h4 (by simp)
                      | none =>
                        have := hxx hex
                        obtain ⟨e1, e2⟩ := h5 rfl
                        omega
                    cases hml : Nat.beq m l with
                    | true =>
                      have hml := Nat.eq_of_beq_eq_true hml
                      refine ⟨_, hrun _ rfl, ?_⟩
                      rw [if_pos (by omega), show hh - l = 0 by omega, show mr - l = 0 by omega]
                      exact .slice b o 0 0 0 true s i hbi (Nat.le_refl _) (Nat.le_refl _) (fun _ => rfl) (by omega)
                    | false =>
                      have hml : m ≠ l := Nat.ne_of_beq_eq_false hml
                      simp only [sl4, slVal, natS_eq, slV]
                      refine ⟨_, hrun _ rfl, ?_⟩
                      rw [if_neg (by omega), hmm]
                      refine .slice b (o + l * s) (hh - l) (m - l) (m - l) true s i hbi (Nat.le_refl _) (by omega) (fun _ => rfl) ?_
                      rw [← hmm]; omega
                  | false =>
                    cases hml : Nat.beq m l with
                    | false =>
                      have hml : m ≠ l := Nat.ne_of_beq_eq_false hml
                      simp only [sl4, slVal, natS_eq, slV]
                      refine ⟨_, hrun _ rfl, ?_⟩
                      rw [if_neg (by omega)]
                      refine .slice b (o + l * s) (hh - l) (m - l) (mr - l) false s i hbi (by omega) (by omega) (fun e => by cases e) ?_
                      omega
                    | true =>
                      have hml := Nat.eq_of_beq_eq_true hml
                      simp only [sl4, sl5]
                      cases hb : H.get b with
                      | none => trivial
                      | some ob => cases ob with
                        | map _ => trivial
                        | ro _ => trivial
                        | cells row =>
                          simp only
                          cases hp : Tr.put depth H b none with
                          | none => trivial
                          | some H1 =>
                            simp only [sl6, fresh]
                            cases hp2 : Tr.put depth H1 n (some (.cells [])) with
                            | none => trivial
                            | some H2 =>
                              simp only [fresh1, natS_eq, freshR, vSl]
                              intro hf
                              have hn : β n = none := hf n (Nat.le_refl _) (Nat.lt_succ_self _)
                              have hro := r.get H hb hbi
                              obtain ⟨C, ee, k1, k2, k3, k4⟩ := hro
                              have key : ∀ p, p + (mr - l) * s ≤ i.sz → (.slice (some ⟨i.blk, i.sh + p, none⟩) (hh - l) (mr - l) : Value) = Value.slice (some (if mr = l then ⟨i.blk, i.sh + o, none⟩ else ⟨i.blk, i.sh + (o + l * s), none⟩)) (hh - l) (mr - l) →
                                  ∃ cv w' β', (Instr.sliceAt t (.slice (some ⟨i.blk, i.sh + o, none⟩) len c') lo' hi' mx').run P w = .ok cv w' ∧ VR β' (.slice n 0 0 0 false s) cv ∧ Post β H.get w n β' H2.get w' (n + 1) := by
                                intro p hp' hcv
                                let j : BI := ⟨i.blk, i.sh + p, i.sz - p⟩
                                have pp := post_move (w' := w) (j := j) (l := []) r (Own.cells hb) hbi hn rfl (fun _ _ => rfl) rfl rfl rfl rfl
                                  ⟨C, ee, k1, by show i.sh + p + (i.sz - p) ≤ C.size; omega, Nat.zero_le _, .nil⟩
                                rw [set_of_put hp2, set_of_put hp]
                                refine ⟨_, w, β.set n j, hrun _ rfl, ?_, pp⟩
                                rw [← hcv]
                                rw [show hh - l = 0 by omega]
                                have := VR.slice (β := β.set n j) n 0 0 0 (mr - l) false s j (Ren.set_self _) (Nat.zero_le _) (Nat.le_refl _) (fun e => by cases e) (by show 0 + (mr - l) * s ≤ i.sz - p; omega)
                                simpa [j] using this
                              by_cases e : mr = l
                              · exact key o (by rw [e, Nat.sub_self, Nat.zero_mul]; omega) (by rw [if_pos e])
                              · exact key (o + l * s) (by omega) (by rw [if_neg e])
        | _ => trivial
    | _ => trivial

theorem i64_ok {m : Nat} {s : Sem Value} {h : Mem} (hs : s.run P w = .ok (goInt m) w) : OK1 P β h w n s (i64V m) := ⟨_, hs, .int _ _⟩

theorem Ents.length : ∀ {l : List (AV × AV)} {l' : List MapEntry}, Ents β l l' → l.length = l'.length
  | _, _, .nil => rfl
  | _, _, .cons _ _ _ _ _ _ _ h => by simp [Ents.length h]

theorem len_ok (ok : EnvOk E P) {H : Heap} {ts : Array TypeId} {tl : List TypeId} {x : AV} {x' : Value} {ty : TypeId} (hts : ts.toList = t :: tl) (r : Rel β H.get w) (hx : VR β x x') :
    OK1 P β H.get w n (Builtin.len_ ts ty #[x']) (len1 (und E t) x H) := by
  have ht : ts[0]? = some t := by rw [← Array.getElem?_toList, hts]; rfl
  cases hu : und E t with
  | none => trivial
  | some d =>
    have hr := ok_run_und (w := w) ok hu
    cases d with
    | slice e =>
      cases hx with
      | nils => exact i64_ok (by simp [Builtin.len_, ht, hr])
      | slice b o l c c' ex es i hi hc hl hxx hrr => simp only [len1, natS_eq]; exact i64_ok (by simp [Builtin.len_, ht, hr])
      | _ => trivial
    | map k e =>
      cases hx with
      | map b i hi =>
        simp only [len1]
        cases hb : H.get b with
        | none => trivial
        | some ob => cases ob with
          | cells _ => trivial
          | ro _ => trivial
          | map l =>
            obtain ⟨j, hj, es, clock, h1, h2⟩ := r.map b l hb
            rw [hi] at hj; cases hj
            simp only [lenM, natS_eq]
            refine i64_ok ?_
            have hg : (getObj i.blk).run P w = .ok (.map es clock) w := by simp [getObj, Sem.run, h1]
            have hl := h2.length
            simp [Builtin.len_, ht, hr, hg, hl]
      | _ => trivial
    | string =>
      cases hx with
      | str s => simp only [len1, natS_eq]; exact i64_ok (by simp [Builtin.len_, ht, hr])
      | _ => trivial
    | array l e =>
      have e1 : len1 (some (.array l e)) x H = i64V l := by simp only [len1, natS_eq]
      rw [e1]
      exact i64_ok (by cases x' <;> simp [Builtin.len_, ht, hr])
    | _ => trivial

theorem max_ok {ts : Array TypeId} {x y : AV} {x' y' : Value} {ty : TypeId} {H : Heap} (hx : VR β x x') (hy : VR β y y') :
    OK1 P β H.get w n (Builtin.max_ ts ty #[x', y']) (builtinV .max ts.toList [x, y] E H n) := by
  cases hx with
  | int k a =>
    cases hy with
    | int k' b =>
      have e : builtinV .max ts.toList [.int k a, .int k' b] E H n = min1 (kbeq k k') (iblt a b) k a b := by cases ts.toList <;> rfl
      rw [e]
      cases hk : kbeq k k' with
      | false => trivial
      | true =>
        rw [iblt_eq]
        by_cases hab : a < b
        · simp only [min1, hab, decide_true, pickI]; exact ⟨_, by simp [Builtin.max_, Builtin.max2, hab], .int _ _⟩
        · simp only [min1, hab, decide_false, pickI]; exact ⟨_, by simp [Builtin.max_, Builtin.max2, hab], .int _ _⟩
    | _ => cases ts.toList <;> trivial
  | _ => cases ts.toList <;> trivial
theorem min_ok {ts : Array TypeId} {x y : AV} {x' y' : Value} {ty : TypeId} {H : Heap} (hx : VR β x x') (hy : VR β y y') :
    OK1 P β H.get w n (Builtin.min_ ts ty #[x', y']) (builtinV .min ts.toList [x, y] E H n) := by
  cases hx with
  | int k a =>
    cases hy with
    | int k' b =>
      have e : builtinV .min ts.toList [.int k a, .int k' b] E H n = min1 (kbeq k k') (iblt b a) k a b := by cases ts.toList <;> rfl
      rw [e]
      cases hk : kbeq k k' with
      | false => trivial
      | true =>
        rw [iblt_eq]
        by_cases hab : b < a
        · simp only [min1, hab, decide_true, pickI]; exact ⟨_, by simp [Builtin.min_, Builtin.min2, hab], .int _ _⟩
        · simp only [min1, hab, decide_false, pickI]; exact ⟨_, by simp [Builtin.min_, Builtin.min2, hab], .int _ _⟩
    | _ => cases ts.toList <;> trivial
  | _ => cases ts.toList <;> trivial
end
end Go.Am
