/-
  AM: appends, copies.
-/
import Derived.Test.YtejjhikbdchjaaaGreatAmOps8
set_option linter.unusedSectionVars false
namespace Go.Am
variable [Vals]

section
variable {E : Env} {P : Program} {t : TypeId} {w : World} {β : Ren} {n : Nat}

theorem RoAt.seg {i : BI} {l r : List AV} {o m : Nat} (h : RoAt β i l w) (hr : subL l o m = some r) :
    ∃ r' : List Value, VRs β r r' ∧ r'.length = m ∧ r.length = m ∧ ∀ j v, r'[j]? = some v → w.cell? ((⟨i.blk, i.sh + o, none⟩ : Addr).add j) = some v := by
  obtain ⟨L', hL, hcell⟩ := h.row
  obtain ⟨h1, h2, h3⟩ := subL_rel hL hr
  refine ⟨_, h1, by simp; omega, h3, fun j u hj => ?_⟩
  rw [Addr.add_lit, Nat.add_assoc]
  apply hcell
  rw [List.getElem?_take] at hj
  split at hj
  · rwa [List.getElem?_drop] at hj
  · cases hj

theorem RowAt.seg {i : BI} {l r : List AV} {o m : Nat} (h : RowAt β i l w) (hr : subL l o m = some r) :
    ∃ r' : List Value, VRs β r r' ∧ r'.length = m ∧ r.length = m ∧ ∀ j v, r'[j]? = some v → w.cell? ((⟨i.blk, i.sh + o, none⟩ : Addr).add j) = some v := h.ro.seg hr

/-- The cells of a slice: read. -/
theorem rowOf_rel {H : Heap} {es len : Nat} {x : AV} {x' : Value} {xs : List AV} (r : Rel β H.get w) (hx : VR β x x') (hl : lenV x = some len) (hr : rowOf H es x = some xs) :
    ∃ xs' : List Value, VRs β xs xs' ∧ xs'.length = len * es ∧ xs.length = len * es ∧ (Builtin.lenOf x').run P w = .ok len w ∧
      (∀ w', w'.heap = w.heap → (Builtin.firstCells es len x').run P w' = .ok xs'.toArray w') ∧
      (∀ a c, x' = .slice (some a) len c → ∀ j v, xs'[j]? = some v → w.cell? (a.add j) = some v) := by
  cases hx with
  | nils =>
    cases hl; cases hr
    exact ⟨[], .nil, by simp, by simp, by simp [Builtin.lenOf], fun w' _ => by simp [Builtin.firstCells], fun a c e => by cases e⟩
  | slice b o l c c' ex es' i hi hc hlc hxx hrr =>
    cases hl
    cases len with
    | zero => cases hr; exact ⟨[], .nil, by simp, by simp, by simp [Builtin.lenOf], fun w' _ => by simp [Builtin.firstCells, loadCells, loadCellsFrom], fun a c e j v hj => by simp at hj⟩
    | succ len =>
      simp only [rowOf] at hr
      cases hb : H.get b with
      | none => rw [hb] at hr; cases hr
      | some ob =>
        rw [hb] at hr
        have key : ∃ row, ob.rd = some row ∧ subL row o ((len + 1) * es) = some xs := by
          cases ob with
          | map _ => cases hr
          | cells row => exact ⟨row, rfl, hr⟩
          | ro row => exact ⟨row, rfl, hr⟩
        obtain ⟨row, hrd, hr⟩ := key
        · obtain ⟨r', h1, h2, h3, h4⟩ := (r.rd hb hrd hi).seg hr
          have h2' : r'.length = (len + 1) * es := h2
          refine ⟨r', h1, h2, h3, by simp [Builtin.lenOf], fun w' hw => ?_, fun a c e j v hj => by cases e; exact h4 j v hj⟩
          refine run_firstCells_some w' es (len + 1) _ _ _ r' h2' fun j v hj => ?_
          rw [World.cell?_of_block (w := w) (by rw [hw])]
          exact h4 j v hj
  | _ => cases hl

theorem copy_ok (ok : EnvOk E P) {H : Heap} {ts : Array TypeId} {tl : List TypeId} {ty : TypeId} {d s : AV} {d' s' : Value} (hts : ts.toList = t :: tl) (r : Rel β H.get w) (hd : VR β d d') (hs : VR β s s') :
    OK1 P β H.get w n (Builtin.copy_ ts ty #[d', s']) (copyV E H n t d s) := by
  have ht : ts[0]? = some t := by rw [← Array.getElem?_toList, hts]; rfl
  unfold copyV
  cases hu : und E t with
  | none => trivial
  | some du =>
    have hr := ok_run_und (w := w) ok hu
    cases du with
    | slice e =>
      simp only [cp0]
      cases hss : sizeT E e with
      | none => trivial
      | some es =>
        have hsr := ok_run_size (w := w) ok hss
        simp only [cp1]
        cases hld : lenV d with
        | none => trivial
        | some dl => cases hls : lenV s with
          | none => trivial
          | some sl =>
            simp only [cp2]
            -- what the two are
            have hd' : ∃ base c, d' = .slice base dl c := by
              cases hd <;> cases hld <;> exact ⟨_, _, rfl⟩
            obtain ⟨base, dc, rfl⟩ := hd'
            have hs' : ∃ sb c, s' = .slice sb sl c := by
              cases hs <;> cases hls <;> exact ⟨_, _, rfl⟩
            obtain ⟨sb, sc, rfl⟩ := hs'
            cases hm : Nat.min sl dl with
            | zero =>
              simp only [cp3]
              intro _
              refine ⟨goInt 0, w, β, ?_, .int _ _, Post.refl r⟩
              cases base <;> cases sb <;> simp [Builtin.copy_, ht, hr, Builtin.lenOf, hm, hsr, Builtin.firstCells, loadCells, loadCellsFrom, storeCells]
            | succ m =>
              cases hd with
              | nils => trivial
              | slice b o _ c _ ex es1 i hi hc hlc hxx hrr =>
                cases hld
                cases hs with
                | nils => trivial
                | slice sbn so _ c2 _ ex2 es2 i2 hi2 hc2 hlc2 hxx2 hrr2 =>
                  cases hls
                  simp only [cp3]
                  cases hro : rowOf H es (.slice sbn so (m + 1) 0 false es) with
                  | none => trivial
                  | some xs =>
                    simp only [cp4]
                    cases hp : poke H b o xs with
                    | none => trivial
                    | some H' =>
                      simp only [memO]
                      intro _
                      simp only [rowOf] at hro
                      cases hb : H.get sbn with
                      | none => rw [hb] at hro; cases hro
                      | some ob =>
                        rw [hb] at hro
                        have key : ∃ row, ob.rd = some row ∧ subL row so ((m + 1) * es) = some xs := by
                          cases ob with
                          | map _ => cases hro
                          | cells row => exact ⟨row, rfl, hro⟩
                          | ro row => exact ⟨row, rfl, hro⟩
                        obtain ⟨row, hrd, hro⟩ := key
                        · obtain ⟨r', h1, h2, h3, h4⟩ := (r.rd hb hrd hi2).seg hro
                          have h2' : r'.length = (m + 1) * es := h2
                          have hf := run_firstCells_some (P := P) w es (m + 1) ⟨i2.blk, i2.sh + so, none⟩ sl sc r' h2' h4
                          obtain ⟨w', k1, k2⟩ := poke_ok (P := P) (n := n) r hi h1 hp
                          refine ⟨goInt (m + 1 : Nat), w', β, ?_, .int _ _, k2⟩
                          simp [Builtin.copy_, ht, hr, Builtin.lenOf, hm, hsr, hf, k1]
                | _ => cases hls
              | _ => cases hld
    | _ => trivial

theorem post_weaken {h h' h'' : Mem} {w' : World} {β' : Ren} {n' : Nat} (p : Post β h' w n β' h'' w' n') (hi : ∀ k, Img β h' k → Img β h k) (hro : ∀ b l, h' b = some (.ro l) → h b = some (.ro l)) : Post β h w n β' h'' w' n' where
  rel := p.rel
  ro := fun b l k => hro b l (p.ro b l k)
  le := p.le
  same := p.same
  up := p.up
  os := p.os
  tape := p.tape
  output := p.output
  size := p.size
  frame := fun k hk hn => p.frame k hk fun e => hn (hi k e)
  own := fun k hk => (p.own k hk).imp (hi k) id
  thaw := p.thaw
theorem post_drew {h h' : Mem} {w' : World} {β' : Ren} {n' : Nat} (p : Post β h w.drew n β' h' w' n') : Post β h w n β' h' w' n' :=
  ⟨p.rel, p.ro, p.le, p.same, p.up, p.os, p.tape, p.output, p.size, p.frame, p.own, p.thaw⟩

theorem app_length : ∀ {a b r : List AV}, app a b = some r → r.length = a.length + b.length
  | [], b, r, h => by cases h; simp
  | x :: a, b, r, h => by
    simp only [app, consO] at h
    split at h
    · cases h
    · rename_i r' hr'; cases h; simp [app_length hr']; omega

theorem apNew3_none {x : Option Heap} {n es q : Nat} : apNew3 x n es q none = .fail := by cases x <;> simp [apNew3, natS_eq, freshO]
theorem apNew1_none {ex : Bool} {H : Heap} {n b o es len q : Nat} {xs : List AV} : apNew1 ex H n b o es len q xs none = .fail := by
  cases ex
  · simp only [apNew1]
    cases band (plainL xs) (lenAt (H.get b) (Nat.add o (Nat.mul len es)))
    · rfl
    · exact apNew3_none
  · simp only [apNew1]; exact apNew3_none
theorem ap3_none1 {s : AV} {xs : Option (List AV)} {H : Heap} {n es by_ : Nat} : ap3 s none xs H n es by_ = .fail := by
  cases s <;> try rfl
  rename_i b o l c ex es'
  simp only [ap3]
  cases Nat.beq es es' <;> rfl
theorem ap3_none2 {s : AV} {xl : Nat} {H : Heap} {n es by_ : Nat} : ap3 s (some xl) none H n es by_ = .fail := by
  cases s <;> try rfl
  rename_i b o l c ex es'
  simp only [ap3]
  cases Nat.beq es es' <;> rfl

/-- A new row, larger. -/
theorem grow_ok {H : Heap} {olds news : List Value} {all : List AV} {e : TypeId} {es q cp : Nat} {z : Array Value} {s : Sem Value} (r : Rel β H.get w) (hall : VRs β all (olds ++ news)) (hlen : (olds ++ news).length = q * es) (hz : z.size = es) (hq : q ≤ cp)
    (hrun : s.run P w = .ok (.slice (some ⟨w.heap.size, 0, none⟩) q cp) (w.drew.alloc (.cells (olds.toArray ++ news.toArray ++ Builtin.zeroCells z (cp - q)) e))) :
    OK1 P β H.get w n s (fresh H n (.cells all) (vSl q q false es)) := by
  have hsz : (olds.toArray ++ news.toArray ++ Builtin.zeroCells z (cp - q)).size = cp * es := by
    simp only [Array.size_append, List.size_toArray, size_zeroCells, hz]
    rw [List.length_append] at hlen
    rw [hlen, ← Nat.add_mul]; congr 1; omega
  refine fresh_ok (i := ⟨w.heap.size, 0, cp * es⟩) (obj := .cells (olds.toArray ++ news.toArray ++ Builtin.zeroCells z (cp - q)) e) r rfl hrun rfl rfl rfl rfl ?_ ?_ ?_
  · intro hn
    exact .slice n 0 q q cp false es _ (Ren.set_self _) hq (Nat.le_refl _) (fun e => by cases e) (by simp)
  · intro hn l ex; cases ex
    have hl := hall.length
    have hqc : q * es ≤ cp * es := Nat.mul_le_mul_right _ hq
    refine row_new rfl rfl hsz.symm rfl (VRs.mono (Ren.le_set hn _) ?_) (by omega)
    simp only [Array.toList_append, List.append_assoc]
    rw [← List.append_assoc, hl, List.take_left]
    exact hall
  · intro hn l ex; cases ex

theorem append_ok (ok : EnvOk E P) {H : Heap} {ts : Array TypeId} {u : TypeId} {tl : List TypeId} {ty : TypeId} {s x : AV} {s' x' : Value}
    (hts : ts.toList = t :: u :: tl) (r : Rel β H.get w) (hs : VR β s s') (hx : VR β x x') :
    OK1 P β H.get w n (Builtin.append_ ts ty #[s', x']) (appendV E H n t u s x) := by
  have ht : ts[0]? = some t := by rw [← Array.getElem?_toList, hts]; rfl
  have hu1 : ts[1]? = some u := by rw [← Array.getElem?_toList, hts]; rfl
  unfold appendV
  cases hut : und E t with
  | none => trivial
  | some dt =>
    have hr := ok_run_und (w := w) ok hut
    cases dt with
    | slice e =>
      cases huu : und E u with
      | none => trivial
      | some du =>
        cases du with
        | slice e2 =>
          have hr2 := ok_run_und (w := w) ok huu
          simp only [notInt, ap0]
          cases hi : info E e with
          | none => trivial
          | some j =>
            have hti := ok_run_info (w := w) ok hi
            have hti' := ok_run_info (w := w.drew) ok hi
            have hpi := ok.types e j hi
            simp only [ap1]
            cases hes : j.size with
            | zero => trivial
            | succ es0 =>
              obtain ⟨z, hz, hzs⟩ := ok.zeros e j hi (by omega)
              rw [hes] at hzs
              simp only [ap2]
              generalize hES : es0 + 1 = es at *
              have hes0 : es ≠ 0 := by omega
              clear hES
              cases hlx : lenV x with
              | none => rw [ap3_none1]; trivial
              | some xl =>
                cases hrx : rowOf H es x with
                | none => rw [ap3_none2]; trivial
                | some xs =>
                  obtain ⟨xs', hx1, hx2, hx3, hx4, hx5, _⟩ := rowOf_rel (P := P) r hx hlx hrx
                  have hf := hx5 w rfl
                  have hfd := hx5 w.drew rfl
                  have hmul : ∀ {a b : Nat}, a ≤ b → a * es ≤ b * es := fun h => Nat.mul_le_mul_right _ h
                  cases hs with
                  | nils =>
                    simp only [ap3]
                    cases xl with
                    | zero =>
                      simp only [apNil]
                      intro _
                      refine ⟨.slice none 0 0, w, β, ?_, .nils, Post.refl r⟩
                      simp [Builtin.append_, ht, hu1, hr, hr2, sizeOf, hti, hes, hx4, hf]
                    | succ xl =>
                      simp only [apNil]
                      cases hb : band (Nat.ble (xl + 1) 1048576) (Nat.ble (Nat.mul (xl + 1) j.bytes) 1048576) with
                      | false => trivial
                      | true =>
                        rw [band_eq] at hb
                        have hb1 := ble_iff.1 hb.1
                        have hb2 : (xl + 1) * j.bytes ≤ 1048576 := ble_iff.1 hb.2
                        simp only [apNil1]
                        refine grow_ok (P := P) (olds := []) (news := xs') (z := z.cells) (e := e) (cp := grownCap w (xl + 1) 0 e) r (by simpa using hx1) (by simpa using hx2) hzs (grownCap_ge w (xl + 1) 0 e) ?_
                        have h63 : ¬ (9223372036854775807 < ((xl : Int) + 1)) := by omega
                        have h48 : ¬ (281474976710656 < Builtin.nextslicecap (xl + 1) 0 * j.bytes) := by rw [nextslicecap_zero (by omega)]; omega
                        simp [Builtin.append_, ht, hu1, hr, hr2, sizeOf, typeInfo, hpi, hes, hx4, h63, h48, Question.forced, run_firstCells_none, hfd, newRow, grownCap, zeroValue, hz]
                  | slice b o len c c' ex es' i hbi hc hlc hxx hrr =>
                    simp only [ap3, apEs]
                    cases hee : Nat.beq es es' with
                    | false => trivial
                    | true =>
                      have hee := Nat.eq_of_beq_eq_true hee
                      subst hee
                      simp only
                      cases hfit : Nat.ble (Nat.add len xl) c with
                      | true =>
                        have hfit : len + xl ≤ c := ble_iff.1 hfit
                        have hneed : len + xl ≤ c' := by omega
                        simp only [apSl]
                        cases xl with
                        | zero =>
                          simp only [apIn]
                          intro _
                          refine ⟨.slice (some ⟨i.blk, i.sh + o, none⟩) len c', w, β, ?_, .slice b o len c c' ex es i hbi hc hlc hxx hrr, Post.refl r⟩
                          have hxe : xs' = [] := List.eq_nil_of_length_eq_zero (by omega)
                          subst hxe
                          have hneed' : len ≤ c' := hneed
                          simp [Builtin.append_, ht, hu1, hr, hr2, sizeOf, hti, hes, hx4, hf, hneed', storeCells]
                        | succ xl =>
                          simp only [apIn]
                          cases hp : poke H b (Nat.add o (Nat.mul len es)) xs with
                          | none => trivial
                          | some H' =>
                            simp only [apIn1, natS_eq, apIn2]
                            intro _
                            obtain ⟨w', k1, k2⟩ := poke_ok (P := P) (n := n) r hbi hx1 hp
                            have k1' : (storeCells ⟨i.blk, i.sh + (o + len * es), none⟩ xs').run P w = .ok () w' := k1
                            refine ⟨.slice (some ⟨i.blk, i.sh + o, none⟩) (len + (xl + 1)) c', w', β, ?_, .slice b o (len + (xl + 1)) c c' ex es i hbi hc hfit hxx hrr, k2⟩
                            simp [Builtin.append_, ht, hu1, hr, hr2, sizeOf, hti, hes, hx4, hf, hneed, Addr.add_lit, Nat.add_assoc, k1']
                      | false =>
                        have hfit : ¬ (len + xl ≤ c) := fun hh => absurd (show Nat.ble (len + xl) c = true from ble_iff.2 hh) (by rw [show Nat.ble (len + xl) c = false from hfit]; simp)
                        simp only [apSl]
                        cases hb : band (Nat.ble (Nat.add len xl) 1048576) (Nat.ble (Nat.mul (Nat.add len xl) j.bytes) 1048576) with
                        | false => trivial
                        | true =>
                          rw [band_eq] at hb
                          have hb1 : len + xl ≤ 1048576 := ble_iff.1 hb.1
                          have hb2 : (len + xl) * j.bytes ≤ 1048576 := ble_iff.1 hb.2
                          simp only [apNew]
                          have vs0 : VR β (.slice b o len c ex es) (.slice (some ⟨i.blk, i.sh + o, none⟩) len c') := .slice b o len c c' ex es i hbi hc hlc hxx hrr
                          cases hro : rowOf H es (.slice b o len c ex es) with
                          | none => simp only [appOO]; rw [apNew1_none]; trivial
                          | some olds =>
                            obtain ⟨olds', ho1, ho2, ho3, ho4, ho5, ho6⟩ := rowOf_rel (P := P) r vs0 rfl hro
                            have hfo := ho5 w.drew rfl
                            cases hall : app olds xs with
                            | none => simp only [appOO, hall]; rw [apNew1_none]; trivial
                            | some all =>
                              have hall' := ho1.app hx1 hall
                              have hlen' : (olds' ++ xs').length = (len + xl) * es := by rw [List.length_append, ho2, hx2, Nat.add_mul]
                              -- growing
                              have hgrow : c' < len + xl → ∀ {H0 : Heap}, Rel β H0.get w → OK1 P β H0.get w n (Builtin.append_ ts ty #[.slice (some ⟨i.blk, i.sh + o, none⟩) len c', x']) (fresh H0 n (.cells all) (vSl (len + xl) (len + xl) false es)) := by
                                intro hgt H0 r0
                                refine grow_ok (P := P) (olds := olds') (news := xs') (z := z.cells) (e := e) (cp := grownCap w (len + xl) c' e) r0 hall' hlen' hzs (grownCap_ge w (len + xl) c' e) ?_
                                have hn : ¬ (len + xl ≤ c') := by omega
                                have h63 : ¬ (9223372036854775807 < ((len : Int) + (xl : Int))) := by omega
                                have h48 : ¬ (281474976710656 < Builtin.nextslicecap (len + xl) c' * j.bytes) := by
                                  have := growslice_fits (need := len + xl) (old := c') (bytes := j.bytes) (by omega) (by omega)
                                  omega
                                simp [Builtin.append_, ht, hu1, hr, hr2, sizeOf, typeInfo, hpi, hes, hx4, hn, h63, h48, Question.forced, hfd, hfo, newRow, grownCap, zeroValue, hz]
                                congr 2
                                apply Array.ext'
                                simp [List.append_assoc]
                              cases ex with
                              | true =>
                                have hcc := hxx rfl
                                simp only [appOO, hall, apNew1, apNew3, natS_eq, freshO]
                                exact hgrow (by omega) r
                              | false =>
                                simp only [appOO, hall, apNew1]
                                cases hpl : band (plainL xs) (lenAt (H.get b) (Nat.add o (Nat.mul len es))) with
                                | false => trivial
                                | true =>
                                  rw [band_eq] at hpl
                                  obtain ⟨hpl1, hpl2⟩ := hpl
                                  simp only [apNew2]
                                  cases hp : Tr.put depth H b none with
                                  | none => trivial
                                  | some H1 =>
                                    simp only [apNew3, natS_eq, freshO]
                                    by_cases hgt : c' < len + xl
                                    · have r0 : Rel β H1.get w := by rw [set_of_put hp]; exact post_drop r
                                      have := hgrow hgt r0
                                      have e0 : Nat.add len xl = len + xl := rfl
                                      rw [e0]
                                      unfold fresh at this ⊢
                                      cases hp2 : Tr.put depth H1 n (some (.cells all)) with
                                      | none => trivial
                                      | some H2 =>
                                        rw [hp2] at this
                                        simp only [fresh1, natS_eq, freshR] at this ⊢
                                        intro hfr
                                        obtain ⟨cv, w', β', g1, g2, g3⟩ := this hfr
                                        refine ⟨cv, w', β', g1, g2, post_weaken g3 (fun k hk => ?_) fun b l k => ?_⟩
                                        · rw [set_of_put hp] at hk
                                          exact img_drop hk
                                        · rw [set_of_put hp] at k
                                          unfold Mem.set at k; split at k
                                          · cases k
                                          · exact k
                                    · unfold fresh
                                      cases hp2 : Tr.put depth H1 n (some (.cells all)) with
                                      | none => trivial
                                      | some H2 =>
                                        simp only [fresh1, natS_eq, freshR, vSl]
                                        intro hfr
                                        have hn : β n = none := hfr n (Nat.le_refl _) (Nat.lt_succ_self _)
                                        cases hb0 : H.get b with
                                        | none => rw [hb0] at hpl2; cases hpl2
                                        | some ob =>
                                          rw [hb0] at hpl2
                                          cases ob with
                                          | map _ => cases hpl2
                                          | ro _ => cases hpl2
                                          | cells row =>
                                            have hrl := lenIs_eq hpl2
                                            obtain ⟨C, ee, q1, q2, q3, q4⟩ := r.get H hb0 hbi
                                            have hneed : len + xl ≤ c' := by omega
                                            have hle : (len + xl) * es ≤ c' * es := hmul hneed
                                            rw [Nat.add_mul] at hle
                                            obtain ⟨C', k1, k2, k3, k4⟩ := store_raw (P := P) (p := o + len * es) q1 q2 (by rw [hx2]; omega) (plainL_one hx1 hpl1)
                                            let jj : BI := ⟨i.blk, i.sh + o, i.sz - o⟩
                                            have halen : all.length = (len + xl) * es := by rw [hall'.length]; exact hlen'
                                            have pp := post_move (w' := w.setRow i.blk C') (j := jj) (l := all) r (Own.cells hb0) hbi hn rfl (fun k hk => setRow_other w i.blk k C' hk) (size_setRow w i.blk C') rfl rfl rfl
                                              ⟨C', ee, k4, by show i.sh + o + (i.sz - o) ≤ C'.size; omega, by show all.length ≤ i.sz - o; rw [halen, Nat.add_mul]; omega, by
                                                refine VRs.mono (Ren.le_set hn _) ?_
                                                show VRs β all ((C'.toList.drop (i.sh + o)).take all.length)
                                                have e1 : (C'.toList.drop (i.sh + o)).take all.length = olds' ++ xs' := by
                                                  rw [← List.drop_drop, k3]
                                                  apply List.ext_getElem?
                                                  intro k
                                                  have hov := overV_get (o + len * es) (C.toList.drop i.sh) xs' (by simp; omega) (o + k)
                                                  rw [List.getElem?_take, List.getElem?_drop, hov]
                                                  by_cases hk : k < all.length
                                                  · rw [if_pos hk]
                                                    by_cases hk2 : k < len * es
                                                    · rw [if_neg (by omega), List.getElem?_append_left (by omega)]
                                                      have hk3 : k < olds'.length := by omega
                                                      have hc1 := ho6 _ _ rfl k olds'[k] (by simp [hk3])
                                                      rw [Addr.add_lit, cell_of_row w i.blk _ C ee (0, 0) q1] at hc1
                                                      rw [List.getElem?_drop, List.getElem?_eq_getElem hk3, ← hc1]
                                                      simp [Nat.add_assoc]
                                                    · rw [if_pos (by rw [halen, Nat.add_mul] at hk; omega), List.getElem?_append_right (by omega)]
                                                      congr 1; omega
                                                  · rw [if_neg hk, List.getElem?_eq_none (by omega)]
                                                rw [e1]; exact hall'⟩
                                            rw [set_of_put hp2, set_of_put hp]
                                            have k1' : (storeCells ⟨i.blk, i.sh + (o + len * es), none⟩ xs').run P w = .ok () (w.setRow i.blk C') := k1
                                            refine ⟨.slice (some ⟨i.blk, i.sh + o, none⟩) (len + xl) c', _, β.set n jj, ?_, ?_, pp⟩
                                            · simp [Builtin.append_, ht, hu1, hr, hr2, sizeOf, hti, hes, hx4, hf, hneed, Addr.add_lit, Nat.add_assoc, k1']
                                            · have := VR.slice (β := β.set n jj) n 0 (len + xl) (len + xl) c' false es jj (Ren.set_self _) hneed (Nat.le_refl _) (fun e => by cases e) (by show 0 + c' * es ≤ i.sz - o; omega)
                                              simpa [jj] using this
                  | _ => trivial
        | _ => trivial
    | _ => trivial
end
end Go.Am
