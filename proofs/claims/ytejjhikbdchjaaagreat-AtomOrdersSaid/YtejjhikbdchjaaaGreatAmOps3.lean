/-
  AM: operations that turn values into values (on): parts, places, functions.
-/
import Derived.Test.YtejjhikbdchjaaaGreatAmOps2
set_option linter.unusedSectionVars false
namespace Go.Am
variable [Vals]

section
variable {E : Env} {P : Program} {t : TypeId} {w : World} {β : Ren} {h : Mem} {n : Nat}

theorem nth_list {α : Type} : ∀ {i : Nat} {l : List α} {x : α}, nth i l = some x → l[i]? = some x
  | _, [], _, h => by cases ‹Nat› <;> cases h
  | 0, _ :: _, _, h => by simpa [nth] using h
  | i + 1, _ :: l, x, h => by simpa using nth_list (i := i) (l := l) h

theorem pick_ok {c a b : AV} {c' a' b' : Value} (hc : VR β c c') (ha : VR β a a') (hb : VR β b b') :
    OK1 P β h w n (do pure (if ← asBool c' then a' else b')) (pickV c a b) := by
  unfold pickV
  split
  · cases hc; exact ⟨_, by simp [asBool], ha⟩
  · cases hc; exact ⟨_, by simp [asBool], hb⟩
  · trivial

theorem okTup_ok {ok : Bool} {v : AV} {v' : Value} {b : Bool} {s : Sem Value} (hv : VR β v v') (hs : s.run P w = .ok (if ok then .tuple #[v', .bool b] else v') w) : OK1 P β h w n s (okTup ok v b) := by
  cases ok
  · exact ⟨_, hs, hv⟩
  · exact ⟨_, hs, .tup _ _ (.cons _ _ _ _ hv (.cons _ _ _ _ (.bool b) .nil))⟩

theorem asrt_ok (ok : EnvOk E P) {x : AV} {x' : Value} {a xt : TypeId} {co : Bool} (hx : VR β x x') : OK1 P β h w n (Instr.typeAssert x' xt a co) (asrt1 (und E a) x a co) := by
  cases hu : und E a with
  | none => cases x <;> trivial
  | some d =>
    have hr := ok_run_und (w := w) ok hu
    by_cases hd : ∃ ms, d = .interface ms
    · obtain ⟨ms, rfl⟩ := hd; trivial
    · cases hx with
      | iface tt v v' hv =>
        have e : asrt1 (some d) (.iface tt v) a co = asrt2 (Nat.beq tt a) v co := by
          cases d <;> first | rfl | exact absurd ⟨_, rfl⟩ hd
        rw [e]
        cases he : Nat.beq tt a with
        | false => trivial
        | true =>
          have he' : tt = a := Nat.eq_of_beq_eq_true he
          subst he'
          refine okTup_ok hv ?_
          cases d <;> first
            | (exact absurd ⟨_, rfl⟩ hd)
            | (cases co <;> simp [Instr.typeAssert, hr])
      | _ => cases d <;> trivial

theorem extr_ok {x : AV} {x' : Value} {i : Nat} (hx : VR β x x') : OK1 P β h w n (Instr.extract x' i) (extrV x i) := by
  cases hx with
  | tup vs vs' hvs =>
    simp only [extrV]
    cases hn : nth i vs with
    | none => trivial
    | some v =>
      obtain ⟨v', h1, h2⟩ := hvs.nth hn
      have h1' : vs'[i]? = some v' := by simpa using h1
      exact ⟨v', by simp [Instr.extract, h1'], h2⟩
  | _ => trivial

theorem iface_ok (ok : EnvOk E P) {x : AV} {x' : Value} (hx : VR β x x') : OK1 P β h w n (Instr.makeInterface t x') (mkIface (und E t) t x) := by
  cases hu : und E t with
  | none => trivial
  | some d =>
    have hr := ok_run_und (w := w) ok hu
    cases d <;> first
      | trivial
      | exact ⟨.iface t x', by simp [Instr.makeInterface, hr], .iface _ _ _ hx⟩

theorem field_ok (ok : EnvOk E P) {x : AV} {x' : Value} {f : Nat} (hx : VR β x x') : OK1 P β h w n (Instr.field t x' f) (fieldV E t x f) := by
  unfold fieldV
  cases hu : und E t with
  | none => trivial
  | some d =>
    have hr := ok_run_und (w := w) ok hu
    cases d with
    | struct fs =>
      cases hx with
      | agg cs cs' hcs =>
        simp only [fld1]
        cases hf : nth f fs.toList with
        | none => trivial
        | some fl =>
          have hf' : fs[f]? = some fl := by simpa using nth_list hf
          simp only [fld2]
          cases hp : partOf E fl.type cs fl.offset with
          | none => trivial
          | some v =>
            obtain ⟨v', h1, h2⟩ := part_rel (w := w) ok hcs hp
            exact ⟨v', by simp [Instr.field, hr, hf', asAgg, h1], h2⟩
      | _ => trivial
    | _ => trivial

theorem fieldAddr_ok (ok : EnvOk E P) {x : AV} {x' : Value} {f : Nat} (hx : VR β x x') : OK1 P β h w n (Instr.fieldAt t x' f) (fieldAddrV E t x f) := by
  unfold fieldAddrV
  cases hu : und E t with
  | none => trivial
  | some d =>
    have hr := ok_run_und (w := w) ok hu
    cases d with
    | struct fs =>
      cases hx with
      | ptr b o i hi =>
        simp only [faddr1]
        cases hf : nth f fs.toList with
        | none => trivial
        | some fl =>
          have hf' : fs[f]? = some fl := by simpa using nth_list hf
          simp only [faddr2]
          cases hs : sizeT E fl.type with
          | none => trivial
          | some s =>
            cases s with
            | zero => trivial
            | succ s =>
              simp only [faddr3, natS_eq, ptrV]
              refine ⟨.pointer (some ⟨i.blk, i.sh + (o + fl.offset), none⟩), ?_, .ptr b (o + fl.offset) i hi⟩
              simp [Instr.fieldAt, hr, hf', Instr.sureAddr, fieldPlace, ok_run_size ok hs, Addr.add_lit, Nat.add_assoc]
      | _ => trivial
    | _ => trivial

theorem indexAddr_ok (ok : EnvOk E P) {x y : AV} {x' y' : Value} (hx : VR β x x') (hy : VR β y y') : OK1 P β h w n (Instr.indexAt t x' y') (indexAddrV E t x y) := by
  unfold indexAddrV
  cases hu : und E t with
  | none => trivial
  | some d =>
    have hr := ok_run_und (w := w) ok hu
    cases d with
    | slice e =>
      cases hx with
      | slice b o len cap c' ex es bi hi hc hl hxx hrr =>
        cases hy with
        | int k i =>
          cases i with
          | negSucc i => trivial
          | ofNat i =>
            simp only [iaddr1]
            cases hb : Nat.blt i len with
            | false => trivial
            | true =>
              have hb' := blt_iff.1 hb
              simp only [iaddr2]
              cases hs : sizeT E e with
              | none => trivial
              | some s =>
                simp only [iaddr3, natS_eq, ptrV]
                refine ⟨.pointer (some ⟨bi.blk, bi.sh + (o + i * s), none⟩), ?_, .ptr b (o + i * s) bi hi⟩
                simp [Instr.indexAt, asIntOf, hr, hb', ok_run_size ok hs, Addr.add_lit, Nat.add_assoc]
        | _ => trivial
      | _ => trivial
    | array len e =>
      cases hx with
      | ptr b o bi hi =>
        cases hy with
        | int k i =>
          cases i with
          | negSucc i => trivial
          | ofNat i =>
            simp only [iaddr1]
            cases hb : Nat.blt i len with
            | false => trivial
            | true =>
              have hb' := blt_iff.1 hb
              simp only [iaddr2]
              cases hs : sizeT E e with
              | none => trivial
              | some s =>
                simp only [iaddr3, natS_eq, ptrV]
                refine ⟨.pointer (some ⟨bi.blk, bi.sh + (o + i * s), none⟩), ?_, .ptr b (o + i * s) bi hi⟩
                simp [Instr.indexAt, asIntOf, hr, hb', Instr.sureAddr, ok_run_size ok hs, Addr.add_lit, Nat.add_assoc]
        | _ => trivial
      | _ => trivial
    | _ => trivial

theorem index_ok (ok : EnvOk E P) {x y : AV} {x' y' : Value} (hx : VR β x x') (hy : VR β y y') : OK1 P β h w n (Instr.index t x' y') (indexV E t x y) := by
  unfold indexV
  cases hu : und E t with
  | none => trivial
  | some d =>
    have hr := ok_run_und (w := w) ok hu
    cases d with
    | string =>
      cases hx with
      | str s =>
        cases hy with
        | int k i =>
          cases i with
          | negSucc i => trivial
          | ofNat i =>
            simp only [idx1]
            cases hb : nth i s.data.toList with
            | none => trivial
            | some c =>
              simp only [byteV, natS_eq, u8V]
              have hb' := nth_list hb
              have hb2 : s[i]? = some c := by
                have : s.data[i]? = some c := by simpa using hb'
                rw [← this]; rfl
              refine ⟨_, ?_, .int _ _⟩
              simp [Instr.index, asIntOf, hr, hb2]
        | _ => trivial
      | _ => trivial
    | array len e =>
      cases hx with
      | agg cs cs' hcs =>
        cases hy with
        | int k i =>
          cases i with
          | negSucc i => trivial
          | ofNat i =>
            simp only [idx1]
            cases hb : Nat.blt i len with
            | false => trivial
            | true =>
              have hb' := blt_iff.1 hb
              simp only [idx2]
              cases hs : sizeT E e with
              | none => trivial
              | some s =>
                simp only [idx3]
                cases hp : partOf E e cs (Nat.mul i s) with
                | none => trivial
                | some v =>
                  obtain ⟨v', h1, h2⟩ := part_rel (w := w) ok hcs hp
                  have h1' : (part e cs' (i * s)).run P w = .ok v' w := h1
                  exact ⟨v', by simp [Instr.index, asIntOf, hr, hb', ok_run_size ok hs, h1'], h2⟩
        | _ => trivial
      | _ => trivial
    | _ => trivial
end
end Go.Am
