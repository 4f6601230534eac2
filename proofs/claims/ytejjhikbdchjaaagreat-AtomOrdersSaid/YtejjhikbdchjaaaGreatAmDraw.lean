/-
  AM: regions with an open order: what the plan says.
-/
import Derived.Test.YtejjhikbdchjaaaGreatAmCall
import Derived.Orders
set_option linter.unusedSectionVars false
namespace Go.Am
variable [Vals]

theorem nth_eq {α : Type} : ∀ (i : Nat) (l : List α), nth i l = l[i]?
  | 0, [] => rfl
  | _ + 1, [] => rfl
  | 0, x :: l => by simp [nth]
  | i + 1, x :: l => by simp [nth, nth_eq i l]

/-- One stands ahead of another. -/
def Anc (an : List Nat) (i k : Nat) : Prop := ∃ m, nth k an = some m ∧ hasB m i = true

theorem ancE_iff (acc : List Nat) (i : Nat) : ∀ es : List Edge, hasB (ancE acc es) i = true ↔ ∃ e ∈ es, Region.binds .any e = true ∧ (e.on = i ∨ ∃ m, nth e.on acc = some m ∧ hasB m i = true)
  | [] => by simp [ancE, hasB]
  | e :: es => by
    have ih := ancE_iff acc i es
    simp only [ancE]
    cases hb : Region.binds .any e with
    | false =>
      simp only [ih, List.mem_cons, exists_eq_or_imp, hb]
      simp
    | true =>
      have h1 : hasB (Nat.lor (Nat.lor (Nat.pow 2 e.on) (match nth e.on acc with | some m => m | none => 0)) (ancE acc es)) i =
          ((hasB (Nat.pow 2 e.on) i || hasB (match nth e.on acc with | some m => m | none => 0) i) || hasB (ancE acc es) i) := by
        show Nat.testBit (Nat.pow 2 e.on ||| _ ||| ancE acc es) i = _
        rw [Nat.testBit_or, Nat.testBit_or]; rfl
      have h2 : hasB (Nat.pow 2 e.on) i = true ↔ e.on = i := by
        show Nat.testBit (2 ^ e.on) i = true ↔ _
        rw [Nat.testBit_two_pow]; simp
      have h3 : hasB (match nth e.on acc with | some m => m | none => 0) i = true ↔ ∃ m, nth e.on acc = some m ∧ hasB m i = true := by
        cases nth e.on acc with
        | none => simp [hasB]
        | some m => simp
      show hasB (Nat.lor (Nat.lor (Nat.pow 2 e.on) (match nth e.on acc with | some m => m | none => 0)) (ancE acc es)) i = true ↔ _
      rw [h1]
      simp only [Bool.or_eq_true, h2, h3, ih, List.mem_cons, exists_eq_or_imp, hb, true_and]

theorem ancs_spec : ∀ (L : List Oper) (acc : List Nat), (ancs L acc).length = acc.length + L.length ∧ (ancs L acc).take acc.length = acc ∧
    ∀ k o, L[k]? = some o → (ancs L acc)[acc.length + k]? = some (ancE ((ancs L acc).take (acc.length + k)) o.after.toList)
  | [], acc => by simp [ancs]
  | o :: L, acc => by
    obtain ⟨h1, h2, h3⟩ := ancs_spec L (acc ++ [ancE acc o.after.toList])
    simp only [ancs]
    simp only [List.length_append, List.length_cons, List.length_nil, Nat.zero_add] at h1 h2 h3
    have h4 : (ancs L (acc ++ [ancE acc o.after.toList])).take acc.length = acc := by
      have := congrArg (List.take acc.length) h2
      rw [List.take_take, Nat.min_eq_left (by omega)] at this
      rw [this]; simp
    refine ⟨by simp [h1]; omega, h4, ?_⟩
    intro k o' hk
    cases k with
    | zero =>
      simp at hk; subst hk
      rw [Nat.add_zero, h4]
      have : (ancs L (acc ++ [ancE acc o.after.toList]))[acc.length]? = ((ancs L (acc ++ [ancE acc o.after.toList])).take (acc.length + 1))[acc.length]? := by
        rw [List.getElem?_take, if_pos (by omega)]
      rw [this, h2]; simp
    | succ k =>
      have := h3 k o' (by simpa using hk)
      rw [show acc.length + (k + 1) = acc.length + 1 + k by omega]
      exact this

section
variable {ops : List Oper}

def Bind (ops : List Oper) (k i : Nat) : Prop := ∃ o e, ops[k]? = some o ∧ e ∈ o.after.toList ∧ Region.binds .any e = true ∧ e.on = i

theorem anc_iff {i k : Nat} : Anc (ancs ops []) i k ↔ ∃ j, Bind ops k j ∧ (j = i ∨ (j < k ∧ Anc (ancs ops []) i j)) := by
  obtain ⟨h1, _, h3⟩ := ancs_spec ops []
  simp only [List.length_nil, Nat.zero_add] at h1 h3
  constructor
  · rintro ⟨m, hm, hb⟩
    rw [nth_eq] at hm
    have hk : k < ops.length := by
      rcases Nat.lt_or_ge k ops.length with h | h
      · exact h
      · rw [List.getElem?_eq_none (by omega)] at hm; cases hm
    have ho : ops[k]? = some ops[k] := by simp [hk]
    rw [h3 k _ ho] at hm
    cases hm
    obtain ⟨e, he, hbi, h⟩ := (ancE_iff _ _ _).1 hb
    refine ⟨e.on, ⟨_, e, ho, he, hbi, rfl⟩, ?_⟩
    rcases h with h | ⟨m, hm, hmi⟩
    · exact .inl h
    · right
      rw [nth_eq, List.getElem?_take] at hm
      split at hm
      · rename_i hlt; exact ⟨hlt, m, by rw [nth_eq]; exact hm, hmi⟩
      · cases hm
  · rintro ⟨j, ⟨o, e, ho, he, hbi, rfl⟩, h⟩
    refine ⟨_, by rw [nth_eq]; exact h3 k o ho, (ancE_iff _ _ _).2 ⟨e, he, hbi, ?_⟩⟩
    rcases h with h | ⟨hlt, m, hm, hmi⟩
    · exact .inl h
    · right
      refine ⟨m, ?_, hmi⟩
      rw [nth_eq, List.getElem?_take, if_pos hlt, ← nth_eq]; exact hm

theorem anc_closed {S : Nat → Prop} (hS : ∀ k i, S k → Bind ops k i → S i) : ∀ k i, S k → Anc (ancs ops []) i k → S i := by
  intro k
  induction k using Nat.strongRecOn with
  | _ k ih =>
    intro i hk ha
    obtain ⟨j, hj, h⟩ := anc_iff.1 ha
    have hSj := hS k j hk hj
    rcases h with rfl | ⟨hlt, h⟩
    · exact hSj
    · exact ih j hlt i hSj h

theorem dstOk_spec {an : List Nat} {k t : Nat} : ∀ {l : List Oper} {i0 : Nat}, dstOk an k t i0 l = true → ∀ (i : Nat) (o : Oper), l[i]? = some o → o.dst = some t → i0 + i = k ∨ Anc an (i0 + i) k ∨ Anc an k (i0 + i)
  | [], _, _, i, o, ho, _ => by simp at ho
  | x :: l, i0, h, i, o, ho, hd => by
    simp only [dstOk] at h
    rw [band_eq] at h
    cases i with
    | succ i =>
      have := dstOk_spec h.2 i o (by simpa using ho) hd
      rw [show i0 + (i + 1) = i0 + 1 + i by omega]; exact this
    | zero =>
      simp at ho; subst ho
      have h1 := h.1
      rw [hd] at h1
      simp only [Nat.beq_refl, bor_eq, Bool.or_eq_true] at h1
      rcases h1 with h1 | h1
      · exact .inl (Nat.eq_of_beq_eq_true h1)
      · right
        unfold ordd at h1
        split at h1
        · rename_i a b ha hb
          rw [bor_eq, Bool.or_eq_true] at h1
          rcases h1 with h1 | h1
          · exact .inl ⟨b, hb, h1⟩
          · exact .inr ⟨a, ha, h1⟩
        · cases h1
theorem useOk_spec {an : List Nat} {all : List Oper} {k : Nat} : ∀ {ts : List Nat}, useOk an all k ts = true → ∀ t ∈ ts, dstOk an k t 0 all = true
  | [], _, t, ht => by simp at ht
  | x :: ts, h, t, ht => by
    simp only [useOk] at h
    rw [band_eq] at h
    rcases List.mem_cons.1 ht with rfl | ht
    · exact h.1
    · exact useOk_spec h.2 t ht
theorem tmpsIn_mem : ∀ {l : List Operand} {t : Nat}, Operand.tmp t ∈ l → t ∈ tmpsIn l
  | x :: l, t, h => by
    rcases List.mem_cons.1 h with rfl | h
    · exact List.mem_cons_self
    · have := tmpsIn_mem h
      cases x with
      | tmp u => exact List.mem_cons_of_mem _ this
      | _ => exact this
theorem backE_spec {k : Nat} : ∀ {es : List Edge}, backE k es = true → ∀ e ∈ es, Region.binds .any e = true → e.on < k
  | [], _, e, he, _ => by simp at he
  | x :: es, h, e, he, hb => by
    simp only [backE] at h
    rw [band_eq] at h
    rcases List.mem_cons.1 he with rfl | he
    · have := h.1; rw [hb] at this; exact blt_iff.1 this
    · exact backE_spec h.2 e he hb

theorem opersOk_spec {an : List Nat} {all : List Oper} {l : List Oper} : ∀ {k0 : Nat}, opersOk an all k0 l = true → ∀ (k : Nat) (o : Oper), l[k]? = some o →
    backE (k0 + k) o.after.toList = true ∧ guardOk an (k0 + k) o.guard = true ∧ useOk an all (k0 + k) (tmpsIn o.op.operands.toList) = true ∧ kindOf o.op < 4 := by
  induction l with
  | nil => intro k0 _ k o ho; simp at ho
  | cons x l ih =>
    intro k0 h k o ho
    unfold opersOk at h
    rw [band_eq] at h
    obtain ⟨ha, hb⟩ := h
    rw [band_eq] at ha
    obtain ⟨h1, ha⟩ := ha
    rw [band_eq] at ha
    obtain ⟨h2, ha⟩ := ha
    rw [band_eq] at ha
    obtain ⟨h3, h4⟩ := ha
    cases k with
    | zero =>
      simp only [List.getElem?_cons_zero, Option.some.injEq] at ho
      subst ho
      exact ⟨h1, h2, h3, blt_iff.1 h4⟩
    | succ k =>
      have := ih hb k o (by simpa using ho)
      rw [show k0 + (k + 1) = k0 + 1 + k by omega]; exact this

theorem dstNew_spec {t : Nat} {l : List Oper} : dstNew t l = true → ∀ o ∈ l, o.dst ≠ some t := by
  induction l with
  | nil => intro _ o ho; simp at ho
  | cons x l ih =>
    intro h o ho
    unfold dstNew at h
    rw [band_eq] at h
    obtain ⟨h1, h2⟩ := h
    rcases List.mem_cons.1 ho with rfl | ho
    · intro e
      rw [e] at h1
      simp [bnot_eq] at h1
    · exact ih h2 o ho
theorem dstsOk_spec : ∀ {l : List Oper}, dstsOk l = true → ∀ (i k : Nat) (oi ok : Oper) (t : Nat), l[i]? = some oi → l[k]? = some ok → oi.dst = some t → ok.dst = some t → i = k
  | [], _, i, k, oi, ok, t, hi, _, _, _ => by simp at hi
  | x :: l, h, i, k, oi, ok, t, hi, hk, di, dk => by
    simp only [dstsOk] at h
    rw [band_eq] at h
    cases i with
    | zero =>
      simp at hi; subst hi
      cases k with
      | zero => rfl
      | succ k =>
        exfalso
        have h1 := h.1
        rw [di] at h1
        exact dstNew_spec h1 ok (List.mem_of_getElem? (by simpa using hk)) dk
    | succ i =>
      cases k with
      | zero =>
        exfalso
        simp at hk; subst hk
        have h1 := h.1
        rw [dk] at h1
        exact dstNew_spec h1 oi (List.mem_of_getElem? (by simpa using hi)) di
      | succ k => rw [dstsOk_spec h.2 i k oi ok t (by simpa using hi) (by simpa using hk) di dk]

theorem kinds_get : ∀ {l : List Oper} {k : Nat}, (kinds l)[k]? = (l[k]?).map fun o => kindOf o.op
  | [], k => by simp [kinds]
  | o :: l, 0 => by simp [kinds]
  | o :: l, k + 1 => by simpa [kinds] using kinds_get (l := l) (k := k)
theorem placesOf_mem {q : Nat} : ∀ {l : List Nat} {i0 i : Nat}, i ∈ placesOf q i0 l ↔ ∃ k, i = i0 + k ∧ l[k]? = some q
  | [], i0, i => by simp [placesOf]
  | x :: l, i0, i => by
    have ih := placesOf_mem (q := q) (l := l) (i0 := i0 + 1) (i := i)
    have hshift : (∃ k, i = i0 + k ∧ (x :: l)[k]? = some q) ↔ (i = i0 ∧ x = q) ∨ ∃ k, i = i0 + 1 + k ∧ l[k]? = some q := by
      constructor
      · rintro ⟨k, rfl, hk⟩
        cases k with
        | zero => simp at hk; exact .inl ⟨rfl, hk⟩
        | succ k => exact .inr ⟨k, by omega, by simpa using hk⟩
      · rintro (⟨rfl, rfl⟩ | ⟨k, rfl, hk⟩)
        · exact ⟨0, rfl, by simp⟩
        · exact ⟨k + 1, by omega, by simpa using hk⟩
    rw [hshift, ← ih]
    simp only [placesOf]
    cases hb : Nat.beq x q with
    | true =>
      have := Nat.eq_of_beq_eq_true hb
      simp [this]
    | false =>
      have := Nat.ne_of_beq_eq_false hb
      simp [this]
theorem places_mem {q i : Nat} : i ∈ placesOf q 0 (kinds ops) ↔ ∃ o, ops[i]? = some o ∧ kindOf o.op = q := by
  rw [placesOf_mem]
  constructor
  · rintro ⟨k, rfl, hk⟩
    rw [kinds_get] at hk
    rw [Nat.zero_add]
    cases ho : ops[k]? with
    | none => rw [ho] at hk; cases hk
    | some o => rw [ho] at hk; exact ⟨o, rfl, by simpa using hk⟩
  · rintro ⟨o, ho, hq⟩
    exact ⟨i, by omega, by rw [kinds_get, ho]; simp [hq]⟩

theorem allIn_spec {m : Nat} : ∀ {l : List Nat}, allIn m l = true → ∀ i ∈ l, hasB m i = true
  | x :: l, h, i, hi => by
    simp only [allIn] at h
    rw [band_eq] at h
    rcases List.mem_cons.1 hi with rfl | hi
    · exact h.1
    · exact allIn_spec h.2 i hi
theorem belowK_mem {k : Nat} : ∀ {l : List Nat} {i : Nat}, i ∈ l → i < k → i ∈ belowK k l
  | x :: l, i, hi, hlt => by
    simp only [belowK]
    rcases List.mem_cons.1 hi with rfl | hi
    · rw [show Nat.blt i k = true from blt_iff.2 hlt]; exact List.mem_cons_self
    · have := belowK_mem hi hlt
      split
      · exact List.mem_cons_of_mem _ this
      · exact this
theorem writersOk_spec {an ws as : List Nat} : ∀ {l : List Nat}, writersOk an ws as l = true → ∀ k ∈ l, ∀ i, (i ∈ ws ∨ i ∈ as) → i < k → Anc an i k
  | x :: l, h, k, hk, i, hi, hlt => by
    simp only [writersOk] at h
    rw [band_eq] at h
    rcases List.mem_cons.1 hk with rfl | hk
    · have h1 := h.1
      cases hm : nth k an with
      | none => rw [hm] at h1; cases h1
      | some m =>
        rw [hm] at h1
        simp only at h1
        rw [band_eq] at h1
        refine ⟨m, hm, ?_⟩
        rcases hi with hi | hi
        · exact allIn_spec h1.1 i (belowK_mem hi hlt)
        · exact allIn_spec h1.2 i (belowK_mem hi hlt)
    · exact writersOk_spec h.2 k hk i hi hlt

theorem itemsOf_get {an ws : List Nat} : ∀ {l : List Oper} {k0 k : Nat} {it : Item}, (itemsOf an ws k0 l)[k]? = some it → ∃ o, l[k]? = some o ∧ it.o = o ∧ it.kind = kindOf o.op ∧
    it.lo = (match nth (k0 + k) an with | some m => countIn m ws | none => 0) ∧ it.hi = countNot an (k0 + k) ws
  | [], _, k, it, h => by simp [itemsOf] at h
  | o :: l, k0, 0, it, h => by
    simp only [itemsOf, List.getElem?_cons_zero, Option.some.injEq] at h
    subst h
    exact ⟨o, by simp, rfl, rfl, rfl, rfl⟩
  | o :: l, k0, k + 1, it, h => by
    simp only [itemsOf, List.getElem?_cons_succ] at h
    obtain ⟨o', h1, h2, h3, h4, h5⟩ := itemsOf_get h
    rw [show k0 + (k + 1) = k0 + 1 + k by omega]
    exact ⟨o', by simpa using h1, h2, h3, h4, h5⟩
theorem itemsOf_len {an ws : List Nat} : ∀ {l : List Oper} {k0 : Nat}, (itemsOf an ws k0 l).length = l.length
  | [], _ => rfl
  | o :: l, k0 => by simp [itemsOf, itemsOf_len]

/-- What the plan says. -/
structure PlanOk (ops : List Oper) (its : List Item) : Prop where
  len : its.length = ops.length
  item : ∀ (k : Nat) (it : Item), its[k]? = some it → ∃ o, ops[k]? = some o ∧ it.o = o ∧ it.kind = kindOf o.op ∧
    it.lo = (match nth k (ancs ops []) with | some m => countIn m (placesOf 3 0 (kinds ops)) | none => 0) ∧ it.hi = countNot (ancs ops []) k (placesOf 3 0 (kinds ops))
  dst : ∀ (i k : Nat) (oi ok : Oper) (t : Nat), ops[i]? = some oi → ops[k]? = some ok → oi.dst = some t → ok.dst = some t → i = k
  back : ∀ k i, Bind ops k i → i < k
  guard : ∀ (k : Nat) (o : Oper) (j : Nat) (w : Bool), ops[k]? = some o → o.guard = some (j, w) → Anc (ancs ops []) j k
  use : ∀ (k : Nat) (o : Oper) (t i : Nat) (oi : Oper), ops[k]? = some o → Operand.tmp t ∈ o.op.operands → ops[i]? = some oi → oi.dst = some t → i = k ∨ Anc (ancs ops []) i k ∨ Anc (ancs ops []) k i
  kind : ∀ (k : Nat) (o : Oper), ops[k]? = some o → kindOf o.op < 4
  wr : ∀ (k : Nat) (o : Oper) (i : Nat) (oi : Oper), ops[k]? = some o → kindOf o.op = 3 → ops[i]? = some oi → (kindOf oi.op = 3 ∨ kindOf oi.op = 2) → i < k → Anc (ancs ops []) i k
theorem PlanOk.lt {its : List Item} (p : PlanOk ops its) : ∀ k i, Anc (ancs ops []) i k → i < k := by
  intro k
  induction k using Nat.strongRecOn with
  | _ k ih =>
    intro i ha
    obtain ⟨j, hj, h⟩ := anc_iff.1 ha
    have := p.back k j hj
    rcases h with rfl | ⟨hlt, h⟩
    · exact this
    · have := ih j hlt i h; omega

theorem plan_ok {its : List Item} (h : plan ops = some its) : PlanOk ops its := by
  unfold plan at h
  cases hp : planOk ops with
  | false => rw [hp] at h; cases h
  | true =>
    rw [hp] at h
    simp only [plan1, Option.some.injEq] at h
    subst h
    unfold planOk at hp
    rw [band_eq, band_eq] at hp
    obtain ⟨h1, h2, h3⟩ := hp
    have hop := fun k o ho => opersOk_spec h2 k o ho
    simp only [Nat.zero_add] at hop
    refine ⟨itemsOf_len, fun k it hi => ?_, dstsOk_spec h1, ?_, ?_, ?_, fun k o ho => (hop k o ho).2.2.2, ?_⟩
    · obtain ⟨o, k1, k2, k3, k4, k5⟩ := itemsOf_get hi
      simp only [Nat.zero_add] at k4 k5
      exact ⟨o, k1, k2, k3, k4, k5⟩
    · rintro k i ⟨o, e, ho, he, hb, rfl⟩
      exact backE_spec (hop k o ho).1 e he hb
    · intro k o j w ho hg
      have := (hop k o ho).2.1
      rw [hg] at this
      simp only [guardOk] at this
      cases hm : nth k (ancs ops []) with
      | none => rw [hm] at this; cases this
      | some m => rw [hm] at this; exact ⟨m, hm, this⟩
    · intro k o t i oi ho ht hi hd
      have := useOk_spec (hop k o ho).2.2.1 t (tmpsIn_mem (by simpa using ht))
      have := dstOk_spec this i oi hi hd
      simpa using this
    · intro k o i oi ho hk hi hki hlt
      refine writersOk_spec h3 k (places_mem.2 ⟨o, ho, hk⟩) i ?_ hlt
      rcases hki with hki | hki
      · exact .inl (places_mem.2 ⟨oi, hi, hki⟩)
      · exact .inr (places_mem.2 ⟨oi, hi, hki⟩)
end
end Go.Am
