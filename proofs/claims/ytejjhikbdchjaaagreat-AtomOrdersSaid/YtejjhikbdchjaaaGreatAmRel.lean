/-
  AM: what its memory says of the model's: values, blocks; tables by numbers.
-/
import Derived.Test.YtejjhikbdchjaaaGreatAmEval3
import Derived.Defers
import Derived.Tactics
set_option linter.unusedSectionVars false
namespace Go.Am

section
variable {α R : Type}

theorem Tr.get_lf (k : Nat) : (Tr.lf : Tr α).get k = none := rfl
theorem Tr.get_nd_zero (l : Tr α) (v : Option α) (r : Tr α) : (Tr.nd l v r).get 0 = v := rfl
theorem Tr.get_nd_succ (l : Tr α) (v : Option α) (r : Tr α) (m : Nat) :
    (Tr.nd l v r).get (m + 1) = if m % 2 = 0 then l.get (m / 2) else r.get (m / 2) := by
  have h2 : Nat.land m 1 = m % 2 := Nat.and_one_is_mod m
  have h3 : Nat.shiftRight m 1 = m / 2 := rfl
  show Nat.rec (motive := fun _ => Nat → Option α) l.get (fun _ _ => r.get) (Nat.land m 1) (Nat.shiftRight m 1) = _
  rw [h2, h3]
  rcases Nat.mod_two_eq_zero_or_one m with h | h
  · rw [h, if_pos rfl]; rfl
  · rw [h, if_neg (by decide)]; rfl

/-- What putting comes to, if it comes to anything. -/
theorem Tr.putK_spec (d : Nat) : ∀ (t : Tr α) (k : Nat) (x : Option α),
    (∃ t' : Tr α, (∀ (R : Type) (bad : R) (K : Tr α → R), Tr.putK bad d t k x K = K t') ∧ ∀ j, t'.get j = if j = k then x else t.get j) ∨
    (∀ (R : Type) (bad : R) (K : Tr α → R), Tr.putK bad d t k x K = bad) := by
  induction d with
  | zero => intro t k x; right; intro R bad K; rfl
  | succ d ih =>
    intro t k x
    have key : ∀ (l : Tr α) (v : Option α) (r : Tr α),
        (∀ (R : Type) (bad : R) (K : Tr α → R), Tr.putK bad (d + 1) t k x K =
          Nat.rec (motive := fun _ => R) (K (.nd l x r))
            (fun m _ => Nat.rec (motive := fun _ => R) (Tr.putK bad d l (Nat.shiftRight m 1) x fun l' => K (.nd l' v r)) (fun _ _ => Tr.putK bad d r (Nat.shiftRight m 1) x fun r' => K (.nd l v r')) (Nat.land m 1)) k) →
        (∀ j, t.get j = (Tr.nd l v r).get j) →
        (∃ t' : Tr α, (∀ (R : Type) (bad : R) (K : Tr α → R), Tr.putK bad (d + 1) t k x K = K t') ∧ ∀ j, t'.get j = if j = k then x else t.get j) ∨
        (∀ (R : Type) (bad : R) (K : Tr α → R), Tr.putK bad (d + 1) t k x K = bad) := by
      intro l v r he hg
      cases k with
      | zero =>
        left
        refine ⟨.nd l x r, fun R bad K => by rw [he]; rfl, fun j => ?_⟩
        rw [hg]
        cases j with
        | zero => simp [Tr.get_nd_zero]
        | succ j => simp [Tr.get_nd_succ]
      | succ m =>
        have h2 : Nat.land m 1 = m % 2 := Nat.and_one_is_mod m
        have h3 : Nat.shiftRight m 1 = m / 2 := rfl
        have hj : ∀ j, (j = m) ↔ (j % 2 = m % 2 ∧ j / 2 = m / 2) := by intro j; omega
        rcases Nat.mod_two_eq_zero_or_one m with hm | hm
        · rcases ih l (m / 2) x with ⟨l', h1, hl⟩ | hbad
          · left
            refine ⟨.nd l' v r, fun R bad K => ?_, fun j => ?_⟩
            · rw [he]; simp only [h2, h3, hm]; exact h1 R bad _
            · rw [hg]
              cases j with
              | zero => simp [Tr.get_nd_zero]
              | succ j =>
                rw [Tr.get_nd_succ, Tr.get_nd_succ]
                by_cases hj2 : j % 2 = 0
                · simp only [hj2, if_true, hl, Nat.add_right_cancel_iff]
                  by_cases hq : j / 2 = m / 2
                  · rw [if_pos hq, if_pos ((hj j).2 ⟨by omega, hq⟩)]
                  · rw [if_neg hq, if_neg (fun h => hq ((hj j).1 h).2)]
                · simp only [hj2, if_false, Nat.add_right_cancel_iff]
                  rw [if_neg (fun h => hj2 (by rw [h]; exact hm))]
          · right
            intro R bad K
            rw [he]; simp only [h2, h3, hm]; exact hbad R bad _
        · rcases ih r (m / 2) x with ⟨r', h1, hl⟩ | hbad
          · left
            refine ⟨.nd l v r', fun R bad K => ?_, fun j => ?_⟩
            · rw [he]; simp only [h2, h3, hm]; exact h1 R bad _
            · rw [hg]
              cases j with
              | zero => simp [Tr.get_nd_zero]
              | succ j =>
                rw [Tr.get_nd_succ, Tr.get_nd_succ]
                by_cases hj2 : j % 2 = 0
                · simp only [hj2, if_true, Nat.add_right_cancel_iff]
                  rw [if_neg (fun h => by rw [h, hm] at hj2; cases hj2)]
                · simp only [hj2, if_false, hl, Nat.add_right_cancel_iff]
                  by_cases hq : j / 2 = m / 2
                  · rw [if_pos hq, if_pos ((hj j).2 ⟨by omega, hq⟩)]
                  · rw [if_neg hq, if_neg (fun h => hq ((hj j).1 h).2)]
          · right
            intro R bad K
            rw [he]; simp only [h2, h3, hm]; exact hbad R bad _
    cases t with
    | lf =>
      refine key .lf none .lf (fun R bad K => rfl) fun j => ?_
      cases j with
      | zero => rfl
      | succ j => rw [Tr.get_nd_succ]; simp [Tr.get_lf]
    | nd l v r => exact key l v r (fun R bad K => rfl) fun j => rfl

theorem Tr.put_spec {d : Nat} {t t' : Tr α} {k : Nat} {x : Option α} (h : Tr.put d t k x = some t') : ∀ j, t'.get j = if j = k then x else t.get j := by
  rcases Tr.putK_spec d t k x with ⟨u, h1, h2⟩ | hbad
  · have := h1 (Option (Tr α)) none some
    rw [show Tr.put d t k x = Tr.putK none d t k x some from rfl, this] at h
    cases h; exact h2
  · rw [show Tr.put d t k x = Tr.putK none d t k x some from rfl, hbad] at h; cases h

theorem Tr.ofList_get (l : List α) : ∀ (i : Nat) (t : Tr α) (j : Nat) (x : α), (Tr.ofList l i t).get j = some x → (∃ k, j = i + k ∧ l[k]? = some x) ∨ t.get j = some x := by
  induction l with
  | nil => intro i t j x h; exact .inr h
  | cons y l ih =>
    intro i t j x h
    have hstep : Tr.ofList (y :: l) i t = Tr.putK t 40 t i (some y) fun t' => Tr.ofList l (i + 1) t' := rfl
    rw [hstep] at h
    rcases Tr.putK_spec 40 t i (some y) with ⟨u, h1, h2⟩ | hbad
    · rw [h1] at h
      rcases ih (i + 1) u j x h with ⟨k, rfl, hk⟩ | hu
      · exact .inl ⟨k + 1, by omega, by simpa using hk⟩
      · rw [h2] at hu
        by_cases hj : j = i
        · rw [if_pos hj] at hu; cases hu; exact .inl ⟨0, by omega, rfl⟩
        · rw [if_neg hj] at hu; exact .inr hu
    · rw [hbad] at h; exact .inr h

theorem Tr.ofList_lf {l : List α} {j : Nat} {x : α} (h : (Tr.ofList l 0 .lf).get j = some x) : l[j]? = some x := by
  rcases Tr.ofList_get l 0 .lf j x h with ⟨k, rfl, hk⟩ | h
  · simpa using hk
  · cases h
end

/-- Where a block's name leads: the model's block, from which cell on, how many cells there is room for. -/
structure BI where
  blk : Nat
  sh : Nat
  sz : Nat

abbrev Ren := Nat → Option BI

/-- What numbers have that have a name alone. -/
class Vals where
  σ : Nat → Int
  φ : Nat → Nat
variable [Vals]

mutual
/-- A value of AM's, and one of the model's. -/
inductive VR (β : Ren) : AV → Value → Prop
  | bool (b : Bool) : VR β (.bool b) (.bool b)
  | int (k : IntKind) (n : Int) : VR β (.int k n) (.int k n)
  | flt (b : Nat) : VR β (.flt b) (.float .f64 b)
  | str (s : ByteArray) : VR β (.str s) (.string s)
  | nilp : VR β .nilp (.pointer none)
  | ptr (b o : Nat) (i : BI) (hi : β b = some i) : VR β (.ptr b o) (.pointer (some ⟨i.blk, i.sh + o, none⟩))
  | nils : VR β .nils (.slice none 0 0)
  | slice (b o l c c' : Nat) (ex : Bool) (es : Nat) (i : BI) (hi : β b = some i) (hc : c ≤ c') (hl : l ≤ c) (hx : ex = true → c' = c) (hr : o + c' * es ≤ i.sz) :
      VR β (.slice b o l c ex es) (.slice (some ⟨i.blk, i.sh + o, none⟩) l c')
  | nilm : VR β .nilm (.map none)
  | map (b : Nat) (i : BI) (hi : β b = some i) : VR β (.map b) (.map (some i.blk))
  | nilf : VR β .nilf .nilFunc
  | func (f : FuncId) (a c : List AV) (a' c' : Array Value) (ha : VRs β a a'.toList) (hc : VRs β c c'.toList) : VR β (.func f a c) (.func (.func f) a' c')
  | nili : VR β .nili .nilIface
  | iface (t : TypeId) (v : AV) (v' : Value) (h : VR β v v') : VR β (.iface t v) (.iface t v')
  | agg (l : List AV) (l' : Array Value) (h : VRs β l l'.toList) : VR β (.agg l) (.agg l')
  | tup (l : List AV) (l' : Array Value) (h : VRs β l l'.toList) : VR β (.tup l) (.tuple l')
  | opq (i : Nat) (v : Value) : VR β (.opq i) v
  | sym (k : IntKind) (i : Nat) : VR β (.sym k i) (.int k (Vals.σ i))
  | fsym (i : Nat) : VR β (.fsym i) (.float .f64 (Vals.φ i))
inductive VRs (β : Ren) : List AV → List Value → Prop
  | nil : VRs β [] []
  | cons (v : AV) (v' : Value) (l : List AV) (l' : List Value) (h : VR β v v') (hl : VRs β l l') : VRs β (v :: l) (v' :: l')
end

/-- More names lead somewhere. -/
def Ren.le (β β' : Ren) : Prop := ∀ b i, β b = some i → β' b = some i

mutual
theorem VR.mono {β β' : Ren} (h : β.le β') : ∀ {v : AV} {v' : Value}, VR β v v' → VR β' v v'
  | _, _, .bool b => .bool b
  | _, _, .int k n => .int k n
  | _, _, .flt b => .flt b
  | _, _, .str s => .str s
  | _, _, .nilp => .nilp
  | _, _, .ptr b o i hi => .ptr b o i (h _ _ hi)
  | _, _, .nils => .nils
  | _, _, .slice b o l c c' ex es i hi hc hl hx hr => .slice b o l c c' ex es i (h _ _ hi) hc hl hx hr
  | _, _, .nilm => .nilm
  | _, _, .map b i hi => .map b i (h _ _ hi)
  | _, _, .nilf => .nilf
  | _, _, .func f a c a' c' ha hc => .func f a c a' c' (VRs.mono h ha) (VRs.mono h hc)
  | _, _, .nili => .nili
  | _, _, .iface t v v' k => .iface t v v' (VR.mono h k)
  | _, _, .agg l l' k => .agg l l' (VRs.mono h k)
  | _, _, .tup l l' k => .tup l l' (VRs.mono h k)
  | _, _, .opq i v => .opq i v
  | _, _, .sym k i => .sym k i
  | _, _, .fsym i => .fsym i
theorem VRs.mono {β β' : Ren} (h : β.le β') : ∀ {l : List AV} {l' : List Value}, VRs β l l' → VRs β' l l'
  | _, _, .nil => .nil
  | _, _, .cons v v' l l' k kl => .cons v v' l l' (VR.mono h k) (VRs.mono h kl)
end

section
variable {β β' : Ren}

theorem VRs.length {l : List AV} {l' : List Value} (h : VRs β l l') : l.length = l'.length := by
  induction l generalizing l' with
  | nil => cases h; rfl
  | cons v l ih => cases h with | cons _ v' _ l'' h hl => simp [ih hl]

theorem VRs.nth {l : List AV} {l' : List Value} (h : VRs β l l') : ∀ {i : Nat} {v : AV}, nth i l = some v → ∃ v', l'[i]? = some v' ∧ VR β v v' := by
  induction l generalizing l' with
  | nil => intro i v hi; cases i <;> cases hi
  | cons u l ih =>
    cases h with
    | cons _ u' _ l'' h hl =>
      intro i v hi
      cases i with
      | zero => cases hi; exact ⟨u', rfl, h⟩
      | succ i => simpa using ih hl hi

theorem VRs.takeN {l r : List AV} {l' : List Value} (h : VRs β l l') : ∀ {n : Nat}, Am.takeN n l = some r → VRs β r (l'.take n) ∧ r.length = n ∧ n ≤ l'.length := by
  induction l generalizing l' r with
  | nil => intro n hn; cases n with
    | zero => cases hn; cases h; exact ⟨.nil, rfl, Nat.le_refl _⟩
    | succ n => cases hn
  | cons u l ih =>
    cases h with
    | cons _ u' _ l'' h hl =>
      intro n hn
      cases n with
      | zero => cases hn; exact ⟨.nil, rfl, Nat.zero_le _⟩
      | succ n =>
        simp only [Am.takeN, consO] at hn
        split at hn
        · cases hn
        · rename_i r' hr
          cases hn
          obtain ⟨h1, h2, h3⟩ := ih hl hr
          exact ⟨.cons _ _ _ _ h h1, by simp [h2], by simp [h3]⟩

theorem VRs.dropN {l r : List AV} {l' : List Value} (h : VRs β l l') : ∀ {n : Nat}, Am.dropN n l = some r → VRs β r (l'.drop n) ∧ n ≤ l'.length := by
  induction l generalizing l' r with
  | nil => intro n hn; cases n with
    | zero => cases hn; cases h; exact ⟨.nil, Nat.le_refl _⟩
    | succ n => cases hn
  | cons u l ih =>
    intro n hn
    cases n with
    | zero => cases hn; exact ⟨h, Nat.zero_le _⟩
    | succ n =>
      cases h with
      | cons _ u' _ l'' h hl =>
        obtain ⟨h1, h2⟩ := ih hl (n := n) hn
        exact ⟨by simpa using h1, by simp [h2]⟩

theorem VRs.app {a b r : List AV} {a' b' : List Value} (h : VRs β a a') (k : VRs β b b') (hr : Am.app a b = some r) : VRs β r (a' ++ b') := by
  induction a generalizing a' r with
  | nil => cases h; cases hr; exact k
  | cons u l ih =>
    cases h with
    | cons _ u' _ l'' h hl =>
      simp only [Am.app, consO] at hr
      split at hr
      · cases hr
      · rename_i r' hr'; cases hr; exact .cons _ _ _ _ h (ih hl hr')

theorem VRs.over0 {l vs r : List AV} {l' vs' : List Value} (h : VRs β l l') (k : VRs β vs vs') (hr : Am.over0 l vs = some r) :
    VRs β r (vs' ++ l'.drop vs'.length) ∧ vs'.length ≤ l'.length := by
  induction l generalizing l' vs vs' r with
  | nil =>
    cases h
    cases vs with
    | nil => cases k; cases hr; exact ⟨.nil, Nat.le_refl _⟩
    | cons v vs => cases hr
  | cons u l ih =>
    cases vs with
    | nil => cases k; cases hr; exact ⟨by simpa using h, Nat.zero_le _⟩
    | cons v vs =>
      cases k with
      | cons _ v' _ vs'' k1 k2 =>
        cases h with
        | cons _ u' _ l'' h hl =>
          simp only [Am.over0, consO] at hr
          split at hr
          · cases hr
          · rename_i r' hr'; cases hr
            obtain ⟨h1, h2⟩ := ih hl k2 hr'
            exact ⟨.cons _ _ _ _ k1 (by simpa using h1), by simpa using h2⟩

/-- A list with others put over it from a place on. -/
def overV (o : Nat) (l vs : List Value) : List Value := l.take o ++ vs ++ l.drop (o + vs.length)

theorem VRs.over {l vs r : List AV} {l' vs' : List Value} {o : Nat} (h : VRs β l l') (k : VRs β vs vs') (hr : Am.over o l vs = some r) :
    VRs β r (overV o l' vs') ∧ o + vs'.length ≤ l'.length := by
  induction o generalizing l l' r with
  | zero =>
    obtain ⟨h1, h2⟩ := VRs.over0 h k hr
    exact ⟨by simpa [overV] using h1, by simpa using h2⟩
  | succ o ih =>
    cases l with
    | nil => cases hr
    | cons u l =>
      cases h with
      | cons _ u' _ l'' h hl =>
        simp only [Am.over, consO] at hr
        split at hr
        · cases hr
        · rename_i r' hr'; cases hr
          obtain ⟨h1, h2⟩ := ih hl hr'
          have e : overV (o + 1) (u' :: l'') vs' = u' :: overV o l'' vs' := by simp [overV, Nat.add_right_comm o 1]
          rw [e]
          refine ⟨.cons _ _ _ _ h h1, ?_⟩
          simp only [List.length_cons]
          omega

theorem VRs.reps {z : List AV} {z' : List Value} (h : VRs β z z') : ∀ {n : Nat} {r : List AV}, Am.reps n z = some r → VRs β r (List.replicate n z').flatten := by
  intro n
  induction n with
  | zero => intro r hr; cases hr; exact .nil
  | succ n ih =>
    intro r hr
    simp only [Am.reps, appO] at hr
    split at hr
    · cases hr
    · rename_i r' hr'
      rw [List.replicate_succ, List.flatten_cons]
      exact VRs.app h (ih hr') hr

/-- Entries of a map. -/
inductive Ents (β : Ren) : List (AV × AV) → List MapEntry → Prop
  | nil : Ents β [] []
  | cons (k v : AV) (e : MapEntry) (l : List (AV × AV)) (l' : List MapEntry) (hk : VR β k e.key) (hv : VR β v e.val) (hl : Ents β l l') : Ents β ((k, v) :: l) (e :: l')

theorem Ents.mono (h : β.le β') : ∀ {l : List (AV × AV)} {l' : List MapEntry}, Ents β l l' → Ents β' l l'
  | _, _, .nil => .nil
  | _, _, .cons k v e l l' hk hv hl => .cons k v e l l' (hk.mono h) (hv.mono h) (Ents.mono h hl)
end

abbrev Mem := Nat → Option AO

/-- A row of cells lies in a block. -/
def RowAt (β : Ren) (i : BI) (l : List AV) (w : World) : Prop :=
  ∃ C e, w.heap[i.blk]? = some (.cells C e (0, 0)) ∧ i.sh + i.sz ≤ C.size ∧ l.length ≤ i.sz ∧ VRs β l ((C.toList.drop i.sh).take l.length)
def MapAt (β : Ren) (i : BI) (l : List (AV × AV)) (w : World) : Prop :=
  ∃ es clock, w.heap[i.blk]? = some (.map es clock) ∧ Ents β l es.toList

def RoAt (β : Ren) (i : BI) (l : List AV) (w : World) : Prop :=
  ∃ C e f, w.heap[i.blk]? = some (.cells C e f) ∧ i.sh + i.sz ≤ C.size ∧ l.length ≤ i.sz ∧ VRs β l ((C.toList.drop i.sh).take l.length)
/-- May it be written? -/
def AO.own : AO → Bool
  | .ro _ => false
  | _ => true
def Own (h : Mem) (b : Nat) : Prop := ∃ o, h b = some o ∧ o.own = true

/-- AM's memory, and the model's. -/
structure Rel (β : Ren) (h : Mem) (w : World) : Prop where
  row : ∀ b l, h b = some (.cells l) → ∃ i, β b = some i ∧ RowAt β i l w
  map : ∀ b l, h b = some (.map l) → ∃ i, β b = some i ∧ MapAt β i l w
  ro : ∀ b l, h b = some (.ro l) → ∃ i, β b = some i ∧ RoAt β i l w
  apart : ∀ b b' i i', Own h b → h b' ≠ none → β b = some i → β b' = some i' → i.blk = i'.blk → b = b'

/-- Is a block one that AM's memory has, to be written? -/
def Img (β : Ren) (h : Mem) (k : Nat) : Prop := ∃ b i, Own h b ∧ β b = some i ∧ i.blk = k
theorem Own.ne {h : Mem} {b : Nat} (k : Own h b) : h b ≠ none := by obtain ⟨o, h1, _⟩ := k; rw [h1]; simp
theorem Own.cells {h : Mem} {b : Nat} {l : List AV} (k : h b = some (.cells l)) : Own h b := ⟨_, k, rfl⟩
theorem Own.map {h : Mem} {b : Nat} {l : List (AV × AV)} (k : h b = some (.map l)) : Own h b := ⟨_, k, rfl⟩

/-- No part of a block is frozen. -/
def Thaw (w : World) (k : Nat) : Prop := ∀ C e f, w.heap[k]? = some (.cells C e f) → f = (0, 0)
theorem Thaw.of_ge {w : World} {k : Nat} (h : w.heap.size ≤ k) : Thaw w k := by
  intro C e f hc
  rw [Array.getElem?_eq_none h] at hc; cases hc

/-- What has become of memory, from a name on to another one. -/
structure Post (β : Ren) (h : Mem) (w : World) (n : Nat) (β' : Ren) (h' : Mem) (w' : World) (n' : Nat) : Prop where
  rel : Rel β' h' w'
  ro : ∀ b l, h' b = some (.ro l) → h b = some (.ro l)
  le : β.le β'
  same : ∀ b, b < n ∨ n' ≤ b → β' b = β b
  up : n ≤ n'
  os : w'.os = w.os
  tape : w'.tape = w.tape
  output : w'.output = w.output
  size : w.heap.size ≤ w'.heap.size
  frame : ∀ k, k < w.heap.size → ¬ Img β h k → w'.heap[k]? = w.heap[k]?
  own : ∀ k, Img β' h' k → Img β h k ∨ w.heap.size ≤ k
  thaw : ∀ k, (w.heap.size ≤ k ∨ Thaw w k) → Thaw w' k

def Fresh (β : Ren) (n n' : Nat) : Prop := ∀ b, n ≤ b → b < n' → β b = none

section
variable {β β' β₁ β₂ : Ren} {h h' h₁ h₂ : Mem} {w w' w₁ w₂ : World} {n n' n₁ n₂ : Nat}

theorem Rel.live (r : Rel β h w) {b : Nat} {i : BI} (hb : h b ≠ none) (hi : β b = some i) : i.blk < w.heap.size := by
  cases ho : h b with
  | none => exact absurd ho hb
  | some o =>
    cases o with
    | cells l =>
      obtain ⟨j, hj, C, e, hC, _⟩ := r.row b l ho
      rw [hi] at hj; cases hj
      rcases Nat.lt_or_ge i.blk w.heap.size with hlt | hge
      · exact hlt
      · rw [Array.getElem?_eq_none hge] at hC; cases hC
    | map l =>
      obtain ⟨j, hj, es, c, hC, _⟩ := r.map b l ho
      rw [hi] at hj; cases hj
      rcases Nat.lt_or_ge i.blk w.heap.size with hlt | hge
      · exact hlt
      · rw [Array.getElem?_eq_none hge] at hC; cases hC
    | ro l =>
      obtain ⟨j, hj, C, e, f, hC, _⟩ := r.ro b l ho
      rw [hi] at hj; cases hj
      rcases Nat.lt_or_ge i.blk w.heap.size with hlt | hge
      · exact hlt
      · rw [Array.getElem?_eq_none hge] at hC; cases hC
theorem Rel.img_lt (r : Rel β h w) {k : Nat} (hk : Img β h k) : k < w.heap.size := by
  obtain ⟨b, i, hb, hi, rfl⟩ := hk
  exact r.live hb.ne hi

theorem Post.refl (r : Rel β h w) : Post β h w n β h w n :=
  ⟨r, fun _ _ k => k, fun _ _ k => k, fun _ _ => rfl, Nat.le_refl _, rfl, rfl, rfl, Nat.le_refl _, fun _ _ _ => rfl, fun _ k => .inl k, fun k h => h.elim Thaw.of_ge id⟩

theorem Post.trans (p : Post β h w n β₁ h₁ w₁ n₁) (q : Post β₁ h₁ w₁ n₁ β₂ h₂ w₂ n₂) : Post β h w n β₂ h₂ w₂ n₂ where
  rel := q.rel
  ro := fun b l k => p.ro b l (q.ro b l k)
  le := fun b i k => q.le _ _ (p.le _ _ k)
  same := fun b hb => by
    have h1 := p.up
    have h2 := q.up
    rw [q.same b (by omega), p.same b (by omega)]
  up := Nat.le_trans p.up q.up
  os := q.os.trans p.os
  tape := q.tape.trans p.tape
  output := q.output.trans p.output
  size := Nat.le_trans p.size q.size
  frame := fun k hk hi => by
    have hs := p.size
    rw [q.frame k (by omega) (fun hc => by rcases p.own k hc with h1 | h1; exact hi h1; omega), p.frame k hk hi]
  own := fun k hk => by
    have hs := p.size
    rcases q.own k hk with h1 | h1
    · exact p.own k h1
    · exact .inr (by omega)
  thaw := fun k hk => q.thaw k (.inr (p.thaw k hk))

theorem Fresh.mono (f : Fresh β n n') (h1 : n ≤ n₁) (h2 : n₂ ≤ n') : Fresh β n₁ n₂ := fun b hb hb' => f b (by omega) (by omega)
theorem Post.fresh (p : Post β h w n β₁ h₁ w₁ n₁) (f : Fresh β n n₂) : Fresh β₁ n₁ n₂ := fun b hb hb' => by
  have := p.up
  rw [p.same b (.inr hb)]; exact f b (by omega) hb'

/-- Nothing but the tape's place has turned. -/
theorem Rel.heap (r : Rel β h w) (e : w'.heap = w.heap) : Rel β h w' where
  row := fun b l hb => by
    obtain ⟨i, hi, C, ty, hC, k⟩ := r.row b l hb
    exact ⟨i, hi, C, ty, by rw [e]; exact hC, k⟩
  map := fun b l hb => by
    obtain ⟨i, hi, es, c, hC, k⟩ := r.map b l hb
    exact ⟨i, hi, es, c, by rw [e]; exact hC, k⟩
  ro := fun b l hb => by
    obtain ⟨i, hi, C, ty, f, hC, k⟩ := r.ro b l hb
    exact ⟨i, hi, C, ty, f, by rw [e]; exact hC, k⟩
  apart := r.apart
end
end Go.Am
