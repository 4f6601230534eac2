/-
  AM: names are given out upwards.
-/
import Derived.Test.YtejjhikbdchjaaaGreatAmOps10
set_option linter.unusedSectionVars false
namespace Go.Am
variable [Vals]

/-- Names are given out upwards; what is in memory is named of old or anew. -/
def UpR (H : Heap) (n : Nat) (H' : Heap) (n' : Nat) : Prop := n ≤ n' ∧ ∀ b, H'.get b ≠ none → H.get b ≠ none ∨ (n ≤ b ∧ b < n')
theorem UpR.refl (H : Heap) (n : Nat) : UpR H n H n := ⟨Nat.le_refl n, fun _ h => .inl h⟩
theorem UpR.trans {H H1 H2 : Heap} {n n1 n2 : Nat} (p : UpR H n H1 n1) (q : UpR H1 n1 H2 n2) : UpR H n H2 n2 := by
  refine ⟨Nat.le_trans p.1 q.1, fun b hb => ?_⟩
  have h1 := p.1
  have h2 := q.1
  rcases q.2 b hb with h | h
  · rcases p.2 b h with h | h
    · exact .inl h
    · exact .inr ⟨h.1, by omega⟩
  · exact .inr ⟨by omega, h.2⟩

def Up (H : Heap) (n : Nat) : OR → Prop
  | .mem _ H' n' => UpR H n H' n'
  | _ => True

section
variable {E : Env} {H : Heap} {n : Nat}

def Dom (H H' : Heap) : Prop := ∀ b, H'.get b ≠ none → H.get b ≠ none
theorem dom_drop {b : Nat} {H' : Heap} (h : Tr.put depth H b none = some H') : Dom H H' := by
  intro x hx
  rw [Tr.put_spec h] at hx
  by_cases e : x = b
  · rw [if_pos e] at hx; exact absurd rfl hx
  · rw [if_neg e] at hx; exact hx
theorem dom_set {b : Nat} {o : AO} {H' : Heap} (hb : H.get b ≠ none) (h : Tr.put depth H b (some o) = some H') : Dom H H' := by
  intro x hx
  rw [Tr.put_spec h] at hx
  by_cases e : x = b
  · rw [e]; exact hb
  · rw [if_neg e] at hx; exact hx
theorem dom_poke {b o : Nat} {vs : List AV} {H' : Heap} (h : poke H b o vs = some H') : Dom H H' := by
  unfold poke at h
  cases hb : H.get b with
  | none => rw [hb] at h; cases h
  | some ob =>
    rw [hb] at h
    cases ob with
    | map _ => cases h
    | ro _ => cases h
    | cells l =>
      simp only [poke1] at h
      cases hp : plainL vs with
      | false => rw [hp] at h; cases h
      | true =>
        rw [hp] at h
        simp only [poke2] at h
        cases ho : over o l vs with
        | none => rw [ho] at h; cases h
        | some l2 => rw [ho] at h; exact dom_set (by rw [hb]; simp) h
theorem dom_store {t : TypeId} {b o : Nat} {v : AV} {H' : Heap} (h : storeAt E H t b o v = some H') : Dom H H' := by
  unfold storeAt store1 at h
  split at h
  · unfold store2 at h
    split at h
    · exact dom_poke h
    · cases h
  · cases h

theorem up_fresh' {H1 : Heap} (hd : Dom H H1) {o : AO} {v : Nat → AV} : Up H n (fresh H1 n o v) := by
  unfold fresh
  cases hp : Tr.put depth H1 n (some o) with
  | none => trivial
  | some H' =>
    simp only [fresh1, natS_eq, freshR]
    refine ⟨Nat.le_succ n, fun b hb => ?_⟩
    rw [Tr.put_spec hp] at hb
    by_cases e : b = n
    · exact .inr ⟨by omega, by omega⟩
    · rw [if_neg e] at hb; exact .inl (hd b hb)
theorem up_fresh {o : AO} {v : Nat → AV} : Up H n (fresh H n o v) := up_fresh' fun _ h => h
theorem up_freshO' {H1 : Heap} (hd : Dom H H1) {l : Option (List AV)} {v : Nat → AV} : Up H n (freshO l H1 n v) := by cases l; trivial; exact up_fresh' hd
theorem up_freshO {l : Option (List AV)} {v : Nat → AV} : Up H n (freshO l H n v) := by cases l; trivial; exact up_fresh
theorem up_memO {x : Option Heap} {v : AV} (h : ∀ H', x = some H' → Dom H H') : Up H n (memO x v n) := by
  cases x with
  | none => trivial
  | some H' => exact ⟨Nat.le_refl n, fun b hb => .inl (h H' rfl b hb)⟩
theorem up_valO {x : Option AV} : Up H n (valO x) := by cases x <;> trivial
theorem up_natS {m : Nat} {f : Nat → OR} (h : ∀ m, Up H n (f m)) : Up H n (natS m f) := by rw [natS_eq]; exact h m
theorem up_bool {b : Bool} : Up H n (vbool b) := by cases b <;> trivial
theorem up_vint1 {k : IntKind} {r : Int} : Up H n (vint1 r k) := by cases r <;> exact up_natS fun m => trivial
theorem up_vint {k : IntKind} {r : Int} : Up H n (vint k r) := up_vint1
theorem up_okTup {ok : Bool} {v : AV} {b : Bool} : Up H n (okTup ok v b) := by cases ok <;> trivial


theorem up_bin {x y : AV} {op : BinOp} {t : TypeId} : Up H n (binOpV x y op E t) := by
  unfold binOpV
  split
  · unfold intOp1
    split
    · unfold shlN; (repeat' (first | trivial | exact up_fresh | exact up_freshO | exact up_valO | exact up_bool | exact up_vint | exact up_vint1 | exact up_okTup | exact UpR.refl _ _ | (refine up_natS fun m => ?_) | split))
    · unfold shrN; (repeat' (first | trivial | exact up_fresh | exact up_freshO | exact up_valO | exact up_bool | exact up_vint | exact up_vint1 | exact up_okTup | exact UpR.refl _ _ | (refine up_natS fun m => ?_) | split))
    · unfold intOp2
      split
      · unfold intOp divOk bitN; (repeat' (first | trivial | exact up_fresh | exact up_freshO | exact up_valO | exact up_bool | exact up_vint | exact up_vint1 | exact up_okTup | exact UpR.refl _ _ | (refine up_natS fun m => ?_) | split))
      · trivial
  · unfold fltOp fltR; (repeat' (first | trivial | exact up_fresh | exact up_freshO | exact up_valO | exact up_bool | exact up_vint | exact up_vint1 | exact up_okTup | exact UpR.refl _ _ | (refine up_natS fun m => ?_) | split))
  · unfold symOp othOp eqR neqR symO; (repeat' (first | trivial | exact up_fresh | exact up_freshO | exact up_valO | exact up_bool | exact up_vint | exact up_vint1 | exact up_okTup | exact UpR.refl _ _ | (refine up_natS fun m => ?_) | split))

theorem up_slice {x : AV} {t : TypeId} {lo hi mx : Option AV} : Up H n (sliceV E H n t x lo hi mx) := by
  unfold sliceV sl1
  split
  · unfold sl2
    split
    · unfold sl3
      split
      · trivial
      · unfold sl4 slVal sl5
        split
        · trivial
        · refine up_natS fun _ => up_natS fun _ => up_natS fun _ => trivial
        · split
          · unfold sl6; split
            · trivial
            · exact up_fresh' (dom_drop (by assumption))
          · trivial
        · refine up_natS fun _ => up_natS fun _ => up_natS fun _ => trivial
    · trivial
  · unfold slNil; (repeat' (first | trivial | exact up_fresh | exact up_freshO | exact up_valO | exact up_bool | exact up_vint | exact up_vint1 | exact up_okTup | exact UpR.refl _ _ | (refine up_natS fun m => ?_) | split))
  · trivial

theorem up_append {t u : TypeId} {s x : AV} : Up H n (appendV E H n t u s x) := by
  have h3 : ∀ {X : Option Heap} {es q all}, (∀ H1, X = some H1 → Dom H H1) → Up H n (apNew3 X n es q all) := by
    intro X es q all hX
    cases X with
    | none => trivial
    | some H1 => simp only [apNew3]; exact up_natS fun _ => up_freshO' (hX H1 rfl)
  unfold appendV ap0
  split
  · unfold ap1
    split
    · trivial
    · unfold ap2
      split
      · trivial
      · unfold ap3
        split
        · unfold apNil apNil1; (repeat' (first | trivial | exact up_fresh | exact up_freshO | exact up_valO | exact up_bool | exact up_vint | exact up_vint1 | exact up_okTup | exact UpR.refl _ _ | (refine up_natS fun m => ?_) | split))
        · unfold apEs
          split
          · unfold apSl
            split
            · unfold apIn
              split
              · exact UpR.refl _ _
              · unfold apIn1
                split
                · trivial
                · refine up_natS fun q => ?_
                  exact ⟨Nat.le_refl _, fun b hb => .inl (dom_poke (by assumption) b hb)⟩
            · unfold apNew
              split
              · trivial
              · unfold apNew1
                split
                · exact h3 fun H1 e => by cases e; exact fun _ h => h
                · unfold apNew2
                  split
                  · exact h3 fun H1 e => dom_drop e
                  · trivial
          · trivial
        · trivial
  · trivial

theorem up_copy {t : TypeId} {d s : AV} : Up H n (copyV E H n t d s) := by
  unfold copyV cp0
  split
  · unfold cp1
    split
    · trivial
    · unfold cp2
      split
      · unfold cp3
        split
        · exact UpR.refl _ _
        · unfold cp4
          split
          · trivial
          · exact up_memO fun H' e => dom_poke e
        · trivial
      · trivial
  · trivial

theorem up_builtin {b : Builtin} {ts : List TypeId} {l : List AV} : Up H n (builtinV b ts l E H n) := by
  unfold builtinV
  split
  · unfold len1 i64V lenM; (repeat' (first | trivial | exact up_fresh | exact up_freshO | exact up_valO | exact up_bool | exact up_vint | exact up_vint1 | exact up_okTup | exact UpR.refl _ _ | (refine up_natS fun m => ?_) | split))
  · exact up_append
  · exact up_copy
  · unfold min1 pickI; (repeat' (first | trivial | exact up_fresh | exact up_freshO | exact up_valO | exact up_bool | exact up_vint | exact up_vint1 | exact up_okTup | exact UpR.refl _ _ | (refine up_natS fun m => ?_) | split))
  · unfold min1 pickI; (repeat' (first | trivial | exact up_fresh | exact up_freshO | exact up_valO | exact up_bool | exact up_vint | exact up_vint1 | exact up_okTup | exact UpR.refl _ _ | (refine up_natS fun m => ?_) | split))
  · trivial

theorem op_up (o : Op) (T : Tmps) : Up H n (opV o E T H n) := by
  cases o
  case pick c a b => show Up H n (pickV (evO c T) (evO a T) (evO b T)); unfold pickV; (repeat' (first | trivial | exact up_fresh | exact up_freshO | exact up_valO | exact up_bool | exact up_vint | exact up_vint1 | exact up_okTup | exact UpR.refl _ _ | (refine up_natS fun m => ?_) | split))
  case alloc t => show Up H n (allocV (zeroOf E t) H n); unfold allocV; (repeat' (first | trivial | exact up_fresh | exact up_freshO | exact up_valO | exact up_bool | exact up_vint | exact up_vint1 | exact up_okTup | exact UpR.refl _ _ | (refine up_natS fun m => ?_) | split))
  case box t x => show Up H n (boxV (evO x T) H n); unfold boxV; (repeat' (first | trivial | exact up_fresh | exact up_freshO | exact up_valO | exact up_bool | exact up_vint | exact up_vint1 | exact up_okTup | exact UpR.refl _ _ | (refine up_natS fun m => ?_) | split))
  case build t ps => show Up H n (buildV E t (evP ps.toList T)); unfold buildV build1 build2; (repeat' (first | trivial | exact up_fresh | exact up_freshO | exact up_valO | exact up_bool | exact up_vint | exact up_vint1 | exact up_okTup | exact UpR.refl _ _ | (refine up_natS fun m => ?_) | split))
  case buildSlice t l ps => show Up H n (buildSliceV E H n t l (evP ps.toList T)); unfold buildSliceV bsl1 bsl2 bsl3; (repeat' (first | trivial | exact up_fresh | exact up_freshO | exact up_valO | exact up_bool | exact up_vint | exact up_vint1 | exact up_okTup | exact UpR.refl _ _ | (refine up_natS fun m => ?_) | split))
  case load t x => show Up H n (loadV (evO x T) E H t); unfold loadV; (repeat' (first | trivial | exact up_fresh | exact up_freshO | exact up_valO | exact up_bool | exact up_vint | exact up_vint1 | exact up_okTup | exact UpR.refl _ _ | (refine up_natS fun m => ?_) | split))
  case store t x y => show Up H n (storeV (evO x T) E H n t (evO y T)); unfold storeV; split
                      · exact up_memO fun H' e => dom_store e
                      · trivial
  case nilCheck x => show Up H n (nilV (evO x T)); unfold nilV; (repeat' (first | trivial | exact up_fresh | exact up_freshO | exact up_valO | exact up_bool | exact up_vint | exact up_vint1 | exact up_okTup | exact UpR.refl _ _ | (refine up_natS fun m => ?_) | split))
  case binOp => exact up_bin
  case unOp op t x => show Up H n (unOpV op (evO x T)); unfold unOpV; (repeat' (first | trivial | exact up_fresh | exact up_freshO | exact up_valO | exact up_bool | exact up_vint | exact up_vint1 | exact up_okTup | exact UpR.refl _ _ | (refine up_natS fun m => ?_) | split))
  case convert c d x => show Up H n (convV E c d (evO x T)); unfold convV conv0 conv1 symO; (repeat' (first | trivial | exact up_fresh | exact up_freshO | exact up_valO | exact up_bool | exact up_vint | exact up_vint1 | exact up_okTup | exact UpR.refl _ _ | (refine up_natS fun m => ?_) | split))
  case makeInterface t x => show Up H n (mkIface (und E t) t (evO x T)); unfold mkIface; (repeat' (first | trivial | exact up_fresh | exact up_freshO | exact up_valO | exact up_bool | exact up_vint | exact up_vint1 | exact up_okTup | exact UpR.refl _ _ | (refine up_natS fun m => ?_) | split))
  case makeFunc fn first cap => show Up H n (mkFunc fn first.toList cap.toList T); unfold mkFunc; (repeat' (first | trivial | exact up_fresh | exact up_freshO | exact up_valO | exact up_bool | exact up_vint | exact up_vint1 | exact up_okTup | exact UpR.refl _ _ | (refine up_natS fun m => ?_) | split))
  case makeMap t x => show Up H n (mkMap x H n); unfold mkMap; (repeat' (first | trivial | exact up_fresh | exact up_freshO | exact up_valO | exact up_bool | exact up_vint | exact up_vint1 | exact up_okTup | exact UpR.refl _ _ | (refine up_natS fun m => ?_) | split))
  case makeSlice t l c => show Up H n (makeSliceV E H n t (evO l T) (evO c T)); unfold makeSliceV msl1 msl2 msl3; (repeat' (first | trivial | exact up_fresh | exact up_freshO | exact up_valO | exact up_bool | exact up_vint | exact up_vint1 | exact up_okTup | exact UpR.refl _ _ | (refine up_natS fun m => ?_) | split))
  case slice => exact up_slice
  case fieldAddr t x f => show Up H n (fieldAddrV E t (evO x T) f); unfold fieldAddrV faddr1 faddr2 faddr3; (repeat' (first | trivial | exact up_fresh | exact up_freshO | exact up_valO | exact up_bool | exact up_vint | exact up_vint1 | exact up_okTup | exact UpR.refl _ _ | (refine up_natS fun m => ?_) | split))
  case field t x f => show Up H n (fieldV E t (evO x T) f); unfold fieldV fld1 fld2; (repeat' (first | trivial | exact up_fresh | exact up_freshO | exact up_valO | exact up_bool | exact up_vint | exact up_vint1 | exact up_okTup | exact UpR.refl _ _ | (refine up_natS fun m => ?_) | split))
  case indexAddr t x i => show Up H n (indexAddrV E t (evO x T) (evO i T)); unfold indexAddrV iaddr1 iaddr2 iaddr3; (repeat' (first | trivial | exact up_fresh | exact up_freshO | exact up_valO | exact up_bool | exact up_vint | exact up_vint1 | exact up_okTup | exact UpR.refl _ _ | (refine up_natS fun m => ?_) | split))
  case index t x i => show Up H n (indexV E t (evO x T) (evO i T)); unfold indexV idx1 idx2 idx3 byteV; (repeat' (first | trivial | exact up_fresh | exact up_freshO | exact up_valO | exact up_bool | exact up_vint | exact up_vint1 | exact up_okTup | exact UpR.refl _ _ | (refine up_natS fun m => ?_) | split))
  case lookup t m k co => show Up H n (lookupV E H t (evO m T) (evO k T) co); unfold lookupV look1 look2 look3 look4; (repeat' (first | trivial | exact up_fresh | exact up_freshO | exact up_valO | exact up_bool | exact up_vint | exact up_vint1 | exact up_okTup | exact UpR.refl _ _ | (refine up_natS fun m => ?_) | split))
  case mapUpdate t m k v =>
    show Up H n (mapUpdateV E H n t (evO m T) (evO k T) (evO v T))
    unfold mapUpdateV mup1
    split
    · unfold mup2
      split
      · rename_i hb
        unfold mup3
        split
        · trivial
        · exact up_memO fun H' e => dom_set (by rw [hb]; simp) e
      · trivial
    · trivial
  case typeAssert x t a co => show Up H n (asrt1 (und E a) (evO x T) a co); unfold asrt1 asrt2; (repeat' (first | trivial | exact up_fresh | exact up_freshO | exact up_valO | exact up_bool | exact up_vint | exact up_vint1 | exact up_okTup | exact UpR.refl _ _ | (refine up_natS fun m => ?_) | split))
  case extract x i => show Up H n (extrV (evO x T) i); unfold extrV; (repeat' (first | trivial | exact up_fresh | exact up_freshO | exact up_valO | exact up_bool | exact up_vint | exact up_vint1 | exact up_okTup | exact UpR.refl _ _ | (refine up_natS fun m => ?_) | split))
  case call c =>
    obtain ⟨callee, args, ts⟩ := c
    show Up H n (callOp callee args ts E T H n)
    unfold callOp
    split
    · exact up_builtin
    · unfold enterO enterV enter1 bitsV; (repeat' (first | trivial | exact up_fresh | exact up_freshO | exact up_valO | exact up_bool | exact up_vint | exact up_vint1 | exact up_okTup | exact UpR.refl _ _ | (refine up_natS fun m => ?_) | split))
    · unfold invV invO; (repeat' (first | trivial | split))
  case defer c => 
    show Up H n (dfrO (resolveV c.callee c.args.toList T))
    unfold dfrO; (repeat' (first | trivial | exact up_fresh | exact up_freshO | exact up_valO | exact up_bool | exact up_vint | exact up_vint1 | exact up_okTup | exact UpR.refl _ _ | (refine up_natS fun m => ?_) | split))
  all_goals trivial
end
end Go.Am
