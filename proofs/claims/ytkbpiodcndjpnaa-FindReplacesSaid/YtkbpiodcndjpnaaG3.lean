/- Structs compared; slices read; rows appended to: single operations, over any program. -/
import Derived.Test.YtkbpiodcndjpnaaG1
namespace Go.Proofs.YtkbpiodcndjpnaaG
set_option linter.unusedVariables false
set_option linter.unusedSimpArgs false
open Go Go.RowKit

/-! ### Equality -/
inductive EK where
  | int (k : IntKind)
  | bool
  | str
  | cplx (k : FloatKind)
def flatFs (fl : Nat → Option (List EK)) (size : Nat → Option Nat) : List Field → Nat → Option (List EK)
  | [], _ => some []
  | f :: r, off => if f.name = "_" then none else if f.offset ≠ off then none else
    match fl f.type with
    | none => none
    | some a => if size f.type ≠ some a.length then none else
      match flatFs fl size r (off + a.length) with
      | none => none
      | some b => some (a ++ b)
/-- The kinds of a comparable type's cells: whole numbers, bools, strings, complex numbers. -/
def flat (P : Program) : Nat → TypeId → Option (List EK)
  | 0, _ => none
  | d + 1, t => match P.underlying t with
    | some (.int k) => some [.int k]
    | some .bool => some [.bool]
    | some .string => some [.str]
    | some (.complex k) => some [.cplx k]
    | some (.struct fs) => if P.stoodInHeld t then none else flatFs (flat P d) (fun t => (P.info? t).map (·.size)) fs.toList 0
    | _ => none
def eqV : EK → Value → Value → Option Bool
  | .int _, .int k a, .int k' b => if k = k' then some (a == b) else none
  | .bool, .bool a, .bool b => some (a == b)
  | .str, .string a, .string b => some (decide (a = b))
  | .cplx _, .complex k a b, .complex k' a' b' => if k = k' then some (Op.floatEq k a a' && Op.floatEq k b b') else none
  | _, _, _ => none
def eqL : List EK → List Value → List Value → Option Bool
  | [], [], [] => some true
  | [e], [x], [y] => eqV e x y
  | e :: es, x :: xs, y :: ys => match eqV e x y, eqL es xs ys with
    | some p, some q => some (p && q)
    | _, _ => none
  | _, _, _ => none
theorem eqL_cons (e : EK) (es : List EK) (xs ys : List Value) (r : Bool) (h : eqL (e :: es) xs ys = some r) : ∃ x y xs' ys' p q, xs = x :: xs' ∧ ys = y :: ys' ∧ eqV e x y = some p ∧ eqL es xs' ys' = some q ∧ r = (p && q) := by
  match es, xs, ys with
  | [], [x], [y] => exact ⟨x, y, [], [], r, true, rfl, rfl, by simpa [eqL] using h, rfl, by simp⟩
  | [], [], _ => simp [eqL] at h
  | [], _ :: _, [] => simp [eqL] at h
  | [], _ :: _ :: _, _ :: _ => cases hv : eqV e ‹_› ‹_› <;> simp [eqL, hv] at h
  | [], [_], _ :: _ :: _ => cases hv : eqV e ‹_› ‹_› <;> simp [eqL, hv] at h
  | _ :: _, [], _ => simp [eqL] at h
  | _ :: _, _ :: _, [] => simp [eqL] at h
  | e' :: es', x :: xs', y :: ys' =>
    simp only [eqL] at h
    split at h
    · rename_i p q hp hq
      exact ⟨x, y, xs', ys', p, q, rfl, rfl, hp, hq, by simpa using h.symm⟩
    · cases h
theorem eqL_append : ∀ (ka kb : List EK) (xs ys : List Value) (r : Bool), eqL (ka ++ kb) xs ys = some r → ∃ xa xb ya yb p q, xs = xa ++ xb ∧ ys = ya ++ yb ∧ xa.length = ka.length ∧ ya.length = ka.length ∧ eqL ka xa ya = some p ∧ eqL kb xb yb = some q ∧ r = (p && q)
  | [], kb, xs, ys, r, h => ⟨[], xs, [], ys, true, r, rfl, rfl, rfl, rfl, rfl, h, by simp⟩
  | e :: ka, kb, xs, ys, r, h => by
    obtain ⟨x, y, xs', ys', p, q, rfl, rfl, h1, h2, rfl⟩ := eqL_cons e (ka ++ kb) xs ys r h
    obtain ⟨xa, xb, ya, yb, p', q', rfl, rfl, h3, h4, h5, h6, rfl⟩ := eqL_append ka kb xs' ys' q h2
    refine ⟨x :: xa, xb, y :: ya, yb, p && p', q', rfl, rfl, by simp [h3], by simp [h4], ?_, h6, by rw [Bool.and_assoc]⟩
    cases ka with
    | nil =>
      obtain rfl := List.eq_nil_of_length_eq_zero h3
      obtain rfl := List.eq_nil_of_length_eq_zero h4
      simp only [eqL, Option.some.injEq] at h5 ⊢
      subst h5
      simpa using h1
    | cons e' ka' =>
      cases xa with
      | nil => simp at h3
      | cons x' xa' => cases ya with
        | nil => simp at h4
        | cons y' ya' => simp only [eqL, h1]; rw [h5]
section
variable {P : Program}
theorem eqL_length : ∀ (ks : List EK) (xs ys : List Value) (r : Bool), eqL ks xs ys = some r → xs.length = ks.length ∧ ys.length = ks.length
  | [], [], [], _, _ => ⟨rfl, rfl⟩
  | [], _ :: _, _, _, h => by simp [eqL] at h
  | [], [], _ :: _, _, h => by simp [eqL] at h
  | e :: es, xs, ys, r, h => by
    obtain ⟨x, y, xs', ys', p, q, rfl, rfl, _, h2, _⟩ := eqL_cons e es xs ys r h
    have := eqL_length es xs' ys' q h2
    simp [this]
/-- A value of a type, out of its cells. -/
def mkV (P : Program) (t : TypeId) (xs : List Value) : Value := if aggOf P t = some true then .agg xs.toArray else xs.getD 0 undef
theorem flat_leaf_or {d : Nat} {t : TypeId} {ks : List EK} (h : flat P d t = some ks) : aggOf P t = some true ∨ (aggOf P t = some false ∧ ks.length = 1) := by
  cases d with
  | zero => simp [flat] at h
  | succ d =>
    unfold flat at h
    unfold aggOf
    split at h <;> rename_i hu <;> first | (cases h; done) | (simp only [hu]; first | (simp only [Option.some.injEq] at h; subst h; simp) | simp)
theorem part_run {t : TypeId} {ks : List EK} {d : Nat} (h : flat P d t = some ks) (hz : (P.info? t).map (·.size) = some ks.length) (cs : List Value) (off : Nat) (xa : List Value) (hx : (cs.drop off).take ks.length = xa) (hl : xa.length = ks.length) (w : World) :
    (part t cs.toArray off).run P w = .ok (mkV P t xa) w := by
  obtain ⟨i, hi, hsz⟩ := Option.map_eq_some_iff.1 hz
  rcases flat_leaf_or h with ha | ⟨ha, h1⟩
  · have hag : (isAgg t).run P w = .ok true w := by
      unfold aggOf at ha
      cases hu : P.underlying t with
      | none => simp [hu] at ha
      | some de => cases de <;> simp only [hu, Option.some.injEq, reduceCtorEq] at ha <;> simp [isAgg, run_underlying hu]
    have e : (cs.toArray.extract off (off + ks.length)) = xa.toArray := by
      rw [List.extract_toArray, ← hx]
      congr 1
      rw [List.extract_eq_take_drop]
      congr 1
      omega
    simp [part, hag, sizeOf, typeInfo, hi, hsz, mkV, ha]
    exact hx
  · have hag : (isAgg t).run P w = .ok false w := by
      unfold aggOf at ha
      cases hu : P.underlying t with
      | none => simp [hu] at ha
      | some de => cases de <;> simp only [hu, Option.some.injEq, reduceCtorEq] at ha <;> first | (cases ha; done) | simp [isAgg, run_underlying hu]
    rw [h1] at hx hl
    obtain ⟨v, rfl⟩ : ∃ v, xa = [v] := by
      match xa with
      | [v] => exact ⟨v, rfl⟩
      | [] => simp at hl
      | _ :: _ :: _ => simp at hl
    have hv : cs[off]? = some v := by
      have := congrArg (fun l => l[0]?) hx
      simpa [List.getElem?_take, List.getElem?_drop] using this
    have hne : ¬ aggOf P t = some true := by rw [ha]; simp
    simp [part, hag, hv, mkV, ha]
theorem equal_run : ∀ (d : Nat) (t : TypeId) (ks : List EK), flat P d t = some ks → ∀ (D : Nat), d ≤ D → ∀ (xs ys : List Value) (r : Bool) (w : World), eqL ks xs ys = some r → (Op.equalIn D t (mkV P t xs) (mkV P t ys)).run P w = .ok r w := by
  intro d
  induction d with
  | zero => intro t ks h; simp [flat] at h
  | succ d ih =>
    intro t ks h D hD xs ys r w he
    obtain ⟨D', rfl⟩ : ∃ D', D = D' + 1 := ⟨D - 1, by omega⟩
    unfold flat at h
    split at h
    · rename_i k hu
      simp only [Option.some.injEq] at h; subst h
      obtain ⟨x, y, xs', ys', p, q, rfl, rfl, h1, h2, rfl⟩ := eqL_cons _ _ _ _ _ he
      match xs', ys', h2 with
      | [], [], h2 =>
        simp only [eqL, Option.some.injEq] at h2; subst h2
        have hm : ∀ v, mkV P t [v] = v := fun v => by simp [mkV, aggOf, hu]
        rw [hm, hm]
        cases x <;> cases y <;> simp only [eqV, reduceCtorEq] at h1
        split at h1 <;> simp only [Option.some.injEq, reduceCtorEq] at h1
        rename_i hk
        subst h1 hk
        simp [Op.equalIn, run_underlying hu]
    · rename_i hu
      simp only [Option.some.injEq] at h; subst h
      obtain ⟨x, y, xs', ys', p, q, rfl, rfl, h1, h2, rfl⟩ := eqL_cons _ _ _ _ _ he
      match xs', ys', h2 with
      | [], [], h2 =>
        simp only [eqL, Option.some.injEq] at h2; subst h2
        have hm : ∀ v, mkV P t [v] = v := fun v => by simp [mkV, aggOf, hu]
        rw [hm, hm]
        cases x <;> cases y <;> simp only [eqV, reduceCtorEq, Option.some.injEq] at h1
        subst h1
        simp [Op.equalIn, run_underlying hu]
    · rename_i hu
      simp only [Option.some.injEq] at h; subst h
      obtain ⟨x, y, xs', ys', p, q, rfl, rfl, h1, h2, rfl⟩ := eqL_cons _ _ _ _ _ he
      match xs', ys', h2 with
      | [], [], h2 =>
        simp only [eqL, Option.some.injEq] at h2; subst h2
        have hm : ∀ v, mkV P t [v] = v := fun v => by simp [mkV, aggOf, hu]
        rw [hm, hm]
        cases x <;> cases y <;> simp only [eqV, reduceCtorEq, Option.some.injEq] at h1
        subst h1
        simp [Op.equalIn, run_underlying hu, beq_toListBytes, toList_dec]
    · rename_i k hu
      simp only [Option.some.injEq] at h; subst h
      obtain ⟨x, y, xs', ys', p, q, rfl, rfl, h1, h2, rfl⟩ := eqL_cons _ _ _ _ _ he
      match xs', ys', h2 with
      | [], [], h2 =>
        simp only [eqL, Option.some.injEq] at h2; subst h2
        have hm : ∀ v, mkV P t [v] = v := fun v => by simp [mkV, aggOf, hu]
        rw [hm, hm]
        cases x <;> cases y <;> simp only [eqV, reduceCtorEq] at h1
        split at h1 <;> simp only [Option.some.injEq, reduceCtorEq] at h1
        rename_i hk
        subst h1 hk
        simp [Op.equalIn, run_underlying hu]
    · rename_i fs hu
      split at h
      · cases h
      · rename_i hp
        have hfo : P.fieldsOf t = fs := by simp [Program.fieldsOf, hu]
        have hm : ∀ l : List Value, mkV P t l = .agg l.toArray := fun l => by simp [mkV, aggOf, hu]
        rw [hm, hm, run_equalIn_struct w D' t _ _ (by rw [hfo]; exact hu) (by simpa using hp), hfo]
        -- field by field
        have key : ∀ (l : List Field) (off : Nat) (ks : List EK), flatFs (flat P d) (fun t => (P.info? t).map (·.size)) l off = some ks → ∀ (r : Bool) (xa ya : List Value), (xs.drop off) = xa → (ys.drop off) = ya → eqL ks xa ya = some r →
            (Op.eqFields D' xs.toArray ys.toArray l).run P w = .ok r w := by
          intro l
          induction l with
          | nil =>
            intro off ks hk r xa ya hxa hya he
            simp only [flatFs, Option.some.injEq] at hk
            subst hk
            match xa, ya, he with
            | [], [], he =>
              simp only [eqL, Option.some.injEq] at he
              subst he
              simp [Op.eqFields]
          | cons f l ihl =>
            intro off ks hk r xa ya hxa hya he
            unfold flatFs at hk
            split at hk
            · cases hk
            · rename_i hname
              split at hk
              · cases hk
              · rename_i hoff
                have hoff : f.offset = off := by simpa using hoff
                split at hk
                · cases hk
                · rename_i a ha
                  split at hk
                  · cases hk
                  · rename_i hsz
                    have hsz : (P.info? f.type).map (·.size) = some a.length := by simpa using hsz
                    split at hk
                    · cases hk
                    · rename_i b hb
                      simp only [Option.some.injEq] at hk
                      subst hk
                      obtain ⟨x1, x2, y1, y2, p, q, e1, e2, l1, l2, he1, he2, rfl⟩ := eqL_append a b xa ya r he
                      have p1 := part_run ha hsz xs f.offset x1 (by rw [hoff, hxa, e1, ← l1]; simp) l1 w
                      have p2 := part_run ha hsz ys f.offset y1 (by rw [hoff, hya, e2, ← l2]; simp) l2 w
                      have q1 := ih f.type a ha D' (by omega) x1 y1 p w he1
                      have q2 := ihl (off + a.length) b hb q x2 y2 (by rw [← List.drop_drop, hxa, e1, ← l1]; simp) (by rw [← List.drop_drop, hya, e2, ← l2]; simp) he2
                      unfold Op.eqFields
                      rw [if_pos hname]
                      cases p <;> simp [p1, p2, q1, q2]
        exact key fs.toList 0 ks h r xs ys (by simp) (by simp) he
    · cases h
end
class EQ (P : Program) (t : Nat) (ks : outParam (List EK)) : Prop where
  flat_ : flat P 20 t = some ks
  agg_ : aggOf P t = some true
  guard_ : P.eqGuardType P.depth t = false

section
variable {P : Program} {w0 : World} {M : Nat → Prop} {n : Nat} {T : TL} {L L' : List Asn} {o : Oper} {N : TL → List Asn → Prop} {d : Nat} {v : Value}
theorem run_eqA {t : Nat} {ks : List EK} [EQ P t ks] {xs ys : List Value} {r : Bool} (he : eqL ks xs ys = some r) (w : World) : (Op.equal t (.agg xs.toArray) (.agg ys.toArray)).run P w = .ok r w := by
  have h := equal_run 20 t ks (EQ.flat_ (P := P)) 10000 (by omega) xs ys r w he
  have hm : ∀ l : List Value, mkV P t l = .agg l.toArray := fun l => by simp [mkV, EQ.agg_ (P := P) (t := t)]
  rw [hm, hm] at h
  exact h
theorem GV.eqA {t yt : Nat} {ks : List EK} {x y : Operand} {xs ys : List Value} {r : Bool} (hop : o.op = .binOp .eql t x y yt) (_i0 : EQ P t ks) (hx : Ev T x (.agg xs.toArray)) (hy : Ev T y (.agg ys.toArray)) (he : eqL ks xs ys = some r) : GV P w0 M n o T L (.bool r) :=
  GV.bin hop hx hy fun w => by
    have := run_eqA (P := P) (t := t) he w
    simp [eqGuard, binOp, EQ.guard_ (P := P) (t := t), this]
theorem GV.neqA {t yt : Nat} {ks : List EK} {x y : Operand} {xs ys : List Value} {r : Bool} (hop : o.op = .binOp .neq t x y yt) (_i0 : EQ P t ks) (hx : Ev T x (.agg xs.toArray)) (hy : Ev T y (.agg ys.toArray)) (he : eqL ks xs ys = some r) : GV P w0 M n o T L (.bool (!r)) :=
  GV.bin hop hx hy fun w => by
    have := run_eqA (P := P) (t := t) he w
    simp [eqGuard, binOp, EQ.guard_ (P := P) (t := t), this]
end
end Go.Proofs.YtkbpiodcndjpnaaG
