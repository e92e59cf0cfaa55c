/- Maps whose keys are structs of a u16 and a u32; function values. Over any program. -/
import Derived.Test.YtkbpiodcndjpnaaG9
import Derived.WideKeyRuns
import Derived.WideMake
namespace Go.Proofs.YtkbpiodcndjpnaaG
set_option linter.unusedVariables false
set_option linter.unusedSimpArgs false
open Go Go.RowKit

abbrev K2 := Int × Int
abbrev kV (k : K2) : Value := .agg #[.int .u16 k.1, .int .u32 k.2]
class K2T (P : Program) (t : Nat) : Prop where
  out : ∃ f0 f1 : Field, P.underlying t = some (.struct #[f0, f1]) ∧ f0.name ≠ "_" ∧ f1.name ≠ "_" ∧ f0.offset = 0 ∧ f1.offset = 1 ∧ P.underlying f0.type = some (.int .u16) ∧ P.underlying f1.type = some (.int .u32)
class ZV (P : Program) (t : Nat) (z : outParam Value) : Prop where out : (P.info? t).map (·.zero) = some (some z)
def mget (l : List (K2 × Value)) (k : K2) : Option Value := (l.find? fun p => p.1 == k).map (·.2)
def mset : List (K2 × Value) → K2 → Value → List (K2 × Value)
  | [], k, v => [(k, v)]
  | p :: l, k, v => if p.1 = k then (k, v) :: l else p :: mset l k v
theorem mget_mset (l : List (K2 × Value)) (k k' : K2) (v : Value) : mget (mset l k v) k' = if k' = k then some v else mget l k' := by
  induction l with
  | nil =>
    unfold mset mget
    by_cases h : k' = k
    · subst h; simp
    · rw [if_neg h]
      have : (k == k') = false := beq_eq_false_iff_ne.2 (Ne.symm h)
      simp [this]
  | cons p l ih =>
    unfold mset
    by_cases hp : p.1 = k
    · rw [if_pos hp]
      unfold mget
      by_cases h : k' = k
      · subst h; simp
      · have e1 : (k == k') = false := beq_eq_false_iff_ne.2 (Ne.symm h)
        have e2 : (p.1 == k') = false := by rw [hp]; exact e1
        simp [e1, e2, h]
    · rw [if_neg hp]
      unfold mget at ih ⊢
      by_cases h : p.1 = k'
      · have e2 : (p.1 == k') = true := by simp [h]
        have : ¬ k' = k := fun e => hp (h.trans e)
        simp [e2, this]
      · have e2 : (p.1 == k') = false := beq_eq_false_iff_ne.2 h
        simp only [List.find?_cons, e2]
        exact ih
theorem mget_nil (k : K2) : mget [] k = none := rfl
/-- A map's block that reads as l. -/
def mapKV (r : Nat) (l : List (K2 × Value)) : Asn where
  dom := fun k => k = r
  holds := fun w => ∃ es clock, w.heap[r]? = some (.map es clock) ∧ es.toList.map (fun e => (e.key, e.val)) = l.map fun p => (kV p.1, p.2)
  loc := fun h ⟨es, clock, h1, h2⟩ => ⟨es, clock, (h r rfl).trans h1, h2⟩
section
variable {P : Program} {w0 w w' : World} {M : Nat → Prop} {n : Nat} {T : TL} {L L' : List Asn} {o : Oper} {N : TL → List Asn → Prop} {d : Nat} {v : Value}
theorem run_check2 {t : Nat} [h : K2T P t] (em : Bool) (k : K2) (w : World) : (Instr.checkKey em 10000 t (kV k)).run P w = .ok () w := by
  obtain ⟨f0, f1, hu, n0, n1, o0, o1, t0, t1⟩ := h.out
  have p0 : P.plainKey f0.type = true := by unfold Program.plainKey; rw [t0]
  have p1 : P.plainKey f1.type = true := by unfold Program.plainKey; rw [t1]
  have r0 := run_part_plain (P := P) w p0 (xs := #[.int .u16 k.1, .int .u32 k.2]) (off := f0.offset) (v := .int .u16 k.1) (by rw [o0]; rfl)
  have r1 := run_part_plain (P := P) w p1 (xs := #[.int .u16 k.1, .int .u32 k.2]) (off := f1.offset) (v := .int .u32 k.2) (by rw [o1]; rfl)
  have c0 : ∀ m, (Instr.checkKey em (m + 1) f0.type (.int .u16 k.1)).run P w = .ok () w := fun m => by simp [Instr.checkKey, run_underlying t0]
  have c1 : ∀ m, (Instr.checkKey em (m + 1) f1.type (.int .u32 k.2)).run P w = .ok () w := fun m => by simp [Instr.checkKey, run_underlying t1]
  show (Instr.checkKey em (9999 + 1) t (kV k)).run P w = .ok () w
  unfold Instr.checkKey
  simp only [Sem.run_bind, run_underlying hu, Result.andThen_ok]
  rw [← Array.forIn_toList]
  simp only [List.forIn_cons, List.forIn_nil, Sem.run_bind, n0, n1, ne_eq, not_false_eq_true, if_true, r0, r1, c0, c1, Result.andThen_ok, Sem.run_pure]
theorem run_eq2 {t : Nat} [EQ P t [.int .u16, .int .u32]] (a b : K2) (w : World) : (Op.equal t (kV a) (kV b)).run P w = .ok (b == a) w := by
  have h := run_eqA (P := P) (t := t) (xs := [.int .u16 a.1, .int .u32 a.2]) (ys := [.int .u16 b.1, .int .u32 b.2]) (r := (a.1 == b.1) && (a.2 == b.2)) (by simp [eqL, eqV]) w
  have e : (b == a) = ((a.1 == b.1) && (a.2 == b.2)) := by
    rw [Bool.eq_iff_iff]
    simp only [beq_iff_eq, Bool.and_eq_true]
    exact ⟨fun h => by subst h; exact ⟨rfl, rfl⟩, fun ⟨h1, h2⟩ => (Prod.ext h1 h2).symm⟩
  rw [e]
  exact h
def findI (l : List (K2 × Value)) (k : K2) (i : Nat) : Option (Nat × Value) := match l with
  | [] => none
  | p :: l => if p.1 == k then some (i, p.2) else findI l k (i + 1)
theorem run_asking2 {t : Nat} [EQ P t [.int .u16, .int .u32]] (k : K2) (w : World) (es : List MapEntry) : ∀ (l : List (K2 × Value)) (i : Nat), es.map (fun e => (e.key, e.val)) = l.map (fun p => (kV p.1, p.2)) → (Instr.findAsking t (kV k) es i).run P w = .ok (findI l k i) w := by
  induction es with
  | nil =>
    intro l i h
    cases l with
    | nil => simp [Instr.findAsking, findI]
    | cons _ _ => simp at h
  | cons e es ih =>
    intro l i h
    cases l with
    | nil => simp at h
    | cons p l =>
      simp only [List.map_cons, List.cons.injEq, Prod.mk.injEq] at h
      obtain ⟨⟨h1, h2⟩, h3⟩ := h
      have ih := ih l (i + 1) h3
      unfold Instr.findAsking findI
      rw [h1, Sem.run_bind, run_eq2 (P := P) (t := t) k p.1 w, Result.andThen_ok]
      cases hb : (p.1 == k) with
      | true => simp [h2]
      | false => simp [ih]
theorem run_find2 {t : Nat} [K2T P t] [EQ P t [.int .u16, .int .u32]] (k : K2) (w : World) (es : List MapEntry) (l : List (K2 × Value)) (h : es.map (fun e => (e.key, e.val)) = l.map (fun p => (kV p.1, p.2))) : (Instr.findKey t (kV k) es).run P w = .ok (findI l k 0) w := by
  obtain ⟨f0, f1, hu, _⟩ := K2T.out (P := P) (t := t)
  rw [run_findKey_eq w (by rw [hu]) (kV k) es]
  exact run_asking2 k w es l 0 h
theorem findI_mget : ∀ (l : List (K2 × Value)) (k : K2) (i : Nat), (findI l k i).map (·.2) = mget l k
  | [], k, i => rfl
  | p :: l, k, i => by
    unfold findI mget
    cases hb : (p.1 == k) with
    | true => simp [hb]
    | false =>
      have := findI_mget l k (i + 1)
      unfold mget at this
      simp [hb, this]
theorem findI_set : ∀ (l : List (K2 × Value)) (k : K2) (i : Nat) (v : Value), match findI l k i with
    | some (j, _) => ∃ m, j = i + m ∧ m < l.length ∧ mset l k v = l.set m (k, v) ∧ (l[m]?).map (·.1) = some k
    | none => mset l k v = l ++ [(k, v)]
  | [], k, i, v => rfl
  | p :: l, k, i, v => by
    unfold findI mset
    cases hb : (p.1 == k) with
    | true =>
      have : p.1 = k := by simpa using hb
      exact ⟨0, rfl, by simp, by simp [this], by simp [this]⟩
    | false =>
      have hne : ¬ p.1 = k := by simpa using hb
      have ih := findI_set l k (i + 1) v
      simp only [Bool.false_eq_true, if_false]
      rw [if_neg hne]
      split at ih
      · rename_i j u e
        obtain ⟨m, h1, h2, h3, h4⟩ := ih
        exact ⟨m + 1, by omega, by simp; omega, by simp [h3], by simpa using h4⟩
      · rename_i e
        simp [ih]
theorem GV.lookup2 {t kt et : Nat} {z : Value} {x y : Operand} {r : Nat} {k : K2} {l : List (K2 × Value)} {u : Value} (hop : o.op = .lookup t x y false) (_i0 : MP P t kt et) (_i1 : K2T P kt) (_i2 : EQ P kt [.int .u16, .int .u32]) (hx : Ev T x (.map (some r))) (hy : Ev T y (kV k)) (hin : mapKV r l ∈ L)
    (hv : mget l k = some u) : GV P w0 M n o T L u :=
  ⟨fun a w ht hs => by
    obtain ⟨es, clock, h1, h2⟩ := hs.holds _ hin
    simp only [execOp, hop, ht.ev hx, ht.ev hy]
    refine run_v ?_
    have hf := run_find2 (P := P) (t := kt) k w es.toList l h2
    have hm := findI_mget l k 0
    rw [hv] at hm
    obtain ⟨q, hq, hq2⟩ := Option.map_eq_some_iff.1 hm
    obtain ⟨j, u'⟩ := q
    simp only at hq2
    subst hq2
    rw [hq] at hf
    simp [Instr.lookup, run_underlying (MP.out (P := P) (t := t)), MapKept.run_getObj_map h1, run_check2 (P := P) (t := kt), hf]⟩
theorem GV.lookup2_none {t kt et : Nat} {z : Value} {x y : Operand} {r : Nat} {k : K2} {l : List (K2 × Value)} (hop : o.op = .lookup t x y false) (_i0 : MP P t kt et) (_i1 : K2T P kt) (_i2 : EQ P kt [.int .u16, .int .u32]) (_i3 : ZV P et z) (hx : Ev T x (.map (some r))) (hy : Ev T y (kV k)) (hin : mapKV r l ∈ L)
    (hv : mget l k = none) : GV P w0 M n o T L z :=
  ⟨fun a w ht hs => by
    obtain ⟨es, clock, h1, h2⟩ := hs.holds _ hin
    simp only [execOp, hop, ht.ev hx, ht.ev hy]
    refine run_v ?_
    have hf := run_find2 (P := P) (t := kt) k w es.toList l h2
    have hm := findI_mget l k 0
    rw [hv] at hm
    have hq : findI l k 0 = none := by simpa using hm
    rw [hq] at hf
    have hr : (zeroValue et).run P w = .ok z w := by
      obtain ⟨i, hi, hz⟩ := Option.map_eq_some_iff.1 (ZV.out (P := P) (t := et))
      simp [zeroValue, typeInfo, hi, hz]
    simp [Instr.lookup, run_underlying (MP.out (P := P) (t := t)), MapKept.run_getObj_map h1, run_check2 (P := P) (t := kt), hf, hr]⟩
/-- A nil map's. -/
theorem GV.lookup2_nil {t kt et : Nat} {z : Value} {x y : Operand} {k : K2} (hop : o.op = .lookup t x y false) (_i0 : MP P t kt et) (_i1 : K2T P kt) (_i2 : EQ P kt [.int .u16, .int .u32]) (_i3 : ZV P et z) (hx : Ev T x (.map none)) (hy : Ev T y (kV k)) : GV P w0 M n o T L z :=
  ⟨fun a w ht hs => by
    simp only [execOp, hop, ht.ev hx, ht.ev hy]
    refine run_v ?_
    have hf := run_find2 (P := P) (t := kt) k w [] [] rfl
    have hr : (zeroValue et).run P w = .ok z w := by
      obtain ⟨i, hi, hz⟩ := Option.map_eq_some_iff.1 (ZV.out (P := P) (t := et))
      simp [zeroValue, typeInfo, hi, hz]
    simp [Instr.lookup, run_underlying (MP.out (P := P) (t := t)), run_check2 (P := P) (t := kt), hf, hr, findI]⟩
theorem run_stays (k : K2) (w : World) : (Instr.keyThatStays (kV k) (kV k)).run P w = .ok (kV k) w := by
  have h : Instr.sameBits 10000 (kV k) (kV k) = true := by
    show Instr.sameBits (9998 + 1 + 1) (kV k) (kV k) = true
    simp [Instr.sameBits]
  unfold Instr.keyThatStays
  rw [if_pos h]
  rfl
theorem update2_run {t kt et : Nat} [MP P t kt et] [K2T P kt] [EQ P kt [.int .u16, .int .u32]] (w : World) (r : Nat) (k : K2) (u : Value) (l : List (K2 × Value)) (es : Array MapEntry) (clock : Nat) (h1 : w.heap[r]? = some (.map es clock)) (h2 : es.toList.map (fun e => (e.key, e.val)) = l.map fun p => (kV p.1, p.2)) :
    ∃ es' clock', (Instr.mapUpdate t (.map (some r)) (kV k) u).run P w = .ok () { w with heap := w.heap.setIfInBounds r (.map es' clock') } ∧ es'.toList.map (fun e => (e.key, e.val)) = (mset l k u).map fun p => (kV p.1, p.2) := by
  have hf := run_find2 (P := P) (t := kt) k w es.toList l h2
  have hset := findI_set l k 0 u
  cases hq : findI l k 0 with
  | none =>
    rw [hq] at hset hf
    simp only at hset
    refine ⟨es.push { key := kV k, val := u, born := clock }, clock + 1, ?_, ?_⟩
    · simp [Instr.mapUpdate, run_underlying (MP.out (P := P) (t := t)), MapKept.run_getObj_map h1, run_check2 (P := P) (t := kt), hf, MapKept.run_setObj_map _ h1]
    · rw [hset]
      simp [h2]
  | some q =>
    obtain ⟨j, v'⟩ := q
    rw [hq] at hset hf
    simp only at hset
    obtain ⟨m, rfl, hm, hs2, hk⟩ := hset
    rw [Nat.zero_add] at hf
    have hle : es.toList.length = l.length := by have := congrArg List.length h2; simpa using this
    have hme : m < es.size := by rw [← hle] at hm; simpa using hm
    have hkey : (es[m]).key = kV k := by
      have := congrArg (fun q => q[m]?) h2
      simp only [List.getElem?_map] at this
      obtain ⟨p, hp, hp2⟩ := Option.map_eq_some_iff.1 hk
      rw [hp] at this
      simp [hme] at this
      rw [this.1, hp2]
    refine ⟨es.modify m fun e => { e with key := kV k, val := u }, clock, ?_, ?_⟩
    · simp [Instr.mapUpdate, run_underlying (MP.out (P := P) (t := t)), MapKept.run_getObj_map h1, run_check2 (P := P) (t := kt), hf, MapKept.run_setObj_map _ h1, hme, hkey, run_stays]
    · rw [hs2]
      apply List.ext_getElem?
      intro i
      have := congrArg (fun q => q[i]?) h2
      simp only [List.getElem?_map] at this
      simp only [List.getElem?_map, Array.getElem?_toList, Array.getElem?_modify, List.getElem?_set]
      by_cases e : m = i
      · subst e
        simp [hm, hme]
      · simp only [if_neg e]
        simpa using this
theorem GO.makeMap2 {t : Nat} (hop : o.op = .makeMap t none) (hd : o.dst = some d) (hn : Nat.blt d n = true) (k : ∀ r, N ((d, .map (some r)) :: T) (mapKV r [] :: L)) : GO P w0 M n o T L N :=
  GO.ofNew hd hn fun a w ht hs => by
    refine ⟨_, w.alloc (.map #[] 0), _, ?_, ?_, k w.heap.size⟩
    · simp only [execOp, hop]
      exact run_v (run_makeMap_plain w t)
    · refine hs.add rfl rfl rfl (by rw [alloc_size]; omega) (fun k hk => alloc_get_old w _ hk) ⟨#[], 0, alloc_get_new w _, rfl⟩ (fun k hk => ?_)
      have : k = w.heap.size := hk
      subst this
      rw [alloc_size]
      omega
/-- m == nil. -/
theorem GV.eqMapNil {t kt et yt : Nat} {x y : Operand} {q : Option Nat} (hop : o.op = .binOp .eql t x y yt) (_i0 : MP P t kt et) (hx : Ev T x (.map q)) (hy : Ev T y (.map none)) : GV P w0 M n o T L (.bool q.isNone) :=
  GV.bin hop hx hy fun w => by
    have h1 : ∀ d, (Op.equalIn (d + 1) t (.map q) (.map none)).run P w = .ok q.isNone w := fun d => by
      cases q <;> simp [Op.equalIn, run_underlying (MP.out (P := P) (t := t))]
    have h2 : (Op.equal t (.map q) (.map none)).run P w = .ok q.isNone w := h1 9999
    simp [eqGuard, binOp, h2]

/-! ### A map as a function -/
abbrev MF := K2 → Option Value
def updM (f : MF) (k : K2) (u : Value) : MF := fun k' => if k' = k then some u else f k'
def mapF (r : Nat) (f : MF) : Asn where
  dom := fun k => k = r
  holds := fun w => ∃ l, (mapKV r l).holds w ∧ ∀ k, mget l k = f k
  loc := fun h ⟨l, h1, h2⟩ => ⟨l, (mapKV r l).loc h h1, h2⟩
theorem GV.lookupF {t kt et : Nat} {x y : Operand} {r : Nat} {k : K2} {f : MF} {u : Value} (hop : o.op = .lookup t x y false) (_i0 : MP P t kt et) (_i1 : K2T P kt) (_i2 : EQ P kt [.int .u16, .int .u32]) (hx : Ev T x (.map (some r))) (hy : Ev T y (kV k)) (hin : ∀ w, St w0 M L w → (mapF r f).holds w)
    (hv : f k = some u) : GV P w0 M n o T L u :=
  ⟨fun a w ht hs => by
    obtain ⟨l, ⟨es, clock, h1, h2⟩, h3⟩ := hin w hs
    simp only [execOp, hop, ht.ev hx, ht.ev hy]
    refine run_v ?_
    have hf := run_find2 (P := P) (t := kt) k w es.toList l h2
    have hm := findI_mget l k 0
    rw [h3, hv] at hm
    obtain ⟨q, hq, hq2⟩ := Option.map_eq_some_iff.1 hm
    obtain ⟨j, u'⟩ := q
    simp only at hq2
    subst hq2
    rw [hq] at hf
    simp [Instr.lookup, run_underlying (MP.out (P := P) (t := t)), MapKept.run_getObj_map h1, run_check2 (P := P) (t := kt), hf]⟩
theorem GV.lookupF_none {t kt et : Nat} {z : Value} {x y : Operand} {r : Nat} {k : K2} {f : MF} (hop : o.op = .lookup t x y false) (_i0 : MP P t kt et) (_i1 : K2T P kt) (_i2 : EQ P kt [.int .u16, .int .u32]) (_i3 : ZV P et z) (hx : Ev T x (.map (some r))) (hy : Ev T y (kV k)) (hin : ∀ w, St w0 M L w → (mapF r f).holds w)
    (hv : f k = none) : GV P w0 M n o T L z :=
  ⟨fun a w ht hs => by
    obtain ⟨l, ⟨es, clock, h1, h2⟩, h3⟩ := hin w hs
    simp only [execOp, hop, ht.ev hx, ht.ev hy]
    refine run_v ?_
    have hf := run_find2 (P := P) (t := kt) k w es.toList l h2
    have hm := findI_mget l k 0
    rw [h3, hv] at hm
    have hq : findI l k 0 = none := by simpa using hm
    rw [hq] at hf
    have hr : (zeroValue et).run P w = .ok z w := by
      obtain ⟨i, hi, hz⟩ := Option.map_eq_some_iff.1 (ZV.out (P := P) (t := et))
      simp [zeroValue, typeInfo, hi, hz]
    simp [Instr.lookup, run_underlying (MP.out (P := P) (t := t)), MapKept.run_getObj_map h1, run_check2 (P := P) (t := kt), hf, hr]⟩
theorem GO.mapUpdateF {t kt et : Nat} {x y z : Operand} {r : Nat} {k : K2} {f : MF} {u : Value} (hop : o.op = .mapUpdate t x y z) (hd : o.dst = none) (_i0 : MP P t kt et) (_i1 : K2T P kt) (_i2 : EQ P kt [.int .u16, .int .u32]) (hx : Ev T x (.map (some r))) (hy : Ev T y (kV k)) (hz : Ev T z u)
    (hrep : Rep (mapF r f) (mapF r (updM f k u)) L L') (kk : N T L') : GO P w0 M n o T L N :=
  GO.ofUnit hd fun a w ht hs => by
    obtain ⟨l, ⟨es, clock, h1, h2⟩, h3⟩ := hs.holds _ hrep.mem
    have hlt := (Array.getElem?_eq_some_iff.1 h1).1
    have main := update2_run (P := P) (t := t) (kt := kt) (et := et) w r k u l es clock h1 h2
    obtain ⟨es', clock', r1, r2⟩ := main
    refine ⟨{ w with heap := w.heap.setIfInBounds r (.map es' clock') }, L', ?_, hs.rep hrep rfl rfl rfl (by simp) (fun k' _ hk' => by simp [Ne.symm (show ¬ k' = r from hk')]) ⟨mset l k u, ⟨es', clock', by simp [hlt], r2⟩, fun k' => by rw [mget_mset, h3]; rfl⟩ ?_, kk⟩
    · simp only [execOp, hop, ht.ev hx, ht.ev hy, ht.ev hz]; exact run_u r1
    · intro k' hk'
      have : k' = r := hk'
      subst this
      exact ⟨by simpa using hlt, .inl rfl⟩
theorem GO.makeMapF {t : Nat} (hop : o.op = .makeMap t none) (hd : o.dst = some d) (hn : Nat.blt d n = true) (k : ∀ r, N ((d, .map (some r)) :: T) (mapF r (fun _ => none) :: L)) : GO P w0 M n o T L N :=
  GO.ofNew hd hn fun a w ht hs => by
    refine ⟨_, w.alloc (.map #[] 0), _, ?_, ?_, k w.heap.size⟩
    · simp only [execOp, hop]
      exact run_v (run_makeMap_plain w t)
    · refine hs.add rfl rfl rfl (by rw [alloc_size]; omega) (fun k hk => alloc_get_old w _ hk) ⟨[], ⟨#[], 0, alloc_get_new w _, rfl⟩, fun _ => rfl⟩ (fun k hk => ?_)
      have : k = w.heap.size := hk
      subst this
      rw [alloc_size]
      omega

/-! ### Several assertions as one -/
def allA (L : List Asn) : Asn where
  dom := domOf L
  holds := fun w => (∀ A ∈ L, A.holds w) ∧ L.Pairwise (fun (A B : Asn) => ∀ k : Nat, A.dom k → ¬ B.dom k)
  loc := fun h hw => ⟨fun A hA => A.loc (fun k hk => h k ⟨A, hA, hk⟩) (hw.1 A hA), hw.2⟩
theorem St.pack {L1 Lr : List Asn} (h : St w0 M (L1 ++ Lr) w) : St w0 M (allA L1 :: Lr) w := by
  obtain ⟨p1, p2, p3⟩ := List.pairwise_append.1 h.disj
  refine ⟨h.os, h.tape, h.output, h.size, h.frame, ?_, ?_, ?_⟩
  · intro A hA
    rcases List.mem_cons.1 hA with rfl | hA
    · exact ⟨fun B hB => h.holds B (List.mem_append_left _ hB), p1⟩
    · exact h.holds A (List.mem_append_right _ hA)
  · intro A hA k hk
    rcases List.mem_cons.1 hA with rfl | hA
    · obtain ⟨B, hB, hk⟩ := hk
      exact h.own B (List.mem_append_left _ hB) k hk
    · exact h.own A (List.mem_append_right _ hA) k hk
  · exact List.pairwise_cons.2 ⟨fun B hB k ⟨A, hA, hk⟩ hk' => p3 A hA B hB k hk hk', p2⟩
theorem St.unpack {L1 Lr : List Asn} (h : St w0 M (allA L1 :: Lr) w) : St w0 M (L1 ++ Lr) w := by
  obtain ⟨p1, p2⟩ := List.pairwise_cons.1 h.disj
  have hh : (∀ A ∈ L1, A.holds w) ∧ _ := h.holds _ List.mem_cons_self
  refine ⟨h.os, h.tape, h.output, h.size, h.frame, ?_, ?_, ?_⟩
  · intro A hA
    rcases List.mem_append.1 hA with hA | hA
    · exact hh.1 A hA
    · exact h.holds A (List.mem_cons_of_mem _ hA)
  · intro A hA k hk
    rcases List.mem_append.1 hA with hA | hA
    · exact h.own _ List.mem_cons_self k ⟨A, hA, hk⟩
    · exact h.own A (List.mem_cons_of_mem _ hA) k hk
  · exact List.pairwise_append.2 ⟨hh.2, p2, fun A hA B hB k hk hk' => p1 B hB k ⟨A, hA, hk⟩ hk'⟩
theorem St.monoM {M' : Nat → Prop} (hM : ∀ k, M k ↔ M' k) (h : St w0 M L w) : St w0 M' L w :=
  ⟨h.os, h.tape, h.output, h.size, fun k hk hn => h.frame k hk fun hm => hn ((hM k).1 hm), h.holds, fun A hA k hk => ⟨(h.own A hA k hk).1, (h.own A hA k hk).2.imp id (hM k).1⟩, h.disj⟩
theorem domOf_all (L1 : List Asn) (k : Nat) : domOf [allA L1] k ↔ domOf L1 k := by
  constructor
  · rintro ⟨A, hA, hk⟩
    have : A = allA L1 := by simpa using hA
    subst this
    exact hk
  · intro h
    exact ⟨_, List.mem_singleton.2 rfl, h⟩
theorem Hands.packed {f : Nat} {vs : List Value} {L1 : List Asn} {Φ : Value → List Asn → Prop} (h : Hands P f vs L1 Φ) : Hands P f vs [allA L1] (fun v L2 => ∃ L2', L2 = [allA L2'] ∧ Φ v L2') :=
  ⟨fun w hst => by
    have h0 := St.unpack (L1 := L1) (Lr := []) hst
    rw [List.append_nil] at h0
    refine (h.out w (h0.monoM (domOf_all L1))).mono fun e w' ⟨v, L2, he, hΦ, h2⟩ => ⟨v, _, he, ⟨L2, rfl, hΦ⟩, ?_⟩
    refine (St.pack (L1 := L2) (Lr := []) ?_).monoM fun k => (domOf_all L1 k).symm
    rw [List.append_nil]
    exact h2⟩
theorem St.perm (hp : L.Perm L') (h : St w0 M L w) : St w0 M L' w :=
  ⟨h.os, h.tape, h.output, h.size, h.frame, fun A hA => h.holds A (hp.mem_iff.2 hA), fun A hA => h.own A (hp.mem_iff.2 hA), (hp.pairwise_iff (fun {A B} (hd : ∀ k : Nat, A.dom k → ¬ B.dom k) k hb ha => hd k ha hb)).1 h.disj⟩
theorem domOf_perm (hp : L.Perm L') (k : Nat) : domOf L k ↔ domOf L' k := ⟨fun ⟨A, hA, hk⟩ => ⟨A, hp.mem_iff.1 hA, hk⟩, fun ⟨A, hA, hk⟩ => ⟨A, hp.mem_iff.2 hA, hk⟩⟩
theorem Hands.perm {f : Nat} {vs : List Value} {L1 L1' : List Asn} {Φ : Value → List Asn → Prop} (hp : L1.Perm L1') (h : Hands P f vs L1' Φ) : Hands P f vs L1 Φ :=
  ⟨fun w hst => (h.out w ((hst.perm hp).monoM (domOf_perm hp))).mono fun e w' ⟨v, L2, he, hΦ, h2⟩ => ⟨v, L2, he, hΦ, h2.monoM fun k => (domOf_perm hp k).symm⟩⟩
theorem Hands.frame {f : Nat} {vs : List Value} {L1 : List Asn} {Φ : Value → List Asn → Prop} (h : Hands P f vs L1 Φ) (Lr : List Asn) : Hands P f vs (L1 ++ Lr) (fun v L2 => ∃ L2', L2 = L2' ++ Lr ∧ Φ v L2') :=
  ⟨fun w hst => (h.out w hst.part).mono fun e w' ⟨v, L2, he, hΦ, h2⟩ => ⟨v, L2 ++ Lr, he, ⟨L2, rfl, hΦ⟩, St.joined hst h2⟩⟩
theorem Hands.mono {f : Nat} {vs : List Value} {L1 : List Asn} {Φ Ψ : Value → List Asn → Prop} (h : Hands P f vs L1 Φ) (hi : ∀ v L2, Φ v L2 → Ψ v L2) : Hands P f vs L1 Ψ :=
  ⟨fun w hst => (h.out w hst).mono fun e w' ⟨v, L2, he, hΦ, h2⟩ => ⟨v, L2, he, hi v L2 hΦ, h2⟩⟩
theorem GC.pack {cc : Code} {Q : Exit → Act → World → Prop} {L1 Lr : List Asn} (hp : Pick L (L1 ++ Lr)) (h : GC P w0 M n cc Q T (allA L1 :: Lr)) : GC P w0 M n cc Q T L := fun a w ht hs => h a w ht (hs.pick hp).pack
theorem all_holds {L1 : List Asn} (hin : allA L1 ∈ L) (hs : St w0 M L w) : ∀ A ∈ L1, A.holds w := (hs.holds _ hin).1

/-! ### Function values -/
theorem GV.makeFunc {f : Nat} {xs : List Operand} {vs : List Value} (hop : o.op = .makeFunc (.func f) #[] xs.toArray) (hx : Evs T xs vs) : GV P w0 M n o T L (.func (.func f) #[] vs.toArray) :=
  ⟨fun a w ht _ => by
    have h := ht.evs hx
    simp only [execOp, hop]
    refine run_v ?_
    rw [show (#[] : Array Operand).map a.eval = #[] by simp, h]
    rfl⟩
/-- In the world w: of its result Φ tells, elder memory stays. -/
structure ComputesAtE (P : Program) (f : Nat) (vs : List Value) (w : World) (Φ : Value → Prop) : Prop where
  mk :: (out : Calls P f vs.toArray w fun e w' => ∃ v, e = .returned v ∧ Φ v ∧ Below w.heap.size w w')
theorem GO.callAtE {f : Nat} {fn : Func} {xs : List Operand} {ats : Array Nat} {vs : List Value} {Φ : Value → Prop} (hop : o.op = .call { callee := .value (.func f), args := xs.toArray, argTypes := ats }) (hd : o.dst = some d) (hn : Nat.blt d n = true) (_i0 : FN P f fn) (hx : Evs T xs vs)
    (hc : ∀ w, St w0 M L w → ComputesAtE P f vs w Φ) (k : ∀ v, Φ v → N ((d, v) :: T) L) : GO P w0 M n o T L N :=
  GO.call hop hd hn _i0 hx fun w hs => (hc w hs).out.mono fun e w' ⟨v, he, hΦ, hb⟩ => ⟨v, L, he, hs.below hb, k v hΦ⟩
theorem exec_callV {x : Operand} {f : Nat} {xs : Array Operand} {ats : Array Nat} {caps : Array Value} {ρ : Operand → Value} (hf : ρ x = .func (.func f) #[] caps) (hop : o.op = .call { callee := .value x, args := xs, argTypes := ats }) : execOp ρ o = callFunc f (xs.map ρ ++ caps) := by
  simp only [execOp, hop, resolve]
  simp [hf, Deferred.ofValue, invoke, bind, Sem.bind, pure]
/-- A call of a function value. -/
theorem GO.callV {x : Operand} {f : Nat} {fn : Func} {xs : List Operand} {ats : Array Nat} {vs caps : List Value} (hop : o.op = .call { callee := .value x, args := xs.toArray, argTypes := ats }) (hd : o.dst = some d) (hn : Nat.blt d n = true) (hf : Ev T x (.func (.func f) #[] caps.toArray)) (_i0 : FN P f fn) (hx : Evs T xs vs)
    (hc : ∀ w, St w0 M L w → ComputesAt P f (vs ++ caps) w v) (k : N ((d, v) :: T) L) : GO P w0 M n o T L N := by
  refine ⟨fun Q a w K ht hs hK => ?_⟩
  unfold Oper.wp
  rw [exec_callV (ht.ev hf) hop, ht.evs hx, List.append_toArray, run_enter, Oper.upon_enter]
  refine ((hc w hs).out).mono ?_
  rintro e w' ⟨rfl, h1⟩
  simp only [hd]
  exact hK _ _ _ _ k (ht.put (by simpa using hn) v) (hs.below h1)
end
end Go.Proofs.YtkbpiodcndjpnaaG
