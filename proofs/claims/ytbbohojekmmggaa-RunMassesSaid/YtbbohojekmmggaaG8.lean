/- Floats and complex numbers that are whole: what the operations give. Over any program. -/
import Derived.Test.YtbbohojekmmggaaG6
import Derived.Test.YtbbohojekmmggaaFl
import Derived.Laws.ComplexArith
namespace Go.Proofs.YtbbohojekmmggaaG
set_option linter.unusedVariables false
set_option linter.unusedSimpArgs false
open Go Go.RowKit Ieee
set_option exponentiation.threshold 1100

/-- A pair of words that is the whole complex number (x, y). -/
def IsC (a b : Nat) (z : Int × Int) : Prop := IsF a z.1 ∧ IsF b z.2
def cmul (z w : Int × Int) : Int × Int := (z.1 * w.1 - z.2 * w.2, z.1 * w.2 + z.2 * w.1)
def cadd (z w : Int × Int) : Int × Int := (z.1 + w.1, z.2 + w.2)
theorem cadd_whole {a b c d : Nat} {z w : Int × Int} (h : IsC a b z) (h' : IsC c d w) (h1 : (z.1 + w.1).natAbs < 2 ^ 53) (h2 : (z.2 + w.2).natAbs < 2 ^ 53) : ∃ re im, cSumBits .add .f64 a b c d = some (re, im) ∧ IsC re im (cadd z w) := by
  obtain ⟨r, hr, ir⟩ := add_whole h.1 h'.1 h1
  obtain ⟨s, hs, is_⟩ := add_whole h.2 h'.2 h2
  have e1 : floatBits .add .f64 a c = some r := hr
  have e2 : floatBits .add .f64 b d = some s := hs
  exact ⟨r, s, by simp [cSumBits, e1, e2], ir, is_⟩
theorem cmul_whole {a b c d : Nat} {z w : Int × Int} (h : IsC a b z) (h' : IsC c d w) (h1 : (z.1 * w.1).natAbs < 2 ^ 52) (h2 : (z.2 * w.2).natAbs < 2 ^ 52) (h3 : (z.1 * w.2).natAbs < 2 ^ 52) (h4 : (z.2 * w.1).natAbs < 2 ^ 52) : ∃ re im, cMulBits a b c d = some (re, im) ∧ IsC re im (cmul z w) := by
  have k1 : (2 : Nat) ^ 52 = 4503599627370496 := rfl
  have k2 : (2 : Nat) ^ 53 = 9007199254740992 := rfl
  obtain ⟨ac, q1, i1⟩ := mul_whole h.1 h'.1 (by omega)
  obtain ⟨bd, q2, i2⟩ := mul_whole h.2 h'.2 (by omega)
  obtain ⟨ad, q3, i3⟩ := mul_whole h.1 h'.2 (by omega)
  obtain ⟨bc, q4, i4⟩ := mul_whole h.2 h'.1 (by omega)
  obtain ⟨r, q5, i5⟩ := sub_whole i1 i2 (by omega)
  obtain ⟨s, q6, i6⟩ := add_whole i3 i4 (by omega)
  have e1 : floatBits .mul .f64 a c = some ac := q1
  have e2 : floatBits .mul .f64 b d = some bd := q2
  have e3 : floatBits .mul .f64 a d = some ad := q3
  have e4 : floatBits .mul .f64 b c = some bc := q4
  have e5 : floatBits .sub .f64 ac bd = some r := q5
  have e6 : floatBits .add .f64 ad bc = some s := q6
  exact ⟨r, s, by simp [cMulBits, e1, e2, e3, e4, e5, e6], i5, i6⟩
theorem order_whole {a b : Nat} {x y : Int} (h : IsF a x) (h' : IsF b y) : FloatKind.f64.format.order a b = some (compare x y) := compare_whole h h'
theorem floatEq_whole {a b : Nat} {x y : Int} (h : IsF a x) (h' : IsF b y) : Op.floatEq .f64 a b = decide (x = y) := by
  unfold Op.floatEq
  rw [order_whole h h']
  by_cases e : x = y
  · subst e
    rw [Int.compare_eq_eq.2 rfl]; simp
  · rw [decide_eq_false e]
    rcases Int.lt_or_gt_of_ne e with h1 | h1
    · rw [Int.compare_eq_lt.2 h1]; rfl
    · rw [Int.compare_eq_gt.2 h1]; rfl
theorem f2i_whole {a : Nat} {x : Int} (h : IsF a x) (h1 : -9223372036854775808 ≤ x) (h2 : x ≤ 9223372036854775807) : floatToIntVal .f64 a .i64 = some x := by
  have e : (FloatKind.f64.decode a).toInt .zero = some x := toInt_whole h
  unfold floatToIntVal
  rw [e]
  have e1 : IntKind.i64.min = -9223372036854775808 := rfl
  have e2 : IntKind.i64.max = 9223372036854775807 := rfl
  simp [e1, e2, h1, h2]
theorem i2f_whole (n : Int) (h : n.natAbs < 2 ^ 53) : IsF (floatOfInt .f64 n) n := ofInt_whole n h
theorem isF_zero : IsF 0 0 := ⟨false, 0, 0, 1074, by simp only [Format.read, d_sw, d_bin, d_inf, d_least]; rfl, by simp, fun h => absurd h (Nat.lt_irrefl 0)⟩
theorem isF_one : IsF 4607182418800017408 1 := ⟨false, 4503599627370496, 0, 52, by simp only [Format.read, d_sw, d_bin, d_inf, d_least]; rfl, by simp, fun _ => by simp⟩
theorem isF_minus : IsF 13830554455654793216 (-1) := ⟨true, 4503599627370496, 0, 52, by simp only [Format.read, d_sw, d_bin, d_inf, d_least]; rfl, by simp, fun _ => by simp⟩
theorem isF_top : IsF 4719772409484279808 33554432 := ⟨false, 4503599627370496, 0, 27, by simp only [Format.read, d_sw, d_bin, d_inf, d_least]; rfl, by simp, fun _ => by simp⟩
theorem isF_bottom : IsF 13943144446339055616 (-33554432) := ⟨true, 4503599627370496, 0, 27, by simp only [Format.read, d_sw, d_bin, d_inf, d_least]; rfl, by simp, fun _ => by simp⟩
/-- Type facts. -/
class FL (P : Program) (t : Nat) : Prop where out : P.underlying t = some (.float .f64)
class CX (P : Program) (t : Nat) : Prop where out : P.underlying t = some (.complex .f64)
section
variable {P : Program} {w0 : World} {M : Nat → Prop} {n : Nat} {T : TL} {L : List Asn} {o : Oper} {a b c d re im : Nat}
theorem GV.real {ats : Array Nat} {x : Operand} (hop : o.op = .call { callee := .builtin .real, args := #[x], argTypes := ats }) (hx : Ev T x (.complex .f64 a b)) : GV P w0 M n o T L (.float .f64 a) :=
  ⟨fun ac w ht _ => by simp [execOp, hop, resolve, invoke, builtin, ht.ev hx, run_real]⟩
theorem GV.imag {ats : Array Nat} {x : Operand} (hop : o.op = .call { callee := .builtin .imag, args := #[x], argTypes := ats }) (hx : Ev T x (.complex .f64 a b)) : GV P w0 M n o T L (.float .f64 b) :=
  ⟨fun ac w ht _ => by simp [execOp, hop, resolve, invoke, builtin, ht.ev hx, run_imag]⟩
theorem GV.complex {ats : Array Nat} {x y : Operand} (hop : o.op = .call { callee := .builtin .complex, args := #[x, y], argTypes := ats }) (hx : Ev T x (.float .f64 a)) (hy : Ev T y (.float .f64 b)) : GV P w0 M n o T L (.complex .f64 a b) :=
  ⟨fun ac w ht _ => by simp [execOp, hop, resolve, invoke, builtin, ht.ev hx, ht.ev hy, run_complex]⟩
theorem GV.cadd {t yt : Nat} {x y : Operand} (hop : o.op = .binOp .add t x y yt) (hx : Ev T x (.complex .f64 a b)) (hy : Ev T y (.complex .f64 c d)) (h : cSumBits .add .f64 a b c d = some (re, im)) : GV P w0 M n o T L (.complex .f64 re im) :=
  GV.bin hop hx hy fun w => by simp [eqGuard, run_complex_sum w .add (.inl rfl) t .f64 a b c d re im h]
theorem GV.cmul {t yt : Nat} {x y : Operand} (hop : o.op = .binOp .mul t x y yt) (hx : Ev T x (.complex .f64 a b)) (hy : Ev T y (.complex .f64 c d)) (h : cMulBits a b c d = some (re, im)) : GV P w0 M n o T L (.complex .f64 re im) :=
  GV.bin hop hx hy fun w => by simp [eqGuard, run_complex_mul w t a b c d re im h]
theorem GV.geqF {t yt : Nat} {x y : Operand} {p q : Int} (hop : o.op = .binOp .geq t x y yt) (hx : Ev T x (.float .f64 a)) (hy : Ev T y (.float .f64 b)) (ha : IsF a p) (hb : IsF b q) : GV P w0 M n o T L (.bool (decide (q ≤ p))) :=
  GV.bin hop hx hy fun w => by
    have e : (FloatKind.f64.format.order a b == some .gt || FloatKind.f64.format.order a b == some .eq) = decide (q ≤ p) := by
      rw [order_whole ha hb]
      rcases Int.lt_trichotomy p q with h | h | h
      · rw [Int.compare_eq_lt.2 h, decide_eq_false (by omega)]; rfl
      · subst h; rw [Int.compare_eq_eq.2 rfl, decide_eq_true (by omega)]; rfl
      · rw [Int.compare_eq_gt.2 h, decide_eq_true (by omega)]; rfl
    simp only [binOp_float_cmp_geq, e]
    simp [eqGuard]
theorem GV.leqF {t yt : Nat} {x y : Operand} {p q : Int} (hop : o.op = .binOp .leq t x y yt) (hx : Ev T x (.float .f64 a)) (hy : Ev T y (.float .f64 b)) (ha : IsF a p) (hb : IsF b q) : GV P w0 M n o T L (.bool (decide (p ≤ q))) :=
  GV.bin hop hx hy fun w => by
    have e : (FloatKind.f64.format.order a b == some .lt || FloatKind.f64.format.order a b == some .eq) = decide (p ≤ q) := by
      rw [order_whole ha hb]
      rcases Int.lt_trichotomy p q with h | h | h
      · rw [Int.compare_eq_lt.2 h, decide_eq_true (by omega)]; rfl
      · subst h; rw [Int.compare_eq_eq.2 rfl, decide_eq_true (by omega)]; rfl
      · rw [Int.compare_eq_gt.2 h, decide_eq_false (by omega)]; rfl
    simp only [binOp_float_cmp_leq, e]
    simp [eqGuard]
theorem GV.neqF {t yt : Nat} {x y : Operand} {p q : Int} (hop : o.op = .binOp .neq t x y yt) (hx : Ev T x (.float .f64 a)) (hy : Ev T y (.float .f64 b)) (ha : IsF a p) (hb : IsF b q) : GV P w0 M n o T L (.bool (decide (p ≠ q))) :=
  GV.bin hop hx hy fun w => by
    have e : (FloatKind.f64.format.order a b != some .eq) = decide (p ≠ q) := by
      rw [order_whole ha hb]
      rcases Int.lt_trichotomy p q with h | h | h
      · rw [Int.compare_eq_lt.2 h, decide_eq_true (by omega)]; rfl
      · subst h; rw [Int.compare_eq_eq.2 rfl]; simp
      · rw [Int.compare_eq_gt.2 h, decide_eq_true (by omega)]; rfl
    simp only [binOp_float_cmp_neq, e]
    simp [eqGuard]
theorem GV.f2i {t t' : Nat} {x : Operand} {p : Int} (hop : o.op = .convert t t' x) (_i0 : FL P t) (_i1 : IT P t' .i64) (hx : Ev T x (.float .f64 a)) (ha : IsF a p) (h1 : -9223372036854775808 ≤ p) (h2 : p ≤ 9223372036854775807) : GV P w0 M n o T L (.int .i64 p) :=
  ⟨fun ac w ht _ => by
    simp only [execOp, hop, ht.ev hx]
    refine run_v ?_
    exact run_convert_float_int w t t' .f64 .i64 a p (by rw [FL.out (P := P) (t := t)]; rfl) IT.out (f2i_whole ha h1 h2)⟩
theorem GV.andI {t yt : Nat} {x y : Operand} {k : IntKind} {p q r : Int} (hop : o.op = .binOp .and t x y yt) (hx : Ev T x (.int k p)) (hy : Ev T y (.int k q)) (h : k.wrap ((BitVec.ofInt k.bits p &&& BitVec.ofInt k.bits q).toNat : Int) = r) : GV P w0 M n o T L (.int k r) :=
  GV.bin hop hx hy fun w => by subst h; simp [eqGuard, binOp, Op.intBits]
theorem GV.shrI {t yt : Nat} {x y : Operand} {k k' : IntKind} {p q r : Int} (hop : o.op = .binOp .shr t x y yt) (hx : Ev T x (.int k p)) (hy : Ev T y (.int k' q)) (hq : 0 ≤ q) (h : p.fdiv (2 ^ min q.toNat k.bits) = r) : GV P w0 M n o T L (.int k r) :=
  GV.bin hop hx hy fun w => by subst h; simp [eqGuard, binOp, Op.shift, Int.not_lt.2 hq]
theorem GV.quoI {t yt : Nat} {x y : Operand} {k : IntKind} {p q r : Int} (hop : o.op = .binOp .quo t x y yt) (hx : Ev T x (.int k p)) (hy : Ev T y (.int k q)) (hq : q ≠ 0) (h : k.wrap (p.tdiv q) = r) : GV P w0 M n o T L (.int k r) :=
  GV.bin hop hx hy fun w => by subst h; simp [eqGuard, binOp, Op.intDiv, hq]
theorem GV.remI {t yt : Nat} {x y : Operand} {k : IntKind} {p q r : Int} (hop : o.op = .binOp .rem t x y yt) (hx : Ev T x (.int k p)) (hy : Ev T y (.int k q)) (hq : q ≠ 0) (h : p.tmod q = r) : GV P w0 M n o T L (.int k r) :=
  GV.bin hop hx hy fun w => by subst h; simp [eqGuard, binOp, Op.intDiv, hq]
theorem GV.i2f {t t' : Nat} {k : IntKind} {x : Operand} {p : Int} (hop : o.op = .convert t t' x) (_i0 : IT P t k) (_i1 : FL P t') (hx : Ev T x (.int k p)) : GV P w0 M n o T L (.float .f64 (floatOfInt .f64 p)) :=
  ⟨fun ac w ht _ => by
    simp only [execOp, hop, ht.ev hx]
    refine run_v ?_
    exact run_convert_int_float w t t' k .f64 p (by rw [IT.out (P := P) (t := t)]; rfl) FL.out⟩
end
/-- A function that computes something of which Φ tells. -/
structure ComputesE (P : Program) (f : Nat) (vs : List Value) (Φ : Value → Prop) : Prop where
  mk :: (out : ∀ w, Calls P f vs.toArray w fun e w' => ∃ v, e = .returned v ∧ Φ v ∧ Below w.heap.size w w')
theorem GO.callE {P : Program} {w0 : World} {M : Nat → Prop} {n : Nat} {T : TL} {L : List Asn} {o : Oper} {N : TL → List Asn → Prop} {d f : Nat} {fn : Func} {xs : List Operand} {ats : Array Nat} {vs : List Value} {Φ : Value → Prop} (hop : o.op = .call { callee := .value (.func f), args := xs.toArray, argTypes := ats }) (hd : o.dst = some d) (hn : Nat.blt d n = true) (_i0 : FN P f fn) (hx : Evs T xs vs)
    (hc : ComputesE P f vs Φ) (k : ∀ v, Φ v → N ((d, v) :: T) L) : GO P w0 M n o T L N :=
  GO.call hop hd hn _i0 hx fun w hs => (hc.out w).mono fun e w' ⟨v, he, hΦ, hb⟩ => ⟨v, L, he, hs.below hb, k v hΦ⟩
end Go.Proofs.YtbbohojekmmggaaG
