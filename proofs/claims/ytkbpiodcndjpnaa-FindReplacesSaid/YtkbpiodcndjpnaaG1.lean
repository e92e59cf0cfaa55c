/- Single operations, over any program: what is known behind each. -/
import Derived.Test.YtkbpiodcndjpnaaG0
namespace Go.Proofs.YtkbpiodcndjpnaaG
set_option linter.unusedVariables false
set_option linter.unusedSimpArgs false
open Go Go.RowKit

/-! ### Facts of a program's types, found by number -/
class IT (P : Program) (t : Nat) (k : outParam IntKind) : Prop where out : P.underlying t = some (.int k)
class SL (P : Program) (t : Nat) (e : outParam Nat) : Prop where out : P.underlying t = some (.slice e)
class AR (P : Program) (t : Nat) (len : outParam Nat) (e : outParam Nat) : Prop where out : P.underlying t = some (.array len e)
class SG (P : Program) (t : Nat) : Prop where out : P.underlying t = some .string
class BL (P : Program) (t : Nat) : Prop where out : P.underlying t = some .bool
class MP (P : Program) (t : Nat) (k : outParam Nat) (e : outParam Nat) : Prop where out : P.underlying t = some (.map k e)
def aggOf (P : Program) (t : Nat) : Option Bool :=
  match P.underlying t with
  | some (.struct _) => some true
  | some (.array _ _) => some true
  | some _ => some false
  | none => none
def fieldOff (P : Program) (t f : Nat) : Option (Nat × Nat) :=
  match P.underlying t with
  | some (.struct fs) => match fs[f]? with
    | some fl => match P.info? fl.type with
      | some i => if i.size = 0 then none else some (fl.offset, fl.type)
      | none => none
    | none => none
  | _ => none
/-- size (in cells), is it a struct or an array? -/
class TI (P : Program) (t : Nat) (agg : outParam Bool) (size : outParam Nat) : Prop where
  agg_ : aggOf P t = some agg
  size_ : (P.info? t).map (·.size) = some size
class TZ (P : Program) (t : Nat) (z : outParam (List Value)) : Prop where out : (P.info? t).map (fun i => i.zero.map (·.cells.toList)) = some (some z)
class TB (P : Program) (t : Nat) (b : outParam Nat) : Prop where out : (P.info? t).map (·.bytes) = some b
class FA (P : Program) (t f : Nat) (off : outParam Nat) (ft : outParam Nat) : Prop where out : fieldOff P t f = some (off, ft)
class FN (P : Program) (f : Nat) (fn : outParam Func) : Prop where
  out : P.funcs[f]? = some fn
  name : (fn.name == "runtime.NumGoroutine") = false
  body : fn.body.isNone = false

/-! ### Operands -/
def evO (T : TL) : Operand → Option Value
  | .tmp t => look T t
  | .const v => some v
  | .global g => some (.pointer (some ⟨g, 0, none⟩))
  | .func f => some (.func (.func f) #[] #[])
def Ev (T : TL) (x : Operand) (v : Value) : Prop := evO T x = some v
def evsK (T : TL) : List Operand → (List Value → Option (List Value)) → Option (List Value)
  | [], K => K []
  | x :: xs, K => match evO T x with
    | some v => evsK T xs fun vs => K (v :: vs)
    | none => none
def Evs (T : TL) (xs : List Operand) (vs : List Value) : Prop := evsK T xs some = some vs
section
variable {T : TL} {v : Value}
theorem Ev.func {f : Nat} : Ev T (.func f) (.func (.func f) #[] #[]) := rfl
theorem Tm.ev {n : Nat} {a : Act} (h : Tm n T a) {x : Operand} (hx : Ev T x v) : a.eval x = v := by
  cases x with
  | tmp t =>
    have := h.val t v hx
    simp [Act.eval, Array.getD_eq_getD_getElem?, this]
  | const u => exact Option.some.inj hx
  | global g => exact Option.some.inj hx
  | func f => exact Option.some.inj hx
theorem evsK_eq : ∀ (xs : List Operand) (K : List Value → Option (List Value)) (R : List Value), evsK T xs K = some R → ∃ vs, K vs = some R ∧ xs.length = vs.length ∧ ∀ n (a : Act), Tm n T a → xs.map a.eval = vs
  | [], K, R, h => ⟨[], h, rfl, fun _ _ _ => rfl⟩
  | x :: xs, K, R, h => by
    unfold evsK at h
    split at h
    · rename_i v hv
      obtain ⟨vs, h1, h2, h3⟩ := evsK_eq xs _ R h
      exact ⟨v :: vs, h1, by simp [h2], fun n a ha => by simp only [List.map_cons, h3 n a ha, ha.ev hv]⟩
    · cases h
theorem Tm.evs {n : Nat} {a : Act} (h : Tm n T a) {xs : List Operand} {vs : List Value} (hx : Evs T xs vs) : xs.toArray.map a.eval = vs.toArray := by
  obtain ⟨vs', h1, _, h3⟩ := evsK_eq xs some vs hx
  obtain rfl := Option.some.inj h1
  rw [List.map_toArray, h3 n a h]
end

section
variable {P : Program} {w0 : World} {M : Nat → Prop} {n : Nat} {T : TL} {L L' : List Asn} {o : Oper} {N : TL → List Asn → Prop} {d : Nat} {v : Value}

theorem run_v {s : Sem Value} {w w' : World} (h : s.run P w = .ok v w') : (do let x ← s; pure (Next.value x) : Sem Next).run P w = .ok (.value v) w' := by simp [h]
theorem run_u {s : Sem Unit} {w w' : World} (h : s.run P w = .ok () w') : (do s; pure Next.skip : Sem Next).run P w = .ok .skip w' := by simp [h]

theorem GO.ofVal (hd : o.dst = some d) (hn : Nat.blt d n = true) (hr : ∀ a w, Tm n T a → St w0 M L w → (execOp a.eval o).run P w = .ok (.value v) w) (k : N ((d, v) :: T) L) : GO P w0 M n o T L N := by
  refine ⟨fun Q a w K ht hs hK => ?_⟩
  unfold Oper.wp
  rw [hr a w ht hs, Oper.upon_value, hd]
  exact hK _ _ _ _ k (ht.put (by simpa using hn) v) hs
theorem GO.ofNew (hd : o.dst = some d) (hn : Nat.blt d n = true) (hr : ∀ a w, Tm n T a → St w0 M L w → ∃ v w' L', (execOp a.eval o).run P w = .ok (.value v) w' ∧ St w0 M L' w' ∧ N ((d, v) :: T) L') : GO P w0 M n o T L N := by
  refine ⟨fun Q a w K ht hs hK => ?_⟩
  obtain ⟨v, w', L', h1, h2, h3⟩ := hr a w ht hs
  unfold Oper.wp
  rw [h1, Oper.upon_value, hd]
  exact hK _ _ _ _ h3 (ht.put (by simpa using hn) v) h2
theorem GO.ofUnit (hd : o.dst = none) (hr : ∀ a w, Tm n T a → St w0 M L w → ∃ w' L', (execOp a.eval o).run P w = .ok .skip w' ∧ St w0 M L' w' ∧ N T L') : GO P w0 M n o T L N := by
  refine ⟨fun Q a w K ht hs hK => ?_⟩
  obtain ⟨w', L', h1, h2, h3⟩ := hr a w ht hs
  unfold Oper.wp
  rw [h1, Oper.upon_skip, hd]
  exact hK _ _ _ _ h3 ht h2

/-- A value in every world that is known so; the world stays. -/
structure GV (P : Program) (w0 : World) (M : Nat → Prop) (n : Nat) (o : Oper) (T : TL) (L : List Asn) (v : Value) : Prop where
  mk :: (out : ∀ a w, Tm n T a → St w0 M L w → (execOp a.eval o).run P w = .ok (.value v) w)
theorem GO.ofV (h : GV P w0 M n o T L v) (hd : o.dst = some d) (hn : Nat.blt d n = true) (k : N ((d, v) :: T) L) : GO P w0 M n o T L N := GO.ofVal hd hn h.out k

/-! ### Moves -/
theorem GV.move {x : Operand} (hop : o.op = .move x) (hx : Ev T x v) : GV P w0 M n o T L (v) :=
  ⟨fun a w ht _ => by simp only [execOp, hop, ht.ev hx]; rfl⟩
theorem GV.assign {x : Operand} (hop : o.op = .assign x) (hx : Ev T x v) : GV P w0 M n o T L (v) :=
  ⟨fun a w ht _ => by simp only [execOp, hop, ht.ev hx]; rfl⟩
theorem GV.pick_true {c x y : Operand} (hop : o.op = .pick c x y) (hc : Ev T c (.bool true)) (hx : Ev T x v) : GV P w0 M n o T L (v) :=
  ⟨fun a w ht _ => by simp [execOp, hop, ht.ev hc, ht.ev hx, asBool]⟩
theorem GV.pick_false {c x y : Operand} (hop : o.op = .pick c x y) (hc : Ev T c (.bool false)) (hy : Ev T y v) : GV P w0 M n o T L (v) :=
  ⟨fun a w ht _ => by simp [execOp, hop, ht.ev hc, ht.ev hy, asBool]⟩
/-- Whatever is reckoned on values alone. -/
theorem GV.pure1 {s : Value → Sem Value} {x : Operand} {vx : Value} (hop : ∀ ρ : Operand → Value, execOp ρ o = (do let r ← s (ρ x); pure (Next.value r))) (hx : Ev T x vx)
    (hr : ∀ w, (s vx).run P w = .ok v w) : GV P w0 M n o T L (v) :=
  ⟨fun a w ht _ => by rw [hop, ht.ev hx]; exact run_v (hr w)⟩
theorem GV.pure2 {s : Value → Value → Sem Value} {x y : Operand} {vx vy : Value} (hop : ∀ ρ : Operand → Value, execOp ρ o = (do let r ← s (ρ x) (ρ y); pure (Next.value r))) (hx : Ev T x vx) (hy : Ev T y vy)
    (hr : ∀ w, (s vx vy).run P w = .ok v w) : GV P w0 M n o T L (v) :=
  ⟨fun a w ht _ => by rw [hop, ht.ev hx, ht.ev hy]; exact run_v (hr w)⟩
/-! ### Integers -/
def binI (op : BinOp) (k : IntKind) (a b : Int) : Option Value :=
  match op with
  | .add => some (.int k (k.wrap (a + b)))
  | .sub => some (.int k (k.wrap (a - b)))
  | .mul => some (.int k (k.wrap (a * b)))
  | .eql => some (.bool (a == b))
  | .neq => some (.bool (a != b))
  | .lss => some (.bool (decide (a < b)))
  | .leq => some (.bool (decide (a ≤ b)))
  | .gtr => some (.bool (decide (b < a)))
  | .geq => some (.bool (decide (b ≤ a)))
  | _ => none
theorem run_binI {op : BinOp} {k : IntKind} {a b : Int} {t : Nat} {x y : Operand} (h : binI op k a b = some v) (w : World) : (do eqGuard op t x y (.int k a) (.int k b); binOp op t (.int k a) (.int k b) : Sem Value).run P w = .ok v w := by
  cases op <;> simp only [binI, Option.some.injEq, reduceCtorEq] at h <;> subst h <;> simp [eqGuard, binOp, Op.intArith, Op.intCmp, GT.gt, GE.ge]
theorem GV.binI {op : BinOp} {t yt : Nat} {x y : Operand} {k : IntKind} {a b : Int} (hop : o.op = .binOp op t x y yt) (hx : Ev T x (.int k a)) (hy : Ev T y (.int k b))
    (hv : binI op k a b = some v) : GV P w0 M n o T L (v) :=
  ⟨fun c w ht _ => by simp only [execOp, hop, ht.ev hx, ht.ev hy]; exact run_v (run_binI hv w)⟩
def kLo : IntKind → Int
  | .i8 => -128 | .i16 => -32768 | .i32 => -2147483648 | .i64 => -9223372036854775808
  | .u8 => 0 | .u16 => 0 | .u32 => 0 | .u64 => 0
def kHi : IntKind → Int
  | .i8 => 127 | .i16 => 32767 | .i32 => 2147483647 | .i64 => 9223372036854775807
  | .u8 => 255 | .u16 => 65535 | .u32 => 4294967295 | .u64 => 18446744073709551615
theorem wrap_in {k : IntKind} {a : Int} (h1 : kLo k ≤ a) (h2 : a ≤ kHi k) : k.wrap a = a := by
  cases k <;> simp only [kLo, kHi] at h1 h2 <;> simp only [IntKind.wrap, IntKind.bits, IntKind.signed, Bool.true_and, Bool.false_and, Bool.false_eq_true, if_false, Nat.reduceSub] <;> (try (split <;> rename_i h <;> simp at h)) <;> omega
theorem GV.addI {t yt : Nat} {x y : Operand} {k : IntKind} {a b c : Int} (hop : o.op = .binOp .add t x y yt) (hx : Ev T x (.int k a)) (hy : Ev T y (.int k b))
    (hc : a + b = c) (h1 : kLo k ≤ c) (h2 : c ≤ kHi k) : GV P w0 M n o T L (.int k c) :=
  GV.binI hop hx hy (by show some (Value.int k (k.wrap (a + b))) = _; rw [hc, wrap_in h1 h2])
theorem GV.subI {t yt : Nat} {x y : Operand} {k : IntKind} {a b c : Int} (hop : o.op = .binOp .sub t x y yt) (hx : Ev T x (.int k a)) (hy : Ev T y (.int k b))
    (hc : a - b = c) (h1 : kLo k ≤ c) (h2 : c ≤ kHi k) : GV P w0 M n o T L (.int k c) :=
  GV.binI hop hx hy (by show some (Value.int k (k.wrap (a - b))) = _; rw [hc, wrap_in h1 h2])
/-- Any operation on two values whose run is told. -/
theorem GV.bin {op : BinOp} {t yt : Nat} {x y : Operand} {vx vy : Value} (hop : o.op = .binOp op t x y yt) (hx : Ev T x vx) (hy : Ev T y vy)
    (hr : ∀ w, (do eqGuard op t x y vx vy; binOp op t vx vy : Sem Value).run P w = .ok v w) : GV P w0 M n o T L (v) :=
  ⟨fun c w ht _ => by simp only [execOp, hop, ht.ev hx, ht.ev hy]; exact run_v (hr w)⟩
theorem GV.eqB {t yt : Nat} {x y : Operand} {p q : Bool} (hop : o.op = .binOp .eql t x y yt) (_i0 : BL P t) (hx : Ev T x (.bool p)) (hy : Ev T y (.bool q)) : GV P w0 M n o T L (.bool (p == q)) :=
  GV.bin hop hx hy (fun w => by have := BL.out (P := P) (t := t); simp [eqGuard, binOp, run_equal_bool _ _ _ _ this])
theorem GV.neqB {t yt : Nat} {x y : Operand} {p q : Bool} (hop : o.op = .binOp .neq t x y yt) (_i0 : BL P t) (hx : Ev T x (.bool p)) (hy : Ev T y (.bool q)) : GV P w0 M n o T L (.bool (p != q)) :=
  GV.bin hop hx hy (fun w => by have := BL.out (P := P) (t := t); simp [eqGuard, binOp, run_equal_bool _ _ _ _ this, bne])
theorem GV.un {op : UnOp} {t : Nat} {x : Operand} {vx : Value} (hop : o.op = .unOp op t x) (hx : Ev T x vx) (hr : ∀ w, (Op.unary op vx).run P w = .ok v w) : GV P w0 M n o T L (v) :=
  ⟨fun c w ht _ => by simp only [execOp, hop, ht.ev hx]; exact run_v (hr w)⟩
theorem GV.not {t : Nat} {x : Operand} {b : Bool} (hop : o.op = .unOp .not t x) (hx : Ev T x (.bool b)) : GV P w0 M n o T L (.bool (!b)) :=
  GV.un hop hx (fun w => by simp [Op.unary])
theorem GV.convI {s t : Nat} {ks k : IntKind} {x : Operand} {kx : IntKind} {a : Int} (hop : o.op = .convert s t x) (_i0 : IT P s ks) (_i1 : IT P t k) (hx : Ev T x (.int kx a)) : GV P w0 M n o T L (.int k (k.wrap a)) :=
  ⟨fun c w ht _ => by
    simp only [execOp, hop, ht.ev hx]
    refine run_v ?_
    have h1 := IT.out (P := P) (t := s)
    have h2 := IT.out (P := P) (t := t)
    simp [convert, run_underlying h1, run_underlying h2, Conv.intToInt]⟩
theorem GV.convI_in {s t : Nat} {ks k : IntKind} {x : Operand} {kx : IntKind} {a : Int} (hop : o.op = .convert s t x) (_i0 : IT P s ks) (_i1 : IT P t k) (hx : Ev T x (.int kx a)) (h1 : kLo k ≤ a) (h2 : a ≤ kHi k) : GV P w0 M n o T L (.int k a) :=
  by have := GV.convI (P := P) (w0 := w0) (M := M) (n := n) (L := L) hop _i0 _i1 hx; rwa [wrap_in h1 h2] at this
/-! ### Memory -/
theorem agg_run {t : Nat} {b : Bool} {s : Nat} [TI P t b s] (w : World) : (isAgg t).run P w = .ok b w := by
  have h := TI.agg_ (P := P) (t := t)
  unfold aggOf at h
  cases hu : P.underlying t with
  | none => simp [hu] at h
  | some de =>
    cases de <;> simp only [hu, Option.some.injEq] at h <;> subst h <;> simp [isAgg, run_underlying hu]
theorem size_run {t : Nat} {b : Bool} {s : Nat} [TI P t b s] (w : World) : (sizeOf t).run P w = .ok s w := by
  have h := TI.size_ (P := P) (t := t)
  obtain ⟨i, hi, rfl⟩ := Option.map_eq_some_iff.1 h
  simp [sizeOf, typeInfo, hi]
theorem zero_run {t : Nat} {z : List Value} [TZ P t z] : ∃ zv : Value, zv.cells = z.toArray ∧ ∀ w, (zeroValue t).run P w = .ok zv w := by
  have h := TZ.out (P := P) (t := t)
  obtain ⟨i, hi, hz⟩ := Option.map_eq_some_iff.1 h
  obtain ⟨zv, hzv, hc⟩ := Option.map_eq_some_iff.1 hz
  refine ⟨zv, ?_, fun w => by simp [zeroValue, typeInfo, hi, hzv]⟩
  rw [← hc]
theorem add_plain0 (g i j : Nat) : (⟨g, i, none⟩ : Addr).add j = ⟨g, i + j, none⟩ := by
  unfold Addr.add
  split
  · rename_i h; subst h; rfl
  · rfl
theorem run_loadCells_list (a : Addr) : ∀ (cs : List Value) (i : Nat) (acc : Array Value) (w : World), (∀ j v, cs[j]? = some v → w.cell? (a.add (i + j)) = some v) → (loadCellsFrom a i cs.length acc).run P w = .ok (acc ++ cs.toArray) w := by
  intro cs
  induction cs with
  | nil => intro i acc w _; simp [loadCellsFrom]
  | cons c r ih =>
    intro i acc w h
    have h0 := h 0 c rfl
    have hr := ih (i + 1) (acc.push c) w fun j v hj => by
      have := h (j + 1) v (by simpa using hj)
      rwa [show i + 1 + j = i + (j + 1) by omega]
    simp only [Nat.add_zero] at h0
    have h1 : (load (a.add i)).run P w = .ok c w := by simp [load, Sem.run, h0]
    simp only [List.length_cons, loadCellsFrom]
    simp [h1, hr]
theorem run_loadAt_scalar {t s : Nat} [TI P t false s] {a : Addr} {w : World} (hc : w.cell? a = some v) : (Instr.loadAt t (.pointer (some a))).run P w = .ok v w := by
  simp [Instr.loadAt, Instr.sureAddr, loadVar, agg_run (t := t) w, load, Sem.run, hc]
theorem run_loadAt_agg {t s : Nat} [TI P t true s] {a : Addr} {w : World} {cs : List Value} (hl : cs.length = s) (hc : ∀ j v, cs[j]? = some v → w.cell? (a.add j) = some v) : (Instr.loadAt t (.pointer (some a))).run P w = .ok (.agg cs.toArray) w := by
  have h := run_loadCells_list (P := P) a cs 0 #[] w (by simpa using hc)
  subst hl
  have h' : (loadCells a cs.length).run P w = .ok cs.toArray w := by unfold loadCells; simpa using h
  simp [Instr.loadAt, Instr.sureAddr, loadVar, agg_run (t := t) w, size_run (t := t) w, h']

def segK : Nat → Nat → List Value → (List Value → Option (List Value)) → Option (List Value)
  | _, 0, _, K => K []
  | _, _ + 1, [], _ => none
  | 0, s + 1, c :: cs, K => segK 0 s cs fun r => K (c :: r)
  | off + 1, s + 1, _ :: cs, K => segK off (s + 1) cs K
theorem segK_zero : ∀ (s : Nat) (C : List Value) (K : List Value → Option (List Value)) (R : List Value), segK 0 s C K = some R → ∃ r, r.length = s ∧ C.take s = r ∧ K r = some R
  | 0, C, K, R, h => ⟨[], rfl, by simp, by simpa [segK] using h⟩
  | s + 1, [], K, R, h => by simp [segK] at h
  | s + 1, c :: cs, K, R, h => by
    simp only [segK] at h
    obtain ⟨r, h1, h2, h3⟩ := segK_zero s cs _ R h
    exact ⟨c :: r, by simp [h1], by simp [h2], h3⟩
theorem segK_eq : ∀ (off s : Nat) (C : List Value) (R : List Value), segK off s C some = some R → (C.drop off).take s = R ∧ R.length = s
  | _, 0, C, R, h => by simp [segK] at h; subst h; simp
  | _, _ + 1, [], R, h => by simp [segK] at h
  | 0, s + 1, c :: cs, R, h => by
    obtain ⟨r, h1, h2, h3⟩ := segK_zero (s + 1) (c :: cs) some R h
    simp only [Option.some.injEq] at h3
    subst h3
    exact ⟨by simpa using h2, h1⟩
  | off + 1, s + 1, _ :: cs, R, h => by
    simp only [segK] at h
    simpa using segK_eq off (s + 1) cs R h
theorem GV.load_at {t s : Nat} {x : Operand} {a : Addr} (hop : o.op = .load t x) (_i0 : TI P t false s) (hx : Ev T x (.pointer (some a))) (hc : ∀ w, St w0 M L w → w.cell? a = some v) : GV P w0 M n o T L (v) :=
  ⟨fun c w ht hs => by simp only [execOp, hop, ht.ev hx]; exact run_v (run_loadAt_scalar (t := t) (hc w hs))⟩
theorem GV.load_at_agg {t s : Nat} {x : Operand} {a : Addr} {cs : List Value} (hop : o.op = .load t x) (_i0 : TI P t true s) (hx : Ev T x (.pointer (some a))) (hl : cs.length = s)
    (hc : ∀ w, St w0 M L w → ∀ j v, cs[j]? = some v → w.cell? (a.add j) = some v) : GV P w0 M n o T L (.agg cs.toArray) :=
  ⟨fun c w ht hs => by simp only [execOp, hop, ht.ev hx]; exact run_v (run_loadAt_agg (t := t) hl (hc w hs))⟩
theorem blk_cell {g t off : Nat} {C : List Value} {w : World} (hin : blk g C t ∈ L) (hs : St w0 M L w) (hv : C[off]? = some v) : w.cell? ⟨g, off, none⟩ = some v := by
  have := hs.holds _ hin
  simp only [blk] at this
  simp [World.cell?, this, hv]
theorem GV.load_blk {t s g off ty : Nat} {x : Operand} {C : List Value} (hop : o.op = .load t x) (_i0 : TI P t false s) (hx : Ev T x (.pointer (some ⟨g, off, none⟩))) (hin : blk g C ty ∈ L) (hv : C[off]? = some v) : GV P w0 M n o T L (v) :=
  GV.load_at hop _i0 hx (fun w hs => blk_cell hin hs hv)
theorem GV.load_blk_agg {t s g off ty : Nat} {x : Operand} {C cs : List Value} (hop : o.op = .load t x) (_i0 : TI P t true s) (hx : Ev T x (.pointer (some ⟨g, off, none⟩))) (hin : blk g C ty ∈ L)
    (hseg : segK off s C some = some cs) : GV P w0 M n o T L (.agg cs.toArray) :=
  GV.load_at_agg hop _i0 hx (segK_eq _ _ _ _ hseg).2 (fun w hs j u hj => by
    have hv := (segK_eq _ _ _ _ hseg).1
    rw [add_plain0]
    refine blk_cell hin hs ?_
    subst hv
    rw [List.getElem?_take] at hj
    split at hj
    · rw [List.getElem?_drop] at hj; exact hj
    · cases hj)
/-- The cells of a block behind a store. -/
def putCells : List Value → Nat → List Value → List Value
  | [], _, _ => []
  | _ :: cs, 0, v :: vs => v :: putCells cs 0 vs
  | c :: cs, 0, [] => c :: cs
  | c :: cs, off + 1, vs => c :: putCells cs off vs
theorem putCells_length : ∀ (C : List Value) (off : Nat) (vs : List Value), (putCells C off vs).length = C.length
  | [], _, _ => rfl
  | _ :: cs, 0, _ :: vs => by simp [putCells, putCells_length cs 0 vs]
  | _ :: _, 0, [] => rfl
  | _ :: cs, off + 1, vs => by simp [putCells, putCells_length cs off vs]
theorem putCells_nil (C : List Value) (off : Nat) : putCells C off [] = C := by
  induction C generalizing off with
  | nil => rfl
  | cons c cs ih => cases off with
    | zero => rfl
    | succ off => simp [putCells, ih]
theorem putCells_cons (C : List Value) (off : Nat) (v : Value) (vs : List Value) : putCells C off (v :: vs) = putCells (C.set off v) (off + 1) vs := by
  induction C generalizing off with
  | nil => rfl
  | cons c cs ih => cases off with
    | zero => cases vs with
      | nil => simp [putCells, putCells_nil]
      | cons u us => simp [putCells]
    | succ off => simp [putCells, ih]
/-- The same, told by what is done with it: its evaluation leaves the cells written out. -/
def putK {β : Type} : List Value → Nat → List Value → (List Value → β) → β
  | [], _, _, K => K []
  | _ :: cs, 0, v :: vs, K => putK cs 0 vs fun r => K (v :: r)
  | c :: cs, 0, [], K => K (c :: cs)
  | c :: cs, off + 1, vs, K => putK cs off vs fun r => K (c :: r)
theorem putK_eq {β : Type} : ∀ (C : List Value) (off : Nat) (vs : List Value) (K : List Value → β), putK C off vs K = K (putCells C off vs)
  | [], _, _, _ => by simp [putK, putCells]
  | _ :: cs, 0, v :: vs, K => by simp only [putK, putCells]; rw [putK_eq cs 0 vs]
  | c :: cs, 0, [], K => by simp [putK, putCells]
  | c :: cs, off + 1, vs, K => by simp only [putK, putCells]; rw [putK_eq cs off vs]
def okCell : Value → Bool
  | .agg _ => false
  | .tuple _ => false
  | _ => true
theorem run_store1 {w : World} {g off t : Nat} {C : List Value} (hg : w.heap[g]? = some (.cells C.toArray t (0, 0))) (hlt : off < C.length) {u : Value} (hu : okCell u = true) :
    (store ⟨g, off, none⟩ u).run P w = .ok () (w.setCell ⟨g, off, none⟩ u) := by
  have h1 : w.cell? ⟨g, off, none⟩ = some C[off] := by simp [World.cell?, hg, hlt]
  have h2 : w.frozen? ⟨g, off, none⟩ = false := by simp [World.frozen?, hg]
  cases u <;> first | (simp [okCell] at hu; done) | simp [store, Sem.run, h1, h2]
theorem setCell_heap {w : World} {g off t : Nat} {C : List Value} (hg : w.heap[g]? = some (.cells C.toArray t (0, 0))) (u : Value) : (w.setCell ⟨g, off, none⟩ u).heap[g]? = some (.cells (C.set off u).toArray t (0, 0)) := by
  have hlt := (Array.getElem?_eq_some_iff.1 hg).1
  simp [World.setCell, Array.getElem?_modify, hg]
theorem setCell_heap_ne {w : World} {g off k : Nat} (hk : k ≠ g) (u : Value) : (w.setCell ⟨g, off, none⟩ u).heap[k]? = w.heap[k]? := by
  simp [World.setCell, Array.getElem?_modify, Ne.symm hk]
theorem run_storeCells_put (g t off : Nat) : ∀ (vs : List Value) (i : Nat) (C : List Value) (w : World), w.heap[g]? = some (.cells C.toArray t (0, 0)) → off + i + vs.length ≤ C.length → (∀ v ∈ vs, okCell v = true) →
    ∃ w', (storeCells ⟨g, off, none⟩ vs i).run P w = .ok () w' ∧ w'.heap[g]? = some (.cells (putCells C (off + i) vs).toArray t (0, 0)) ∧ w'.heap.size = w.heap.size ∧ w'.os = w.os ∧ w'.tape = w.tape ∧ w'.output = w.output ∧ ∀ k, k ≠ g → w'.heap[k]? = w.heap[k]? := by
  intro vs
  induction vs with
  | nil =>
    intro i C w hg _ _
    exact ⟨w, by simp [storeCells], by rw [putCells_nil]; exact hg, rfl, rfl, rfl, rfl, fun _ _ => rfl⟩
  | cons v r ih =>
    intro i C w hg hle hok
    simp only [List.length_cons] at hle
    have h1 := run_store1 (P := P) hg (off := off + i) (by omega) (hok v List.mem_cons_self)
    obtain ⟨w', hr, hg', hz, h2, h3, h4, hk⟩ := ih (i + 1) (C.set (off + i) v) (w.setCell ⟨g, off + i, none⟩ v) (setCell_heap hg v) (by simp; omega) fun u hu => hok u (List.mem_cons_of_mem _ hu)
    refine ⟨w', ?_, ?_, ?_, ?_, ?_, ?_, ?_⟩
    · simp only [storeCells, add_plain0]
      simp [h1, hr]
    · rw [putCells_cons]; exact hg'
    · rw [hz]; simp [World.setCell]
    · rw [h2]; rfl
    · rw [h3]; rfl
    · rw [h4]; rfl
    · intro k hne; rw [hk k hne, setCell_heap_ne hne]
theorem run_storeAt_put {t g off ty : Nat} {b : Bool} {s : Nat} [TI P t b s] {C : List Value} {w : World} (hg : w.heap[g]? = some (.cells C.toArray ty (0, 0))) {u : Value} (hu : u.cells.size = s) (hle : off + s ≤ C.length) (hok : u.cells.toList.all okCell = true) :
    ∃ w', (Instr.storeAt t (.pointer (some ⟨g, off, none⟩)) u).run P w = .ok () w' ∧ w'.heap[g]? = some (.cells (putCells C off u.cells.toList).toArray ty (0, 0)) ∧ w'.heap.size = w.heap.size ∧ w'.os = w.os ∧ w'.tape = w.tape ∧ w'.output = w.output ∧ ∀ k, k ≠ g → w'.heap[k]? = w.heap[k]? := by
  obtain ⟨w', h1, h2⟩ := run_storeCells_put (P := P) g ty off u.cells.toList 0 C w hg (by simp; omega) (fun v hv => List.all_eq_true.1 hok v hv)
  refine ⟨w', ?_, by simpa using h2⟩
  simp [Instr.storeAt, Instr.sureAddr, storeVar, size_run (t := t) w, hu, h1]
theorem GO.store {t g off ty : Nat} {b : Bool} {s : Nat} {x y : Operand} {C C' : List Value} {u : Value} {cs : List Value} (hop : o.op = .store t x y) (hd : o.dst = none) (_i0 : TI P t b s) (hx : Ev T x (.pointer (some ⟨g, off, none⟩))) (hy : Ev T y u)
    (hrep : Rep (blk g C ty) (blk g C' ty) L L') (hcs : u.cells = cs.toArray) (hl : cs.length = s) (hle : Nat.ble (off + s) C.length = true) (hok : cs.all okCell = true) (hC : putK C off cs some = some C') (k : N T L') : GO P w0 M n o T L N :=
  GO.ofUnit hd fun a w ht hs => by
    have hC : putCells C off cs = C' := Option.some.inj ((putK_eq C off cs some).symm.trans hC)
    have hg : w.heap[g]? = some (.cells C.toArray ty (0, 0)) := hs.holds _ hrep.mem
    obtain ⟨w', h1, h2, h3, h4, h5, h6, h7⟩ := run_storeAt_put (P := P) (t := t) hg (u := u) (off := off) (by rw [hcs]; simpa using hl) (by simpa using hle) (by rw [hcs]; exact hok)
    refine ⟨w', L', ?_, hs.rep hrep h4 h5 h6 (by omega) (fun k _ hk => h7 k hk) ?_ ?_, k⟩
    · simp only [execOp, hop, ht.ev hx, ht.ev hy]; exact run_u h1
    · show w'.heap[g]? = _
      rw [h2, hcs, ← hC]
    · intro k hk
      have hlt := (Array.getElem?_eq_some_iff.1 hg).1
      have : k = g := hk
      subst this
      exact ⟨by omega, .inl rfl⟩
theorem alloc_get_new (w : World) (ob : Obj) : (w.alloc ob).heap[w.heap.size]? = some ob := by
  show (w.heap.push ob)[w.heap.size]? = some ob
  simp
theorem alloc_size (w : World) (ob : Obj) : (w.alloc ob).heap.size = w.heap.size + 1 := by
  show (w.heap.push ob).size = _
  simp
theorem alloc_get_old (w : World) (ob : Obj) {k : Nat} (hk : k < w.heap.size) : (w.alloc ob).heap[k]? = w.heap[k]? := by
  show (w.heap.push ob)[k]? = _
  rw [Array.getElem?_push, if_neg (by omega)]
theorem St.alloc {w : World} (hs : St w0 M L w) (C : List Value) (t : Nat) : St w0 M (blk w.heap.size C t :: L) (w.alloc (.cells C.toArray t)) :=
  hs.add rfl rfl rfl (by rw [alloc_size]; omega) (fun k hk => alloc_get_old w _ hk) (alloc_get_new w _) fun k hk => by
    have : k = w.heap.size := hk
    subst this
    exact ⟨by rw [alloc_size]; omega, Nat.le_refl _⟩
theorem run_newObj' (ob : Obj) (w : World) : (newObj ob).run P w = .ok w.heap.size (w.alloc ob) := rfl
theorem GO.alloc {t : Nat} {z : List Value} (hop : o.op = .alloc t) (hd : o.dst = some d) (hn : Nat.blt d n = true) (_i0 : TZ P t z) (k : ∀ g, N ((d, .pointer (some ⟨g, 0, none⟩)) :: T) (blk g z t :: L)) : GO P w0 M n o T L N :=
  GO.ofNew hd hn fun a w ht hs => by
    obtain ⟨zv, hz, hr⟩ := zero_run (P := P) (t := t)
    refine ⟨_, _, _, ?_, hs.alloc z t, k w.heap.size⟩
    simp only [execOp, hop]
    refine run_v ?_
    simp [Instr.alloc, hr, newVar, newRow, hz, run_newObj']
theorem GO.box {t : Nat} {x : Operand} {u : Value} {C : List Value} (hop : o.op = .box t x) (hd : o.dst = some d) (hn : Nat.blt d n = true) (hx : Ev T x u) (hC : u.cells = C.toArray) (k : ∀ g, N ((d, .pointer (some ⟨g, 0, none⟩)) :: T) (blk g C t :: L)) : GO P w0 M n o T L N :=
  GO.ofNew hd hn fun a w ht hs => by
    refine ⟨_, _, _, ?_, hs.alloc C t, k w.heap.size⟩
    simp only [execOp, hop, ht.ev hx]
    refine run_v ?_
    simp [Instr.box, newVar, newRow, hC, run_newObj']
theorem GV.fieldAddr {t f off ft : Nat} {x : Operand} {a : Addr} (hop : o.op = .fieldAddr t x f) (_i0 : FA P t f off ft) (hx : Ev T x (.pointer (some a))) : GV P w0 M n o T L (.pointer (some (a.add off))) :=
  ⟨fun c w ht hs => by
    simp only [execOp, hop, ht.ev hx]
    refine run_v ?_
    have h := FA.out (P := P) (t := t) (f := f)
    unfold fieldOff at h
    cases hu : P.underlying t with
    | none => simp [hu] at h
    | some de =>
      cases de with
      | struct fs =>
        simp only [hu] at h
        cases hf : fs[f]? with
        | none => simp [hf] at h
        | some fl =>
          simp only [hf] at h
          cases hi : P.info? fl.type with
          | none => simp [hi] at h
          | some i =>
            simp only [hi] at h
            split at h
            · cases h
            · rename_i hz
              simp only [Option.some.injEq, Prod.mk.injEq] at h
              obtain ⟨rfl, rfl⟩ := h
              simp [Instr.fieldAt, run_underlying hu, hf, Instr.sureAddr, fieldPlace, sizeOf, typeInfo, hi, hz]
      | _ => simp [hu] at h⟩
theorem GV.fieldAddr_at {t f off ft g i j : Nat} {x : Operand} (hop : o.op = .fieldAddr t x f) (_i0 : FA P t f off ft) (hx : Ev T x (.pointer (some ⟨g, i, none⟩))) (hj : i + off = j) : GV P w0 M n o T L (.pointer (some ⟨g, j, none⟩)) :=
  by have := GV.fieldAddr (P := P) (w0 := w0) (M := M) (n := n) (L := L) hop _i0 hx; rwa [add_plain0, hj] at this
/-! ### Slices, strings -/
theorem GV.len_string {t : Nat} {x : Operand} {s : ByteArray} (hop : o.op = .call { callee := .builtin .len, args := #[x], argTypes := #[t] }) (_i0 : SG P t) (hx : Ev T x (.string s)) : GV P w0 M n o T L (.int .i64 (s.size : Int)) :=
  ⟨fun a w ht _ => by
    have := SG.out (P := P) (t := t)
    simp [execOp, hop, resolve, invoke, builtin, ht.ev hx, Builtin.len_, run_underlying this, goInt]⟩
theorem GV.len_slice {t e : Nat} {x : Operand} {A : Option Addr} {m c : Nat} (hop : o.op = .call { callee := .builtin .len, args := #[x], argTypes := #[t] }) (_i0 : SL P t e) (hx : Ev T x (.slice A m c)) : GV P w0 M n o T L (.int .i64 (m : Int)) :=
  ⟨fun a w ht _ => by
    have := SL.out (P := P) (t := t)
    simp [execOp, hop, resolve, invoke, builtin, ht.ev hx, Builtin.len_, run_underlying this, goInt]⟩
theorem GV.indexAddr_slice {t e s : Nat} {b : Bool} {x y : Operand} {ad : Addr} {m c : Nat} {ki : IntKind} {i : Int} (hop : o.op = .indexAddr t x y) (_i0 : SL P t e) (_i1 : TI P e b s) (hx : Ev T x (.slice (some ad) m c)) (hy : Ev T y (.int ki i))
    (h0 : 0 ≤ i) (h1 : i < m) : GV P w0 M n o T L (.pointer (some (ad.add (i.toNat * s)))) :=
  ⟨fun a w ht _ => by
    have := SL.out (P := P) (t := t)
    simp only [execOp, hop, ht.ev hx, ht.ev hy]
    refine run_v ?_
    simp [Instr.indexAt, asIntOf, run_underlying this, h0, h1, size_run (t := e) w]⟩
theorem GV.extract {x : Operand} {i : Nat} {vs : List Value} (hop : o.op = .extract x i) (hx : Ev T x (.tuple vs.toArray)) (hv : vs[i]? = some v) : GV P w0 M n o T L (v) :=
  ⟨fun a w ht _ => by
    simp only [execOp, hop, ht.ev hx]
    refine run_v ?_
    simp [Instr.extract, hv]⟩
/-! ### More on strings and slices -/
def bt (s : ByteArray) (i : Nat) : Int := if h : i < s.size then ((s[i]'h).toNat : Int) else 0
theorem bt_range (s : ByteArray) (i : Nat) : 0 ≤ bt s i ∧ bt s i ≤ 255 := by
  unfold bt
  split
  · rename_i h
    have := (s[i]'h).toNat_lt
    omega
  · omega
theorem GV.index_string {t : Nat} {x y : Operand} {s : ByteArray} {ki : IntKind} {i : Int} (hop : o.op = .index t x y) (_i0 : SG P t) (hx : Ev T x (.string s)) (hy : Ev T y (.int ki i)) (h0 : 0 ≤ i) (h1 : i < s.size) : GV P w0 M n o T L (.int .u8 (bt s i.toNat)) :=
  ⟨fun a w ht _ => by
    have := SG.out (P := P) (t := t)
    simp only [execOp, hop, ht.ev hx, ht.ev hy]
    refine run_v ?_
    have h2 : i.toNat < s.size := by omega
    simp [Instr.index, asIntOf, run_underlying this, h0, h2, bt]⟩
theorem GV.index_stringN {t : Nat} {x y : Operand} {s : ByteArray} {ki : IntKind} {i : Nat} (hop : o.op = .index t x y) (_i0 : SG P t) (hx : Ev T x (.string s)) (hy : Ev T y (.int ki (i : Int))) (h1 : i < s.size) : GV P w0 M n o T L (.int .u8 (bt s i)) := by
  have := GV.index_string (P := P) (w0 := w0) (M := M) (n := n) (L := L) hop _i0 hx hy (by omega) (by omega)
  simpa using this
theorem run_sliceBound {x : Value} {k : IntKind} {i : Int} {y : Nat} {c : BoundsCode} (hx : x = .int k i) (h0 : 0 ≤ i) (h1 : i ≤ y) (w : World) : (Instr.sliceBound x y c).run P w = .ok i.toNat w := by
  subst hx
  simp [Instr.sliceBound, asIntOf, h0, h1]
/-- s[lo:hi] of a string; a bound that is not written: none. -/
theorem GV.slice_string {t : Nat} {x : Operand} {lo hi : Option Operand} {s : ByteArray} {l h : Nat} (hop : o.op = .slice t x lo hi none) (_i0 : SG P t) (hx : Ev T x (.string s))
    (hlo : lo = none ∧ l = 0 ∨ ∃ y k, lo = some y ∧ Ev T y (.int k (l : Int))) (hhi : hi = none ∧ h = s.size ∨ ∃ y k, hi = some y ∧ Ev T y (.int k (h : Int))) (h1 : l ≤ h) (h2 : h ≤ s.size) : GV P w0 M n o T L (.string (s.extract l h)) :=
  ⟨fun a w ht _ => by
    have hu := SG.out (P := P) (t := t)
    simp only [execOp, hop, ht.ev hx]
    refine run_v ?_
    have e : ∀ (k : IntKind) (i y : Nat) (c : BoundsCode), i ≤ y → (Instr.sliceBound (.int k (i : Int)) y c).run P w = .ok i w := fun k i y c hle => by
      have := run_sliceBound (P := P) (x := .int k (i : Int)) (y := y) (c := c) rfl (by omega) (by omega) w
      simpa using this
    rcases hlo with ⟨rfl, rfl⟩ | ⟨y, k, rfl, hy⟩ <;> rcases hhi with ⟨rfl, rfl⟩ | ⟨z, k', rfl, hz⟩
    · simp [Instr.sliceAt, Instr.slice, Instr.sliceBounds, run_underlying hu]
    · simp [Instr.sliceAt, Instr.slice, Instr.sliceBounds, run_underlying hu, ht.ev hz, e k' h s.size _ h2]
    · simp [Instr.sliceAt, Instr.slice, Instr.sliceBounds, run_underlying hu, ht.ev hy, e k l s.size _ h1]
    · simp [Instr.sliceAt, Instr.slice, Instr.sliceBounds, run_underlying hu, ht.ev hy, ht.ev hz, e k' h s.size _ h2, e k l h _ h1]⟩
theorem GV.concat {t yt : Nat} {x y : Operand} {a b : ByteArray} (hop : o.op = .binOp .add t x y yt) (hx : Ev T x (.string a)) (hy : Ev T y (.string b)) (hb : a.size + b.size ≤ 140737488355328) : GV P w0 M n o T L (.string (a ++ b)) :=
  GV.bin hop hx hy fun w => by
    have : (a.size : Int) + (b.size : Int) ≤ 9223372036854775807 := by omega
    simp [eqGuard, binOp, Op.stringOp, this]
theorem toList_dec (a b : ByteArray) : (a.toList == b.toList) = decide (a = b) := by
  have e : a.toList = b.toList ↔ a = b := by
    rw [ByteArray.toList_eq, ByteArray.toList_eq]
    rcases a with ⟨⟨a⟩⟩
    rcases b with ⟨⟨b⟩⟩
    simp
  by_cases h : a = b
  · simp [h]
  · have : ¬ a.toList = b.toList := fun h' => h (e.1 h')
    simp [h, this]
theorem GV.eqS {t yt : Nat} {x y : Operand} {a b : ByteArray} (hop : o.op = .binOp .eql t x y yt) (hx : Ev T x (.string a)) (hy : Ev T y (.string b)) : GV P w0 M n o T L (.bool (decide (a = b))) :=
  GV.bin hop hx hy fun w => by simp [eqGuard, binOp, Op.stringOp, ← toList_dec]
theorem GV.neqS {t yt : Nat} {x y : Operand} {a b : ByteArray} (hop : o.op = .binOp .neq t x y yt) (hx : Ev T x (.string a)) (hy : Ev T y (.string b)) : GV P w0 M n o T L (.bool (!decide (a = b))) :=
  GV.bin hop hx hy fun w => by simp [eqGuard, binOp, Op.stringOp, ← toList_dec, bne]

/-! ### Calls -/
theorem run_enter {f : Nat} {fn : Func} [FN P f fn] (args : Array Value) (w : World) : (callFunc f args).run P w = .ok (.enter f args) w := by
  have h1 := FN.out (P := P) (f := f)
  have h2 : fn.name ≠ "runtime.NumGoroutine" := by simpa using FN.name (P := P) (f := f)
  have h3 : fn.body ≠ none := by
    have := FN.body (P := P) (f := f)
    intro e
    simp [e] at this
  simp [callFunc, h1, h2, h3]
theorem exec_call {f : Nat} {xs : Array Operand} {ats : Array Nat} {ρ : Operand → Value} (hf : ρ (.func f) = .func (.func f) #[] #[]) (hop : o.op = .call { callee := .value (.func f), args := xs, argTypes := ats }) : execOp ρ o = callFunc f (xs.map ρ) := by
  simp only [execOp, hop, resolve]
  simp [hf, Deferred.ofValue, invoke, bind, Sem.bind, pure]
theorem GO.call {f : Nat} {fn : Func} {xs : List Operand} {ats : Array Nat} {vs : List Value} (hop : o.op = .call { callee := .value (.func f), args := xs.toArray, argTypes := ats }) (hd : o.dst = some d) (hn : Nat.blt d n = true) (_i0 : FN P f fn) (hx : Evs T xs vs)
    (hc : ∀ w, St w0 M L w → Calls P f vs.toArray w fun e w' => ∃ v L', e = .returned v ∧ St w0 M L' w' ∧ N ((d, v) :: T) L') : GO P w0 M n o T L N := by
  refine ⟨fun Q a w K ht hs hK => ?_⟩
  unfold Oper.wp
  rw [exec_call (ht.ev Ev.func) hop, run_enter, ht.evs hx, Oper.upon_enter]
  refine (hc w hs).mono ?_
  rintro e w' ⟨v, L', rfl, h1, h2⟩
  simp only [hd]
  exact hK _ _ _ _ h2 (ht.put (by simpa using hn) v) h1
/-- A function that computes: its result is known, elder memory stays. -/
structure Computes (P : Program) (f : Nat) (vs : List Value) (v : Value) : Prop where
  mk :: (out : ∀ w, Calls P f vs.toArray w fun e w' => e = .returned v ∧ Below w.heap.size w w')
theorem GO.callPure {f : Nat} {fn : Func} {xs : List Operand} {ats : Array Nat} {vs : List Value} (hop : o.op = .call { callee := .value (.func f), args := xs.toArray, argTypes := ats }) (hd : o.dst = some d) (hn : Nat.blt d n = true) (_i0 : FN P f fn) (hx : Evs T xs vs)
    (hc : Computes P f vs v) (k : N ((d, v) :: T) L) : GO P w0 M n o T L N :=
  GO.call hop hd hn _i0 hx fun w hs => (hc.out w).mono fun e w' ⟨he, hb⟩ => ⟨v, L, he, hs.below hb, k⟩

/-! ### Structs by value -/
theorem fold_put (off : Nat) : ∀ (vs : List Value) (i : Nat) (C : List Value), (vs.zipIdx i).foldl (fun (cs : Array Value) (p : Value × Nat) => cs.setIfInBounds (off + p.2) p.1) C.toArray = (putCells C (off + i) vs).toArray := by
  intro vs
  induction vs with
  | nil => intro i C; simp [putCells_nil]
  | cons v r ih =>
    intro i C
    rw [List.zipIdx_cons, List.foldl_cons, putCells_cons]
    have : (C.toArray.setIfInBounds (off + i) v) = (C.set (off + i) v).toArray := by simp
    rw [this, ih (i + 1)]
    rfl
def fillL (pl : Nat → Option (Nat × Nat)) : List Value → List (Nat × List Value) → Option (List Value)
  | C, [] => some C
  | C, (i, vs) :: r =>
    match pl i with
    | none => none
    | some (off, s) => match Nat.beq vs.length s, Nat.ble (off + s) C.length with
      | true, true => fillL pl (putCells C off vs) r
      | _, _ => none
theorem fill_of {pl : Nat → Option (Nat × Nat)} : ∀ (ps : List (Nat × Value)) (qs : List (Nat × List Value)) (C C' : List Value), ps.map (fun p => (p.1, p.2.cells.toList)) = qs → fillL pl C qs = some C' → Instr.fill pl C.toArray ps = some C'.toArray := by
  intro ps
  induction ps with
  | nil =>
    intro qs C C' hq h
    subst hq
    simp only [List.map_nil, fillL, Option.some.injEq] at h
    subst h
    simp [Instr.fill]
  | cons p r ih =>
    intro qs C C' hq h
    obtain ⟨i, v⟩ := p
    subst hq
    simp only [List.map_cons, fillL] at h
    unfold Instr.fill
    cases hp : pl i with
    | none => simp [hp] at h
    | some os =>
      obtain ⟨off, s⟩ := os
      simp only [hp] at h
      split at h
      · rename_i h1 h2
        have e1 : v.cells.toList.length = s := by simpa using h1
        have e2 : off + s ≤ C.length := by simpa using h2
        have hz : Array.foldl (fun (cs : Array Value) (x : Value × Nat) => cs.setIfInBounds (off + x.2) x.1) C.toArray v.cells.zipIdx = (putCells C off v.cells.toList).toArray := by
          have := fold_put off v.cells.toList 0 C
          rw [← Array.foldl_toList, Array.toList_zipIdx]
          exact this
        have e3 : v.cells.size = s := by simpa using e1
        simp only
        rw [if_neg (by simp [e3]; omega)]
        exact (congrArg (fun z => Instr.fill pl z r) hz).trans (ih _ _ _ rfl h)
      · cases h
def fillK (pl : Nat → Option (Nat × Nat)) : List Value → List (Nat × List Value) → Option (List Value)
  | C, [] => some C
  | C, (i, vs) :: r =>
    match pl i with
    | none => none
    | some (off, s) => match Nat.beq vs.length s, Nat.ble (off + s) C.length with
      | true, true => putK C off vs fun C1 => fillK pl C1 r
      | _, _ => none
theorem fillK_eq {pl : Nat → Option (Nat × Nat)} : ∀ (qs : List (Nat × List Value)) (C : List Value), fillK pl C qs = fillL pl C qs
  | [], _ => rfl
  | (i, vs) :: r, C => by
    simp only [fillK, fillL]
    cases pl i with
    | none => rfl
    | some os =>
      obtain ⟨off, s⟩ := os
      simp only
      split
      · rw [putK_eq, fillK_eq r]
      · rfl
/-- Each part's cells, written out. -/
def partsK : List Nat → List Value → (List (Nat × List Value) → Option (List (Nat × List Value))) → Option (List (Nat × List Value))
  | [], [], K => K []
  | i :: is, v :: vs, K => match v with
    | .agg ⟨cs⟩ => partsK is vs fun qs => K ((i, cs) :: qs)
    | .tuple _ => none
    | v => partsK is vs fun qs => K ((i, [v]) :: qs)
  | _, _, _ => none
def Parts (is : List Nat) (vs : List Value) (qs : List (Nat × List Value)) : Prop := partsK is vs some = some qs
theorem partsK_eq : ∀ (is : List Nat) (vs : List Value) (K : List (Nat × List Value) → Option (List (Nat × List Value))) (R : List (Nat × List Value)), partsK is vs K = some R → ∃ qs, K qs = some R ∧ (is.zip vs).map (fun p => (p.1, p.2.cells.toList)) = qs
  | [], [], K, R, h => ⟨[], h, rfl⟩
  | [], _ :: _, K, R, h => by simp [partsK] at h
  | _ :: _, [], K, R, h => by simp [partsK] at h
  | i :: is, v :: vs, K, R, h => by
    unfold partsK at h
    split at h
    · obtain ⟨qs, h1, h2⟩ := partsK_eq is vs _ R h
      exact ⟨_, h1, by simp only [List.zip_cons_cons, List.map_cons, h2]; rfl⟩
    · cases h
    · rename_i h3 h4
      obtain ⟨qs, h1, h2⟩ := partsK_eq is vs _ R h
      refine ⟨_, h1, ?_⟩
      simp only [List.zip_cons_cons, List.map_cons, h2]
      cases v with
      | agg a => exact absurd rfl (h3 a.toList)
      | _ => rfl
theorem Parts.eq {is : List Nat} {vs : List Value} {qs : List (Nat × List Value)} (h : Parts is vs qs) : (is.zip vs).map (fun p => (p.1, p.2.cells.toList)) = qs := by
  obtain ⟨qs', h1, h2⟩ := partsK_eq is vs some qs h
  obtain rfl := Option.some.inj h1
  exact h2
def placesOf (P : Program) (t : Nat) : Option (List (Nat × Nat)) :=
  match P.underlying t with
  | some (.struct fs) => fs.toList.mapM fun f => (P.info? f.type).map fun i => (f.offset, i.size)
  | _ => none
class BD (P : Program) (t : Nat) (pl : outParam (List (Nat × Nat))) : Prop where out : placesOf P t = some pl
theorem places_run {fs : List Field} : ∀ {pl : List (Nat × Nat)} (w : World), fs.mapM (fun f => (P.info? f.type).map fun i => (f.offset, i.size)) = some pl → (fs.mapM fun f => do pure (f.offset, ← sizeOf f.type) : Sem (List (Nat × Nat))).run P w = .ok pl w := by
  induction fs with
  | nil =>
    intro pl w h
    simp at h
    subst h
    simp
  | cons f r ih =>
    intro pl w h
    rw [List.mapM_cons] at h
    cases hi : P.info? f.type with
    | none => simp [hi] at h
    | some i =>
      cases hr : r.mapM (fun f => (P.info? f.type).map fun i => (f.offset, i.size)) with
      | none => simp [hi, hr] at h
      | some pr =>
        simp [hi, hr] at h
        subst h
        rw [List.mapM_cons]
        simp [sizeOf, typeInfo, hi]
        have := ih w hr
        simp [sizeOf, typeInfo] at this
        simp [this]
theorem GV.build {t : Nat} {z C : List Value} {pl : List (Nat × Nat)} {parts : List (Nat × Operand)} {xs : List Operand} {is : List Nat} {vs : List Value} {qs : List (Nat × List Value)} (hop : o.op = .build t parts.toArray) (_i0 : TZ P t z) (_i1 : BD P t pl)
    (h1 : parts.map (·.2) = xs) (h2 : parts.map (·.1) = is) (hx : Evs T xs vs) (hq : Parts is vs qs) (hC : fillK (fun i => pl[i]?) z qs = some C) : GV P w0 M n o T L (.agg C.toArray) :=
  ⟨fun a w ht _ => by
    simp only [execOp, hop]
    refine run_v ?_
    have hpl := BD.out (P := P) (t := t)
    unfold placesOf at hpl
    obtain ⟨zv, hz, hzr⟩ := zero_run (P := P) (t := t)
    cases hu : P.underlying t with
    | none => simp [hu] at hpl
    | some de =>
      cases de with
      | struct fs =>
        simp only [hu] at hpl
        have hpr := places_run (P := P) w hpl
        have hev := ht.evs hx
        have hps : (parts.map fun p => (p.1, a.eval p.2)) = is.zip vs := by
          subst h1 h2
          have e1 : (parts.map (·.2)).map a.eval = vs := by
            have := congrArg Array.toList hev
            simpa using this
          rw [← e1, List.map_map, List.zip_map']
          rfl
        have hpa : (fs.mapM fun f => do pure (f.offset, ← sizeOf f.type) : Sem (Array (Nat × Nat))).run P w = .ok pl.toArray w := by
          rw [Array.mapM_eq_mapM_toList, ← bind_pure_comp, Sem.run_bind, hpr]
          rfl
        have hfill := fill_of (pl := fun i => pl[i]?) (is.zip vs) qs z C hq.eq ((fillK_eq qs z).symm.trans hC)
        unfold Instr.build
        rw [Sem.run_bind, hzr w, Result.andThen_ok, Sem.run_bind, run_underlying hu, Result.andThen_ok]
        simp only []
        rw [Sem.run_bind, hpa, Result.andThen_ok]
        have e5 : ((parts.toArray.map fun (p : Nat × Operand) => (p.1, a.eval p.2)).toList) = is.zip vs := by simp [hps]
        have e6 : (fun (i : Nat) => pl.toArray[i]?) = fun (i : Nat) => pl[i]? := by funext i; simp
        show Sem.run P (match Instr.fill (fun (i : Nat) => pl.toArray[i]?) zv.cells ((parts.toArray.map fun (p : Nat × Operand) => (p.1, a.eval p.2)).toList) with | some cells => pure (Value.agg cells) | _ => stuck "build: no such field, or a part of the wrong size") w = _
        rw [e5, e6, hz, hfill]
        rfl
      | _ => simp [hu] at hpl⟩
theorem GV.field {t f off ft s : Nat} {x : Operand} {C : List Value} (hop : o.op = .field t x f) (_i0 : FA P t f off ft) (_i1 : TI P ft false s) (hx : Ev T x (.agg C.toArray)) (hv : C[off]? = some v) : GV P w0 M n o T L (v) :=
  ⟨fun a w ht _ => by
    simp only [execOp, hop, ht.ev hx]
    refine run_v ?_
    obtain ⟨fs, hu, fl, hf, h1, h2⟩ := FA_parts (P := P) (t := t) (f := f) (off := off) (ft := ft)
    subst h1 h2
    simp [Instr.field, run_underlying hu, hf, part, agg_run (t := fl.type) w, asAgg, hv]⟩
where
  FA_parts {P : Program} {t f off ft : Nat} [FA P t f off ft] : ∃ fs, P.underlying t = some (.struct fs) ∧ ∃ fl, fs[f]? = some fl ∧ fl.offset = off ∧ fl.type = ft := by
    have h := FA.out (P := P) (t := t) (f := f)
    unfold fieldOff at h
    cases hu : P.underlying t with
    | none => simp [hu] at h
    | some de =>
      cases de with
      | struct fs =>
        simp only [hu] at h
        cases hf : fs[f]? with
        | none => simp [hf] at h
        | some fl =>
          simp only [hf] at h
          cases hi : P.info? fl.type with
          | none => simp [hi] at h
          | some i =>
            simp only [hi] at h
            split at h
            · cases h
            · simp only [Option.some.injEq, Prod.mk.injEq] at h
              exact ⟨fs, rfl, fl, hf, h.1, h.2⟩
      | _ => simp [hu] at h
theorem GV.field_agg {t f off ft s : Nat} {x : Operand} {C cs : List Value} (hop : o.op = .field t x f) (_i0 : FA P t f off ft) (_i1 : TI P ft true s) (hx : Ev T x (.agg C.toArray)) (hseg : segK off s C some = some cs) : GV P w0 M n o T L (.agg cs.toArray) :=
  ⟨fun a w ht _ => by
    have hv := (segK_eq _ _ _ _ hseg).1
    simp only [execOp, hop, ht.ev hx]
    refine run_v ?_
    obtain ⟨fs, hu, fl, hf, h1, h2⟩ := GV.field.FA_parts (P := P) (t := t) (f := f) (off := off) (ft := ft)
    subst h1 h2 hv
    have e : (C.toArray.extract fl.offset (fl.offset + s)) = ((C.drop fl.offset).take s).toArray := by
      rw [List.extract_toArray]
      congr 1
      rw [List.extract_eq_take_drop]
      congr 1
      omega
    simp [Instr.field, run_underlying hu, hf, part, agg_run (t := fl.type) w, size_run (t := fl.type) w, asAgg, e]⟩
/-! ### Results -/
inductive Res1 (P : Program) (L : List Asn) (T : TL) : ResultVar → Value → Prop
  | tmp {t : Nat} {v : Value} : look T t = some v → Res1 P L T (.tmp t) v
  | agg {t s r g off ty : Nat} {C cs : List Value} [TI P t true s] : look T r = some (.pointer (some ⟨g, off, none⟩)) → blk g C ty ∈ L → segK off s C some = some cs → Res1 P L T (.cell r t) (.agg cs.toArray)
  | cell {t s r g off ty : Nat} {C : List Value} {v : Value} [TI P t false s] : look T r = some (.pointer (some ⟨g, off, none⟩)) → blk g C ty ∈ L → C[off]? = some v → Res1 P L T (.cell r t) v
inductive ResL (P : Program) (L : List Asn) (T : TL) : List ResultVar → List Value → Prop
  | nil : ResL P L T [] []
  | cons {r : ResultVar} {v : Value} {rs : List ResultVar} {vs : List Value} : Res1 P L T r v → ResL P L T rs vs → ResL P L T (r :: rs) (v :: vs)
def packV : List Value → Value
  | [v] => v
  | vs => .tuple vs.toArray
def resOne (tm : Array Value) : ResultVar → Sem Value
  | .tmp t => pure (tm.getD t undef)
  | .cell a t => do loadVar t (← asAddr (tm.getD a undef))
theorem resOne_run {r : ResultVar} {v : Value} (h : Res1 P L T r v) {tm : Array Value} {w : World} (ht : ∀ t u, look T t = some u → tm[t]? = some u) (hs : St w0 M L w) : (resOne tm r).run P w = .ok v w := by
  have ld : ∀ {t : Nat} {a : Addr} {v : Value}, (Instr.loadAt t (.pointer (some a))).run P w = .ok v w → (loadVar t a).run P w = .ok v w := fun h => by simpa [Instr.loadAt, Instr.sureAddr] using h
  have gd : ∀ {t : Nat} {u : Value}, look T t = some u → tm.getD t undef = u := fun h => (Array.getD_eq_getD_getElem? ..).trans (by rw [ht _ _ h]; rfl)
  cases h with
  | tmp hl => simp [resOne, gd hl]
  | @agg t s r g off ty C cs _ hl hin hseg =>
    obtain ⟨hcs, hlen⟩ := segK_eq _ _ _ _ hseg
    have h2 := ld (run_loadAt_agg (P := P) (t := t) (a := ⟨g, off, none⟩) (w := w) hlen fun j u hj => by
        rw [add_plain0]
        refine blk_cell hin hs ?_
        subst hcs
        rw [List.getElem?_take] at hj
        split at hj
        · rw [List.getElem?_drop] at hj; exact hj
        · cases hj)
    simp [resOne, gd hl, asAddr, h2]
  | @cell t s r g off ty C v _ hl hin hv =>
    have h2 := ld (run_loadAt_scalar (P := P) (t := t) (a := ⟨g, off, none⟩) (w := w) (blk_cell hin hs hv))
    simp [resOne, gd hl, asAddr, h2]
theorem res_run {rs : List ResultVar} {vs : List Value} (h : ResL P L T rs vs) {tm : Array Value} {w : World} (ht : ∀ t u, look T t = some u → tm[t]? = some u) (hs : St w0 M L w) : (rs.mapM (resOne tm)).run P w = .ok vs w := by
  induction h with
  | nil => simp
  | cons h1 _ ih => simp [List.mapM_cons, resOne_run h1 ht hs, ih]
theorem results_of {fn : Func} {rs : List ResultVar} {vs : List Value} (hf : fn.results = rs.toArray) (h : ResL P L T rs vs) {tm : Array Value} {w : World} (ht : ∀ t u, look T t = some u → tm[t]? = some u) (hs : St w0 M L w) : (results fn tm).run P w = .ok (packV vs) w := by
  have h1 := res_run h ht hs
  have h2 : (rs.toArray.mapM (resOne tm)).run P w = .ok vs.toArray w := by
    rw [Array.mapM_eq_mapM_toList, ← bind_pure_comp, Sem.run_bind, h1]
    rfl
  have e : results fn tm = (do let vs ← rs.toArray.mapM (resOne tm); pure (if h : vs.size = 1 then vs[0] else .tuple vs)) := by
    unfold results
    rw [hf]
    rfl
  rw [e, Sem.run_bind, h2, Result.andThen_ok]
  match vs with
  | [] => simp [packV]
  | [v] => simp [packV]
  | _ :: _ :: _ => simp [packV]
def packO : List Value → Option Value
  | [v] => some v
  | vs => some (.tuple vs.toArray)
theorem packO_eq {vs : List Value} {u : Value} (h : packO vs = some u) : packV vs = u := by
  match vs, h with
  | [], h => exact Option.some.inj h
  | [v], h => exact Option.some.inj h
  | _ :: _ :: _, h => exact Option.some.inj h
theorem GQ.ret {fn : Func} {R : Ending → World → Prop} {rs : List ResultVar} {vs : List Value} {u : Value} (hf : fn.results = rs.toArray) (h : ResL P L T rs vs) (hu : packO vs = some u) (hR : ∀ w, St w0 M L w → R (.returned u) w) : GQ w0 M n (bodyPost P fn R) .ret T L :=
  GQ.endRet (fun _ _ ht hs => packO_eq hu ▸ results_of hf h ht hs) hR
end
/-! ### A region that draws its order: what only reads is taken first -/
section
variable {P : Program} {w0 : World} {M : Nat → Prop} {n : Nat} {ops : Array Oper} {Q : Exit → Act → World → Prop} {T : TL} {L L0 : List Asn} {fuel : Nat} {listed : Array Bool} {d : Nat} {v : Value}
theorem GA.take (i : Nat) {oi : Oper} (hi : ops[i]? = some oi) (hd : oi.dst = some d) (hn : Nat.blt d n = true) (hw : wantT ops T oi = some true) (hs : Region.noSelect ops = true) (hf : Region.free .any ops listed i = true)
    (hr : (Region.ready .any ops listed).contains i = true) (hQ : ∀ c a w, Q (.panic c) (a.put (some d) v) w → Q (.panic c) a w) (hp : Pick L L0) (hv : GV P w0 M n oi T L0 v)
    (k : GA P w0 M n ops Q (St w0 M L0) fuel (listed.setIfInBounds i true) ((d, v) :: T) L) : GA P w0 M n ops Q (St w0 M L0) (fuel + 1) listed T L := by
  refine ⟨fun a w ht hst => ?_⟩
  refine wpAnyH_take hi hs hf hr (by rw [hd]; exact hQ) (.inl ⟨wantT_spec ht hw, fun w' hS => hv.out a w' ht hS⟩) (hst.pick hp) ?_
  rw [hd]
  exact k.out _ _ (ht.put (by simpa using hn) v) hst
theorem GA.skip (i : Nat) {oi : Oper} (hi : ops[i]? = some oi) (hd : oi.dst = some d) (hn : Nat.blt d n = true) (hw : wantT ops T oi = some false) (hs : Region.noSelect ops = true) (hf : Region.free .any ops listed i = true)
    (hr : (Region.ready .any ops listed).contains i = true) (hQ : ∀ c a w, Q (.panic c) (a.put (some d) undef) w → Q (.panic c) a w) (hp : Pick L L0)
    (k : GA P w0 M n ops Q (St w0 M L0) fuel (listed.setIfInBounds i true) ((d, undef) :: T) L) : GA P w0 M n ops Q (St w0 M L0) (fuel + 1) listed T L := by
  refine ⟨fun a w ht hst => ?_⟩
  refine wpAnyH_take hi hs hf hr (by rw [hd]; exact hQ) (.inr ⟨wantT_spec ht hw, rfl⟩) (hst.pick hp) ?_
  rw [hd]
  exact k.out _ _ (ht.put (by simpa using hn) undef) hst
theorem GA.op {i : Nat} {oi : Oper} (hi : ops[i]? = some oi) (hw : wantT ops T oi = some true)
    (h : ∀ N : TL → List Asn → Prop, (∀ T L, Pick L L0 → GA P w0 M n ops Q (St w0 M L0) fuel (listed.setIfInBounds i true) T L → N T L) → GO P w0 M n oi T L N) {a : Act} {w : World} (ht : Tm n T a) (hst : St w0 M L w) :
    wpOp P ops Q i (fun a' w' => St w0 M L0 w' ∧ wpAnyH P .any ops Q (St w0 M L0) fuel (listed.setIfInBounds i true) a' w') a w := by
  unfold wpOp
  simp only [hi, wantT_spec ht hw, if_true]
  refine .inl ((h (fun T' L' => Pick L' L0 ∧ GA P w0 M n ops Q (St w0 M L0) fuel (listed.setIfInBounds i true) T' L') (fun _ _ h1 h2 => ⟨h1, h2⟩)).out Q a w _ ht hst ?_)
  rintro T' L' a' w' ⟨h1, h2⟩ ht' hs'
  exact ⟨hs'.pick h1, h2.out a' w' ht' hs'⟩
/-- One operation alone may come up. -/
theorem GA.one (i : Nat) {oi : Oper} (hr : Region.ready .any ops listed = [i]) (hi : ops[i]? = some oi) (hw : wantT ops T oi = some true)
    (h : ∀ N : TL → List Asn → Prop, (∀ T L, Pick L L0 → GA P w0 M n ops Q (St w0 M L0) fuel (listed.setIfInBounds i true) T L → N T L) → GO P w0 M n oi T L N) : GA P w0 M n ops Q (St w0 M L0) (fuel + 1) listed T L := by
  refine ⟨fun a w ht hst => ?_⟩
  refine wpAnyH_all hr (by simp) fun j hj => ?_
  obtain rfl : j = i := by simpa using hj
  exact GA.op hi hw h ht hst
/-- One of two. -/
theorem GA.two (i j : Nat) {oi oj : Oper} (hr : Region.ready .any ops listed = [i, j]) (hi : ops[i]? = some oi) (hj : ops[j]? = some oj) (hw : wantT ops T oi = some true) (hw' : wantT ops T oj = some true)
    (h : ∀ N : TL → List Asn → Prop, (∀ T L, Pick L L0 → GA P w0 M n ops Q (St w0 M L0) fuel (listed.setIfInBounds i true) T L → N T L) → GO P w0 M n oi T L N)
    (h' : ∀ N : TL → List Asn → Prop, (∀ T L, Pick L L0 → GA P w0 M n ops Q (St w0 M L0) fuel (listed.setIfInBounds j true) T L → N T L) → GO P w0 M n oj T L N) : GA P w0 M n ops Q (St w0 M L0) (fuel + 1) listed T L := by
  refine ⟨fun a w ht hst => ?_⟩
  refine wpAnyH_all hr (by simp) fun k hk => ?_
  have hk : k = i ∨ k = j := by simpa using hk
  rcases hk with rfl | rfl
  · exact GA.op hi hw h ht hst
  · exact GA.op hj hw' h' ht hst
theorem GA.done {S : World → Prop} (hr : Region.ready .any ops listed = []) (h : GQ w0 M n Q .normal T L) : GA P w0 M n ops Q S fuel listed T L := ⟨fun a w ht hst => wpAnyH_done hr (h a w ht hst) _⟩
theorem GA.set {S : World → Prop} {v' : Value} (hl : look T d = some v) (e : v = v') (h : GA P w0 M n ops Q S fuel listed ((d, v') :: T) L) : GA P w0 M n ops Q S fuel listed T L :=
  ⟨fun a w ht hs => h.out a w (ht.sub (subT_cons (e ▸ hl) fun _ _ h => h)) hs⟩
theorem GA.knownT {S : World → Prop} (d : Nat) {b : Bool} (hl : look T d = some (.bool b)) (hb : b = true) (h : GA P w0 M n ops Q S fuel listed ((d, .bool true) :: T) L) : GA P w0 M n ops Q S fuel listed T L := GA.set hl (by rw [hb]) h
theorem GA.knownF {S : World → Prop} (d : Nat) {b : Bool} (hl : look T d = some (.bool b)) (hb : b = false) (h : GA P w0 M n ops Q S fuel listed ((d, .bool false) :: T) L) : GA P w0 M n ops Q S fuel listed T L := GA.set hl (by rw [hb]) h
theorem GA.fork {S : World → Prop} {b : Bool} (hl : look T d = some (.bool b)) (h1 : b = true → GA P w0 M n ops Q S fuel listed ((d, .bool true) :: T) L) (h2 : b = false → GA P w0 M n ops Q S fuel listed ((d, .bool false) :: T) L) : GA P w0 M n ops Q S fuel listed T L := by
  cases b with
  | true => exact GA.set hl rfl (h1 rfl)
  | false => exact GA.set hl rfl (h2 rfl)
theorem Rm.toPick {A : Asn} {L L1 : List Asn} (h : Rm A L L1) : Pick L L1 := by
  induction h with
  | here => exact Pick.skip (Pick.refl _)
  | there _ ih => exact .cons .here ih
where
  Pick.skip {A : Asn} {L L' : List Asn} (h : Pick L L') : Pick (A :: L) L' := by
    induction h with
    | nil => exact .nil
    | cons hr _ ih => exact .cons (.there hr) ih
theorem Pick.trans' {L L1 L2 : List Asn} {A B : Asn} (h : Rm A L L1) (h' : Rm B L1 L2) {w0 w : World} {M : Nat → Prop} (hs : St w0 M L w) : St w0 M L2 w := (hs.pick h.toPick).pick h'.toPick
theorem GC.draws1 {id : Nat} {L0 : List Asn} (d1 : Nat) {g1 off1 t1 : Nat} {C1 : List Value} (hm : P.follows .mixedOrders = true) (h1 : look T d1 = some (.pointer (some ⟨g1, off1, none⟩))) (hr : Rm (blk g1 C1 t1) L L0) (h : GA P w0 M n ops Q (St w0 M L0) ops.size (Array.replicate ops.size false) T L) : GC P w0 M n (.region id ops true) Q T L :=
  fun a w ht hs => wp_region_held hm (h.out a w.drew ht hs.drew)
theorem GC.draws2 {id : Nat} {L1 L0 : List Asn} (d1 d2 : Nat) {g1 off1 t1 g2 off2 t2 : Nat} {C1 C2 : List Value} (hm : P.follows .mixedOrders = true) (h1 : look T d1 = some (.pointer (some ⟨g1, off1, none⟩))) (hr : Rm (blk g1 C1 t1) L L1) (h2 : look T d2 = some (.pointer (some ⟨g2, off2, none⟩))) (hr2 : Rm (blk g2 C2 t2) L1 L0)
    (h : GA P w0 M n ops Q (St w0 M L0) ops.size (Array.replicate ops.size false) T L) : GC P w0 M n (.region id ops true) Q T L :=
  fun a w ht hs => wp_region_held hm (h.out a w.drew ht hs.drew)
theorem GC.draws {id : Nat} {L0 : List Asn} (hm : P.follows .mixedOrders = true) (hp : Pick L L0) (h : GA P w0 M n ops Q (St w0 M L0) ops.size (Array.replicate ops.size false) T L) : GC P w0 M n (.region id ops true) Q T L :=
  fun a w ht hs => wp_region_held hm (h.out a w.drew ht hs.drew)
end
end Go.Proofs.YtkbpiodcndjpnaaG
