/- Seat 36: parts of patterns as cells; operations on bits and on large structs. -/
import Derived.Test.YtkbpiodcndjpnaaG2
import Derived.Test.YtkbpiodcndjpnaaGM
namespace Go.Proofs.YtkbpiodcndjpnaaG
open Go Go.RowKit
set_option maxRecDepth 10000
set_option maxHeartbeats 1000000
set_option linter.unusedVariables false
set_option linter.unusedSimpArgs false

/-! ### A part by the document: what kind, and a set of bytes -/
def pCells (k : Int) (S : Nat → Bool) : List Value := .int .i64 k :: (List.range 256).map fun i => .bool (S i)
theorem pCells_length (k : Int) (S : Nat → Bool) : (pCells k S).length = 257 := by simp [pCells]
theorem pCells_ok (k : Int) (S : Nat → Bool) : (pCells k S).all okCell = true := by
  rw [List.all_eq_true]
  intro x hx
  rcases List.mem_cons.1 hx with rfl | hx
  · rfl
  · obtain ⟨i, _, rfl⟩ := List.mem_map.1 hx
    rfl
theorem pCells_kind (k : Int) (S : Nat → Bool) : (pCells k S)[0]? = some (.int .i64 k) := rfl
theorem pCells_get (k : Int) (S : Nat → Bool) (i : Nat) (h : i < 256) : (pCells k S)[1 + i]? = some (.bool (S i)) := by
  rw [Nat.add_comm]
  simp [pCells, h]
def updS (S : Nat → Bool) (i : Nat) (b : Bool) : Nat → Bool := fun j => if j = i then b else S j
theorem pCells_set (k : Int) (S : Nat → Bool) (i : Nat) (b : Bool) : (pCells k S).set (1 + i) (.bool b) = pCells k (updS S i b) := by
  rw [Nat.add_comm]
  unfold pCells
  rw [List.set_cons_succ]
  congr 1
  apply List.ext_getElem
  · simp
  · intro j h1 h2
    simp only [List.length_set, List.length_map, List.length_range] at h1
    rw [List.getElem_set]
    simp only [List.getElem_map, List.getElem_range, updS]
    by_cases e : i = j
    · simp [e]
    · simp [e, Ne.symm e]
theorem pCells_congr {k : Int} {S S' : Nat → Bool} (h : ∀ i, i < 256 → S i = S' i) : pCells k S = pCells k S' := by
  unfold pCells
  congr 1
  exact List.map_congr_left fun i hi => by rw [h i (List.mem_range.1 hi)]
instance (priority := high) tzP : TZ Try.prog 66 (pCells 0 fun _ => false) := ⟨by kernel_rfl⟩
theorem segK_full : ∀ (C : List Value) (K : List Value → Option (List Value)), segK 0 C.length C K = K C
  | [], K => by simp [segK]
  | c :: cs, K => by simp only [List.length_cons, segK]; rw [segK_full cs]
theorem putCells_full : ∀ (C cs : List Value), cs.length = C.length → putCells C 0 cs = cs
  | [], [], _ => rfl
  | [], _ :: _, h => by simp at h
  | _ :: _, [], h => by simp at h
  | c :: C, v :: cs, h => by
    simp only [putCells]
    rw [putCells_full C cs (by simpa using h)]
section
variable {P : Program} {w0 w w' : World} {M : Nat → Prop} {n : Nat} {T : TL} {L L' : List Asn} {o : Oper} {N : TL → List Asn → Prop} {d : Nat} {v : Value}
theorem GO.storeFull {t g ty s : Nat} {x y : Operand} {C cs : List Value} (hop : o.op = .store t x y) (hd : o.dst = none) (_i0 : TI P t true s) (hx : Ev T x (.pointer (some ⟨g, 0, none⟩))) (hy : Ev T y (.agg cs.toArray))
    (hrep : Rep (blk g C ty) (blk g cs ty) L L') (hC : C.length = s) (hl : cs.length = s) (hok : cs.all okCell = true) (k : N T L') : GO P w0 M n o T L N :=
  GO.store hop hd _i0 hx hy hrep rfl hl (by rw [hC]; simp) hok (by rw [putK_eq, putCells_full C cs (hl.trans hC.symm)]) k
theorem blk_all {g t j : Nat} {C : List Value} {u : Value} (hin : blk g C t ∈ L) (hs : St w0 M L w) (hj : C[j]? = some u) : w.cell? ((⟨g, 0, none⟩ : Addr).add j) = some u := by
  rw [add_plain0]
  exact blk_cell hin hs (by simpa using hj)
theorem GV.loadFull {t g ty s : Nat} {x : Operand} {C : List Value} (hop : o.op = .load t x) (_i0 : TI P t true s) (hx : Ev T x (.pointer (some ⟨g, 0, none⟩))) (hin : blk g C ty ∈ L) (hl : C.length = s) : GV P w0 M n o T L (.agg C.toArray) :=
  GV.load_at_agg hop _i0 hx hl fun w hs j u hj => blk_all hin hs hj
theorem GV.andI {t yt : Nat} {x y : Operand} {k : IntKind} {p q r : Int} (hop : o.op = .binOp .and t x y yt) (hx : Ev T x (.int k p)) (hy : Ev T y (.int k q)) (h : k.wrap ((BitVec.ofInt k.bits p &&& BitVec.ofInt k.bits q).toNat : Int) = r) : GV P w0 M n o T L (.int k r) :=
  GV.bin hop hx hy fun w => by subst h; simp [eqGuard, binOp, Op.intBits]
theorem GV.orI {t yt : Nat} {x y : Operand} {k : IntKind} {p q r : Int} (hop : o.op = .binOp .or t x y yt) (hx : Ev T x (.int k p)) (hy : Ev T y (.int k q)) (h : k.wrap ((BitVec.ofInt k.bits p ||| BitVec.ofInt k.bits q).toNat : Int) = r) : GV P w0 M n o T L (.int k r) :=
  GV.bin hop hx hy fun w => by subst h; simp [eqGuard, binOp, Op.intBits]
theorem GV.shrI {t yt : Nat} {x y : Operand} {k k' : IntKind} {p q r : Int} (hop : o.op = .binOp .shr t x y yt) (hx : Ev T x (.int k p)) (hy : Ev T y (.int k' q)) (hq : 0 ≤ q) (h : p.fdiv (2 ^ min q.toNat k.bits) = r) : GV P w0 M n o T L (.int k r) :=
  GV.bin hop hx hy fun w => by subst h; simp [eqGuard, binOp, Op.shift, Int.not_lt.2 hq]
theorem GV.shlI {t yt : Nat} {x y : Operand} {k k' : IntKind} {p q r : Int} (hop : o.op = .binOp .shl t x y yt) (hx : Ev T x (.int k p)) (hy : Ev T y (.int k' q)) (hq : 0 ≤ q) (h : k.wrap (p * 2 ^ min q.toNat k.bits) = r) : GV P w0 M n o T L (.int k r) :=
  GV.bin hop hx hy fun w => by subst h; simp [eqGuard, binOp, Op.shift, Int.not_lt.2 hq]
end
section
variable {w0 w w' : World} {M : Nat → Prop} {n : Nat} {T : TL} {L L' : List Asn} {o : Oper} {N : TL → List Asn → Prop} {d : Nat} {v : Value}
theorem GV.buildP0 (hop : o.op = .build 66 #[]) : GV Try.prog w0 M n o T L (.agg (pCells 0 fun _ => false).toArray) :=
  GV.build (parts := []) (xs := []) (is := []) (vs := []) (qs := []) (z := pCells 0 fun _ => false) (pl := [(0, 1), (1, 256)]) hop tzP inferInstance rfl rfl rfl rfl rfl
theorem GV.buildPk {x : Operand} {k : Int} (hop : o.op = .build 66 #[(0, x)]) (hx : Evs T [x] [.int .i64 k]) : GV Try.prog w0 M n o T L (.agg (pCells k fun _ => false).toArray) :=
  GV.build (parts := [(0, x)]) (xs := [x]) (is := [0]) (vs := [.int .i64 k]) (qs := [(0, [.int .i64 k])]) (z := pCells 0 fun _ => false) (pl := [(0, 1), (1, 256)]) hop tzP inferInstance rfl rfl hx rfl (by
    have h2 : Nat.ble (0 + 1) (pCells 0 fun _ => false).length = true := by rw [pCells_length]; rfl
    show (match Nat.beq ([Value.int .i64 k] : List Value).length 1, Nat.ble (0 + 1) (pCells 0 fun _ => false).length with
      | true, true => putK (pCells 0 fun _ => false) 0 [.int .i64 k] fun C1 => fillK (fun i => [(0, 1), (1, 256)][i]?) C1 []
      | _, _ => none) = _
    rw [h2]
    show putK (pCells 0 fun _ => false) 0 [.int .i64 k] (fun C1 => fillK (fun i => [(0, 1), (1, 256)][i]?) C1 []) = _
    rw [putK_eq]
    unfold pCells
    simp only [putCells, fillK]
    rw [putCells_nil])
end
/-! ### Bits -/
theorem pow_nonneg2 (b : Nat) : (0 : Int) ≤ 2 ^ b := by
  have := Int.natCast_nonneg (2 ^ b)
  rw [Int.natCast_pow] at this
  exact this
theorem shr_nat (m b : Nat) (h : b ≤ 64) : (m : Int).fdiv (2 ^ min ((b : Int)).toNat 64) = ((m / 2 ^ b : Nat) : Int) := by
  have e : min ((b : Int)).toNat 64 = b := by omega
  rw [e, Int.fdiv_eq_ediv_of_nonneg _ (pow_nonneg2 b), Int.natCast_ediv, Int.natCast_pow]
  rfl
theorem ofInt_nat (n m : Nat) : (BitVec.ofInt n (m : Int)).toNat = m % 2 ^ n := by
  simp [BitVec.ofInt_natCast]
theorem and_nat (n a b : Nat) (ha : a < 2 ^ n) (hb : b < 2 ^ n) : (BitVec.ofInt n (a : Int) &&& BitVec.ofInt n (b : Int)).toNat = a &&& b := by
  rw [BitVec.toNat_and, ofInt_nat, ofInt_nat, Nat.mod_eq_of_lt ha, Nat.mod_eq_of_lt hb]
theorem or_nat (n a b : Nat) (ha : a < 2 ^ n) (hb : b < 2 ^ n) : (BitVec.ofInt n (a : Int) ||| BitVec.ofInt n (b : Int)).toNat = a ||| b := by
  rw [BitVec.toNat_or, ofInt_nat, ofInt_nat, Nat.mod_eq_of_lt ha, Nat.mod_eq_of_lt hb]
theorem and_one (a : Nat) : a &&& 1 = a % 2 := Nat.and_one_is_mod a
theorem and_63 (a : Nat) : a &&& 63 = a % 64 := Nat.and_two_pow_sub_one_eq_mod a 6
theorem wrap_nat {k : IntKind} {n : Nat} (h1 : kLo k ≤ (n : Int)) (h2 : (n : Int) ≤ kHi k) : k.wrap (n : Int) = n := wrap_in h1 h2
theorem testBit_mod (m b : Nat) : (((m / 2 ^ b % 2 : Nat) : Int) == 1) = m.testBit b := by
  rw [Nat.testBit_eq_decide_div_mod_eq]
  rw [Bool.eq_iff_iff, beq_iff_eq, decide_eq_true_eq]
  omega
theorem set_bit (m b c : Nat) : (m ||| 2 ^ b).testBit c = (m.testBit c || decide (b = c)) := by
  rw [Nat.testBit_or, Nat.testBit_two_pow]
end Go.Proofs.YtkbpiodcndjpnaaG
