/- The bytes of a string, as a slice. Over any program. -/
import Derived.Test.YtkbpiodcndjpnaaG5
import Derived.Laws.IdiomStrings
import Derived.Laws.Small
namespace Go.Proofs.YtkbpiodcndjpnaaG
set_option linter.unusedVariables false
set_option linter.unusedSimpArgs false
open Go Go.RowKit
section
variable {P : Program} {w0 w w' : World} {M : Nat → Prop} {n : Nat} {T : TL} {L : List Asn} {o : Oper} {N : TL → List Asn → Prop} {d : Nat} {A : Option Addr} {m c size : Nat} {cs : List Value}
/-! ### Bytes of a string -/
/-- A block that begins with these cells; what else is of it is not told. -/
def beg (g : Nat) (cs : List Value) : Asn where
  dom := fun k => k = g
  holds := fun w => ∀ j u, cs[j]? = some u → w.cell? ⟨g, j, none⟩ = some u
  loc := fun {w w'} h hw j u hj => by
    have := hw j u hj
    unfold World.cell? at this ⊢
    rw [h g rfl]
    exact this
def strCells (s : ByteArray) : List Value := s.data.toList.map fun b => .int .u8 (b.toNat : Int)
theorem strCells_get (s : ByteArray) (i : Nat) (h : i < s.size) : (strCells s)[i]? = some (.int .u8 (s[i].toNat : Int)) := by
  have h' : i < s.data.toList.length := by simpa using h
  unfold strCells
  rw [List.getElem?_map, List.getElem?_eq_getElem h']
  rfl
theorem GO.bytesOf {t t' e : Nat} {x : Operand} {s : ByteArray} (hop : o.op = .convert t t' x) (hd : o.dst = some d) (hn : Nat.blt d n = true) (_i0 : SG P t) (_i1 : SL P t' e) (_i2 : IT P e .u8) (hx : Ev T x (.string s))
    (k : ∀ g c, N ((d, .slice (some ⟨g, 0, none⟩) s.size c) :: T) (beg g (strCells s) :: L)) : GO P w0 M n o T L N :=
  GO.ofNew hd hn fun a w ht hs => by
    refine ⟨_, w.drew.alloc (.cells (bytesRow s (grownCap w s.size 0 e)) e ((bytesRow s (grownCap w s.size 0 e)).size, (bytesRow s (grownCap w s.size 0 e)).size + 1)), _, ?_, ?_, k w.heap.size (grownCap w s.size 0 e)⟩
    · simp only [execOp, hop, ht.ev hx]
      refine run_v ?_
      exact run_bytes_of_string w t t' e s SG.out SL.out IT.out
    · have hh : (w.drew.alloc (.cells (bytesRow s (grownCap w s.size 0 e)) e ((bytesRow s (grownCap w s.size 0 e)).size, (bytesRow s (grownCap w s.size 0 e)).size + 1))).heap = w.heap.push (.cells (bytesRow s (grownCap w s.size 0 e)) e ((bytesRow s (grownCap w s.size 0 e)).size, (bytesRow s (grownCap w s.size 0 e)).size + 1)) := rfl
      refine hs.add rfl rfl rfl (by rw [hh]; simp) (fun k hk => ?_) (fun j u hj => ?_) (fun k hk => ?_)
      · rw [hh, Array.getElem?_push_lt hk]
        simp [hk]
      · unfold World.cell?
        rw [hh, Array.getElem?_push_size]
        have hj' : j < s.data.toList.length := by
          have := (List.getElem?_eq_some_iff.1 hj).1
          simpa [strCells] using this
        simp only [bytesRow]
        rw [← hj]
        simp only [strCells]
        have hj2 : j < s.data.size := by simpa using hj'
        simp
        rw [Array.getElem?_append_left (by simpa using hj2)]
        simp
      · have : k = w.heap.size := hk
        rw [hh]
        simp
        omega
theorem GV.max2 {at' : Array Nat} {x y : Operand} {k k' : IntKind} {a b : Int} (hop : o.op = .call { callee := .builtin .max, args := #[x, y], argTypes := at' }) (hx : Ev T x (.int k a)) (hy : Ev T y (.int k' b)) : GV P w0 M n o T L (.int k (if b > a then b else a)) :=
  ⟨fun ac w ht _ => by simp [execOp, hop, resolve, invoke, builtin, ht.ev hx, ht.ev hy, run_max_int2]⟩
/-- x[i], x a row of ours. -/
theorem GV.indexAddr_row {t e e' : Nat} {b : Bool} {x y : Operand} {ki : IntKind} {i : Nat} (hop : o.op = .indexAddr t x y) (_i0 : SL P t e) (_i1 : TI P e b size) (hx : Ev T x (.slice A m c)) (hy : Ev T y (.int ki (i : Int))) (hin : row (.slice A m c) e' size m cs ∈ L) (h1 : i < m) (h0 : 0 < size) :
    GV P w0 M n o T L (.pointer (some ((A.getD default).add (i * size)))) :=
  ⟨fun a w ht hs => (GV.indexAddr_rd hop _i0 _i1 hx hy h1 (row_rd_some hin hs (Nat.mul_pos (by omega) h0)).2).out a w ht hs⟩
theorem beg_cell {g : Nat} {cs : List Value} {off : Nat} {v : Value} (hin : beg g cs ∈ L) (hs : St w0 M L w) (hv : cs[off]? = some v) : w.cell? ⟨g, off, none⟩ = some v := hs.holds _ hin off v hv
end
end Go.Proofs.YtkbpiodcndjpnaaG
