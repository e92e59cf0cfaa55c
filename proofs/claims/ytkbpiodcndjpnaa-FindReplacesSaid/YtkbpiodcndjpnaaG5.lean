/- A row's length is at most its capacity; a part of a row. Over any program. -/
import Derived.Test.YtkbpiodcndjpnaaG4
namespace Go.Proofs.YtkbpiodcndjpnaaG
set_option linter.unusedVariables false
set_option linter.unusedSimpArgs false
open Go Go.RowKit
section
variable {P : Program} {w0 w w' : World} {M : Nat → Prop} {n : Nat} {T : TL} {L : List Asn} {o : Oper} {A : Option Addr} {m c size : Nat} {cs : List Value}
theorem row_cap {e : Nat} (hin : row (.slice A m c) e size m cs ∈ L) (hs : St w0 M L w) : m ≤ c := by
  have h : w.ownsRow 0 e size (.slice A m c) m cs := hs.holds _ hin
  rcases h.2 with ⟨h1, h2⟩ | ⟨g, cap, cur, h1, _, _, h4, _⟩
  · omega
  · injection h1 with _ _ h3
    omega
/-- x[lo:hi], x a row of ours. -/
theorem GV.slice_row {t e e' : Nat} {b : Bool} {x : Operand} {lo hi : Option Operand} {l h : Nat} (hop : o.op = .slice t x lo hi none) (_i0 : SL P t e) (_i1 : TI P e b size) (hx : Ev T x (.slice A m c)) (hin : row (.slice A m c) e' size m cs ∈ L)
    (hlo : lo = none ∧ l = 0 ∨ ∃ y k, lo = some y ∧ Ev T y (.int k (l : Int))) (hhi : hi = none ∧ h = m ∨ ∃ y k, hi = some y ∧ Ev T y (.int k (h : Int))) (h1 : l ≤ h) (h2 : h ≤ m) : GV P w0 M n o T L (.slice (subA A c l size) (h - l) (c - l)) :=
  ⟨fun a w ht hs => (GV.slice_slice hop _i0 _i1 hx hlo hhi h1 (Nat.le_trans h2 (row_cap hin hs))).out a w ht hs⟩
/-- A part of a row reads as the part of its cells. -/
theorem row_sub {e l h : Nat} (hin : row (.slice A m c) e size m cs ∈ L) (hs : St w0 M L w) (h1 : l ≤ h) (h2 : h ≤ m) : Rd w (subA A c l size) (h - l) size ((cs.drop (l * size)).take ((h - l) * size)) :=
  (row_rd hin hs).sub h1 h2 (row_cap hin hs)
end
end Go.Proofs.YtkbpiodcndjpnaaG
