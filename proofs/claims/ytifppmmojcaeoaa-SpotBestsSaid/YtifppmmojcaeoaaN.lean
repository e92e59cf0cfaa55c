/- Seat 18: SpotBests holds: whatever places elements are given, each has just these, its own first, and is at the newest one whose transaction isn't off, or at its own. For every input. -/
import Derived.Test.YtifppmmojcaeoaaM
import Derived.Test.YtifppmmojcaeoaaR
import Derived.Test.YtifppmmojcaeoaaRows
import Derived.JoinedOf
import Derived.JoinedAt
import Derived.Lib.SmallJoins
namespace Go.Proofs.Ytifppmmojcaeoaa.bests
open Go Go.ChangeShapes Go.WideShapes Go.ChangeAt Go.RowKit Go.Deep
open Go.Proofs.YtifppmmojcaeoaaG (SpotD WD K2 flatK open_elems field_of list5 list7 post_of_below)

theorem own : ownKnob Try.prog.godebug = none := by kernel_rfl
/-- A place, out of cells that read. -/
theorem open_el {H : Type} {enc : TypeId × Value → H} {w : World} {base : Nat} {spare : Nat → Bool} {held : Bool} (fuel : Nat) (cs : List Value) (x : DataW H × List MemPlace) (hl : cs.length = 5) (hn : DataW.trod enc Try.prog w base spare held fuel 30 cs = some x) :
    ∃ o : SpotD, o.cells = cs ∧ True := by
  obtain ⟨c0, c1, c2, c3, c4, rfl⟩ := list5 hl
  obtain ⟨_, _, h0⟩ := field_of (i := 0) (cs' := [c0, c1, c2]) Try.underlying30 hn 3 rfl (by kernel_rfl) rfl
  obtain ⟨_, _, h1⟩ := field_of (i := 1) (cs' := [c3, c4]) Try.underlying30 hn 2 rfl (by kernel_rfl) rfl
  obtain ⟨_, _, h00⟩ := field_of (i := 0) (cs' := [c0]) Try.underlying26 h0 1 rfl (by kernel_rfl) rfl
  obtain ⟨_, _, h10⟩ := field_of (i := 1) (cs' := [c1]) Try.underlying26 h0 1 rfl (by kernel_rfl) rfl
  obtain ⟨_, _, h11⟩ := field_of (i := 2) (cs' := [c2]) Try.underlying26 h0 1 rfl (by kernel_rfl) rfl
  obtain ⟨_, _, h20⟩ := field_of (i := 0) (cs' := [c3]) Try.underlying28 h1 1 rfl (by kernel_rfl) rfl
  obtain ⟨_, _, h21⟩ := field_of (i := 1) (cs' := [c4]) Try.underlying28 h1 1 rfl (by kernel_rfl) rfl
  obtain ⟨a0, e0, _, _⟩ := DataW.trod_int (k := .u64) (by kernel_rfl) h00
  obtain ⟨a1, e1, _, _⟩ := DataW.trod_int (k := .u16) (by kernel_rfl) h10
  obtain ⟨a2, e2, _, _⟩ := DataW.trod_int (k := .u32) (by kernel_rfl) h11
  obtain ⟨a3, e3, _, _⟩ := DataW.trod_int (k := .u16) (by kernel_rfl) h20
  obtain ⟨a4, e4, _, _⟩ := DataW.trod_int (k := .u32) (by kernel_rfl) h21
  simp only [List.cons.injEq, and_true] at e0 e1 e2 e3 e4
  subst e0 e1 e2 e3 e4
  exact ⟨⟨a0, a1, a2, a3, a4⟩, rfl, trivial⟩
theorem open_op {H : Type} {enc : TypeId × Value → H} {w : World} {base : Nat} {spare : Nat → Bool} {held : Bool} (fuel : Nat) (cs : List Value) (x : DataW H × List MemPlace) (hl : cs.length = 7) (hn : DataW.trod enc Try.prog w base spare held fuel 50 cs = some x) :
    ∃ o : WD, o.cells = cs ∧ True := by
  obtain ⟨c0, c1, c2, c3, c4, c5, c6, rfl⟩ := list7 hl
  obtain ⟨_, _, h0⟩ := field_of (i := 0) (cs' := [c0, c1]) Try.underlying50 hn 2 rfl (by kernel_rfl) rfl
  obtain ⟨x1, f1, h1⟩ := field_of (i := 1) (cs' := [c2, c3, c4, c5, c6]) Try.underlying50 hn 5 rfl (by kernel_rfl) rfl
  obtain ⟨_, _, h00⟩ := field_of (i := 0) (cs' := [c0]) Try.underlying35 h0 1 rfl (by kernel_rfl) rfl
  obtain ⟨_, _, h01⟩ := field_of (i := 1) (cs' := [c1]) Try.underlying35 h0 1 rfl (by kernel_rfl) rfl
  obtain ⟨a0, e0, _, _⟩ := DataW.trod_int (k := .u16) (by kernel_rfl) h00
  obtain ⟨a1, e1, _, _⟩ := DataW.trod_int (k := .u32) (by kernel_rfl) h01
  obtain ⟨o, ho, _⟩ := open_el f1 _ _ rfl h1
  simp only [List.cons.injEq, and_true] at e0 e1
  subst e0 e1
  exact ⟨⟨(a0, a1), o⟩, by rw [← ho]; rfl, trivial⟩
theorem open_id {H : Type} {enc : TypeId × Value → H} {w : World} {base b0 : Nat} {spare : Nat → Bool} {held : Bool} {r : Reach} {v : Value} {d : DataW H} {p : List MemPlace} (hv : Value.okWide Try.prog w r b0 35 v) (h : DataW.Trod enc Try.prog w base spare held 35 v d p) : ∃ k : K2, v = .agg #[.int .u16 k.1, .int .u32 k.2] := by
  obtain ⟨⟨l⟩, rfl, hl⟩ := okWide_struct Try.underlying35 hv
  obtain ⟨n, hn⟩ := h
  have hl2 : l.length = 2 := hl.trans (by kernel_rfl)
  match l, hl2 with
  | [c3, c4], _ =>
    obtain ⟨_, _, h20⟩ := field_of (i := 0) (cs' := [c3]) Try.underlying35 hn 1 rfl (by kernel_rfl) rfl
    obtain ⟨_, _, h21⟩ := field_of (i := 1) (cs' := [c4]) Try.underlying35 hn 1 rfl (by kernel_rfl) rfl
    obtain ⟨a3, e3, _, _⟩ := DataW.trod_int (k := .u16) (by kernel_rfl) h20
    obtain ⟨a4, e4, _, _⟩ := DataW.trod_int (k := .u32) (by kernel_rfl) h21
    simp only [List.cons.injEq, and_true] at e3 e4
    subst e3 e4
    exact ⟨(a3, a4), rfl⟩
theorem open_txn {H : Type} {enc : TypeId × Value → H} {w : World} {base : Nat} {spare : Nat → Bool} {held : Bool} (fuel : Nat) (cs : List Value) (x : DataW H × List MemPlace) (hl : cs.length = 2) (hn : DataW.trod enc Try.prog w base spare held fuel 28 cs = some x) :
    ∃ o : K2, [Value.int .u16 o.1, Value.int .u32 o.2] = cs ∧ True := by
  match cs, hl with
  | [c3, c4], _ =>
    obtain ⟨_, _, h20⟩ := field_of (i := 0) (cs' := [c3]) Try.underlying28 hn 1 rfl (by kernel_rfl) rfl
    obtain ⟨_, _, h21⟩ := field_of (i := 1) (cs' := [c4]) Try.underlying28 hn 1 rfl (by kernel_rfl) rfl
    obtain ⟨a3, e3, _, _⟩ := DataW.trod_int (k := .u16) (by kernel_rfl) h20
    obtain ⟨a4, e4, _, _⟩ := DataW.trod_int (k := .u32) (by kernel_rfl) h21
    simp only [List.cons.injEq, and_true] at e3 e4
    subst e3 e4
    exact ⟨(a3, a4), rfl, trivial⟩

set_option maxRecDepth 100000 in
theorem lifted (os : Os) (started : os.Started) (H : Type) (enc : TypeId × Value → H) :
    ReturnsInHanded {} Try.checked os 4 .any (Rows.spotBestsSpec.pre6 enc Try.prog Try.f4 Rows.spotBestsRow.domain false) (Rows.spotBestsSpec.post enc Try.prog Try.f4 false true false false) := by
  refine returnsInHanded_of_change (C := Try.checked) own started (by kernel_rfl) Try.func4
    (ChangeSpec.witness6 (enc := enc) (C := Try.checked) false ⟨#[], #[.slice none 0 0, .agg #[.int .u16 0, .int .u32 0], .slice none 0 0], []⟩ 8 (by kernel_rfl) (by kernel_rfl) (by kernel_rfl) (by kernel_rfl)) ?_
  intro W base args ds gs before hval0 hW _ _
  have hval : ∀ (j : Nat) t v, Try.f4.params[j]? = some t → args[j]? = some v → Value.okWide Try.prog W .any base t v := hval0
  have hW' := hW
  obtain ⟨p, q, hA0, hV, rfl, _, _⟩ := hW
  have hA : DataW.TrodAll enc Try.prog W 0 (fun _ => true) true Try.f4.params.toList args.toList ds p := hA0
  rw [Try.params4] at hA hval
  obtain ⟨v0, vs0, d0, ds0, p0, q0, hargs, rfl, rfl, h0, r0⟩ := trodAll_cons hA
  obtain ⟨v1, vs1, d1, ds1, p1, q1, rfl, rfl, rfl, h1, r1⟩ := trodAll_cons r0
  obtain ⟨v2, vs2, d2, ds2, p2, q2, rfl, rfl, rfl, h2, r2⟩ := trodAll_cons r1
  obtain ⟨rfl, rfl, rfl⟩ := trodAll_nil r2
  obtain rfl : args = #[v0, v1, v2] := by cases args; simp_all
  obtain ⟨rfl, rfl⟩ := trodVars_none hV
  obtain ⟨A, n, c, rfl⟩ := okWide_slice Try.underlying45 (hval 0 45 v0 rfl rfl)
  obtain ⟨l, rfl, hr, _, hc⟩ := open_elems WD.cells (fun _ => True) Try.underlying45 (by kernel_rfl) (by decide) h0 (fun _ => rfl) open_op
  obtain ⟨k, rfl⟩ := open_id (hval 1 35 v1 rfl rfl) h1
  obtain ⟨B, m, cB, rfl⟩ := okWide_slice Try.underlying32 (hval 2 32 v2 rfl rfl)
  obtain ⟨off, rfl, ho, _, _⟩ := open_elems (fun k : K2 => [Value.int .u16 k.1, Value.int .u32 k.2]) (fun _ => True) Try.underlying32 (by kernel_rfl) (by decide) h2 (fun _ => rfl) open_txn
  refine (Go.Proofs.YtifppmmojcaeoaaG.bests4 l A c k off B cB W hr ho).out.mono fun e W' ⟨he, hb⟩ => ?_
  subst he
  exact ⟨_, rfl, post_of_below (tb := 4) (by kernel_rfl) (by kernel_rfl) Try.underlying4 (by kernel_rfl) rfl rfl hW' hb⟩

theorem holds : Rows.SpotBestsSaid :=
  OpenClaim.holds_of_wide 4 Try.f4 rfl rfl rfl rfl rfl rfl rfl ⟨rfl, rfl, rfl, rfl, rfl⟩ rfl rfl rfl rfl rfl (by kernel_rfl) Try.func4 (by kernel_rfl)
    (of_decide_eq_true (by kernel_rfl)) (by unfold Func.isWrapper; first | (rw [if_pos (by decide +kernel)]; kernel_rfl) | (rw [if_neg (by decide +kernel)]; exact ⟨rfl, rfl⟩))
    (fun os started H enc _ => lifted os started H enc)

#print axioms holds
end Go.Proofs.Ytifppmmojcaeoaa.bests
