/- Seat 19: TallyPlays holds: whatever is done, which transactions are known, open and off, and each element's count, is the document's behind each step; so is what undoing tells. For every input. -/
import Derived.Test.YtaigjhkoaoboiaaU
import Derived.Test.YtaigjhkoaoboiaaR
import Derived.Test.YtaigjhkoaoboiaaRows
import Derived.JoinedOf
import Derived.JoinedAt
namespace Go.Proofs.Ytaigjhkoaoboiaa.plays
open Go Go.ChangeShapes Go.WideShapes Go.ChangeAt Go.RowKit Go.Deep
open Go.Proofs.YtaigjhkoaoboiaaG (open_elems post_of_below field_of list5 DD K2 flatD)

theorem own : ownKnob Try.prog.godebug = none := by kernel_rfl
/-- What is done, out of cells that read. -/
theorem open_op {H : Type} {enc : TypeId × Value → H} {w : World} {base : Nat} {spare : Nat → Bool} {held : Bool} (fuel : Nat) (cs : List Value) (x : DataW H × List MemPlace) (hl : cs.length = 5) (hn : DataW.trod enc Try.prog w base spare held fuel 45 cs = some x) :
    ∃ o : DD, o.cells = cs ∧ True := by
  obtain ⟨c0, c1, c2, c3, c4, rfl⟩ := list5 hl
  obtain ⟨_, _, h0⟩ := field_of (i := 0) (cs' := [c0]) Try.underlying45 hn 1 rfl (by kernel_rfl) rfl
  obtain ⟨_, _, h1⟩ := field_of (i := 1) (cs' := [c1, c2]) Try.underlying45 hn 2 rfl (by kernel_rfl) rfl
  obtain ⟨_, _, h2⟩ := field_of (i := 2) (cs' := [c3, c4]) Try.underlying45 hn 2 rfl (by kernel_rfl) rfl
  obtain ⟨_, _, h10⟩ := field_of (i := 0) (cs' := [c1]) Try.underlying31 h1 1 rfl (by kernel_rfl) rfl
  obtain ⟨_, _, h11⟩ := field_of (i := 1) (cs' := [c2]) Try.underlying31 h1 1 rfl (by kernel_rfl) rfl
  obtain ⟨_, _, h20⟩ := field_of (i := 0) (cs' := [c3]) Try.underlying33 h2 1 rfl (by kernel_rfl) rfl
  obtain ⟨_, _, h21⟩ := field_of (i := 1) (cs' := [c4]) Try.underlying33 h2 1 rfl (by kernel_rfl) rfl
  obtain ⟨a0, e0, _, _⟩ := DataW.trod_int (k := .i64) (by kernel_rfl) h0
  obtain ⟨a1, e1, _, _⟩ := DataW.trod_int (k := .u16) (by kernel_rfl) h10
  obtain ⟨a2, e2, _, _⟩ := DataW.trod_int (k := .u32) (by kernel_rfl) h11
  obtain ⟨a3, e3, _, _⟩ := DataW.trod_int (k := .u16) (by kernel_rfl) h20
  obtain ⟨a4, e4, _, _⟩ := DataW.trod_int (k := .u32) (by kernel_rfl) h21
  simp only [List.cons.injEq, and_true] at e0 e1 e2 e3 e4
  subst e0 e1 e2 e3 e4
  exact ⟨⟨a0, (a1, a2), (a3, a4)⟩, rfl, trivial⟩
theorem open_id {H : Type} {enc : TypeId × Value → H} {w : World} {base b0 : Nat} {spare : Nat → Bool} {held : Bool} {r : Reach} {v : Value} {d : DataW H} {p : List MemPlace} (hv : Value.okWide Try.prog w r b0 31 v) (h : DataW.Trod enc Try.prog w base spare held 31 v d p) : ∃ k : K2, v = .agg #[.int .u16 k.1, .int .u32 k.2] := by
  obtain ⟨⟨l⟩, rfl, hl⟩ := okWide_struct Try.underlying31 hv
  obtain ⟨n, hn⟩ := h
  have hl2 : l.length = 2 := hl.trans (by kernel_rfl)
  match l, hl2 with
  | [c3, c4], _ =>
    obtain ⟨_, _, h20⟩ := field_of (i := 0) (cs' := [c3]) Try.underlying31 hn 1 rfl (by kernel_rfl) rfl
    obtain ⟨_, _, h21⟩ := field_of (i := 1) (cs' := [c4]) Try.underlying31 hn 1 rfl (by kernel_rfl) rfl
    obtain ⟨a3, e3, _, _⟩ := DataW.trod_int (k := .u16) (by kernel_rfl) h20
    obtain ⟨a4, e4, _, _⟩ := DataW.trod_int (k := .u32) (by kernel_rfl) h21
    simp only [List.cons.injEq, and_true] at e3 e4
    subst e3 e4
    exact ⟨(a3, a4), rfl⟩
theorem open_el {H : Type} {enc : TypeId × Value → H} {w : World} {base b0 : Nat} {spare : Nat → Bool} {held : Bool} {r : Reach} {v : Value} {d : DataW H} {p : List MemPlace} (hv : Value.okWide Try.prog w r b0 33 v) (h : DataW.Trod enc Try.prog w base spare held 33 v d p) : ∃ k : K2, v = .agg #[.int .u16 k.1, .int .u32 k.2] := by
  obtain ⟨⟨l⟩, rfl, hl⟩ := okWide_struct Try.underlying33 hv
  obtain ⟨n, hn⟩ := h
  have hl2 : l.length = 2 := hl.trans (by kernel_rfl)
  match l, hl2 with
  | [c3, c4], _ =>
    obtain ⟨_, _, h20⟩ := field_of (i := 0) (cs' := [c3]) Try.underlying33 hn 1 rfl (by kernel_rfl) rfl
    obtain ⟨_, _, h21⟩ := field_of (i := 1) (cs' := [c4]) Try.underlying33 hn 1 rfl (by kernel_rfl) rfl
    obtain ⟨a3, e3, _, _⟩ := DataW.trod_int (k := .u16) (by kernel_rfl) h20
    obtain ⟨a4, e4, _, _⟩ := DataW.trod_int (k := .u32) (by kernel_rfl) h21
    simp only [List.cons.injEq, and_true] at e3 e4
    subst e3 e4
    exact ⟨(a3, a4), rfl⟩

set_option maxRecDepth 100000 in
theorem lifted (os : Os) (started : os.Started) (H : Type) (enc : TypeId × Value → H) :
    ReturnsInHanded {} Try.checked os 5 .any (Rows.tallyPlaysSpec.pre6 enc Try.prog Try.f5 Rows.tallyPlaysRow.domain false) (Rows.tallyPlaysSpec.post enc Try.prog Try.f5 false true false false) := by
  refine returnsInHanded_of_change (C := Try.checked) own started (by kernel_rfl) Try.func5
    (ChangeSpec.witness6 (enc := enc) (C := Try.checked) false ⟨#[], #[.slice none 0 0, .agg #[.int .u16 0, .int .u32 0], .agg #[.int .u16 0, .int .u32 0]], []⟩ 8 (by kernel_rfl) (by kernel_rfl) (by kernel_rfl) (by kernel_rfl)) ?_
  intro W base args ds gs before hval0 hW _ _
  have hval : ∀ (j : Nat) t v, Try.f5.params[j]? = some t → args[j]? = some v → Value.okWide Try.prog W .any base t v := hval0
  have hW' := hW
  obtain ⟨p, q, hA0, hV, rfl, _, _⟩ := hW
  have hA : DataW.TrodAll enc Try.prog W 0 (fun _ => true) true Try.f5.params.toList args.toList ds p := hA0
  rw [Try.params5] at hA hval
  obtain ⟨v0, vs0, d0, ds0, p0, q0, hargs, rfl, rfl, h0, r0⟩ := trodAll_cons hA
  obtain ⟨v1, vs1, d1, ds1, p1, q1, rfl, rfl, rfl, h1, r1⟩ := trodAll_cons r0
  obtain ⟨v2, vs2, d2, ds2, p2, q2, rfl, rfl, rfl, h2, r2⟩ := trodAll_cons r1
  obtain ⟨rfl, rfl, rfl⟩ := trodAll_nil r2
  obtain rfl : args = #[v0, v1, v2] := by cases args; simp_all
  obtain ⟨rfl, rfl⟩ := trodVars_none hV
  obtain ⟨A, n, c, rfl⟩ := okWide_slice Try.underlying43 (hval 0 43 v0 rfl rfl)
  obtain ⟨l, rfl, hr, _, hc⟩ := open_elems DD.cells (fun _ => True) Try.underlying43 (by kernel_rfl) (by decide) h0 (fun _ => rfl) open_op
  obtain ⟨k, rfl⟩ := open_id (hval 1 31 v1 rfl rfl) h1
  obtain ⟨e, rfl⟩ := open_el (hval 2 33 v2 rfl rfl) h2
  refine (Go.Proofs.YtaigjhkoaoboiaaG.plays5 l A c k e W hr).out.mono fun e W' ⟨he, hb⟩ => ?_
  subst he
  exact ⟨_, rfl, post_of_below (tb := 4) (by kernel_rfl) (by kernel_rfl) Try.underlying4 (by kernel_rfl) rfl rfl hW' hb⟩

theorem holds : Rows.TallyPlaysSaid :=
  OpenClaim.holds_of_wide 5 Try.f5 rfl rfl rfl rfl rfl rfl rfl ⟨rfl, rfl, rfl, rfl, rfl⟩ rfl rfl rfl rfl rfl (by kernel_rfl) Try.func5 (by kernel_rfl)
    (of_decide_eq_true (by kernel_rfl)) (by unfold Func.isWrapper; first | (rw [if_pos (by decide +kernel)]; kernel_rfl) | (rw [if_neg (by decide +kernel)]; exact ⟨rfl, rfl⟩))
    (fun os started H enc _ => lifted os started H enc)

#print axioms holds
end Go.Proofs.Ytaigjhkoaoboiaa.plays
