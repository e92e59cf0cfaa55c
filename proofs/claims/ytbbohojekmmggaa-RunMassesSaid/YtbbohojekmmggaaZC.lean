/- Seat 15: RunMasses holds: the mass of any runs, however they are bracketed, is the document's of all their atoms. For every input. -/
import Derived.Test.YtbbohojekmmggaaZB
import Derived.Test.YtbbohojekmmggaaR
import Derived.Test.YtbbohojekmmggaaRows
import Derived.JoinedOf
import Derived.JoinedAt
import Derived.Lib.SmallJoins
namespace Go.Proofs.Ytbbohojekmmggaa.masses
open Go Go.ChangeShapes Go.WideShapes Go.ChangeAt Go.RowKit Go.Deep
open Go.Proofs.YtbbohojekmmggaaG (RunD flatR open_elems field_of list7 int_in post_of_below)

theorem own : ownKnob Try.prog.godebug = none := by kernel_rfl
/-- A run, out of an argument's element. -/
theorem open_el {H : Type} {enc : TypeId × Value → H} {w : World} {base : Nat} {spare : Nat → Bool} {held : Bool} (fuel : Nat) (cs : List Value) (x : DataW H × List MemPlace) (hl : cs.length = 7) (hn : DataW.trod enc Try.prog w base spare held fuel 30 cs = some x) :
    ∃ o : RunD, o.cells = cs ∧ o.WF := by
  obtain ⟨c0, c1, c2, c3, c4, c5, c6, rfl⟩ := list7 hl
  obtain ⟨_, _, h0⟩ := field_of (i := 0) (cs' := [c0, c1, c2]) Try.underlying30 hn 3 rfl (by kernel_rfl) rfl
  obtain ⟨_, _, h1⟩ := field_of (i := 1) (cs' := [c3, c4]) Try.underlying30 hn 2 rfl (by kernel_rfl) rfl
  obtain ⟨_, _, h5⟩ := field_of (i := 2) (cs' := [c5]) Try.underlying30 hn 1 rfl (by kernel_rfl) rfl
  obtain ⟨_, _, h6⟩ := field_of (i := 3) (cs' := [c6]) Try.underlying30 hn 1 rfl (by kernel_rfl) rfl
  obtain ⟨_, _, h00⟩ := field_of (i := 0) (cs' := [c0]) Try.underlying26 h0 1 rfl (by kernel_rfl) rfl
  obtain ⟨_, _, h10⟩ := field_of (i := 1) (cs' := [c1]) Try.underlying26 h0 1 rfl (by kernel_rfl) rfl
  obtain ⟨_, _, h11⟩ := field_of (i := 2) (cs' := [c2]) Try.underlying26 h0 1 rfl (by kernel_rfl) rfl
  obtain ⟨_, _, h20⟩ := field_of (i := 0) (cs' := [c3]) Try.underlying28 h1 1 rfl (by kernel_rfl) rfl
  obtain ⟨_, _, h21⟩ := field_of (i := 1) (cs' := [c4]) Try.underlying28 h1 1 rfl (by kernel_rfl) rfl
  obtain ⟨a0, e0, _, w0⟩ := DataW.trod_int (k := .u64) (by kernel_rfl) h00
  obtain ⟨a1, e1, _, w1⟩ := DataW.trod_int (k := .u16) (by kernel_rfl) h10
  obtain ⟨a2, e2, _, w2⟩ := DataW.trod_int (k := .u32) (by kernel_rfl) h11
  obtain ⟨a3, e3, _, w3⟩ := DataW.trod_int (k := .u16) (by kernel_rfl) h20
  obtain ⟨a4, e4, _, w4⟩ := DataW.trod_int (k := .u32) (by kernel_rfl) h21
  obtain ⟨a5, e5, _, w5⟩ := DataW.trod_string (by kernel_rfl) h5
  obtain ⟨a6, e6, _⟩ := DataW.trod_bool (by kernel_rfl) h6
  simp only [List.cons.injEq, and_true] at e0 e1 e2 e3 e4 e5 e6
  subst e0 e1 e2 e3 e4 e5 e6
  exact ⟨⟨a0, a1, a2, a3, a4, a5, a6⟩, rfl, int_in w0, int_in w1, int_in w2, int_in w3, int_in w4, by simpa [maxLen] using w5⟩

set_option maxRecDepth 100000 in
theorem lifted (os : Os) (started : os.Started) (H : Type) (enc : TypeId × Value → H) :
    ReturnsInHanded {} Try.checked os 5 .any (Rows.runMassesSpec.pre6 enc Try.prog Try.f5 Rows.runMassesRow.domain false) (Rows.runMassesSpec.post enc Try.prog Try.f5 false true false false) := by
  refine returnsInHanded_of_change (C := Try.checked) own started (by kernel_rfl) Try.func5
    (ChangeSpec.witness6 (enc := enc) (C := Try.checked) false ⟨#[], #[.slice none 0 0, .int .i64 0], []⟩ 8 (by kernel_rfl) (by kernel_rfl) (by kernel_rfl) (by kernel_rfl)) ?_
  intro W base args ds gs before hval0 hW _ _
  have hval : ∀ (j : Nat) t v, Try.f5.params[j]? = some t → args[j]? = some v → Value.okWide Try.prog W .any base t v := hval0
  have hW' := hW
  obtain ⟨p, q, hA0, hV, rfl, _, _⟩ := hW
  have hA : DataW.TrodAll enc Try.prog W 0 (fun _ => true) true Try.f5.params.toList args.toList ds p := hA0
  rw [Try.params5] at hA hval
  obtain ⟨v0, vs0, d0, ds0, p0, q0, hargs, rfl, rfl, h0, r0⟩ := trodAll_cons hA
  obtain ⟨v1, vs1, d1, ds1, p1, q1, rfl, rfl, rfl, h1, r1⟩ := trodAll_cons r0
  obtain ⟨rfl, rfl, rfl⟩ := trodAll_nil r1
  obtain rfl : args = #[v0, v1] := by cases args; simp_all
  obtain ⟨rfl, rfl⟩ := trodVars_none hV
  obtain ⟨A, n, c, rfl⟩ := okWide_slice Try.underlying56 (hval 0 56 v0 rfl rfl)
  obtain ⟨l, rfl, hr, hx, _⟩ := open_elems RunD.cells (fun o => o.WF) Try.underlying56 (by kernel_rfl) (by decide) h0 (fun _ => rfl) open_el
  obtain ⟨u, rfl, _, _, _⟩ := open_int Try.underlying3 (hval 1 3 v1 rfl rfl) h1
  refine (Go.Proofs.YtbbohojekmmggaaG.masses5 l u A c W hr hx).out.mono fun e W' ⟨he, hb⟩ => ?_
  subst he
  exact ⟨_, rfl, post_of_below (tb := 4) (by kernel_rfl) (by kernel_rfl) Try.underlying4 (by kernel_rfl) rfl rfl hW' hb⟩

theorem holds : Rows.RunMassesSaid :=
  OpenClaim.holds_of_wide 5 Try.f5 rfl rfl rfl rfl rfl rfl rfl ⟨rfl, rfl, rfl, rfl, rfl⟩ rfl rfl rfl rfl rfl (by kernel_rfl) Try.func5 (by kernel_rfl)
    (of_decide_eq_true (by kernel_rfl)) (by unfold Func.isWrapper; first | (rw [if_pos (by decide +kernel)]; kernel_rfl) | (rw [if_neg (by decide +kernel)]; exact ⟨rfl, rfl⟩))
    (fun os started H enc _ => lifted os started H enc)

#print axioms holds
end Go.Proofs.Ytbbohojekmmggaa.masses
