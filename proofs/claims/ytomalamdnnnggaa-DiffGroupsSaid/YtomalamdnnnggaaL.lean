/- Seat 26: DiffGroups holds: any edits, in pieces, are these, in their order; each piece but the last one is full. For every input. -/
import Derived.Test.YtomalamdnnnggaaK
import Derived.Test.YtomalamdnnnggaaR
import Derived.Test.YtomalamdnnnggaaRows
import Derived.JoinedOf
import Derived.JoinedAt
import Derived.Lib.SmallJoins
namespace Go.Proofs.Ytomalamdnnnggaa.groups
open Go Go.ChangeShapes Go.WideShapes Go.ChangeAt Go.RowKit Go.Deep
open Go.Proofs.YtomalamdnnnggaaG (EditD open_elems field_of list5 post_of_below)

theorem own : ownKnob Try.prog.godebug = none := by kernel_rfl
/-- An edit, out of an argument's element. -/
theorem open_el {H : Type} {enc : TypeId × Value → H} {w : World} {base : Nat} {spare : Nat → Bool} {held : Bool} (fuel : Nat) (cs : List Value) (x : DataW H × List MemPlace) (hl : cs.length = 5) (hn : DataW.trod enc Try.prog w base spare held fuel 29 cs = some x) :
    ∃ o : EditD, o.cells = cs ∧ True := by
  obtain ⟨c0, c1, c2, c3, c4, rfl⟩ := list5 hl
  obtain ⟨_, _, h0⟩ := field_of (i := 0) (cs' := [c0]) Try.underlying29 hn 1 rfl (by kernel_rfl) rfl
  obtain ⟨_, _, h1⟩ := field_of (i := 1) (cs' := [c1]) Try.underlying29 hn 1 rfl (by kernel_rfl) rfl
  obtain ⟨_, _, h2⟩ := field_of (i := 2) (cs' := [c2]) Try.underlying29 hn 1 rfl (by kernel_rfl) rfl
  obtain ⟨_, _, h3⟩ := field_of (i := 3) (cs' := [c3]) Try.underlying29 hn 1 rfl (by kernel_rfl) rfl
  obtain ⟨_, _, h4⟩ := field_of (i := 4) (cs' := [c4]) Try.underlying29 hn 1 rfl (by kernel_rfl) rfl
  obtain ⟨a0, e0, _, _⟩ := DataW.trod_int (k := .i64) (by kernel_rfl) h0
  obtain ⟨a1, e1, _, _⟩ := DataW.trod_int (k := .i64) (by kernel_rfl) h1
  obtain ⟨a2, e2, _, _⟩ := DataW.trod_int (k := .i64) (by kernel_rfl) h2
  obtain ⟨a3, e3, _, _⟩ := DataW.trod_int (k := .i64) (by kernel_rfl) h3
  obtain ⟨a4, e4, _, _⟩ := DataW.trod_string (by kernel_rfl) h4
  simp only [List.cons.injEq, and_true] at e0 e1 e2 e3 e4
  subst e0 e1 e2 e3 e4
  exact ⟨⟨a0, a1, a2, a3, a4⟩, rfl, trivial⟩

set_option maxRecDepth 100000 in
theorem lifted (os : Os) (started : os.Started) (H : Type) (enc : TypeId × Value → H) :
    ReturnsInHanded {} Try.checked os 5 .any (Rows.diffGroupsSpec.pre6 enc Try.prog Try.f5 Rows.diffGroupsRow.domain false) (Rows.diffGroupsSpec.post enc Try.prog Try.f5 false true false false) := by
  refine returnsInHanded_of_change (C := Try.checked) own started (by kernel_rfl) Try.func5
    (ChangeSpec.witness6 (enc := enc) (C := Try.checked) false ⟨#[], #[.slice none 0 0], []⟩ 8 (by kernel_rfl) (by kernel_rfl) (by kernel_rfl) (by kernel_rfl)) ?_
  intro W base args ds gs before hval0 hW _ _
  have hval : ∀ (j : Nat) t v, Try.f5.params[j]? = some t → args[j]? = some v → Value.okWide Try.prog W .any base t v := hval0
  have hW' := hW
  obtain ⟨p, q, hA0, hV, rfl, _, _⟩ := hW
  have hA : DataW.TrodAll enc Try.prog W 0 (fun _ => true) true Try.f5.params.toList args.toList ds p := hA0
  rw [Try.params5] at hA hval
  obtain ⟨v0, vs0, d0, ds0, p0, q0, hargs, rfl, rfl, h0, r0⟩ := trodAll_cons hA
  obtain ⟨rfl, rfl, rfl⟩ := trodAll_nil r0
  obtain rfl : args = #[v0] := by cases args; simp_all
  obtain ⟨rfl, rfl⟩ := trodVars_none hV
  obtain ⟨A, n, c, rfl⟩ := okWide_slice Try.underlying23 (hval 0 23 v0 rfl rfl)
  obtain ⟨l, rfl, hr, _, hc⟩ := open_elems EditD.cells (fun _ => True) Try.underlying23 (by kernel_rfl) (by decide) h0 (fun _ => rfl) open_el
  refine (Go.Proofs.YtomalamdnnnggaaG.groups5 l A c W hr hc).out.mono fun e W' ⟨he, hb⟩ => ?_
  subst he
  exact ⟨_, rfl, post_of_below (tb := 4) (by kernel_rfl) (by kernel_rfl) Try.underlying4 (by kernel_rfl) rfl rfl hW' hb⟩

theorem holds : Rows.DiffGroupsSaid :=
  OpenClaim.holds_of_wide 5 Try.f5 rfl rfl rfl rfl rfl rfl rfl ⟨rfl, rfl, rfl, rfl, rfl⟩ rfl rfl rfl rfl rfl (by kernel_rfl) Try.func5 (by kernel_rfl)
    (of_decide_eq_true (by kernel_rfl)) (by unfold Func.isWrapper; first | (rw [if_pos (by decide +kernel)]; kernel_rfl) | (rw [if_neg (by decide +kernel)]; exact ⟨rfl, rfl⟩))
    (fun os started H enc _ => lifted os started H enc)

#print axioms holds
end Go.Proofs.Ytomalamdnnnggaa.groups
