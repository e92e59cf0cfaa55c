/- The law StackBack of seat 21 holds for every input: what users do, and two users. No condition. -/
import Derived.Test.YtdebmfbdgnfojaaG
import Derived.Test.YtdebmfbdgnfojaaR
import Derived.Test.YtdebmfbdgnfojaaRows
import Derived.JoinedOf
import Derived.JoinedAt
import Derived.Lib.SmallJoins
namespace Go.Proofs.Ytdebmfbdgnfojaa.back
open Go Go.ChangeShapes Go.WideShapes Go.ChangeAt Go.RowKit Go.Deep
open Go.Proofs.YtdebmfbdgnfojaaG (OpD flatO open_elems field_of list5 post_of_below)

theorem own : ownKnob Try.prog.godebug = none := by kernel_rfl
/-- What is done, out of an argument's element. -/
theorem open_op {H : Type} {enc : TypeId × Value → H} {w : World} {base : Nat} {spare : Nat → Bool} {held : Bool} (fuel : Nat) (cs : List Value) (x : DataW H × List MemPlace) (hl : cs.length = 5) (hn : DataW.trod enc Try.prog w base spare held fuel 32 cs = some x) :
    ∃ o : OpD, o.cells = cs ∧ True := by
  obtain ⟨c0, c1, c2, c3, c4, rfl⟩ := list5 hl
  obtain ⟨_, _, h0⟩ := field_of (i := 0) (cs' := [c0]) Try.underlying32 hn 1 rfl (by kernel_rfl) rfl
  obtain ⟨_, _, h1⟩ := field_of (i := 1) (cs' := [c1]) Try.underlying32 hn 1 rfl (by kernel_rfl) rfl
  obtain ⟨_, _, h2⟩ := field_of (i := 2) (cs' := [c2]) Try.underlying32 hn 1 rfl (by kernel_rfl) rfl
  obtain ⟨_, _, h3⟩ := field_of (i := 3) (cs' := [c3]) Try.underlying32 hn 1 rfl (by kernel_rfl) rfl
  obtain ⟨_, _, h4⟩ := field_of (i := 4) (cs' := [c4]) Try.underlying32 hn 1 rfl (by kernel_rfl) rfl
  obtain ⟨a0, e0, _, _⟩ := DataW.trod_int (k := .i64) (by kernel_rfl) h0
  obtain ⟨a1, e1, _, _⟩ := DataW.trod_int (k := .i64) (by kernel_rfl) h1
  obtain ⟨a2, e2, _, _⟩ := DataW.trod_int (k := .u32) (by kernel_rfl) h2
  obtain ⟨A3, m3, n3, e3⟩ := Go.Joins.slice_form Try.underlying24 h3
  obtain ⟨A4, m4, n4, e4⟩ := Go.Joins.slice_form Try.underlying24 h4
  simp only [List.cons.injEq, and_true] at e0 e1 e2 e3 e4
  subst e0 e1 e2 e3 e4
  exact ⟨⟨a0, a1, a2, A3, m3, n3, A4, m4, n4⟩, rfl, trivial⟩

set_option maxRecDepth 100000 in
theorem lifted (os : Os) (started : os.Started) (H : Type) (enc : TypeId × Value → H) :
    ReturnsInHanded {} Try.checked os 3 .any (Rows.stackBackSpec.pre6 enc Try.prog Try.f3 Rows.stackBackRow.domain false) (Rows.stackBackSpec.post enc Try.prog Try.f3 false true false false) := by
  refine returnsInHanded_of_change (C := Try.checked) own started (by kernel_rfl) Try.func3
    (ChangeSpec.witness6 (enc := enc) (C := Try.checked) false ⟨#[], #[.slice none 0 0, .int .i64 0, .int .i64 0], []⟩ 8 (by kernel_rfl) (by kernel_rfl) (by kernel_rfl) (by kernel_rfl)) ?_
  intro W base args ds gs before hval0 hW _ _
  have hval : ∀ (j : Nat) t v, Try.f3.params[j]? = some t → args[j]? = some v → Value.okWide Try.prog W .any base t v := hval0
  have hW' := hW
  obtain ⟨p, q, hA0, hV, rfl, _, _⟩ := hW
  have hA : DataW.TrodAll enc Try.prog W 0 (fun _ => true) true Try.f3.params.toList args.toList ds p := hA0
  rw [Try.params3] at hA hval
  obtain ⟨v0, vs0, d0, ds0, p0, q0, hargs, rfl, rfl, h0, r0⟩ := trodAll_cons hA
  obtain ⟨v1, vs1, d1, ds1, p1, q1, rfl, rfl, rfl, h1, r1⟩ := trodAll_cons r0
  obtain ⟨v2, vs2, d2, ds2, p2, q2, rfl, rfl, rfl, h2, r2⟩ := trodAll_cons r1
  obtain ⟨rfl, rfl, rfl⟩ := trodAll_nil r2
  obtain rfl : args = #[v0, v1, v2] := by cases args; simp_all
  obtain ⟨rfl, rfl⟩ := trodVars_none hV
  obtain ⟨A, n, c, rfl⟩ := okWide_slice Try.underlying22 (hval 0 22 v0 rfl rfl)
  obtain ⟨ops, rfl, hr, _, _⟩ := open_elems OpD.cells (fun _ => True) Try.underlying22 (by kernel_rfl) (by decide) h0 (fun _ => rfl) open_op
  obtain ⟨u, rfl, _, _, _⟩ := open_int Try.underlying3 (hval 1 3 v1 rfl rfl) h1
  obtain ⟨m, rfl, _, _, _⟩ := open_int Try.underlying3 (hval 2 3 v2 rfl rfl) h2
  refine (Go.Proofs.YtdebmfbdgnfojaaG.back3 ops A c u m W hr).out.mono fun e W' ⟨he, hb⟩ => ?_
  subst he
  exact ⟨_, rfl, post_of_below (tb := 4) (by kernel_rfl) (by kernel_rfl) Try.underlying4 (by kernel_rfl) rfl rfl hW' hb⟩

theorem holds : Rows.StackBackSaid :=
  OpenClaim.holds_of_wide 3 Try.f3 rfl rfl rfl rfl rfl rfl rfl ⟨rfl, rfl, rfl, rfl, rfl⟩ rfl rfl rfl rfl rfl (by kernel_rfl) Try.func3 (by kernel_rfl)
    (of_decide_eq_true (by kernel_rfl)) (by unfold Func.isWrapper; first | (rw [if_pos (by decide +kernel)]; kernel_rfl) | (rw [if_neg (by decide +kernel)]; exact ⟨rfl, rfl⟩))
    (fun os started H enc _ => lifted os started H enc)

#print axioms holds
end Go.Proofs.Ytdebmfbdgnfojaa.back
