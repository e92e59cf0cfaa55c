/- The law StackPlays of seat 21 holds for every input: what users do, and a user. No condition. -/
import Derived.Test.YtdebmfbdgnfojaaM
import Derived.Test.YtdebmfbdgnfojaaR
import Derived.Test.YtdebmfbdgnfojaaRows
import Derived.JoinedOf
import Derived.JoinedAt
import Derived.Lib.SmallJoins
namespace Go.Proofs.Ytdebmfbdgnfojaa.plays
open Go Go.ChangeShapes Go.WideShapes Go.ChangeAt Go.RowKit Go.Deep
open Go.Proofs.YtdebmfbdgnfojaaG (OpD flatO open_elems field_of list5 post_of_below u32s)

theorem own : ownKnob Try.prog.godebug = none := by kernel_rfl
theorem open_num {H : Type} {enc : TypeId × Value → H} {w : World} {base : Nat} {spare : Nat → Bool} {held : Bool} (fuel : Nat) (cs : List Value) (x : DataW H × List MemPlace) (hl : cs.length = 1) (hn : DataW.trod enc Try.prog w base spare held fuel 30 cs = some x) :
    ∃ o : Int, [Value.int .u32 o] = cs ∧ True := by
  obtain ⟨a, e, _, _⟩ := DataW.trod_int (k := .u32) (by kernel_rfl) hn
  exact ⟨a, e.symm, trivial⟩
theorem flat_u32s (l : List Int) : l.flatMap (fun a => [Value.int .u32 a]) = u32s l := by
  induction l with
  | nil => rfl
  | cons a l ih => simp only [List.flatMap_cons, ih]; rfl
/-- What is done, out of an argument's element; its lists. -/
theorem open_op {H : Type} {enc : TypeId × Value → H} {w : World} {base : Nat} {spare : Nat → Bool} {held : Bool} (fuel : Nat) (cs : List Value) (x : DataW H × List MemPlace) (hl : cs.length = 5) (hn : DataW.trod enc Try.prog w base spare held fuel 32 cs = some x) :
    ∃ o : OpD, o.cells = cs ∧ o.Lists w := by
  obtain ⟨c0, c1, c2, c3, c4, rfl⟩ := list5 hl
  obtain ⟨_, _, h0⟩ := field_of (i := 0) (cs' := [c0]) Try.underlying32 hn 1 rfl (by kernel_rfl) rfl
  obtain ⟨_, _, h1⟩ := field_of (i := 1) (cs' := [c1]) Try.underlying32 hn 1 rfl (by kernel_rfl) rfl
  obtain ⟨_, _, h2⟩ := field_of (i := 2) (cs' := [c2]) Try.underlying32 hn 1 rfl (by kernel_rfl) rfl
  obtain ⟨y3, f3, h3⟩ := field_of (i := 3) (cs' := [c3]) Try.underlying32 hn 1 rfl (by kernel_rfl) rfl
  obtain ⟨y4, f4, h4⟩ := field_of (i := 4) (cs' := [c4]) Try.underlying32 hn 1 rfl (by kernel_rfl) rfl
  obtain ⟨a0, e0, _, _⟩ := DataW.trod_int (k := .i64) (by kernel_rfl) h0
  obtain ⟨a1, e1, _, _⟩ := DataW.trod_int (k := .i64) (by kernel_rfl) h1
  obtain ⟨a2, e2, _, _⟩ := DataW.trod_int (k := .u32) (by kernel_rfl) h2
  obtain ⟨A3, m3, n3, e3⟩ := Go.Joins.slice_form Try.underlying24 h3
  obtain ⟨A4, m4, n4, e4⟩ := Go.Joins.slice_form Try.underlying24 h4
  simp only [List.cons.injEq, and_true] at e0 e1 e2 e3 e4
  subst e0 e1 e2 e3 e4
  obtain ⟨a, ha, hra, _, _⟩ := open_elems (fun a : Int => [Value.int .u32 a]) (fun _ => True) Try.underlying24 (by kernel_rfl) (by decide) (d := y3.1) (p := y3.2) ⟨f3, h3⟩ (fun _ => rfl) open_num
  obtain ⟨b, hb, hrb, _, _⟩ := open_elems (fun a : Int => [Value.int .u32 a]) (fun _ => True) Try.underlying24 (by kernel_rfl) (by decide) (d := y4.1) (p := y4.2) ⟨f4, h4⟩ (fun _ => rfl) open_num
  rw [flat_u32s] at hra hrb
  subst ha hb
  exact ⟨⟨a0, a1, a2, A3, _, n3, A4, _, n4⟩, rfl, a, b, ⟨rfl, hra⟩, ⟨rfl, hrb⟩⟩

set_option maxRecDepth 100000 in
theorem lifted (os : Os) (started : os.Started) (H : Type) (enc : TypeId × Value → H) :
    ReturnsInHanded {} Try.checked os 4 .any (Rows.stackPlaysSpec.pre6 enc Try.prog Try.f4 Rows.stackPlaysRow.domain false) (Rows.stackPlaysSpec.post enc Try.prog Try.f4 false true false false) := by
  refine returnsInHanded_of_change (C := Try.checked) own started (by kernel_rfl) Try.func4
    (ChangeSpec.witness6 (enc := enc) (C := Try.checked) false ⟨#[], #[.slice none 0 0, .int .i64 0], []⟩ 8 (by kernel_rfl) (by kernel_rfl) (by kernel_rfl) (by kernel_rfl)) ?_
  intro W base args ds gs before hval0 hW _ _
  have hval : ∀ (j : Nat) t v, Try.f4.params[j]? = some t → args[j]? = some v → Value.okWide Try.prog W .any base t v := hval0
  have hW' := hW
  obtain ⟨p, q, hA0, hV, rfl, _, _⟩ := hW
  have hA : DataW.TrodAll enc Try.prog W 0 (fun _ => true) true Try.f4.params.toList args.toList ds p := hA0
  rw [Try.params4] at hA hval
  obtain ⟨v0, vs0, d0, ds0, p0, q0, hargs, rfl, rfl, h0, r0⟩ := trodAll_cons hA
  obtain ⟨v1, vs1, d1, ds1, p1, q1, rfl, rfl, rfl, h1, r1⟩ := trodAll_cons r0
  obtain ⟨rfl, rfl, rfl⟩ := trodAll_nil r1
  obtain rfl : args = #[v0, v1] := by cases args; simp_all
  obtain ⟨rfl, rfl⟩ := trodVars_none hV
  obtain ⟨A, n, c, rfl⟩ := okWide_slice Try.underlying22 (hval 0 22 v0 rfl rfl)
  obtain ⟨ops, rfl, hr, hL, _⟩ := open_elems OpD.cells (fun o => o.Lists W) Try.underlying22 (by kernel_rfl) (by decide) h0 (fun _ => rfl) open_op
  obtain ⟨u, rfl, _, _, _⟩ := open_int Try.underlying3 (hval 1 3 v1 rfl rfl) h1
  refine (Go.Proofs.YtdebmfbdgnfojaaG.plays4 ops A c u W hr hL).out.mono fun e W' ⟨he, hb⟩ => ?_
  subst he
  exact ⟨_, rfl, post_of_below (tb := 4) (by kernel_rfl) (by kernel_rfl) Try.underlying4 (by kernel_rfl) rfl rfl hW' hb⟩

theorem holds : Rows.StackPlaysSaid :=
  OpenClaim.holds_of_wide 4 Try.f4 rfl rfl rfl rfl rfl rfl rfl ⟨rfl, rfl, rfl, rfl, rfl⟩ rfl rfl rfl rfl rfl (by kernel_rfl) Try.func4 (by kernel_rfl)
    (of_decide_eq_true (by kernel_rfl)) (by unfold Func.isWrapper; first | (rw [if_pos (by decide +kernel)]; kernel_rfl) | (rw [if_neg (by decide +kernel)]; exact ⟨rfl, rfl⟩))
    (fun os started H enc _ => lifted os started H enc)

#print axioms holds
end Go.Proofs.Ytdebmfbdgnfojaa.plays
