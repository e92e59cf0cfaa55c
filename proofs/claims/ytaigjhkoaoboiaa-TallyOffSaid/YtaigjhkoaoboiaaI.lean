/- Seat 19: TallyOff holds: however often a transaction is undone and done again, it's off just as often as more of them are undone, and its element counts just then when it isn't off. For every input. -/
import Derived.Test.YtaigjhkoaoboiaaH
import Derived.Test.YtaigjhkoaoboiaaR
import Derived.Test.YtaigjhkoaoboiaaRows
import Derived.JoinedOf
import Derived.JoinedAt
namespace Go.Proofs.Ytaigjhkoaoboiaa.off
open Go Go.ChangeShapes Go.WideShapes Go.ChangeAt Go.RowKit Go.Deep
open Go.Proofs.YtaigjhkoaoboiaaG (open_elems post_of_below)

theorem own : ownKnob Try.prog.godebug = none := by kernel_rfl
theorem open_b {H : Type} {enc : TypeId × Value → H} {w : World} {base : Nat} {spare : Nat → Bool} {held : Bool} (fuel : Nat) (cs : List Value) (x : DataW H × List MemPlace) (hl : cs.length = 1) (hn : DataW.trod enc Try.prog w base spare held fuel 4 cs = some x) :
    ∃ o : Bool, [Value.bool o] = cs ∧ True := by
  obtain ⟨b, h1, _⟩ := DataW.trod_bool Try.underlying4 hn
  exact ⟨b, h1.symm, trivial⟩
theorem flat_map (l : List Bool) : l.flatMap (fun b => [Value.bool b]) = l.map Value.bool := by
  induction l with
  | nil => rfl
  | cons a l ih => simp [ih]

set_option maxRecDepth 100000 in
theorem lifted (os : Os) (started : os.Started) (H : Type) (enc : TypeId × Value → H) :
    ReturnsInHanded {} Try.checked os 3 .any (Rows.tallyOffSpec.pre6 enc Try.prog Try.f3 Rows.tallyOffRow.domain false) (Rows.tallyOffSpec.post enc Try.prog Try.f3 false true false false) := by
  refine returnsInHanded_of_change (C := Try.checked) own started (by kernel_rfl) Try.func3
    (ChangeSpec.witness6 (enc := enc) (C := Try.checked) false ⟨#[], #[.slice none 0 0], []⟩ 8 (by kernel_rfl) (by kernel_rfl) (by kernel_rfl) (by kernel_rfl)) ?_
  intro W base args ds gs before hval0 hW _ _
  have hval : ∀ (j : Nat) t v, Try.f3.params[j]? = some t → args[j]? = some v → Value.okWide Try.prog W .any base t v := hval0
  have hW' := hW
  obtain ⟨p, q, hA0, hV, rfl, _, _⟩ := hW
  have hA : DataW.TrodAll enc Try.prog W 0 (fun _ => true) true Try.f3.params.toList args.toList ds p := hA0
  rw [Try.params3] at hA hval
  obtain ⟨v0, vs0, d0, ds0, p0, q0, hargs, rfl, rfl, h0, r0⟩ := trodAll_cons hA
  obtain ⟨rfl, rfl, rfl⟩ := trodAll_nil r0
  obtain rfl : args = #[v0] := by cases args; simp_all
  obtain ⟨rfl, rfl⟩ := trodVars_none hV
  obtain ⟨A, n, c, rfl⟩ := okWide_slice Try.underlying22 (hval 0 22 v0 rfl rfl)
  obtain ⟨l, rfl, hr, _, hc⟩ := open_elems (fun b : Bool => [Value.bool b]) (fun _ => True) Try.underlying22 (by kernel_rfl) (by decide) h0 (fun _ => rfl) open_b
  rw [flat_map] at hr
  refine (Go.Proofs.YtaigjhkoaoboiaaG.off3 l A c W hr).out.mono fun e W' ⟨he, hb⟩ => ?_
  subst he
  exact ⟨_, rfl, post_of_below (tb := 4) (by kernel_rfl) (by kernel_rfl) Try.underlying4 (by kernel_rfl) rfl rfl hW' hb⟩

theorem holds : Rows.TallyOffSaid :=
  OpenClaim.holds_of_wide 3 Try.f3 rfl rfl rfl rfl rfl rfl rfl ⟨rfl, rfl, rfl, rfl, rfl⟩ rfl rfl rfl rfl rfl (by kernel_rfl) Try.func3 (by kernel_rfl)
    (of_decide_eq_true (by kernel_rfl)) (by unfold Func.isWrapper; first | (rw [if_pos (by decide +kernel)]; kernel_rfl) | (rw [if_neg (by decide +kernel)]; exact ⟨rfl, rfl⟩))
    (fun os started H enc _ => lifted os started H enc)

#print axioms holds
end Go.Proofs.Ytaigjhkoaoboiaa.off
