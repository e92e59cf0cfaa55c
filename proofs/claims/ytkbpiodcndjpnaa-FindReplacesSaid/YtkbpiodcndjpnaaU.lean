/- Seat 36: FindReplaces holds: the edits that replace all that any pattern finds can be done, and make the document's text. For every input. -/
import Derived.Test.YtkbpiodcndjpnaaT
import Derived.Test.YtkbpiodcndjpnaaR
import Derived.Test.YtkbpiodcndjpnaaRows
import Derived.JoinedOf
import Derived.JoinedAt
namespace Go.Proofs.Ytkbpiodcndjpnaa.replaces
open Go Go.ChangeShapes Go.WideShapes Go.ChangeAt Go.RowKit Go.Deep
open Go.Proofs.YtkbpiodcndjpnaaG (post_of_below)

theorem own : ownKnob Try.prog.godebug = none := by kernel_rfl
theorem open_text {H : Type} {enc : TypeId × Value → H} {w : World} {b0 base : Nat} {spare : Nat → Bool} {held : Bool} {r : Reach} {v : Value} {d : DataW H} {p : List MemPlace} (hv : Value.okWide Try.prog w r b0 9 v) (h : DataW.Trod enc Try.prog w base spare held 9 v d p) : ∃ s : ByteArray, v = .string s ∧ s.size ≤ 9223372036854775807 := by
  obtain ⟨s, rfl⟩ := okWide_string (by kernel_rfl) hv
  obtain ⟨fuel, hn⟩ := h
  obtain ⟨a, e, _, w5⟩ := DataW.trod_string (cs := [Value.string s]) (by kernel_rfl) hn
  have e : s = a := by simpa using e
  subst e
  exact ⟨s, rfl, by simpa [maxLen] using w5⟩
set_option maxRecDepth 100000 in
theorem lifted (os : Os) (started : os.Started) (H : Type) (enc : TypeId × Value → H) :
    ReturnsInHanded {} Try.checked os 5 .any (Rows.findReplacesSpec.pre6 enc Try.prog Try.f5 Rows.findReplacesRow.domain false) (Rows.findReplacesSpec.post enc Try.prog Try.f5 false true false false) := by
  refine returnsInHanded_of_change (C := Try.checked) own started (by kernel_rfl) Try.func5
    (ChangeSpec.witness6 (enc := enc) (C := Try.checked) false ⟨#[], #[.string .empty, .string .empty, .string .empty], []⟩ 8 (by kernel_rfl) (by kernel_rfl) (by kernel_rfl) (by kernel_rfl)) ?_
  intro W base args ds gs before hval0 hW _ _
  have hval : ∀ (j : Nat) t v, Try.f5.params[j]? = some t → args[j]? = some v → Value.okWide Try.prog W .any base t v := hval0
  have hW' := hW
  obtain ⟨p, q, hA0, hV, rfl, _, _⟩ := hW
  have hA : DataW.TrodAll enc Try.prog W 0 (fun _ => true) true Try.f5.params.toList args.toList ds p := hA0
  rw [Try.params5] at hA hval
  obtain ⟨v0, vs0, d0, ds0, p0, q0, hargs, rfl, rfl, h0, r0⟩ := trodAll_cons hA
  obtain ⟨v1, vs1, d1, ds1, p1, q1, rfl, rfl, rfl, h1, r1⟩ := trodAll_cons r0
  obtain ⟨v2, vs2, d2, ds2, p2, q2, rfl, rfl, rfl, h2, r2⟩ := trodAll_cons r1
  obtain ⟨rfl, rfl, rfl⟩ := trodAll_nil r2
  obtain rfl : args = #[v0, v1, v2] := by cases args; simp_all
  obtain ⟨rfl, rfl⟩ := trodVars_none hV
  obtain ⟨a, rfl, ha⟩ := open_text (hval 0 9 v0 rfl rfl) h0
  obtain ⟨b, rfl, hb⟩ := open_text (hval 1 9 v1 rfl rfl) h1
  obtain ⟨c, rfl, hc⟩ := open_text (hval 2 9 v2 rfl rfl) h2
  refine ((Go.Proofs.YtkbpiodcndjpnaaG.replaces5 a b c ha hb hc).out W).mono fun e W' ⟨he, hb⟩ => ?_
  subst he
  exact ⟨_, rfl, post_of_below (tb := 4) (by kernel_rfl) (by kernel_rfl) Try.underlying4 (by kernel_rfl) rfl rfl hW' hb⟩

theorem holds : Rows.FindReplacesSaid :=
  OpenClaim.holds_of_wide 5 Try.f5 rfl rfl rfl rfl rfl rfl rfl ⟨rfl, rfl, rfl, rfl, rfl⟩ rfl rfl rfl rfl rfl (by kernel_rfl) Try.func5 (by kernel_rfl)
    (of_decide_eq_true (by kernel_rfl)) (by unfold Func.isWrapper; first | (rw [if_pos (by decide +kernel)]; kernel_rfl) | (rw [if_neg (by decide +kernel)]; exact ⟨rfl, rfl⟩))
    (fun os started H enc _ => lifted os started H enc)

#print axioms holds
end Go.Proofs.Ytkbpiodcndjpnaa.replaces
