/- The law RunAtoms of seat 15 holds for every input: a run and an element. No condition. -/
import Derived.Test.YtbbohojekmmggaaK
import Derived.Test.YtbbohojekmmggaaR
import Derived.Test.YtbbohojekmmggaaRows
import Derived.JoinedOf
import Derived.JoinedAt
namespace Go.Proofs.Ytbbohojekmmggaa.atoms
open Go Go.ChangeShapes Go.WideShapes Go.ChangeAt Go.RowKit Go.Deep
open Go.Proofs.YtbbohojekmmggaaG (RunD list2 list7 field_of int_in post_of_below)

theorem own : ownKnob Try.prog.godebug = none := by kernel_rfl
/-- A run, out of an argument. -/
theorem open_run {H : Type} {enc : TypeId × Value → H} {w : World} {base b0 : Nat} {spare : Nat → Bool} {held : Bool} {r : Reach} {v : Value} {d : DataW H} {p : List MemPlace} (hv : Value.okWide Try.prog w r b0 30 v) (h : DataW.Trod enc Try.prog w base spare held 30 v d p) :
    ∃ x : RunD, v = x.v ∧ x.WF := by
  obtain ⟨⟨l⟩, rfl, hl⟩ := okWide_struct Try.underlying30 hv
  obtain ⟨c0, c1, c2, c3, c4, c5, c6, rfl⟩ := list7 (l := l) (hl.trans (by kernel_rfl))
  obtain ⟨n, hn⟩ := h
  obtain ⟨_, _, h0⟩ := field_of (i := 0) (cs' := [c0, c1, c2]) Try.underlying30 hn 3 rfl (by kernel_rfl) rfl
  obtain ⟨_, _, h1⟩ := field_of (i := 1) (cs' := [c3, c4]) Try.underlying30 hn 2 rfl (by kernel_rfl) rfl
  obtain ⟨_, _, h5⟩ := field_of (i := 2) (cs' := [c5]) Try.underlying30 hn 1 rfl (by kernel_rfl) rfl
  obtain ⟨_, _, h6⟩ := field_of (i := 3) (cs' := [c6]) Try.underlying30 hn 1 rfl (by kernel_rfl) rfl
  obtain ⟨_, _, h00⟩ := field_of (i := 0) (cs' := [c0]) Try.underlying26 h0 1 rfl (by kernel_rfl) rfl
  obtain ⟨_, _, h10⟩ := field_of (i := 1) (cs' := [c1]) Try.underlying26 h0 1 rfl (by kernel_rfl) rfl
  obtain ⟨_, _, h11⟩ := field_of (i := 2) (cs' := [c2]) Try.underlying26 h0 1 rfl (by kernel_rfl) rfl
  obtain ⟨_, _, h20⟩ := field_of (i := 0) (cs' := [c3]) Try.underlying28 h1 1 rfl (by kernel_rfl) rfl
  obtain ⟨_, _, h21⟩ := field_of (i := 1) (cs' := [c4]) Try.underlying28 h1 1 rfl (by kernel_rfl) rfl
  obtain ⟨a0, e0, _, w0⟩ := DataW.trod_int (k := .u64) (by kernel_rfl) h00
  obtain ⟨a1, e1, _, w1⟩ := DataW.trod_int (k := .u16) (by kernel_rfl) h10
  obtain ⟨a2, e2, _, w2⟩ := DataW.trod_int (k := .u32) (by kernel_rfl) h11
  obtain ⟨a3, e3, _, w3⟩ := DataW.trod_int (k := .u16) (by kernel_rfl) h20
  obtain ⟨a4, e4, _, w4⟩ := DataW.trod_int (k := .u32) (by kernel_rfl) h21
  obtain ⟨a5, e5, _, w5⟩ := DataW.trod_string (by kernel_rfl) h5
  obtain ⟨a6, e6, _⟩ := DataW.trod_bool (by kernel_rfl) h6
  simp only [List.cons.injEq, and_true] at e0 e1 e2 e3 e4 e5 e6
  subst e0 e1 e2 e3 e4 e5 e6
  exact ⟨⟨a0, a1, a2, a3, a4, a5, a6⟩, rfl, int_in w0, int_in w1, int_in w2, int_in w3, int_in w4, by simpa [maxLen] using w5⟩

/-- An element's name, out of an argument. -/
theorem open_id {H : Type} {enc : TypeId × Value → H} {w : World} {base b0 : Nat} {spare : Nat → Bool} {held : Bool} {r : Reach} {v : Value} {d : DataW H} {p : List MemPlace} (hv : Value.okWide Try.prog w r b0 28 v) (h : DataW.Trod enc Try.prog w base spare held 28 v d p) :
    ∃ a b : Int, v = .agg #[.int .u16 a, .int .u32 b] ∧ 0 ≤ b ∧ b ≤ 4294967295 := by
  obtain ⟨⟨l⟩, rfl, hl⟩ := okWide_struct Try.underlying28 hv
  obtain ⟨c0, c1, rfl⟩ := list2 (l := l) (hl.trans (by kernel_rfl))
  obtain ⟨n, hn⟩ := h
  obtain ⟨_, _, h0⟩ := field_of (i := 0) (cs' := [c0]) Try.underlying28 hn 1 rfl (by kernel_rfl) rfl
  obtain ⟨_, _, h1⟩ := field_of (i := 1) (cs' := [c1]) Try.underlying28 hn 1 rfl (by kernel_rfl) rfl
  obtain ⟨a0, e0, _, w0⟩ := DataW.trod_int (k := .u16) (by kernel_rfl) h0
  obtain ⟨a1, e1, _, w1⟩ := DataW.trod_int (k := .u32) (by kernel_rfl) h1
  simp only [List.cons.injEq, and_true] at e0 e1
  subst e0 e1
  exact ⟨a0, a1, rfl, int_in w1⟩

set_option maxRecDepth 100000 in
theorem lifted (os : Os) (started : os.Started) (H : Type) (enc : TypeId × Value → H) :
    ReturnsInHanded {} Try.checked os 4 .any (Rows.runAtomsSpec.pre6 enc Try.prog Try.f4 Rows.runAtomsRow.domain false) (Rows.runAtomsSpec.post enc Try.prog Try.f4 false true false false) := by
  refine returnsInHanded_of_change (C := Try.checked) own started (by kernel_rfl) Try.func4
    (ChangeSpec.witness6 (enc := enc) (C := Try.checked) false ⟨#[], #[.agg #[.int .u64 0, .int .u16 0, .int .u32 0, .int .u16 0, .int .u32 0, .string .empty, .bool false], .agg #[.int .u16 0, .int .u32 0]], []⟩ 8 (by kernel_rfl) (by kernel_rfl) (by kernel_rfl) (by kernel_rfl)) ?_
  intro W base args ds gs before hval0 hW _ _
  have hval : ∀ (j : Nat) t v, Try.f4.params[j]? = some t → args[j]? = some v → Value.okWide Try.prog W .any base t v := hval0
  have hW' := hW
  obtain ⟨p, q, hA0, hV, rfl, _, _⟩ := hW
  have hA : DataW.TrodAll enc Try.prog W 0 (fun _ => true) true Try.f4.params.toList args.toList ds p := hA0
  rw [Try.params4] at hA hval
  obtain ⟨v0, vs0, d0, ds0, p0, q0, hargs, rfl, rfl, h0, r0⟩ := trodAll_cons hA
  obtain ⟨v1, vs1, d1, ds1, p1, q1, rfl, rfl, rfl, h1, r1⟩ := trodAll_cons r0
  obtain ⟨rfl, rfl, rfl⟩ := trodAll_nil r1
  obtain rfl : args = #[v0, v1] := by cases args; simp_all
  obtain ⟨rfl, rfl⟩ := trodVars_none hV
  obtain ⟨x, rfl, hx⟩ := open_run (hval 0 30 v0 rfl rfl) h0
  obtain ⟨a, b, rfl, hb⟩ := open_id (hval 1 28 v1 rfl rfl) h1
  refine ((Go.Proofs.YtbbohojekmmggaaG.atoms_law x a b hx hb).out W).mono fun e W' ⟨he, hb⟩ => ?_
  subst he
  exact ⟨_, rfl, post_of_below (tb := 4) (by kernel_rfl) (by kernel_rfl) Try.underlying4 (by kernel_rfl) rfl rfl hW' hb⟩

theorem holds : Rows.RunAtomsSaid :=
  OpenClaim.holds_of_wide 4 Try.f4 rfl rfl rfl rfl rfl rfl rfl ⟨rfl, rfl, rfl, rfl, rfl⟩ rfl rfl rfl rfl rfl (by kernel_rfl) Try.func4 (by kernel_rfl)
    (of_decide_eq_true (by kernel_rfl)) (by unfold Func.isWrapper; first | (rw [if_pos (by decide +kernel)]; kernel_rfl) | (rw [if_neg (by decide +kernel)]; exact ⟨rfl, rfl⟩))
    (fun os started H enc _ => lifted os started H enc)

#print axioms holds
end Go.Proofs.Ytbbohojekmmggaa.atoms
