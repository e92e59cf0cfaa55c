/- Seat 19: what a tally tells is what the list of what was done tells: the count; what may be done. -/
import Derived.Test.YtaigjhkoaoboiaaS
namespace Go.Proofs.YtaigjhkoaoboiaaG
open Go Go.RowKit
set_option maxRecDepth 10000
set_option maxHeartbeats 1000000
set_option linter.unusedVariables false
set_option linter.unusedSimpArgs false

theorem doE_zero {l : List DD} {d : DD} (h : doE l d = 0) : (d.kind = 3 → hasL l d.e = false ∧ 0 < knownL l d.t) ∧ (d.kind = 4 ∨ d.kind = 5 → hasL l d.e = true ∧ 0 < knownL l d.t) ∧ (d.kind = 6 ∨ d.kind = 7 → knownL l d.t = 1) := by
  unfold doE at h
  refine ⟨fun h3 => ?_, fun h45 => ?_, fun h67 => ?_⟩
  · rw [if_neg (by omega), if_pos h3] at h
    cases hh : hasL l d.e with
    | true => rw [hh] at h; simp at h
    | false =>
      rw [hh] at h
      by_cases hk : 0 < knownL l d.t
      · exact ⟨rfl, hk⟩
      · simp [hk] at h
  · rw [if_neg (by omega), if_neg (by omega), if_pos h45] at h
    cases hh : hasL l d.e with
    | false => rw [hh] at h; simp at h
    | true =>
      rw [hh] at h
      by_cases hk : 0 < knownL l d.t
      · exact ⟨rfl, hk⟩
      · simp [hk] at h
  · rw [if_neg (by omega), if_neg (by omega), if_neg (by omega), if_pos h67] at h
    by_cases hk : knownL l d.t = 1
    · exact hk
    · simp [hk] at h
theorem OkL.snoc {l : List DD} (h : OkL l) {d : DD} (hi : isOp d) (h0 : doE l d = 0) : OkL (l ++ [d]) := by
  obtain ⟨z3, z45, z67⟩ := doE_zero h0
  unfold isOp at hi
  have hkn : 3 ≤ d.kind → knownL l d.t ≠ 0 := fun h3 => by
    by_cases k3 : d.kind = 3
    · have := (z3 k3).2; omega
    · by_cases k45 : d.kind = 4 ∨ d.kind = 5
      · have := (z45 k45).2; omega
      · have := z67 (by omega); omega
  refine ⟨fun x hx => ?_, fun x hx h3 => ?_, fun x hx h4 => ?_, fun e => ?_⟩
  · rcases List.mem_append.1 hx with hx | hx
    · exact h.kd x hx
    · have : x = d := by simpa using hx
      rw [this]; exact hi
  · rcases List.mem_append.1 hx with hx | hx
    · rw [known_snoc_some d (h.kn x hx h3)]; exact h.kn x hx h3
    · have : x = d := by simpa using hx
      subst this
      rw [known_snoc_some x (hkn h3)]; exact hkn h3
  · unfold hasL
    rw [List.any_append]
    rcases List.mem_append.1 hx with hx | hx
    · have := h.le x hx h4
      unfold hasL at this
      rw [this]; rfl
    · have : x = d := by simpa using hx
      subst this
      have := (z45 (.inl h4)).1
      unfold hasL at this
      rw [this]; rfl
  · rw [List.filter_append]
    cases hm : isMk e d with
    | false =>
      have := h.un e
      simpa [List.filter_cons, hm] using this
    | true =>
      have hm' := hm
      unfold isMk at hm'
      simp only [Bool.and_eq_true, beq_iff_eq] at hm'
      have hf := (z3 hm'.1).1
      rw [hm'.2] at hf
      have : l.filter (isMk e) = [] := by
        rw [List.filter_eq_nil_iff]
        intro x hx hxx
        unfold hasL at hf
        rw [List.any_eq_false] at hf
        exact hf x hx hxx
      rw [this]
      simp [List.filter_cons, hm]
theorem OkL.out {l : List DD} (h : OkL l) (o : DD) : OkL (outO l o) := by
  unfold outO
  split
  · rename_i hi
    unfold nextL
    split
    · rename_i h0
      exact h.snoc (d := dOf o) hi h0
    · exact h
  · exact h
theorem outO_len (l : List DD) (o : DD) : (outO l o).length ≤ l.length + 1 := by
  unfold outO nextL
  split
  · split <;> simp
  · simp
def notOff (l : List DD) (d : DD) : Bool := !decide (0 < offN l d.t)
theorem cnt_split (l : List DD) (e : K2) : ∀ m : List DD, cntN l m e = (((m.filter (isMk e)).filter (notOff l)).length : Int) - (((m.filter (isLt e)).filter (notOff l)).length : Int)
  | [] => rfl
  | d :: m => by
    have ih := cnt_split l e m
    have hc : cntN l (d :: m) e = stepC l e d + cntN l m e := by unfold cntN; rw [List.map_cons, List.sum_cons]
    rw [hc, ih]
    unfold stepC
    cases he : (d.e == e) with
    | false =>
      have e1 : isMk e d = false := by unfold isMk; rw [he, Bool.and_false]
      have e2 : isLt e d = false := by unfold isLt; rw [he, Bool.and_false]
      rw [if_neg (by decide), List.filter_cons_of_neg (p := isMk e) (by rw [e1]; decide), List.filter_cons_of_neg (p := isLt e) (by rw [e2]; decide)]
      omega
    | true =>
      rw [if_pos rfl]
      by_cases h3 : d.kind = 3
      · have e1 : isMk e d = true := by unfold isMk; rw [he]; simp [h3]
        have e2 : isLt e d = false := by unfold isLt; simp [h3]
        rw [List.filter_cons_of_pos e1, List.filter_cons_of_neg (p := isLt e) (by rw [e2]; decide)]
        by_cases ho : 0 < offN l d.t
        · have e3 : notOff l d = false := by unfold notOff; rw [decide_eq_true ho]; rfl
          rw [if_pos ho, List.filter_cons_of_neg (p := notOff l) (by rw [e3]; decide)]
          omega
        · have e3 : notOff l d = true := by unfold notOff; rw [decide_eq_false ho]; rfl
          rw [if_neg ho, if_pos h3, List.filter_cons_of_pos e3, List.length_cons]
          omega
      · have e1 : isMk e d = false := by unfold isMk; simp [h3]
        rw [List.filter_cons_of_neg (p := isMk e) (by rw [e1]; decide)]
        by_cases h4 : d.kind = 4
        · have e2 : isLt e d = true := by unfold isLt; rw [he]; simp [h4]
          rw [List.filter_cons_of_pos e2]
          by_cases ho : 0 < offN l d.t
          · have e3 : notOff l d = false := by unfold notOff; rw [decide_eq_true ho]; rfl
            rw [if_pos ho, List.filter_cons_of_neg (p := notOff l) (by rw [e3]; decide)]
            omega
          · have e3 : notOff l d = true := by unfold notOff; rw [decide_eq_false ho]; rfl
            rw [if_neg ho, if_neg h3, if_pos h4, List.filter_cons_of_pos e3, List.length_cons]
            omega
        · have e2 : isLt e d = false := by unfold isLt; simp [h4]
          rw [List.filter_cons_of_neg (p := isLt e) (by rw [e2]; decide)]
          by_cases ho : 0 < offN l d.t
          · rw [if_pos ho]; omega
          · rw [if_neg ho, if_neg h3, if_neg h4]; omega
theorem filter_find {α : Type} {p : α → Bool} : ∀ {l : List α} {d : α}, l.find? p = some d → (l.filter p).length ≤ 1 → l.filter p = [d]
  | [], d, h, _ => by simp at h
  | a :: l, d, h, hl => by
    rw [List.find?_cons] at h
    cases ha : p a with
    | true =>
      rw [ha] at h
      have : a = d := by simpa using h
      subst this
      rw [List.filter_cons_of_pos ha] at hl ⊢
      rw [List.length_cons] at hl
      rw [List.length_eq_zero_iff.1 (by omega : (l.filter p).length = 0)]
    | false =>
      rw [ha] at h
      rw [List.filter_cons_of_neg (by rw [ha]; decide)] at hl ⊢
      exact filter_find h hl
theorem count_dmOf {l : List DD} (h : OkL l) (e : K2) : countD (dmOf l) (lmOf l) e = cntN l l e := by
  rw [cnt_split]
  unfold countD lmOf
  cases hf : l.find? (isMk e) with
  | none =>
    have hh : hasL l e = false := by
      have := any_find (isMk e) l
      rw [hf] at this
      exact this.symm
    have e1 : l.filter (isMk e) = [] := by
      rw [List.filter_eq_nil_iff]
      exact List.find?_eq_none.1 hf
    rw [e1, h.lets_nil hh]
    rfl
  | some d =>
    rw [filter_find hf (h.un e)]
    simp only [Option.map_some]
    have e2 : onN (dmOf l) ((l.filter (isLt e)).map DD.t) = (((l.filter (isLt e)).filter (notOff l)).length : Int) := by
      unfold onN
      rw [List.filter_map, List.length_map]
      have : ((fun t => !offD (dmOf l) t) ∘ DD.t) = notOff l := by
        funext x
        simp only [Function.comp, offD_dmOf h, notOff]
      rw [this]
    rw [e2, offD_dmOf h]
    by_cases ho : 0 < offN l d.t
    · have e3 : notOff l d = false := by unfold notOff; rw [decide_eq_true ho]; rfl
      rw [decide_eq_true ho, if_pos rfl, List.filter_cons_of_neg (p := notOff l) (by rw [e3]; decide)]
      rfl
    · have e3 : notOff l d = true := by unfold notOff; rw [decide_eq_false ho]; rfl
      rw [decide_eq_false ho, if_neg (by decide), List.filter_cons_of_pos e3]
      rfl
end Go.Proofs.YtaigjhkoaoboiaaG
