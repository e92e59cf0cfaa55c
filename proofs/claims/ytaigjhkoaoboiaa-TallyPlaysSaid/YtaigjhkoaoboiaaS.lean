/- Seat 19: what a tally tells is what the list of what was done tells. -/
import Derived.Test.YtaigjhkoaoboiaaO
namespace Go.Proofs.YtaigjhkoaoboiaaG
open Go Go.RowKit
set_option maxRecDepth 10000
set_option maxHeartbeats 1000000
set_option linter.unusedVariables false
set_option linter.unusedSimpArgs false

def dmOf (l : List DD) : MO DeedD := fun t => if knownL l t = 0 then none else some ⟨offN l t, touchedL l t, knownL l t == 2⟩
def isLt (e : K2) (d : DD) : Bool := d.kind == 4 && d.e == e
def lmOf (l : List DD) : MO LifeD := fun e => (l.find? (isMk e)).map fun d => ⟨d.t, (l.filter (isLt e)).map DD.t⟩
structure OkL (l : List DD) : Prop where
  kd : ∀ d ∈ l, 1 ≤ d.kind ∧ d.kind ≤ 7
  kn : ∀ d ∈ l, 3 ≤ d.kind → knownL l d.t ≠ 0
  le : ∀ d ∈ l, d.kind = 4 → hasL l d.e = true
  un : ∀ e, (l.filter (isMk e)).length ≤ 1
theorem ok_nil : OkL [] := ⟨fun d h => by simp at h, fun d h => by simp at h, fun d h => by simp at h, fun e => by simp⟩
theorem OkL.known_le {l : List DD} (h : OkL l) (t : K2) : 0 ≤ knownL l t ∧ knownL l t ≤ 2 := by
  unfold knownL
  cases hf : l.find? (isKn t) with
  | none => simp
  | some d =>
    have h1 := h.kd d (List.mem_of_find?_eq_some hf)
    have h2 := List.find?_some hf
    simp only [isKn, Bool.and_eq_true, decide_eq_true_eq] at h2
    dsimp only
    omega
theorem OkL.known_none {l : List DD} (h : OkL l) {t : K2} (hk : knownL l t = 0) : l.find? (isKn t) = none := by
  unfold knownL at hk
  cases hf : l.find? (isKn t) with
  | none => rfl
  | some d =>
    rw [hf] at hk
    have h1 := h.kd d (List.mem_of_find?_eq_some hf)
    dsimp only at hk
    omega
theorem known_snoc_some {l : List DD} (d : DD) {t : K2} (hk : knownL l t ≠ 0) : knownL (l ++ [d]) t = knownL l t := by
  unfold knownL at hk ⊢
  rw [List.find?_append]
  cases hf : l.find? (isKn t) with
  | none => rw [hf] at hk; exact absurd rfl hk
  | some x => rfl
theorem known_snoc_not {l : List DD} {d : DD} {t : K2} (hd : isKn t d = false) : knownL (l ++ [d]) t = knownL l t := by
  unfold knownL
  rw [List.find?_append]
  cases hf : l.find? (isKn t) with
  | none => simp [List.find?_cons, hd]
  | some x => rfl
theorem known_snoc_new {l : List DD} (h : OkL l) {d : DD} {t : K2} (hk : knownL l t = 0) (hd : isKn t d = true) : knownL (l ++ [d]) t = d.kind := by
  have hf := h.known_none hk
  unfold knownL
  rw [List.find?_append, hf]
  simp [List.find?_cons, hd]
theorem OkL.quiet {l : List DD} (h : OkL l) {t : K2} (hk : knownL l t = 0) : ∀ d ∈ l, 3 ≤ d.kind → (d.t == t) = false := fun d hd h3 => by
  cases he : (d.t == t) with
  | false => rfl
  | true =>
    have : d.t = t := by simpa using he
    exact absurd (this ▸ hk) (h.kn d hd h3)
theorem sum_zero : ∀ {l : List DD} {f : DD → Int}, (∀ d ∈ l, f d = 0) → (l.map f).sum = 0
  | [], _, _ => rfl
  | d :: l, f, h => by
    rw [List.map_cons, List.sum_cons, h d List.mem_cons_self, sum_zero fun x hx => h x (List.mem_cons_of_mem _ hx)]
    rfl
theorem OkL.off_zero {l : List DD} (h : OkL l) {t : K2} (hk : knownL l t = 0) : offN l t = 0 := by
  refine sum_zero fun d hd => ?_
  unfold stepO
  split
  · rename_i he
    have h3 : ¬ 3 ≤ d.kind := fun h3 => by rw [h.quiet hk d hd h3] at he; cases he
    rw [if_neg (by omega), if_neg (by omega)]
  · rfl
theorem fold_keep (t : K2) : ∀ (l : List DD) (out : List K2), (∀ d ∈ l, isTo t d = false) → l.foldl (stepT t) out = out
  | [], _, _ => rfl
  | d :: l, out, h => by
    rw [List.foldl_cons]
    have : stepT t out d = out := by unfold stepT; rw [if_neg (by rw [h d List.mem_cons_self]; decide)]
    rw [this]
    exact fold_keep t l out fun x hx => h x (List.mem_cons_of_mem _ hx)
theorem OkL.touched_nil {l : List DD} (h : OkL l) {t : K2} (hk : knownL l t = 0) : touchedL l t = [] := by
  refine fold_keep t l [] fun d hd => ?_
  unfold isTo
  by_cases h3 : 3 ≤ d.kind
  · rw [h.quiet hk d hd h3, Bool.false_and]
  · simp [h3]
theorem dmOf_some {l : List DD} {t : K2} (hk : knownL l t ≠ 0) : dmOf l t = some ⟨offN l t, touchedL l t, knownL l t == 2⟩ := by unfold dmOf; rw [if_neg hk]
theorem dmOf_none {l : List DD} {t : K2} (hk : knownL l t = 0) : dmOf l t = none := by unfold dmOf; rw [if_pos hk]
theorem dmOf_isSome {l : List DD} (h : OkL l) (t : K2) : (dmOf l t).isSome = decide (0 < knownL l t) := by
  have := h.known_le t
  by_cases hk : knownL l t = 0
  · rw [dmOf_none hk, hk]; rfl
  · rw [dmOf_some hk, decide_eq_true (by omega)]; rfl
theorem any_find {α : Type} (p : α → Bool) : ∀ l : List α, (l.find? p).isSome = l.any p
  | [] => rfl
  | a :: l => by
    rw [List.find?_cons, List.any_cons]
    cases h : p a with
    | true => rfl
    | false => simpa using any_find p l
theorem lmOf_isSome (l : List DD) (e : K2) : (lmOf l e).isSome = hasL l e := by
  unfold lmOf hasL
  rw [Option.isSome_map, any_find]
theorem openD_dmOf {l : List DD} (h : OkL l) (t : K2) : openD (dmOf l) t = (knownL l t == 1) := by
  have := h.known_le t
  unfold openD
  by_cases hk : knownL l t = 0
  · rw [dmOf_none hk, hk]; rfl
  · rw [dmOf_some hk]
    by_cases h1 : knownL l t = 1
    · rw [h1]; rfl
    · have h2 : knownL l t = 2 := by omega
      rw [h2]; rfl
theorem offD_dmOf {l : List DD} (h : OkL l) (t : K2) : offD (dmOf l) t = decide (0 < offN l t) := by
  unfold offD
  by_cases hk : knownL l t = 0
  · rw [dmOf_none hk, h.off_zero hk]; rfl
  · rw [dmOf_some hk]
theorem gotL_dmOf {l : List DD} (h : OkL l) (t : K2) : gotL (dmOf l) t = wantL l t := by
  have := h.known_le t
  unfold gotL wantL
  by_cases hk : knownL l t = 0
  · rw [dmOf_none hk, hk]; rfl
  · rw [dmOf_some hk]
    by_cases h1 : knownL l t = 1
    · rw [h1]; rfl
    · have h2 : knownL l t = 2 := by omega
      rw [h2]; rfl
theorem opE_dmOf {l : List DD} (h : OkL l) (o : DD) (hi : isOp o) : opE (dmOf l) (lmOf l) o = doE l (dOf o) := by
  have k1 := dmOf_isSome h o.t
  unfold opE doE
  have ek : (dOf o).kind = o.kind := rfl
  have et : (dOf o).t = o.t := rfl
  rw [ek, et]
  by_cases h12 : o.kind = 1 ∨ o.kind = 2
  · rw [if_pos h12, if_pos h12]
    unfold knowE
    rw [k1]
    simp only [decide_eq_true_eq]
  · rw [if_neg h12, if_neg h12]
    by_cases h3 : o.kind = 3
    · have ee : (dOf o).e = o.e := by unfold dOf; dsimp only; rw [if_pos (by omega)]
      rw [if_pos h3, if_pos h3, ee]
      unfold makeE touchE
      rw [lmOf_isSome, k1]
      simp only [decide_eq_true_eq]
    · rw [if_neg h3, if_neg h3]
      by_cases h45 : o.kind = 4 ∨ o.kind = 5
      · have ee : (dOf o).e = o.e := by unfold dOf; dsimp only; rw [if_pos (by omega)]
        rw [if_pos h45, if_pos h45, ee]
        unfold letE touchE
        rw [lmOf_isSome, k1]
        simp only [decide_eq_true_eq]
      · rw [if_neg h45, if_neg h45]
        by_cases h67 : o.kind = 6 ∨ o.kind = 7
        · rw [if_pos h67, if_pos h67]
          unfold turnE
          rw [openD_dmOf h]
          simp only [beq_iff_eq]
        · rw [if_neg h67, if_neg h67]
theorem sync_of {l : List DD} (h : OkL l) (o : DD) : Sync (dmOf l) (lmOf l) l o := ⟨opE_dmOf h o, fun _ => gotL_dmOf h o.t⟩
/-! ### One thing more is done -/
theorem dmOf_snoc_ne {l : List DD} {d : DD} {t : K2} (hne : t ≠ d.t) : dmOf (l ++ [d]) t = dmOf l t := by
  have hb : (d.t == t) = false := beq_eq_false_iff_ne.2 (Ne.symm hne)
  unfold dmOf
  rw [known_snoc_not (by unfold isKn; rw [hb, Bool.false_and]), offN_snoc, touchedL_snoc]
  have e1 : stepO t d = 0 := by unfold stepO; rw [if_neg (by rw [hb]; decide)]
  have e2 : stepT t (touchedL l t) d = touchedL l t := by unfold stepT isTo; rw [if_neg (by rw [hb]; simp)]
  rw [e1, e2, Int.add_zero]
theorem lmOf_snoc_ne {l : List DD} {d : DD} (h3 : d.kind ≠ 3) (h4 : d.kind ≠ 4) : lmOf (l ++ [d]) = lmOf l := by
  funext e
  unfold lmOf
  have e1 : isMk e d = false := by unfold isMk; simp [h3]
  have e2 : isLt e d = false := by unfold isLt; simp [h4]
  rw [List.find?_append, List.filter_append]
  simp only [List.find?_cons, e1, List.find?_nil, Option.or_none, List.filter_cons, e2, List.filter_nil, List.append_nil]
  simp
theorem dm_know {l : List DD} (h : OkL l) {d : DD} (hk : d.kind = 1 ∨ d.kind = 2) (h0 : knownL l d.t = 0) : updO (dmOf l) d.t (newD (d.kind == 2)) = dmOf (l ++ [d]) := by
  funext t
  unfold updO
  by_cases ht : t = d.t
  · subst ht
    rw [if_pos rfl]
    have hn : knownL (l ++ [d]) d.t = d.kind := known_snoc_new h h0 (by unfold isKn; simp; omega)
    rw [dmOf_some (by rw [hn]; omega), hn, offN_snoc, touchedL_snoc, h.off_zero h0, h.touched_nil h0]
    have e1 : stepO d.t d = 0 := by unfold stepO; rw [if_pos (by simp), if_neg (by omega), if_neg (by omega)]
    have e2 : stepT d.t [] d = [] := by
      unfold stepT isTo
      rw [if_neg (by rw [decide_eq_false (by omega : ¬ 3 ≤ d.kind)]; simp)]
    rw [e1, e2]
    rfl
  · rw [if_neg ht, dmOf_snoc_ne ht]
theorem dm_touch {l : List DD} (h : OkL l) {d : DD} (hk : 3 ≤ d.kind ∧ d.kind ≤ 5) (h0 : knownL l d.t ≠ 0) : touchM (dmOf l) d.t d.e = dmOf (l ++ [d]) := by
  have hn := known_snoc_some d h0
  have e1 : stepO d.t d = 0 := by unfold stepO; rw [if_pos (by simp), if_neg (by omega), if_neg (by omega)]
  have hto : isTo d.t d = true := by unfold isTo; rw [decide_eq_true hk.1, decide_eq_true hk.2]; simp
  have hs : dmOf (l ++ [d]) d.t = some ⟨offN l d.t, stepT d.t (touchedL l d.t) d, knownL l d.t == 2⟩ := by
    rw [dmOf_some (by rw [hn]; exact h0), hn, offN_snoc, touchedL_snoc, e1, Int.add_zero]
  unfold touchM
  rw [dmOf_some h0]
  dsimp only
  unfold stepT at hs
  rw [if_pos hto] at hs
  funext t
  by_cases ht : t = d.t
  · subst ht
    rw [hs]
    split
    · rename_i hh; rw [dmOf_some h0]
    · rename_i hh; unfold updO; rw [if_pos rfl]
  · rw [dmOf_snoc_ne ht]
    split
    · rfl
    · unfold updO; rw [if_neg ht]
theorem dm_turn {l : List DD} (h : OkL l) {d : DD} (hk : d.kind = 6 ∨ d.kind = 7) (h0 : knownL l d.t = 1) : turnM (dmOf l) d.t (d.kind == 6) = dmOf (l ++ [d]) := by
  have h0' : knownL l d.t ≠ 0 := by rw [h0]; decide
  have hn := known_snoc_some d h0'
  unfold turnM
  rw [dmOf_some h0', h0]
  dsimp only
  rw [if_neg (by decide)]
  funext t
  unfold updO
  by_cases ht : t = d.t
  · subst ht
    rw [if_pos rfl, dmOf_some (by rw [hn]; exact h0'), hn, h0, offN_snoc, touchedL_snoc]
    have e2 : stepT d.t (touchedL l d.t) d = touchedL l d.t := by
      unfold stepT isTo
      rw [if_neg (by rw [decide_eq_false (by omega : ¬ d.kind ≤ 5)]; simp)]
    rw [e2]
    unfold turnD stepO
    rw [if_pos (by simp : (d.t == d.t) = true)]
    rcases hk with hk | hk
    · simp [hk]
    · simp [hk]; omega
  · rw [if_neg ht, dmOf_snoc_ne ht]
theorem OkL.lets_nil {l : List DD} (h : OkL l) {e : K2} (h0 : hasL l e = false) : l.filter (isLt e) = [] := by
  rw [List.filter_eq_nil_iff]
  intro d hd hlt
  unfold isLt at hlt
  simp only [Bool.and_eq_true, beq_iff_eq] at hlt
  have := h.le d hd hlt.1
  rw [hlt.2, h0] at this
  cases this
theorem find_none_of {l : List DD} {e : K2} (h0 : hasL l e = false) : l.find? (isMk e) = none := by
  have := any_find (isMk e) l
  unfold hasL at h0
  rw [h0] at this
  simpa using this
theorem lm_make {l : List DD} (h : OkL l) {d : DD} (hk : d.kind = 3) (h0 : hasL l d.e = false) : updO (lmOf l) d.e ⟨d.t, []⟩ = lmOf (l ++ [d]) := by
  funext e
  have e2 : isLt e d = false := by unfold isLt; simp [hk]
  unfold updO
  by_cases he : e = d.e
  · subst he
    have e1 : isMk d.e d = true := by unfold isMk; simp [hk]
    rw [if_pos rfl]
    unfold lmOf
    rw [List.find?_append, find_none_of h0, List.filter_append, h.lets_nil h0]
    simp [List.find?_cons, e1, e2]
  · have e1 : isMk e d = false := by unfold isMk; simp [hk, Ne.symm he]
    rw [if_neg he]
    unfold lmOf
    rw [List.find?_append, List.filter_append]
    simp [List.find?_cons, e1, e2]
theorem lm_let {l : List DD} {d : DD} {x : LifeD} (hk : d.kind = 4) (hx : lmOf l d.e = some x) : updO (lmOf l) d.e ⟨x.made, x.gone ++ [d.t]⟩ = lmOf (l ++ [d]) := by
  funext e
  have e1 : isMk e d = false := by unfold isMk; simp [hk]
  unfold updO
  by_cases he : e = d.e
  · subst he
    have e2 : isLt d.e d = true := by unfold isLt; simp [hk]
    rw [if_pos rfl]
    unfold lmOf at hx ⊢
    rw [List.find?_append, List.filter_append]
    cases hf : l.find? (isMk d.e) with
    | none => rw [hf] at hx; cases hx
    | some y =>
      rw [hf] at hx
      simp only [Option.map_some, Option.some.injEq] at hx
      subst hx
      simp [e2]
  · have e2 : isLt e d = false := by unfold isLt; simp [hk, Ne.symm he]
    rw [if_neg he]
    unfold lmOf
    rw [List.find?_append, List.filter_append]
    simp [List.find?_cons, e1, e2]
theorem opD_dmOf {l : List DD} (h : OkL l) (o : DD) : opD (dmOf l) (lmOf l) o = dmOf (outO l o) ∧ opL (dmOf l) (lmOf l) o = lmOf (outO l o) := by
  have hE := opE_dmOf h o
  by_cases hi : isOp o
  · have hE := hE hi
    have ek : (dOf o).kind = o.kind := rfl
    have et : (dOf o).t = o.t := rfl
    have ho : outO l o = nextL l (dOf o) := by unfold outO; rw [if_pos hi]
    rw [ho]
    have kle := h.known_le o.t
    have k1 := dmOf_isSome h o.t
    unfold nextL
    rw [← hE]
    have hi' := hi
    unfold isOp at hi'
    by_cases h12 : o.kind = 1 ∨ o.kind = 2
    · have hd : opD (dmOf l) (lmOf l) o = knowM (dmOf l) o.t (o.kind == 2) := by unfold opD; rw [if_pos h12]
      have hl : opL (dmOf l) (lmOf l) o = lmOf l := by unfold opL; rw [if_neg (by omega), if_neg (by omega)]
      have he : opE (dmOf l) (lmOf l) o = knowE (dmOf l) o.t := by unfold opE; rw [if_pos h12]
      rw [hd, hl, he]
      unfold knowM knowE
      by_cases hk : knownL l o.t = 0
      · have hs : (dmOf l o.t).isSome = false := by rw [dmOf_none hk]; rfl
        rw [hs]
        simp only [Bool.false_eq_true, if_false, if_true]
        refine ⟨?_, ?_⟩
        · exact dm_know (d := dOf o) h h12 hk
        · exact (lmOf_snoc_ne (by rw [ek]; omega) (by rw [ek]; omega)).symm
      · have hs : (dmOf l o.t).isSome = true := by rw [dmOf_some hk]; rfl
        rw [hs]
        simp
    · by_cases h3 : o.kind = 3
      · have ee : (dOf o).e = o.e := by unfold dOf; dsimp only; rw [if_pos (by omega)]
        have hd : opD (dmOf l) (lmOf l) o = makeD (dmOf l) (lmOf l) o.t o.e := by unfold opD; rw [if_neg h12, if_pos h3]
        have hl : opL (dmOf l) (lmOf l) o = makeL (dmOf l) (lmOf l) o.t o.e := by unfold opL; rw [if_pos h3]
        have he : opE (dmOf l) (lmOf l) o = makeE (dmOf l) (lmOf l) o.t o.e := by unfold opE; rw [if_neg h12, if_pos h3]
        rw [hd, hl, he]
        unfold makeD makeL makeE touchE
        rw [lmOf_isSome]
        cases hh : hasL l o.e with
        | true => simp
        | false =>
          by_cases hk : knownL l o.t = 0
          · have hs : (dmOf l o.t).isSome = false := by rw [dmOf_none hk]; rfl
            rw [hs]
            simp only [Bool.false_eq_true, if_false]
            refine ⟨?_, by simp⟩
            rw [if_neg (by decide)]
            unfold touchM
            rw [dmOf_none hk]
          · have hs : (dmOf l o.t).isSome = true := by rw [dmOf_some hk]; rfl
            rw [hs]
            simp only [Bool.false_eq_true, if_false, if_true]
            refine ⟨?_, ?_⟩
            · have := dm_touch (d := dOf o) h (by rw [ek]; omega) (by rw [et]; exact hk)
              rw [ee, et] at this
              exact this
            · have := lm_make (d := dOf o) h (by rw [ek]; exact h3) (by rw [ee]; exact hh)
              rw [ee, et] at this
              exact this
      · by_cases h45 : o.kind = 4 ∨ o.kind = 5
        · have ee : (dOf o).e = o.e := by unfold dOf; dsimp only; rw [if_pos (by omega)]
          have hd : opD (dmOf l) (lmOf l) o = letD (dmOf l) (lmOf l) o.t o.e := by unfold opD; rw [if_neg h12, if_neg h3, if_pos h45]
          have hl : opL (dmOf l) (lmOf l) o = if o.kind = 4 then letL (dmOf l) (lmOf l) o.t o.e else lmOf l := by unfold opL; rw [if_neg h3]
          have he : opE (dmOf l) (lmOf l) o = letE (dmOf l) (lmOf l) o.t o.e := by unfold opE; rw [if_neg h12, if_neg h3, if_pos h45]
          rw [hd, hl, he]
          unfold letD letL letE touchE
          rw [lmOf_isSome]
          cases hh : hasL l o.e with
          | false =>
            have hm : lmOf l o.e = none := by
              have := lmOf_isSome l o.e
              rw [hh] at this
              simpa using this
            rw [hm]
            simp
          | true =>
            obtain ⟨x, hx⟩ : ∃ x, lmOf l o.e = some x := by
              have := lmOf_isSome l o.e
              rw [hh] at this
              exact Option.isSome_iff_exists.1 this
            rw [hx]
            by_cases hk : knownL l o.t = 0
            · have hs : (dmOf l o.t).isSome = false := by rw [dmOf_none hk]; rfl
              rw [hs]
              simp only [Bool.false_eq_true, if_false, if_true]
              refine ⟨?_, by simp⟩
              rw [if_neg (by decide)]
              unfold touchM
              rw [dmOf_none hk]
            · have hs : (dmOf l o.t).isSome = true := by rw [dmOf_some hk]; rfl
              rw [hs]
              simp only [if_true]
              refine ⟨?_, ?_⟩
              · have := dm_touch (d := dOf o) h (by rw [ek]; omega) (by rw [et]; exact hk)
                rw [ee, et] at this
                exact this
              · by_cases h4 : o.kind = 4
                · rw [if_pos h4]
                  have := lm_let (d := dOf o) (x := x) (by rw [ek]; exact h4) (by rw [ee]; exact hx)
                  rw [ee, et] at this
                  exact this
                · rw [if_neg h4]
                  exact (lmOf_snoc_ne (by rw [ek]; omega) (by rw [ek]; omega)).symm
        · have h67 : o.kind = 6 ∨ o.kind = 7 := by omega
          have hd : opD (dmOf l) (lmOf l) o = turnM (dmOf l) o.t (o.kind == 6) := by unfold opD; rw [if_neg h12, if_neg h3, if_neg h45, if_pos h67]
          have hl : opL (dmOf l) (lmOf l) o = lmOf l := by unfold opL; rw [if_neg (by omega), if_neg (by omega)]
          have he : opE (dmOf l) (lmOf l) o = turnE (dmOf l) o.t := by unfold opE; rw [if_neg h12, if_neg h3, if_neg h45, if_pos h67]
          rw [hd, hl, he]
          unfold turnE
          rw [openD_dmOf h]
          by_cases hk : knownL l o.t = 1
          · rw [hk]
            simp only [beq_self_eq_true, if_true]
            refine ⟨?_, ?_⟩
            · exact dm_turn (d := dOf o) h h67 hk
            · exact (lmOf_snoc_ne (by rw [ek]; omega) (by rw [ek]; omega)).symm
          · have hf : openD (dmOf l) o.t = false := by rw [openD_dmOf h]; exact beq_eq_false_iff_ne.2 hk
            rw [turnM_no hf, beq_eq_false_iff_ne.2 hk]
            simp
  · have ho : outO l o = l := by unfold outO; rw [if_neg hi]
    rw [ho]
    unfold isOp at hi
    refine ⟨?_, ?_⟩
    · unfold opD; rw [if_neg (by omega), if_neg (by omega), if_neg (by omega), if_neg (by omega)]
    · unfold opL; rw [if_neg (by omega), if_neg (by omega)]
end Go.Proofs.YtaigjhkoaoboiaaG
