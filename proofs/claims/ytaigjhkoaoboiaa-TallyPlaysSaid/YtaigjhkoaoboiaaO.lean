/- Seat 19: a transaction that is undone, and done again, leaves all as it is without both. -/
import Derived.Test.YtaigjhkoaoboiaaN
namespace Go.Proofs.YtaigjhkoaoboiaaG
open Go Go.RowKit
set_option maxRecDepth 10000
set_option maxHeartbeats 1000000
set_option linter.unusedVariables false
set_option linter.unusedSimpArgs false

/-- So much at most has been done. -/
structure Bnd (n : Nat) (dm : MO DeedD) (lm : MO LifeD) : Prop where
  d : ∀ t x, dm t = some x → x.touched.length ≤ n ∧ -(n : Int) ≤ x.undone ∧ x.undone ≤ n
  l : ∀ e x, lm e = some x → x.gone.length ≤ n
theorem bnd0 : Bnd 0 dm0 lm0 := ⟨fun t x h => by simp [dm0] at h, fun e x h => by simp [lm0] at h⟩
theorem Bnd.mono {n m : Nat} {dm : MO DeedD} {lm : MO LifeD} (h : Bnd n dm lm) (hnm : n ≤ m) : Bnd m dm lm :=
  ⟨fun t x hx => by have := h.d t x hx; omega, fun e x hx => by have := h.l e x hx; omega⟩
theorem touchM_bnd {n : Nat} {dm : MO DeedD} (h : ∀ t x, dm t = some x → x.touched.length ≤ n ∧ -(n : Int) ≤ x.undone ∧ x.undone ≤ n) (t e : K2) : ∀ u x, touchM dm t e u = some x → x.touched.length ≤ n + 1 ∧ -((n + 1 : Nat) : Int) ≤ x.undone ∧ x.undone ≤ (n + 1 : Nat) := by
  intro u x hx
  unfold touchM at hx
  cases hd : dm t with
  | none => rw [hd] at hx; have := h u x hx; omega
  | some d =>
    rw [hd] at hx
    dsimp only at hx
    split at hx
    · have := h u x hx; omega
    · unfold updO at hx
      split at hx
      · have := h t d hd
        cases hx
        simp only [List.length_append, List.length_cons, List.length_nil]
        omega
      · have := h u x hx; omega
theorem Bnd.step {n : Nat} {dm : MO DeedD} {lm : MO LifeD} (h : Bnd n dm lm) (o : DD) : Bnd (n + 1) (opD dm lm o) (opL dm lm o) := by
  have keep : ∀ u x, dm u = some x → x.touched.length ≤ n + 1 ∧ -((n + 1 : Nat) : Int) ≤ x.undone ∧ x.undone ≤ (n + 1 : Nat) := fun u x hx => by have := h.d u x hx; omega
  refine ⟨fun u x hx => ?_, fun e x hx => ?_⟩
  · unfold opD at hx
    split at hx
    · unfold knowM at hx
      split at hx
      · exact keep u x hx
      · unfold updO at hx
        split at hx
        · cases hx; simp [newD]; omega
        · exact keep u x hx
    · split at hx
      · unfold makeD at hx
        split at hx
        · exact keep u x hx
        · exact touchM_bnd h.d _ _ u x hx
      · split at hx
        · unfold letD at hx
          split at hx
          · exact touchM_bnd h.d _ _ u x hx
          · exact keep u x hx
        · split at hx
          · unfold turnM at hx
            cases hd : dm o.t with
            | none => rw [hd] at hx; exact keep u x hx
            | some d =>
              rw [hd] at hx
              dsimp only at hx
              split at hx
              · exact keep u x hx
              · unfold updO at hx
                split at hx
                · have := h.d _ d hd
                  cases hx
                  unfold turnD
                  dsimp only
                  split <;> omega
                · exact keep u x hx
          · exact keep u x hx
  · unfold opL at hx
    split at hx
    · unfold makeL at hx
      split at hx
      · have := h.l e x hx; omega
      · split at hx
        · unfold updO at hx
          split at hx
          · cases hx; simp
          · have := h.l e x hx; omega
        · have := h.l e x hx; omega
    · split at hx
      · unfold letL at hx
        cases hl : lm o.e with
        | none => rw [hl] at hx; have := h.l e x hx; omega
        | some l =>
          rw [hl] at hx
          dsimp only at hx
          split at hx
          · unfold updO at hx
            split at hx
            · have := h.l _ l hl
              cases hx
              simp only [List.length_append, List.length_cons, List.length_nil]
              omega
            · have := h.l e x hx; omega
          · have := h.l e x hx; omega
      · have := h.l e x hx; omega
/-- With one transaction undone once more. -/
def sh (k : K2) (dm : MO DeedD) : MO DeedD := fun t => if t = k then (dm t).map (fun d => ⟨d.undone + 1, d.touched, d.undoes⟩) else dm t
theorem sh_isSome (k t : K2) (dm : MO DeedD) : (sh k dm t).isSome = (dm t).isSome := by
  unfold sh
  split <;> simp
theorem sh_ne {k t : K2} {dm : MO DeedD} (h : t ≠ k) : sh k dm t = dm t := by unfold sh; rw [if_neg h]
theorem sh_eq {k : K2} {dm : MO DeedD} : sh k dm k = (dm k).map (fun d => ⟨d.undone + 1, d.touched, d.undoes⟩) := by unfold sh; rw [if_pos rfl]
theorem sh_upd (k t : K2) (dm : MO DeedD) (d : DeedD) : sh k (updO dm t d) = updO (sh k dm) t (if t = k then ⟨d.undone + 1, d.touched, d.undoes⟩ else d) := by
  funext u
  unfold sh updO
  by_cases h1 : u = t
  · subst h1
    by_cases h2 : u = k
    · subst h2; simp
    · simp [h2]
  · simp [h1]
theorem sh_touch (k t e : K2) (dm : MO DeedD) : touchM (sh k dm) t e = sh k (touchM dm t e) := by
  unfold touchM
  cases hd : dm t with
  | none =>
    have : sh k dm t = none := by
      have := sh_isSome k t dm
      rw [hd] at this
      simpa using this
    rw [this]
  | some d =>
    by_cases h : t = k
    · subst h
      have : sh t dm t = some ⟨d.undone + 1, d.touched, d.undoes⟩ := by rw [sh_eq, hd]; rfl
      rw [this]
      dsimp only
      split
      · rfl
      · rw [sh_upd, if_pos rfl]
    · rw [sh_ne h, hd]
      dsimp only
      split
      · rfl
      · rw [sh_upd, if_neg h]
theorem openD_sh (k t : K2) (dm : MO DeedD) : openD (sh k dm) t = openD dm t := by
  unfold openD
  by_cases h : t = k
  · subst h
    rw [sh_eq]
    cases dm t <;> rfl
  · rw [sh_ne h]
theorem opL_sh (k : K2) (dm : MO DeedD) (lm : MO LifeD) (o : DD) : opL (sh k dm) lm o = opL dm lm o := by
  unfold opL makeL letL
  simp only [sh_isSome]
theorem opD_sh {k : K2} {dm : MO DeedD} (hk : openD dm k = true) (lm : MO LifeD) (o : DD) : opD (sh k dm) lm o = sh k (opD dm lm o) := by
  unfold opD
  split
  · unfold knowM
    rw [sh_isSome]
    split
    · rfl
    · rename_i h0
      rw [sh_upd]
      have hne : o.t ≠ k := fun e => by
        rw [e] at h0
        unfold openD at hk
        cases hd : dm k with
        | none => rw [hd] at hk; cases hk
        | some d => rw [hd] at h0; exact h0 rfl
      rw [if_neg hne]
  · split
    · unfold makeD
      split
      · rfl
      · exact sh_touch _ _ _ _
    · split
      · unfold letD
        split
        · exact sh_touch _ _ _ _
        · rfl
      · split
        · unfold turnM
          cases hd : dm o.t with
          | none =>
            have : sh k dm o.t = none := by
              have := sh_isSome k o.t dm
              rw [hd] at this
              simpa using this
            rw [this]
          | some d =>
            by_cases h : o.t = k
            · have : sh k dm o.t = some ⟨d.undone + 1, d.touched, d.undoes⟩ := by rw [h] at hd ⊢; rw [sh_eq, hd]; rfl
              rw [this]
              dsimp only
              split
              · rfl
              · rw [sh_upd, if_pos h]
                unfold turnD
                dsimp only
                congr 2
                split <;> omega
            · rw [sh_ne h, hd]
              dsimp only
              split
              · rfl
              · rw [sh_upd, if_neg h]
        · rfl
theorem openD_touch (k t e : K2) (dm : MO DeedD) : openD (touchM dm t e) k = openD dm k := by
  unfold touchM
  cases hd : dm t with
  | none => rfl
  | some d =>
    dsimp only
    split
    · rfl
    · unfold openD updO
      by_cases h : k = t
      · rw [if_pos h, h, hd]
      · rw [if_neg h]
/-- What is open stays so. -/
theorem openD_step {k : K2} {dm : MO DeedD} (hk : openD dm k = true) (lm : MO LifeD) (o : DD) : openD (opD dm lm o) k = true := by
  unfold opD
  split
  · unfold knowM
    split
    · exact hk
    · rename_i h0
      unfold openD updO
      have hne : k ≠ o.t := fun e => by
        rw [← e] at h0
        unfold openD at hk
        cases hd : dm k with
        | none => rw [hd] at hk; cases hk
        | some d => rw [hd] at h0; exact h0 rfl
      rw [if_neg hne]
      exact hk
  · split
    · unfold makeD
      split
      · exact hk
      · rw [openD_touch]; exact hk
    · split
      · unfold letD
        split
        · rw [openD_touch]; exact hk
        · exact hk
      · split
        · unfold turnM
          cases hd : dm o.t with
          | none => exact hk
          | some d =>
            dsimp only
            split
            · exact hk
            · rename_i hu
              unfold openD updO
              by_cases h : k = o.t
              · rw [if_pos h]; simp [turnD, hu]
              · rw [if_neg h]; exact hk
        · exact hk
theorem turnM_sh {k : K2} {dm : MO DeedD} (hk : openD dm k = true) : turnM dm k true = sh k dm := by
  unfold openD at hk
  cases hd : dm k with
  | none => rw [hd] at hk; cases hk
  | some d =>
    rw [hd] at hk
    have hu : d.undoes = false := by simpa using hk
    unfold turnM
    rw [hd]
    simp only [hu]
    funext u
    unfold updO sh turnD
    by_cases h : u = k
    · subst h; simp [hd, hu]
    · simp [h]
theorem turnM_back {k : K2} {dm : MO DeedD} (hk : openD dm k = true) : turnM (sh k dm) k false = dm := by
  unfold openD at hk
  cases hd : dm k with
  | none => rw [hd] at hk; cases hk
  | some d =>
    rw [hd] at hk
    have hu : d.undoes = false := by simpa using hk
    unfold turnM
    rw [sh_eq, hd]
    simp only [Option.map_some, hu]
    funext u
    unfold updO turnD
    by_cases h : u = k
    · subst h
      simp only [if_true]
      rw [hd]
      congr 1
      cases d
      simp_all
    · simp [h, sh]
theorem turnM_no {k : K2} {dm : MO DeedD} (hk : openD dm k = false) (b : Bool) : turnM dm k b = dm := by
  unfold turnM
  unfold openD at hk
  cases hd : dm k with
  | none => rfl
  | some d => rw [hd] at hk; simp at hk; simp [hk]
theorem Bnd.sh {n : Nat} {dm : MO DeedD} {lm : MO LifeD} (h : Bnd n dm lm) (k : K2) : Bnd (n + 1) (sh k dm) lm := by
  refine ⟨fun t x hx => ?_, fun e x hx => by have := h.l e x hx; omega⟩
  unfold Go.Proofs.YtaigjhkoaoboiaaG.sh at hx
  split at hx
  · cases hd : dm t with
    | none => rw [hd] at hx; cases hx
    | some d =>
      rw [hd] at hx
      have := h.d t d hd
      cases hx
      dsimp only
      omega
  · have := h.d t x hx; omega
end Go.Proofs.YtaigjhkoaoboiaaG
