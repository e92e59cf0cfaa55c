/- Seat 26: what edits do; plain law. -/
import Derived.Test.YtomalamdnnnggaaD
namespace Go.Proofs.YtomalamdnnnggaaG
open Go Go.RowKit
set_option maxRecDepth 10000
set_option maxHeartbeats 1000000
set_option linter.unusedVariables false
set_option linter.unusedSimpArgs false

theorem plainFrom_all (s : ByteArray) : ∀ (n i : Nat), s.size - i = n → plainFrom s i = ((lst s).drop i).all plainB
  | 0, i, h => by rw [plainFrom_end s i (by omega), lst_end s i (by omega)]; rfl
  | n + 1, i, h => by
    rw [plainFrom_step s i (by omega), lst_drop s i (by omega), plainFrom_all s n (i + 1) (by omega)]
    rfl
theorem plain_all (s : ByteArray) : plain s = (lst s).all plainB := by
  unfold plain
  rw [plainFrom_all s _ 0 rfl, List.drop_zero]
/-- A text behind an edit. -/
def app (e : EditD) (s : List Int) : List Int := if e.kind = 1 then s.take e.at_.toNat ++ lst e.text ++ s.drop e.at_.toNat else s.take e.at_.toNat ++ s.drop e.to.toNat
/-- An edit that can be done to n bytes. -/
def okE (e : EditD) (n : Nat) : Prop := (e.kind = 1 ∧ e.to = 0 ∧ e.dest = 0 ∧ 0 ≤ e.at_ ∧ e.at_ ≤ n ∧ 1 ≤ e.text.size ∧ e.text.size ≤ 64 ∧ plain e.text = true) ∨ (e.kind = 2 ∧ e.text = ⟨#[]⟩ ∧ e.dest = 0 ∧ 0 ≤ e.at_ ∧ e.at_ < e.to ∧ e.to ≤ n ∧ e.to - e.at_ ≤ 1024)
def Eds : List Int → List EditD → List Int → Prop
  | s, [], t => s = t
  | s, e :: l, t => okE e s.length ∧ Eds (app e s) l t
def costE (e : EditD) : Int := if e.kind = 1 then (e.text.size : Int) else if e.kind = 2 then e.to - e.at_ else 0
def costL : List EditD → Int
  | [] => 0
  | e :: l => costE e + costL l
theorem costL_append (l l' : List EditD) : costL (l ++ l') = costL l + costL l' := by
  induction l with
  | nil => simp [costL]
  | cons e l ih => simp only [List.cons_append, costL, ih]; omega
theorem Eds.append {l' : List EditD} {t u : List Int} (h' : Eds t l' u) : ∀ {l : List EditD} {s : List Int}, Eds s l t → Eds s (l ++ l') u
  | [], s, h => by have h : s = t := h; subst h; exact h'
  | e :: l, s, h => ⟨h.1, Eds.append h' h.2⟩
theorem okE_cost {e : EditD} {n : Nat} (h : okE e n) : 1 ≤ costE e := by
  unfold costE
  rcases h with ⟨h1, h2⟩ | ⟨h1, h2⟩
  · rw [if_pos h1]; omega
  · rw [if_neg (by omega), if_pos h1]; omega
theorem Eds.cost : ∀ {l : List EditD} {s t : List Int}, Eds s l t → (l.length : Int) ≤ costL l
  | [], _, _, _ => by simp [costL]
  | e :: l, s, t, h => by
    have h1 := okE_cost h.1
    have h2 := Eds.cost h.2
    simp only [List.length_cons, costL]
    omega
theorem cost_del (p n : Nat) : costE (delE p n) = n := by simp [costE, delE]; omega
theorem cost_gone (l : List EditD) (p n : Nat) : costL (goneL l p n) = costL l + n := by
  unfold goneL
  split
  · rename_i h; subst h; simp
  · rw [costL_append]; simp only [costL, cost_del]; omega
theorem InsOf.cost : ∀ (p : Nat) (l : List EditD) (d : List Int), InsOf p l d → costL l = d.length
  | _, [], d, h => by have h : d = [] := h; subst h; rfl
  | p, e :: l, d, h => by
    obtain ⟨u, d', rfl, h3, h4, rfl, h5⟩ := h
    have := InsOf.cost _ _ _ h5
    simp only [costL, costE, if_true, List.length_append, lst_length]
    omega
theorem Eds_gone (l : List EditD) (s : List Int) (P D R : List Int) (h : Eds s l (P ++ (D ++ R))) (hD : D.length ≤ 1024) : Eds s (goneL l P.length D.length) (P ++ R) := by
  unfold goneL
  split
  · rename_i h0
    have : D = [] := List.length_eq_zero_iff.1 h0
    subst this
    exact h
  · refine Eds.append ?_ h
    refine ⟨.inr ⟨rfl, rfl, rfl, ?_, ?_, ?_, ?_⟩, ?_⟩
    · simp [delE]
    · simp only [delE]; omega
    · simp only [delE, List.length_append]; omega
    · simp only [delE]; omega
    · show app (delE P.length D.length) (P ++ (D ++ R)) = P ++ R
      unfold app delE
      simp only []
      rw [if_neg (by decide)]
      have e1 : ((P.length : Int)).toNat = P.length := by omega
      have e2 : ((P.length : Int) + (D.length : Int)).toNat = (P ++ D).length := by rw [List.length_append]; omega
      rw [e1, e2, List.take_left, ← List.append_assoc, List.drop_left]
theorem Eds_ins : ∀ (l : List EditD) (P d R : List Int), InsOf P.length l d → (∀ x ∈ d, plainB x = true) → Eds (P ++ R) l (P ++ (d ++ R))
  | [], P, d, R, h, _ => by have h : d = [] := h; subst h; exact rfl
  | e :: l, P, d, R, h, hp => by
    obtain ⟨u, d', rfl, h3, h4, rfl, h5⟩ := h
    refine ⟨.inl ⟨rfl, rfl, rfl, ?_, ?_, h3, h4, ?_⟩, ?_⟩
    · simp
    · simp only [List.length_append]; omega
    · rw [plain_all, List.all_eq_true]
      exact fun x hx => hp x (List.mem_append_left _ hx)
    · have e1 : app (EditD.mk 1 (P.length : Int) 0 0 u) (P ++ R) = (P ++ lst u) ++ R := by
        unfold app
        simp only [if_true]
        have e1 : ((P.length : Int)).toNat = P.length := by omega
        rw [e1, List.take_left, List.drop_left]
      rw [e1]
      have := Eds_ins l (P ++ lst u) d' R (by rw [List.length_append, lst_length]; exact h5) fun x hx => hp x (List.mem_append_right _ hx)
      simpa using this
end Go.Proofs.YtomalamdnnnggaaG
