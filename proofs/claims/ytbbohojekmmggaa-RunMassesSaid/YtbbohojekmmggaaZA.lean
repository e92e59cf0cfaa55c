/- Seat 15: a run's mass put to a mass. -/
import Derived.Test.YtbbohojekmmggaaY
namespace Go.Proofs.YtbbohojekmmggaaG
open Go Go.RowKit
set_option maxRecDepth 10000
set_option maxHeartbeats 1000000
set_option linter.unusedVariables false
set_option linter.unusedSimpArgs false

/-- The mass of runs; words that it is. -/
def massL (l : List RunD) : MassD := massW (allN l) (allS l)
structure MW (m : MassD) where
  a : Nat
  b : Nat
  c : Nat
  d : Nat
  h1 : IsC a b m.p.1
  h2 : IsC c d m.p.2
def MW.cells {m : MassD} (x : MW m) : List Value := [.int .i64 m.n, .int .i64 m.k, .complex .f64 x.a x.b, .complex .f64 x.c x.d]
def MW.v {m : MassD} (x : MW m) : Value := .agg #[.int .i64 m.n, .int .i64 m.k, .complex .f64 x.a x.b, .complex .f64 x.c x.d]
def IsM (m : MassD) (v : Value) (B : Asn) : Prop := ∃ x : MW m, v = x.v ∧ B = emp
theorem isM_of {m : MassD} {v : Value} {B : Asn} (h : IsMass m v B) : IsM m v B := by
  obtain ⟨a, b, c, d, rfl, h1, h2, rfl⟩ := h
  exact ⟨⟨a, b, c, d, h1, h2⟩, rfl, rfl⟩
theorem MakesAt.mono {P : Program} {f : Nat} {vs : List Value} {w : World} {Φ Ψ : Value → Asn → Prop} (h : MakesAt P f vs w Φ) (hi : ∀ v B, Φ v B → Ψ v B) : MakesAt P f vs w Ψ :=
  ⟨h.out.mono fun e w' ⟨v, B, he, hΦ, r⟩ => ⟨v, B, he, hi v B hΦ, r⟩⟩
theorem allS_le (l : List RunD) : (allS l).size ≤ allN l := shownTo_size _ _
theorem plusM20 (m o : MassD) (x : MW m) (y : MW o) (w : World) (s1 : smallT m.p.1) (s2 : smallS m.p.2) (s3 : smallT o.p.1) (s4 : smallS o.p.2) (n1 : 0 ≤ m.n ∧ m.n ≤ 1000000) (n2 : 0 ≤ o.n ∧ o.n ≤ 1000000) (n3 : 0 ≤ m.k ∧ m.k ≤ 1000000) (n4 : 0 ≤ o.k ∧ o.k ≤ 1000000) : MakesAt Try.prog 20 [x.v, y.v] w (IsM (plusM m o)) :=
  (plus20 x.a x.b x.c x.d y.a y.b y.c y.d m o w x.h1 x.h2 y.h1 y.h2 s1 s2 s3 s4 n1 n2 n3 n4).mono fun v B h => isM_of h
theorem measureM21 (x : RunD) (hx : x.text.size ≤ 100000) (w : World) : MakesAt Try.prog 21 [x.v] w (IsM (massOf x)) := (measure21 x hx w).mono fun v B h => isM_of h
theorem massL_range (l : List RunD) (h : allN l ≤ 100000) : (0 ≤ (massL l).n ∧ (massL l).n ≤ 1000000) ∧ (0 ≤ (massL l).k ∧ (massL l).k ≤ 1000000) ∧ smallT (massL l).p.1 ∧ smallS (massL l).p.2 ∧ within 33000000 (massL l).p.1 ∧ within 33000000 (massL l).p.2 := by
  have h1 := allS_le l
  obtain ⟨a, b, c, d⟩ := massW_small (allN l) (allS l) (by omega)
  refine ⟨?_, ?_, a, b, c, d⟩ <;> simp only [massL, massW] <;> omega
theorem massOf_range (x : RunD) (h1 : 1 ≤ x.text.size) (h : x.text.size ≤ 100000) : (0 ≤ (massOf x).n ∧ (massOf x).n ≤ 1000000) ∧ (0 ≤ (massOf x).k ∧ (massOf x).k ≤ 1000000) ∧ smallT (massOf x).p.1 ∧ smallS (massOf x).p.2 := by
  rw [massOf_W x h1]
  have hs : (shownOf x).size ≤ x.text.size := by
    unfold shownOf
    split
    · exact Nat.le_refl _
    · exact Nat.zero_le _
  obtain ⟨a, b, _, _⟩ := massW_small x.text.size (shownOf x) (by omega)
  refine ⟨?_, ?_, a, b⟩ <;> simp only [massW] <;> omega
/-- One run more. -/
theorem more20 (l : List RunD) (r : RunD) (x : MW (massL l)) (y : MW (massOf r)) (w : World) (hl : allN l ≤ 100000) (h1 : 1 ≤ r.text.size) (h2 : r.text.size ≤ 100000) : MakesAt Try.prog 20 [x.v, y.v] w (IsM (massL (l ++ [r]))) := by
  obtain ⟨a1, a2, a3, a4, _, _⟩ := massL_range l hl
  obtain ⟨b1, b2, b3, b4⟩ := massOf_range r h1 h2
  have h := plusM20 _ _ x y w a3 a4 b3 b4 a1 b1 a2 b2
  have e : plusM (massL l) (massOf r) = massL (l ++ [r]) := allM_snoc l r h1
  rw [e] at h
  exact h
/-- Both parts. -/
theorem both20 (l l' : List RunD) (x : MW (massL l)) (y : MW (massL l')) (w : World) (hl : allN l ≤ 100000) (hl' : allN l' ≤ 100000) : MakesAt Try.prog 20 [x.v, y.v] w (IsM (massL (l ++ l'))) := by
  obtain ⟨a1, a2, a3, a4, _, _⟩ := massL_range l hl
  obtain ⟨b1, b2, b3, b4, _, _⟩ := massL_range l' hl'
  have h := plusM20 _ _ x y w a3 a4 b3 b4 a1 b1 a2 b2
  have e : plusM (massL l) (massL l') = massL (l ++ l') := allM_append l l'
  rw [e] at h
  exact h
theorem noMass : IsC 0 0 (massL []).p.1 ∧ IsC 0 0 (massL []).p.2 := ⟨⟨isF_zero, isF_zero⟩, ⟨isF_zero, isF_zero⟩⟩
end Go.Proofs.YtbbohojekmmggaaG
