/- Seat 15: masses of many runs: no code here. -/
import Derived.Test.YtbbohojekmmggaaW
namespace Go.Proofs.YtbbohojekmmggaaG
open Go Go.RowKit
set_option maxRecDepth 10000
set_option maxHeartbeats 1000000
set_option linter.unusedVariables false
set_option linter.unusedSimpArgs false

theorem thenZ_assoc (p q r : WZ) : thenZ (thenZ p q) r = thenZ p (thenZ q r) := by
  obtain ⟨⟨a, b⟩, ⟨c, d⟩⟩ := p
  obtain ⟨⟨e, f⟩, ⟨g, h⟩⟩ := q
  obtain ⟨⟨i, j⟩, ⟨k, l⟩⟩ := r
  simp only [thenZ, cmul, cadd, Prod.mk.injEq]
  refine ⟨⟨?_, ?_⟩, ?_, ?_⟩ <;> grind
theorem thenZ_one (p : WZ) : thenZ ((1, 0), (0, 0)) p = p := by
  obtain ⟨⟨a, b⟩, ⟨c, d⟩⟩ := p
  simp only [thenZ, cmul, cadd, Prod.mk.injEq]
  refine ⟨⟨?_, ?_⟩, ?_, ?_⟩ <;> grind
theorem thenZ_one' (p : WZ) : thenZ p ((1, 0), (0, 0)) = p := by
  obtain ⟨⟨a, b⟩, ⟨c, d⟩⟩ := p
  simp only [thenZ, cmul, cadd, Prod.mk.injEq]
  refine ⟨⟨?_, ?_⟩, ?_, ?_⟩ <;> grind
theorem walkTo_left (s t : ByteArray) : ∀ i, i ≤ s.size → walkTo (s ++ t) i = walkTo s i
  | 0, _ => rfl
  | i + 1, h => by
    simp only [walkTo]
    rw [walkTo_left s t i (by omega), bt_append, if_pos (by omega)]
theorem walkTo_right (s t : ByteArray) : ∀ i, walkTo (s ++ t) (s.size + i) = thenZ (walkTo s s.size) (walkTo t i)
  | 0 => by rw [Nat.add_zero, walkTo_left s t _ (Nat.le_refl _)]; exact (thenZ_one' _).symm
  | i + 1 => by
    show thenZ (walkTo (s ++ t) (s.size + i)) (byteW (bt (s ++ t) (s.size + i))) = thenZ (walkTo s s.size) (thenZ (walkTo t i) (byteW (bt t i)))
    rw [walkTo_right s t i, bt_append, if_neg (by omega), show s.size + i - s.size = i by omega, thenZ_assoc]
theorem walk_append (s t : ByteArray) : walkTo (s ++ t) (s ++ t).size = thenZ (walkTo s s.size) (walkTo t t.size) := by
  rw [ByteArray.size_append]
  exact walkTo_right s t t.size
theorem empty_size (s : ByteArray) : s = ⟨#[]⟩ ↔ s.size = 0 := by
  constructor
  · rintro rfl; rfl
  · intro h
    obtain ⟨d⟩ := s
    have : d.size = 0 := h
    rw [Array.size_eq_zero_iff.1 this]
/-- How much there is: so many atoms, these bytes shown. -/
def massW (n : Nat) (s : ByteArray) : MassD := ⟨n, s.size, refWalk s⟩
theorem plusM_massW (n m : Nat) (s t : ByteArray) : plusM (massW n s) (massW m t) = massW (n + m) (s ++ t) := by
  have hs := empty_size s
  have ht := empty_size t
  have hst := empty_size (s ++ t)
  rw [ByteArray.size_append] at hst
  unfold plusM massW
  simp only [MassD.mk.injEq]
  refine ⟨by omega, by rw [ByteArray.size_append]; omega, ?_⟩
  by_cases h1 : s.size = 0
  · rw [if_pos (by omega)]
    have e : s = ⟨#[]⟩ := hs.2 h1
    subst e
    have : (⟨#[]⟩ : ByteArray) ++ t = t := by
      apply ByteArray.ext
      simp
    rw [this]
  · rw [if_neg (by omega)]
    by_cases h2 : t.size = 0
    · rw [if_neg (by omega)]
      have e : t = ⟨#[]⟩ := ht.2 h2
      subst e
      have : s ++ (⟨#[]⟩ : ByteArray) = s := by
        apply ByteArray.ext
        simp
      rw [this]
    · rw [if_pos (by omega)]
      unfold refWalk
      rw [if_neg (fun e => h1 (hs.1 e)), if_neg (fun e => h2 (ht.1 e)), if_neg (fun e => by have := hst.1 e; omega), walk_append]
/-- What is shown of a run. -/
def shownOf (x : RunD) : ByteArray := if x.shown = true then x.text else ⟨#[]⟩
theorem massOf_W (x : RunD) (h : 1 ≤ x.text.size) : massOf x = massW x.text.size (shownOf x) := by
  unfold massOf massW shownOf
  split
  · have : ¬ x.text = ⟨#[]⟩ := fun e => by have := (empty_size x.text).1 e; omega
    unfold refWalk
    rw [if_neg this]
  · rfl
end Go.Proofs.YtbbohojekmmggaaG
