/- Seat 15: what is shown of the atoms of runs; masses are small: no code here. -/
import Derived.Test.YtbbohojekmmggaaX
namespace Go.Proofs.YtbbohojekmmggaaG
open Go Go.RowKit
set_option maxRecDepth 10000
set_option maxHeartbeats 1000000
set_option linter.unusedVariables false
set_option linter.unusedSimpArgs false

theorem app_nil (s : ByteArray) : s ++ (⟨#[]⟩ : ByteArray) = s := by
  apply ByteArray.ext
  simp
theorem nil_app (s : ByteArray) : (⟨#[]⟩ : ByteArray) ++ s = s := by
  apply ByteArray.ext
  simp
theorem app_assoc (s t u : ByteArray) : (s ++ t) ++ u = s ++ (t ++ u) := by
  apply ByteArray.ext
  simp
theorem shownTo_left (a b : List AtomD) : ∀ i, i ≤ a.length → shownTo (a ++ b) i = shownTo a i
  | 0, _ => rfl
  | i + 1, h => by
    have ih := shownTo_left a b i (by omega)
    have h1 : i < a.length := by omega
    have h2 : i < (a ++ b).length := by simp; omega
    unfold shownTo
    rw [dif_pos h1, dif_pos h2, ih]
    simp only [List.getElem_append_left h1]
theorem shownTo_right (a b : List AtomD) : ∀ i, i ≤ b.length → shownTo (a ++ b) (a.length + i) = shownStr a ++ shownTo b i
  | 0, _ => by rw [Nat.add_zero, shownTo_left a b _ (Nat.le_refl _)]; exact (app_nil _).symm
  | i + 1, h => by
    have ih := shownTo_right a b i (by omega)
    have h1 : i < b.length := by omega
    have h2 : a.length + i < (a ++ b).length := by simp; omega
    have e : (a ++ b)[a.length + i] = b[i] := by rw [List.getElem_append_right (by omega)]; simp
    show shownTo (a ++ b) (a.length + i + 1) = _
    unfold shownTo
    rw [dif_pos h1, dif_pos h2, ih, e]
    split
    · rw [app_assoc]
    · rfl
theorem shownStr_append (a b : List AtomD) : shownStr (a ++ b) = shownStr a ++ shownStr b := by
  unfold shownStr
  rw [List.length_append]
  exact shownTo_right a b b.length (Nat.le_refl _)
theorem atoms_okByte (x : RunD) : ∀ a ∈ atoms x, okByte a := by
  intro a ha
  simp only [atoms, atomsTo, List.mem_map, List.mem_range] at ha
  obtain ⟨i, _, rfl⟩ := ha
  exact bt_range x.text i
theorem atoms_get' (x : RunD) (i : Nat) (h : i < (atoms x).length) : (atoms x)[i] = atomAt x i := by simp [atoms, atomsTo]
theorem shown_hidden (x : RunD) (h : x.shown = false) : ∀ i, shownTo (atoms x) i = ⟨#[]⟩
  | 0 => rfl
  | i + 1 => by
    have ih := shown_hidden x h i
    unfold shownTo
    split
    · rename_i hl
      have : ((atoms x)[i]).shown = false := by rw [atoms_get' x i hl]; exact h
      rw [if_neg (by rw [this]; decide)]
      exact ih
    · exact ih
theorem shown_shown (x : RunD) (h : x.shown = true) : ∀ i, i ≤ x.text.size → shownTo (atoms x) i = x.text.extract 0 i
  | 0, _ => by
    apply ByteArray.ext
    simp [shownTo]
  | i + 1, hi => by
    have ih := shown_shown x h i (by omega)
    have hl : i < (atoms x).length := by rw [atoms_length]; omega
    have e : (atoms x)[i] = atomAt x i := atoms_get' x i hl
    unfold shownTo
    rw [dif_pos hl, e, if_pos (show (atomAt x i).shown = true from h), ih]
    have hb : (UInt8.ofNat (bt x.text i).toNat) = x.text[i]'(by omega) := by
      unfold bt
      rw [dif_pos (by omega)]
      simp
    show x.text.extract 0 i ++ ⟨#[UInt8.ofNat (bt x.text i).toNat]⟩ = x.text.extract 0 (i + 1)
    rw [hb]
    apply ByteArray.ext
    simp only [ByteArray.data_append, ByteArray.data_extract]
    rw [← Array.toList_inj]
    simp only [Array.toList_append, Array.toList_extract, List.extract_eq_take_drop, List.drop_zero, Nat.sub_zero]
    have hlt : i < x.text.data.toList.length := by simp; exact hi
    rw [List.take_succ_eq_append_getElem hlt]
    rfl
theorem shownStr_atoms (x : RunD) : shownStr (atoms x) = shownOf x := by
  unfold shownStr shownOf
  rw [atoms_length]
  cases h : x.shown with
  | false => rw [shown_hidden x h, if_neg (by decide)]
  | true =>
    rw [shown_shown x h _ (Nat.le_refl _), if_pos rfl]
    apply ByteArray.ext
    rw [ByteArray.data_extract]
    exact Array.extract_size
theorem massW_small (n : Nat) (s : ByteArray) (hs : s.size ≤ 100000) : smallT (massW n s).p.1 ∧ smallS (massW n s).p.2 ∧ within 33000000 (massW n s).p.1 ∧ within 33000000 (massW n s).p.2 := by
  unfold massW refWalk
  dsimp only
  split
  · refine ⟨⟨?_, ?_, ?_, ?_⟩, ⟨?_, ?_, ?_, ?_⟩, ⟨?_, ?_, ?_, ?_⟩, ⟨?_, ?_, ?_, ?_⟩⟩ <;> decide
  · have h1 := walkTo_unit s s.size
    have h2 := walkTo_within s s.size
    exact ⟨h1.small, h2.small (by omega), (unit_within h1).mono (by decide), h2.mono (by omega)⟩
/-- All runs' atoms, their number, what is shown. -/
def allA (l : List RunD) : List AtomD := l.flatMap atoms
def allN (l : List RunD) : Nat := (allA l).length
def allS (l : List RunD) : ByteArray := shownStr (allA l)
theorem allA_snoc (l : List RunD) (x : RunD) : allA (l ++ [x]) = allA l ++ atoms x := by simp [allA]
theorem allM_snoc (l : List RunD) (x : RunD) (h : 1 ≤ x.text.size) : plusM (massW (allN l) (allS l)) (massOf x) = massW (allN (l ++ [x])) (allS (l ++ [x])) := by
  rw [massOf_W x h, plusM_massW]
  unfold allN allS
  rw [allA_snoc, shownStr_append, shownStr_atoms, List.length_append, atoms_length]
theorem allM_append (a b : List RunD) : plusM (massW (allN a) (allS a)) (massW (allN b) (allS b)) = massW (allN (a ++ b)) (allS (a ++ b)) := by
  rw [plusM_massW]
  unfold allN allS
  have : allA (a ++ b) = allA a ++ allA b := by simp [allA]
  rw [this, shownStr_append, List.length_append]
end Go.Proofs.YtbbohojekmmggaaG
