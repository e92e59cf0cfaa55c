/- Seat 15: a run cut, and joined again, atom by atom: no code here. -/
import Derived.Test.YtbbohojekmmggaaD
namespace Go.Proofs.YtbbohojekmmggaaG
open Go Go.RowKit
set_option maxRecDepth 10000

theorem w32_in {a : Int} (h0 : 0 ≤ a) (h1 : a ≤ 4294967295) : w32 a = a := wrap_in (k := .u32) h0 h1
theorem bt_extract (s : ByteArray) (l h i : Nat) (hh : h ≤ s.size) (hi : i < h - l) : bt (s.extract l h) i = bt s (l + i) := by
  have h1 : i < (s.extract l h).size := by rw [ByteArray.size_extract]; omega
  have h2 : l + i < s.size := by omega
  unfold bt
  rw [dif_pos h1, dif_pos h2, ByteArray.getElem_extract]
theorem bt_append (a b : ByteArray) (i : Nat) : bt (a ++ b) i = if i < a.size then bt a i else bt b (i - a.size) := by
  have hs : (a ++ b).size = a.size + b.size := ByteArray.size_append
  by_cases h : i < a.size
  · rw [if_pos h]
    unfold bt
    rw [dif_pos (by omega), dif_pos h, ByteArray.getElem_append_left h]
  · rw [if_neg h]
    unfold bt
    by_cases h2 : i < (a ++ b).size
    · rw [dif_pos h2, dif_pos (by omega), ByteArray.getElem_append_right (by omega)]
    · rw [dif_neg h2, dif_neg (by omega)]
def RunD.cutA (x : RunD) (m : Nat) : RunD := { x with text := x.text.extract 0 m }
def RunD.cutB (x : RunD) (m : Nat) : RunD := { x with n := w32 (x.n + w32 m), en := w32 (x.en + w32 m), text := x.text.extract m x.text.size }
theorem cutA_atoms (x : RunD) (m : Nat) (h : m ≤ x.text.size) : atoms (x.cutA m) = (atoms x).take m := by
  have hz : (x.cutA m).text.size = m := by simp [RunD.cutA, ByteArray.size_extract]; omega
  unfold atoms atomsTo
  rw [hz, ← List.map_take, List.take_range, Nat.min_eq_left h]
  refine List.map_congr_left fun i hi => ?_
  have hi : i < m := by simpa using hi
  simp only [atomAt, RunD.cutA]
  rw [bt_extract _ _ _ _ h (by omega)]
  simp
theorem cutB_atoms (x : RunD) (m : Nat) (hw : x.WF) (hg : x.good) (h : m ≤ x.text.size) : atoms (x.cutB m) = (atoms x).drop m := by
  have hz : (x.cutB m).text.size = x.text.size - m := by simp [RunD.cutB, ByteArray.size_extract]
  obtain ⟨h1, h2, _, h4, h5, h6, h7⟩ := hg
  have em : w32 m = m := w32_in (by omega) (by omega)
  have en : w32 (x.n + m) = x.n + m := w32_in (by omega) (by omega)
  have ee : w32 (x.en + m) = x.en + m := w32_in (by omega) (by omega)
  unfold atoms atomsTo
  rw [hz]
  apply List.ext_getElem
  · simp
  · intro i h1' h2'
    have hi : i < x.text.size - m := by simpa using h1'
    simp only [List.getElem_map, List.getElem_range, List.getElem_drop, atomAt, RunD.cutB]
    rw [bt_extract _ _ _ _ (Nat.le_refl _) (by omega), em, en, ee]
    simp only [AtomD.mk.injEq, and_true, true_and]
    refine ⟨congrArg w32 (by omega), congrArg w32 (by omega)⟩
theorem cut_follows (x : RunD) (m : Nat) (hg : x.good) (h1 : 1 ≤ m) (h : m < x.text.size) : (x.cutA m).follows (x.cutB m) := by
  have hz : (x.text.extract 0 m).size = m := by rw [ByteArray.size_extract]; omega
  have hz' : (x.text.extract m x.text.size).size = x.text.size - m := by rw [ByteArray.size_extract]; omega
  have := hg.2.1
  refine ⟨rfl, rfl, ?_, rfl, ?_, rfl, ?_⟩ <;> simp only [RunD.cutA, RunD.cutB, hz, hz']
  omega
theorem cut_one (x : RunD) (m : Nat) (h : m ≤ x.text.size) : x.text.extract 0 m ++ x.text.extract m x.text.size = x.text := by
  rw [ByteArray.extract_append_extract]
  simp [h]
theorem follows_atoms (x y : RunD) (hx : x.WF) (hy : y.WF) (gx : x.good) (gy : y.good) (h : x.follows y) : atoms (x.one y) = atoms x ++ atoms y := by
  obtain ⟨h1, h2, h3, h4, h5, h6, h7⟩ := h
  have a1 := gx.1; have a2 := gx.2.1; have a6 := gx.2.2.2.2.2.1; have a7 := gx.2.2.2.2.2.2; have a4 := gx.2.2.2.1; have a5 := gx.2.2.2.2.1
  have es : w32 x.text.size = x.text.size := w32_in (by omega) (by omega)
  have e1 : w32 (x.n + x.text.size) = x.n + x.text.size := w32_in (by omega) (by omega)
  have e2 : w32 (x.en + x.text.size) = x.en + x.text.size := w32_in (by omega) (by omega)
  rw [es, e1] at h3
  rw [es, e2] at h5
  have hz := one_size x y
  apply List.ext_getElem
  · simp [atoms_length, hz]
  · intro i i1 i2
    rw [List.getElem_append]
    simp only [atoms, atomsTo, List.getElem_map, List.getElem_range, List.length_map, List.length_range]
    have hi : i < x.text.size + y.text.size := by rw [← hz]; simpa [atoms_length] using i1
    split
    · rename_i hlt
      simp only [atomAt, RunD.one]
      rw [bt_append, if_pos hlt]
    · rename_i hlt
      simp only [atomAt, RunD.one]
      rw [bt_append, if_neg hlt, h1, h2, h4, h6, ← h3, ← h5]
      simp only [AtomD.mk.injEq, and_true, true_and]
      exact ⟨congrArg w32 (by omega), congrArg w32 (by omega)⟩
theorem atoms_follows (x y : RunD) (hx : x.WF) (hy : y.WF) (gx : x.good) (gy : y.good) (hs : x.text.size + y.text.size ≤ 1024) (h : atoms (x.one y) = atoms x ++ atoms y) : x.follows y := by
  have a1 := gx.1; have a2 := gx.2.1; have a6 := gx.2.2.2.2.2.1; have a7 := gx.2.2.2.2.2.2; have a4 := gx.2.2.2.1; have a5 := gx.2.2.2.2.1
  have b1 := gy.1; have b6 := gy.2.2.2.2.2.1; have b7 := gy.2.2.2.2.2.2; have b4 := gy.2.2.2.1; have b5 := gy.2.2.2.2.1
  have es : w32 x.text.size = x.text.size := w32_in (by omega) (by omega)
  have hz := one_size x y
  have k := congrArg (fun l => l[x.text.size]?) h
  rw [List.getElem?_append_right (by rw [atoms_length]; omega), atoms_length, Nat.sub_self] at k
  have e1 : (atoms (x.one y))[x.text.size]? = some (atomAt (x.one y) x.text.size) := by
    unfold atoms atomsTo
    rw [List.getElem?_map, List.getElem?_range (by omega)]
    rfl
  have e2 : (atoms y)[0]? = some (atomAt y 0) := by
    unfold atoms atomsTo
    rw [List.getElem?_map, List.getElem?_range (by omega)]
    rfl
  rw [e1, e2] at k
  simp only [Option.some.injEq, atomAt, RunD.one, AtomD.mk.injEq] at k
  obtain ⟨k1, k2, k3, k4, k5, _, k7⟩ := k
  have f1 : w32 (y.n + ((0 : Nat) : Int)) = y.n := by rw [w32_in (by omega) (by omega)]; omega
  have f2 : w32 (y.en + ((0 : Nat) : Int)) = y.en := by rw [w32_in (by omega) (by omega)]; omega
  rw [f1] at k3
  rw [f2] at k5
  exact ⟨k1, k2, by rw [es]; exact k3, k4, by rw [es]; exact k5, k7, hs⟩
end Go.Proofs.YtbbohojekmmggaaG
