/- Seat 36: what bytes are a pattern's: plain laws. -/
import Derived.Test.YtkbpiodcndjpnaaG
namespace Go.Proofs.YtkbpiodcndjpnaaG
open Go Go.RowKit
set_option maxRecDepth 10000
set_option maxHeartbeats 1000000
set_option linter.unusedVariables false
set_option linter.unusedSimpArgs false

def anyL (f : List Nat → Bool) : List Nat → Bool
  | [] => f []
  | c :: cs => f (c :: cs) || anyL f cs
/-- Are bytes, one behind the other, what parts say? -/
def mt : List AP → List Nat → Bool
  | [], cs => cs.isEmpty
  | y :: ys, cs => if y.kind = 2 then anyL (mt ys) cs else match cs with
    | [] => false
    | c :: cs' => y.S c && mt ys cs'
theorem anyL_iff (f : List Nat → Bool) : ∀ cs : List Nat, anyL f cs = true ↔ ∃ j, j ≤ cs.length ∧ f (cs.drop j) = true
  | [] => ⟨fun h => ⟨0, Nat.le_refl _, h⟩, fun ⟨j, h1, h2⟩ => by
    have : j = 0 := by simpa using h1
    subst this
    exact h2⟩
  | c :: cs => by
    simp only [anyL, Bool.or_eq_true, anyL_iff f cs]
    constructor
    · rintro (h | ⟨j, h1, h2⟩)
      · exact ⟨0, Nat.zero_le _, h⟩
      · exact ⟨j + 1, by simpa using h1, by simpa using h2⟩
    · rintro ⟨j, h1, h2⟩
      cases j with
      | zero => exact .inl h2
      | succ j => exact .inr ⟨j, by simpa using h1, by simpa using h2⟩
theorem anyL_split (f : List Nat → Bool) (cs : List Nat) : anyL f cs = true ↔ ∃ a b, cs = a ++ b ∧ f b = true := by
  rw [anyL_iff]
  constructor
  · rintro ⟨j, h1, h2⟩
    exact ⟨cs.take j, cs.drop j, (List.take_append_drop j cs).symm, h2⟩
  · rintro ⟨a, b, rfl, h⟩
    exact ⟨a.length, by simp, by simpa using h⟩
theorem mt_nil (cs : List Nat) : mt [] cs = true ↔ cs = [] := by simp [mt]
theorem mt_run {y : AP} {ys : List AP} (h : y.kind = 2) (cs : List Nat) : mt (y :: ys) cs = anyL (mt ys) cs := by simp only [mt, if_pos h]
theorem mt_one {y : AP} {ys : List AP} (h : y.kind ≠ 2) (cs : List Nat) : mt (y :: ys) cs = match cs with
    | [] => false
    | c :: cs' => y.S c && mt ys cs' := by simp only [mt, if_neg h]
theorem mt_one_iff {y : AP} {ys : List AP} (h : y.kind ≠ 2) (cs : List Nat) : mt (y :: ys) cs = true ↔ ∃ c cs', cs = c :: cs' ∧ y.S c = true ∧ mt ys cs' = true := by
  rw [mt_one h]
  cases cs with
  | nil => simp
  | cons c cs =>
    simp only [Bool.and_eq_true]
    constructor
    · rintro ⟨h1, h2⟩; exact ⟨c, cs, rfl, h1, h2⟩
    · rintro ⟨c', cs', e, h1, h2⟩
      cases e
      exact ⟨h1, h2⟩
theorem mt_app : ∀ (xs ys : List AP) (cs : List Nat), mt (xs ++ ys) cs = true ↔ ∃ a b, cs = a ++ b ∧ mt xs a = true ∧ mt ys b = true
  | [], ys, cs => by
    constructor
    · intro h; exact ⟨[], cs, rfl, rfl, h⟩
    · rintro ⟨a, b, rfl, h1, h2⟩
      rw [mt_nil] at h1
      subst h1
      exact h2
  | x :: xs, ys, cs => by
    by_cases hk : x.kind = 2
    · rw [List.cons_append, mt_run hk, anyL_split]
      constructor
      · rintro ⟨a, b, rfl, h⟩
        obtain ⟨a', b', rfl, h1, h2⟩ := (mt_app xs ys b).1 h
        refine ⟨a ++ a', b', by simp, ?_, h2⟩
        rw [mt_run hk, anyL_split]
        exact ⟨a, a', rfl, h1⟩
      · rintro ⟨a, b, rfl, h1, h2⟩
        rw [mt_run hk, anyL_split] at h1
        obtain ⟨a', b', rfl, h3⟩ := h1
        exact ⟨a', b' ++ b, by simp, (mt_app xs ys _).2 ⟨b', b, rfl, h3, h2⟩⟩
    · rw [List.cons_append, mt_one_iff hk]
      constructor
      · rintro ⟨c, cs', rfl, h1, h2⟩
        obtain ⟨a, b, rfl, h3, h4⟩ := (mt_app xs ys cs').1 h2
        exact ⟨c :: a, b, rfl, (mt_one_iff hk _).2 ⟨c, a, rfl, h1, h3⟩, h4⟩
      · rintro ⟨a, b, rfl, h1, h2⟩
        obtain ⟨c, a', rfl, h3, h4⟩ := (mt_one_iff hk _).1 h1
        exact ⟨c, a' ++ b, rfl, h3, (mt_app xs ys _).2 ⟨a', b, rfl, h4, h2⟩⟩
theorem mt_snoc_run {xs : List AP} {y : AP} (hk : y.kind = 2) (cs : List Nat) : mt (xs ++ [y]) cs = true ↔ ∃ a b, cs = a ++ b ∧ mt xs a = true := by
  rw [mt_app]
  constructor
  · rintro ⟨a, b, h, h1, _⟩; exact ⟨a, b, h, h1⟩
  · rintro ⟨a, b, h, h1⟩
    exact ⟨a, b, h, h1, by rw [mt_run hk, anyL_split]; exact ⟨b, [], by simp, rfl⟩⟩
theorem mt_snoc_one {xs : List AP} {y : AP} (hk : y.kind ≠ 2) (cs : List Nat) : mt (xs ++ [y]) cs = true ↔ ∃ a c, cs = a ++ [c] ∧ mt xs a = true ∧ y.S c = true := by
  rw [mt_app]
  constructor
  · rintro ⟨a, b, rfl, h1, h2⟩
    obtain ⟨c, cs', rfl, h3, h4⟩ := (mt_one_iff hk _).1 h2
    rw [mt_nil] at h4
    subst h4
    exact ⟨a, c, rfl, h1, h3⟩
  · rintro ⟨a, c, rfl, h1, h2⟩
    exact ⟨a, [c], rfl, h1, (mt_one_iff hk _).2 ⟨c, [], rfl, h2, rfl⟩⟩
/-! ### Bytes of a text -/
def bl (s : ByteArray) : List Nat := s.data.toList.map fun b => b.toNat
theorem bl_length (s : ByteArray) : (bl s).length = s.size := by unfold bl; rw [List.length_map, Array.length_toList]; rfl
theorem bl_get {s : ByteArray} {i : Nat} (h : i < s.size) : (bl s)[i]? = some (bt s i).toNat := by
  unfold bl bt
  rw [dif_pos h, List.getElem?_map, Array.getElem?_toList, Array.getElem?_eq_getElem (by exact h)]
  rfl
theorem bt_cast {s : ByteArray} {i : Nat} : ∃ c : Nat, bt s i = (c : Int) ∧ c < 256 := by
  have := bt_range s i
  exact ⟨(bt s i).toNat, by omega, by omega⟩
theorem bl_drop {s : ByteArray} {i : Nat} (h : i < s.size) : (bl s).drop i = (bt s i).toNat :: (bl s).drop (i + 1) := by
  have hl : i < (bl s).length := by rw [bl_length]; exact h
  rw [List.drop_eq_getElem_cons hl]
  have := bl_get h
  rw [List.getElem?_eq_getElem hl] at this
  rw [Option.some.inj this]
theorem bl_extract (s : ByteArray) (a b : Nat) : bl (s.extract a b) = ((bl s).take b).drop a := by
  unfold bl
  rw [ByteArray.data_extract, Array.toList_extract, List.extract_eq_take_drop, ← List.map_take, ← List.map_drop]
  congr 1
  by_cases h : a ≤ b
  · rw [List.take_drop, Nat.add_sub_cancel' h]
  · rw [Nat.sub_eq_zero_of_le (by omega), List.take_zero, eq_comm, List.drop_eq_nil_iff, List.length_take]
    omega
/-! ### The suffixes -/
def mtAt (ys : List AP) (s : ByteArray) (k i : Nat) : Bool := mt (ys.drop k) ((bl s).drop i)
section
variable {ys : List AP} {s : ByteArray} {k i : Nat} {y : AP}
theorem drop_of (hy : ys[k]? = some y) : ys.drop k = y :: ys.drop (k + 1) := by
  obtain ⟨h, rfl⟩ := List.getElem?_eq_some_iff.1 hy
  exact List.drop_eq_getElem_cons h
theorem mtAt_zero : mtAt ys s 0 0 = mt ys (bl s) := rfl
theorem mtAt_end (hk : ys.length ≤ k) (hi : i ≤ s.size) : mtAt ys s k i = decide (i = s.size) := by
  unfold mtAt
  rw [List.drop_eq_nil_of_le hk, Bool.eq_iff_iff, mt_nil, decide_eq_true_eq, List.drop_eq_nil_iff, bl_length]
  omega
theorem mtAt_run (hy : ys[k]? = some y) (h2 : y.kind = 2) : mtAt ys s k i = true ↔ ∃ j, i ≤ j ∧ (j ≤ s.size ∨ j = i) ∧ mtAt ys s (k + 1) j = true := by
  unfold mtAt
  rw [drop_of hy, mt_run h2, anyL_iff]
  constructor
  · rintro ⟨j, h1, h3⟩
    rw [List.length_drop, bl_length] at h1
    refine ⟨i + j, by omega, by omega, ?_⟩
    rwa [List.drop_drop] at h3
  · rintro ⟨j, h1, h4, h3⟩
    refine ⟨j - i, by rw [List.length_drop, bl_length]; omega, ?_⟩
    rw [List.drop_drop, show i + (j - i) = j by omega]
    exact h3
theorem mtAt_one (hy : ys[k]? = some y) (h2 : y.kind ≠ 2) (hi : i < s.size) : mtAt ys s k i = (y.S (bt s i).toNat && mtAt ys s (k + 1) (i + 1)) := by
  unfold mtAt
  rw [drop_of hy, mt_one h2, bl_drop hi]
theorem mtAt_none (hy : ys[k]? = some y) (h2 : y.kind ≠ 2) (hi : s.size ≤ i) : mtAt ys s k i = false := by
  unfold mtAt
  rw [drop_of hy, mt_one h2, List.drop_eq_nil_of_le (by rw [bl_length]; exact hi)]
/-- Parts that are all one byte's: so many bytes. -/
theorem mtAt_ones {st : Nat} : ∀ (m j : Nat), (∀ q, st ≤ q → q < st + m → ∃ y, ys[q]? = some y ∧ y.kind ≠ 2) → mtAt ys s st j = true → j ≤ s.size → j + m ≤ s.size ∧ mtAt ys s (st + m) (j + m) = true
  | 0, j, _, h, hj => ⟨hj, h⟩
  | m + 1, j, hq, h, hj => by
    obtain ⟨h1, h2⟩ := mtAt_ones m j (fun q a b => hq q a (by omega)) h hj
    obtain ⟨y, hy, hk⟩ := hq (st + m) (by omega) (by omega)
    by_cases hlt : j + m < s.size
    · rw [mtAt_one hy hk hlt, Bool.and_eq_true] at h2
      exact ⟨by omega, h2.2⟩
    · rw [mtAt_none hy hk (by omega)] at h2
      cases h2
end
/-- Where the search stands: at part k, at byte i; st: behind the last run of bytes that was met (0: none), which is tried from mark on. -/
structure MaIx (ys : List AP) (s : ByteArray) where
  i : Nat
  k : Nat
  st : Nat
  mark : Nat
  hi : i ≤ s.size
  hk : k ≤ ys.length
  hm : mark ≤ i
  hst : st ≤ k
  hf : 0 < st → k + mark = i + st
  ho : ∀ q, st ≤ q → q < k → ∃ y, ys[q]? = some y ∧ y.kind ≠ 2
  hr : mt ys (bl s) = true ↔ mtAt ys s k i = true ∨ (0 < st ∧ ∃ j, mark < j ∧ j ≤ s.size ∧ mtAt ys s st j = true)
def MaIx.m {ys : List AP} {s : ByteArray} (x : MaIx ys s) : Nat := (ys.length - x.st) + (s.size - x.mark) * (ys.length + 1) + (ys.length - x.k)
section
variable {ys : List AP} {s : ByteArray}
def MaIx.start (ys : List AP) (s : ByteArray) : MaIx ys s := ⟨0, 0, 0, 0, by omega, by omega, by omega, by omega, by omega, by omega, by rw [← mtAt_zero]; simp⟩
def MaIx.run (x : MaIx ys s) {y : AP} (hy : ys[x.k]? = some y) (h2 : y.kind = 2) : MaIx ys s := by
  have hlt := (List.getElem?_eq_some_iff.1 hy).1
  refine ⟨x.i, x.k + 1, x.k + 1, x.i, x.hi, by omega, by omega, by omega, by omega, by omega, ?_⟩
  rw [x.hr]
  have hrun := mtAt_run (s := s) (i := x.i) hy h2
  constructor
  · intro h
    have h3 : mtAt ys s x.k x.i = true := by
      rcases h with h | ⟨h0, j, h4, h5, h6⟩
      · exact h
      · obtain ⟨h7, h8⟩ := mtAt_ones (x.k - x.st) j (fun q a b => x.ho q a (by omega)) h6 h5
        rw [show x.st + (x.k - x.st) = x.k by have := x.hst; omega] at h8
        obtain ⟨j', h9, h10, h11⟩ := (mtAt_run hy h2).1 h8
        have hf := x.hf h0
        have := x.hst
        exact hrun.2 ⟨j', by omega, by omega, h11⟩
    obtain ⟨j, h4, h5, h6⟩ := hrun.1 h3
    have := x.hi
    by_cases e : j = x.i
    · subst e; exact .inl h6
    · exact .inr ⟨by omega, j, by omega, by omega, h6⟩
  · rintro (h | ⟨_, j, h4, h5, h6⟩)
    · exact .inl (hrun.2 ⟨x.i, by omega, by omega, h⟩)
    · exact .inl (hrun.2 ⟨j, by omega, by omega, h6⟩)
def MaIx.one (x : MaIx ys s) {y : AP} (hy : ys[x.k]? = some y) (h2 : y.kind ≠ 2) (hi : x.i < s.size) (hS : y.S (bt s x.i).toNat = true) : MaIx ys s := by
  have hlt := (List.getElem?_eq_some_iff.1 hy).1
  refine ⟨x.i + 1, x.k + 1, x.st, x.mark, by omega, by omega, by have := x.hm; omega, by have := x.hst; omega, fun h => by have := x.hf h; omega, fun q a b => ?_, ?_⟩
  · by_cases e : q = x.k
    · subst e; exact ⟨y, hy, h2⟩
    · exact x.ho q a (by omega)
  · rw [x.hr, mtAt_one hy h2 hi, hS, Bool.true_and]
def MaIx.back (x : MaIx ys s) (hno : mtAt ys s x.k x.i = false) (h0 : 0 < x.st) (hlt : x.mark < s.size) : MaIx ys s := by
  refine ⟨x.mark + 1, x.st, x.st, x.mark + 1, by omega, by have := x.hk; have := x.hst; omega, by omega, by omega, by omega, by omega, ?_⟩
  rw [x.hr, hno]
  constructor
  · rintro (h | ⟨_, j, h1, h2, h3⟩)
    · cases h
    · by_cases e : j = x.mark + 1
      · subst e; exact .inl h3
      · exact .inr ⟨h0, j, by omega, h2, h3⟩
  · rintro (h | ⟨_, j, h1, h2, h3⟩)
    · exact .inr ⟨h0, x.mark + 1, by omega, by omega, h⟩
    · exact .inr ⟨h0, j, by omega, h2, h3⟩
theorem MaIx.run_m (x : MaIx ys s) {y : AP} (hy : ys[x.k]? = some y) (h2 : y.kind = 2) : (x.run hy h2).m < x.m := by
  have hlt := (List.getElem?_eq_some_iff.1 hy).1
  have h1 := x.hst
  have h3 := x.hm
  show (ys.length - (x.k + 1)) + (s.size - x.i) * (ys.length + 1) + (ys.length - (x.k + 1)) < (ys.length - x.st) + (s.size - x.mark) * (ys.length + 1) + (ys.length - x.k)
  have : (s.size - x.i) * (ys.length + 1) ≤ (s.size - x.mark) * (ys.length + 1) := Nat.mul_le_mul_right _ (by omega)
  omega
theorem MaIx.one_m (x : MaIx ys s) {y : AP} (hy : ys[x.k]? = some y) (h2 : y.kind ≠ 2) (hi : x.i < s.size) (hS : y.S (bt s x.i).toNat = true) : (x.one hy h2 hi hS).m < x.m := by
  have hlt := (List.getElem?_eq_some_iff.1 hy).1
  show (ys.length - x.st) + (s.size - x.mark) * (ys.length + 1) + (ys.length - (x.k + 1)) < (ys.length - x.st) + (s.size - x.mark) * (ys.length + 1) + (ys.length - x.k)
  omega
theorem MaIx.back_m (x : MaIx ys s) (hno : mtAt ys s x.k x.i = false) (h0 : 0 < x.st) (hlt : x.mark < s.size) : (x.back hno h0 hlt).m < x.m := by
  have h1 := x.hst
  have h2 := x.hk
  show (ys.length - x.st) + (s.size - (x.mark + 1)) * (ys.length + 1) + (ys.length - x.st) < (ys.length - x.st) + (s.size - x.mark) * (ys.length + 1) + (ys.length - x.k)
  have e : s.size - x.mark = (s.size - (x.mark + 1)) + 1 := by omega
  rw [e, Nat.add_mul]
  omega
end
end Go.Proofs.YtkbpiodcndjpnaaG
