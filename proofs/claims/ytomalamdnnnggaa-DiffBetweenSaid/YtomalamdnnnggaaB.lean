/- Seat 26: what two texts have in common at most; edits; plain law, no program in sight. -/
import Derived.Test.YtomalamdnnnggaaA
namespace Go.Proofs.YtomalamdnnnggaaG
open Go Go.RowKit
set_option maxRecDepth 10000
set_option maxHeartbeats 1000000
set_option linter.unusedVariables false
set_option linter.unusedSimpArgs false

/-! ### Texts as lists -/
def lst (a : ByteArray) : List Int := (List.range a.size).map (bt a)
theorem lst_length (a : ByteArray) : (lst a).length = a.size := by simp [lst]
theorem lst_get (a : ByteArray) (i : Nat) (h : i < a.size) : (lst a)[i]? = some (bt a i) := by simp [lst, h]
theorem lst_drop (a : ByteArray) (i : Nat) (h : i < a.size) : (lst a).drop i = bt a i :: (lst a).drop (i + 1) := by
  have h' : i < (lst a).length := by rw [lst_length]; exact h
  rw [List.drop_eq_getElem_cons h']
  congr 1
  have := lst_get a i h
  rw [List.getElem?_eq_getElem h'] at this
  exact Option.some.inj this
theorem lst_end (a : ByteArray) (i : Nat) (h : a.size ≤ i) : (lst a).drop i = [] := List.drop_of_length_le (by rw [lst_length]; exact h)
theorem lst_data (a : ByteArray) : lst a = a.data.toList.map fun b => (b.toNat : Int) := by
  apply List.ext_getElem
  · simp [lst]
  · intro i h1 h2
    have hi : i < a.size := by rw [lst_length] at h1; exact h1
    have e := lst_get a i hi
    rw [List.getElem?_eq_getElem h1] at e
    rw [Option.some.inj e]
    unfold bt
    rw [dif_pos hi]
    simp
    rfl
theorem lst_inj {a b : ByteArray} (h : lst a = lst b) : a = b := by
  rw [lst_data, lst_data] at h
  have h2 : a.data.toList = b.data.toList := by
    refine (List.map_inj_right ?_).1 h
    intro x y hxy
    exact UInt8.toNat_inj.1 (Int.ofNat_inj.1 hxy)
  cases a with | mk da => cases b with | mk db =>
    have : da = db := Array.ext' h2
    rw [this]
theorem lst_append (a b : ByteArray) : lst (a ++ b) = lst a ++ lst b := by
  rw [lst_data, lst_data, lst_data]
  simp

/-! ### Common bytes -/
def lcs : List Int → List Int → Nat
  | [], _ => 0
  | _ :: _, [] => 0
  | x :: xs, y :: ys => if x = y then lcs xs ys + 1 else max (lcs xs (y :: ys)) (lcs (x :: xs) ys)
termination_by a b => a.length + b.length
theorem lcs_nil (b : List Int) : lcs [] b = 0 := by unfold lcs; rfl
theorem lcs_nil' (a : List Int) : lcs a [] = 0 := by cases a <;> (unfold lcs; rfl)
theorem lcs_cons (x y : Int) (xs ys : List Int) : lcs (x :: xs) (y :: ys) = if x = y then lcs xs ys + 1 else max (lcs xs (y :: ys)) (lcs (x :: xs) ys) := by rw [lcs]
inductive Cs : List Int → List Int → Nat → Prop
  | nil : Cs [] [] 0
  | keep {a b : List Int} {n : Nat} (x : Int) : Cs a b n → Cs (x :: a) (x :: b) (n + 1)
  | del {a b : List Int} {n : Nat} (x : Int) : Cs a b n → Cs (x :: a) b n
  | ins {a b : List Int} {n : Nat} (y : Int) : Cs a b n → Cs a (y :: b) n
theorem Cs.zero_left : ∀ b : List Int, Cs [] b 0
  | [] => .nil
  | y :: b => .ins y (Cs.zero_left b)
theorem Cs.zero_right : ∀ a : List Int, Cs a [] 0
  | [] => .nil
  | y :: b => .del y (Cs.zero_right b)
theorem Cs.le {a b : List Int} {n : Nat} (h : Cs a b n) : n ≤ a.length ∧ n ≤ b.length ∧ (n = a.length → n = b.length → a = b) := by
  induction h with
  | nil => simp
  | keep x _ ih =>
    obtain ⟨h1, h2, h3⟩ := ih
    refine ⟨by simp; omega, by simp; omega, fun e1 e2 => ?_⟩
    simp at e1 e2
    rw [h3 e1 e2]
  | del x _ ih =>
    obtain ⟨h1, h2, h3⟩ := ih
    exact ⟨by simp; omega, h2, fun e1 e2 => by simp at e1; omega⟩
  | ins x _ ih =>
    obtain ⟨h1, h2, h3⟩ := ih
    exact ⟨h1, by simp; omega, fun e1 e2 => by simp at e2; omega⟩
theorem Cs.symm {a b : List Int} {n : Nat} (h : Cs a b n) : Cs b a n := by
  induction h with
  | nil => exact .nil
  | keep x _ ih => exact .keep x ih
  | del x _ ih => exact .ins x ih
  | ins x _ ih => exact .del x ih
theorem Cs.self : ∀ a : List Int, Cs a a a.length
  | [] => .nil
  | x :: a => .keep x (Cs.self a)
theorem Cs.left_drop {l b : List Int} {n : Nat} (h : Cs l b n) : ∀ x a, l = x :: a → ∃ m, Cs a b m ∧ n ≤ m + 1 := by
  induction h with
  | nil => intro x a e; cases e
  | @keep a b n y h ih => intro x a' e; cases e; exact ⟨_, .ins y h, Nat.le_refl _⟩
  | @del a b n y h ih => intro x a' e; cases e; exact ⟨_, h, by omega⟩
  | @ins a b n y h ih =>
    intro x a' e
    obtain ⟨m, h1, h2⟩ := ih x a' e
    exact ⟨m, .ins y h1, h2⟩
theorem Cs.tail {x y : Int} {a b : List Int} {n : Nat} (h : Cs (x :: a) (y :: b) n) : ∃ m, Cs a b m ∧ n ≤ m + 1 := by
  cases h with
  | keep _ h => exact ⟨_, h, by omega⟩
  | del _ h =>
    obtain ⟨m, h1, h2⟩ := h.symm.left_drop y b rfl
    exact ⟨m, h1.symm, h2⟩
  | ins _ h => exact h.left_drop x a rfl
theorem Cs.nil_left {b : List Int} {n : Nat} (h : Cs [] b n) : n = 0 := by have := h.le.1; simpa using this
theorem Cs.max : ∀ (N : Nat) (a b : List Int) (n : Nat), a.length + b.length ≤ N → Cs a b n → n ≤ lcs a b := by
  intro N
  induction N with
  | zero =>
    intro a b n hl h
    have := h.le.1
    omega
  | succ N ih =>
    intro a b n hl h
    match a, b, h with
    | [], b, h => have := h.nil_left; omega
    | x :: a, [], h => have := h.symm.nil_left; omega
    | x :: a, y :: b, h =>
      rw [lcs_cons]
      simp only [List.length_cons] at hl
      by_cases e : x = y
      · rw [if_pos e]
        obtain ⟨m, h1, h2⟩ := h.tail
        have := ih a b m (by omega) h1
        omega
      · rw [if_neg e]
        cases h with
        | keep _ h => exact absurd rfl e
        | del _ h => have := ih a (y :: b) n (by simp; omega) h; omega
        | ins _ h => have := ih (x :: a) b n (by simp; omega) h; omega
theorem Cs.le_lcs {a b : List Int} {n : Nat} (h : Cs a b n) : n ≤ lcs a b := Cs.max _ a b n (Nat.le_refl _) h
theorem Cs.best : ∀ (N : Nat) (a b : List Int), a.length + b.length ≤ N → Cs a b (lcs a b) := by
  intro N
  induction N with
  | zero =>
    intro a b h
    have h1 : a = [] := List.length_eq_zero_iff.1 (by omega)
    have h2 : b = [] := List.length_eq_zero_iff.1 (by omega)
    subst h1 h2
    rw [lcs_nil]; exact .nil
  | succ N ih =>
    intro a b hl
    match a, b with
    | [], b => rw [lcs_nil]; exact Cs.zero_left b
    | x :: a, [] => rw [lcs_nil']; exact Cs.zero_right _
    | x :: a, y :: b =>
      rw [lcs_cons]
      simp only [List.length_cons] at hl
      by_cases e : x = y
      · rw [if_pos e]; subst e; exact .keep x (ih a b (by omega))
      · rw [if_neg e]
        have h1 := ih a (y :: b) (by simp; omega)
        have h2 := ih (x :: a) b (by simp; omega)
        rcases Nat.le_total (lcs a (y :: b)) (lcs (x :: a) b) with h | h
        · rw [Nat.max_eq_right h]; exact .ins y h2
        · rw [Nat.max_eq_left h]; exact .del x h1
theorem Cs.lcs (a b : List Int) : Cs a b (lcs a b) := Cs.best _ a b (Nat.le_refl _)
theorem lcs_comm (a b : List Int) : lcs a b = lcs b a := Nat.le_antisymm (Cs.lcs a b).symm.le_lcs (Cs.lcs b a).symm.le_lcs
theorem lcs_self (a : List Int) : lcs a a = a.length := Nat.le_antisymm (Cs.lcs a a).le.1 (Cs.self a).le_lcs
theorem lcs_le (a b : List Int) : lcs a b ≤ a.length ∧ lcs a b ≤ b.length := ⟨(Cs.lcs a b).le.1, (Cs.lcs a b).le.2.1⟩
theorem lcs_full {a b : List Int} (h : a.length + b.length = 2 * lcs a b) : a = b := by
  obtain ⟨h1, h2, h3⟩ := (Cs.lcs a b).le
  exact h3 (by omega) (by omega)
theorem Cs.trans {a c : List Int} {n : Nat} (h : Cs a c n) : ∀ {b : List Int} {m : Nat}, Cs c b m → ∃ k, Cs a b k ∧ n + m ≤ k + c.length := by
  induction h with
  | nil => intro b m h; exact ⟨m, h, by simp⟩
  | @del a c n x h ih =>
    intro b m h2
    obtain ⟨k, h3, h4⟩ := ih h2
    exact ⟨k, .del x h3, h4⟩
  | @keep a c n x h ih =>
    intro b m h2
    generalize hl : x :: c = l at h2
    induction h2 with
    | nil => cases hl
    | @keep c' b' m' y h3 _ =>
      cases hl
      obtain ⟨k, h4, h5⟩ := ih h3
      exact ⟨k + 1, .keep x h4, by simp; omega⟩
    | @del c' b' m' y h3 _ =>
      cases hl
      obtain ⟨k, h4, h5⟩ := ih h3
      exact ⟨k, .del x h4, by simp; omega⟩
    | @ins c' b' m' y h3 ih2 =>
      obtain ⟨k, h4, h5⟩ := ih2 hl
      exact ⟨k, .ins y h4, h5⟩
  | @ins a c n x h ih =>
    intro b m h2
    generalize hl : x :: c = l at h2
    induction h2 with
    | nil => cases hl
    | @keep c' b' m' y h3 _ =>
      cases hl
      obtain ⟨k, h4, h5⟩ := ih h3
      exact ⟨k, .ins x h4, by simp; omega⟩
    | @del c' b' m' y h3 _ =>
      cases hl
      obtain ⟨k, h4, h5⟩ := ih h3
      exact ⟨k, h4, by simp; omega⟩
    | @ins c' b' m' y h3 ih2 =>
      obtain ⟨k, h4, h5⟩ := ih2 hl
      exact ⟨k, .ins y h4, h5⟩
theorem lcs_trans (a c b : List Int) : lcs a c + lcs c b ≤ lcs a b + c.length := by
  obtain ⟨k, h1, h2⟩ := (Cs.lcs a c).trans (Cs.lcs c b)
  have := h1.le_lcs
  omega
/-! ### From behind -/
theorem Cs.snoc_del {a b : List Int} {n : Nat} (h : Cs a b n) (x : Int) : Cs (a ++ [x]) b n := by
  induction h with
  | nil => exact .del x .nil
  | keep y _ ih => exact .keep y ih
  | del y _ ih => exact .del y ih
  | ins y _ ih => exact .ins y ih
theorem Cs.snoc_ins {a b : List Int} {n : Nat} (h : Cs a b n) (x : Int) : Cs a (b ++ [x]) n := (h.symm.snoc_del x).symm
theorem Cs.snoc_keep {a b : List Int} {n : Nat} (h : Cs a b n) (x : Int) : Cs (a ++ [x]) (b ++ [x]) (n + 1) := by
  induction h with
  | nil => exact .keep x .nil
  | keep y _ ih => exact .keep y ih
  | del y _ ih => exact .del y ih
  | ins y _ ih => exact .ins y ih
theorem Cs.rev {a b : List Int} {n : Nat} (h : Cs a b n) : Cs a.reverse b.reverse n := by
  induction h with
  | nil => exact .nil
  | keep y _ ih => simpa using ih.snoc_keep y
  | del y _ ih => simpa using ih.snoc_del y
  | ins y _ ih => simpa using ih.snoc_ins y
theorem lcs_rev (a b : List Int) : lcs a.reverse b.reverse = lcs a b :=
  Nat.le_antisymm (by have := (Cs.lcs a.reverse b.reverse).rev.le_lcs; simpa using this) (Cs.lcs a b).rev.le_lcs
theorem lcs_snoc (a b : List Int) (x y : Int) : lcs (a ++ [x]) (b ++ [y]) = max (max (lcs (a ++ [x]) b) (lcs a (b ++ [y]))) (if x = y then lcs a b + 1 else 0) := by
  have h0 : lcs (a ++ [x]) b ≤ lcs (a ++ [x]) (b ++ [y]) := ((Cs.lcs (a ++ [x]) b).snoc_ins y).le_lcs
  have h1 : lcs a (b ++ [y]) ≤ lcs (a ++ [x]) (b ++ [y]) := ((Cs.lcs a (b ++ [y])).snoc_del x).le_lcs
  have e1 : lcs (a ++ [x]) (b ++ [y]) = lcs (x :: a.reverse) (y :: b.reverse) := by rw [← lcs_rev]; simp
  have e2 : lcs (a ++ [x]) b = lcs (x :: a.reverse) b.reverse := by rw [← lcs_rev]; simp
  have e3 : lcs a (b ++ [y]) = lcs a.reverse (y :: b.reverse) := by rw [← lcs_rev]; simp
  have e4 : lcs a b = lcs a.reverse b.reverse := (lcs_rev a b).symm
  by_cases e : x = y
  · rw [if_pos e]
    have h2 := lcs_cons x y a.reverse b.reverse
    rw [if_pos e] at h2
    omega
  · rw [if_neg e]
    have h2 := lcs_cons x y a.reverse b.reverse
    rw [if_neg e] at h2
    omega
end Go.Proofs.YtomalamdnnnggaaG
