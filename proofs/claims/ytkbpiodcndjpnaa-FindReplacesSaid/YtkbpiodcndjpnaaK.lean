/- Seat 36: where a pattern is first. -/
import Derived.Test.YtkbpiodcndjpnaaJ
namespace Go.Proofs.YtkbpiodcndjpnaaG
open Go Go.RowKit
set_option maxRecDepth 10000
set_option maxHeartbeats 2000000
set_option linter.unusedVariables false
set_option linter.unusedSimpArgs false

/-- The bytes from a place to another one. -/
def seg (s : ByteArray) (a b : Nat) : List Nat := ((bl s).take b).drop a
theorem seg_extract (s : ByteArray) (a b : Nat) : bl (s.extract a b) = seg s a b := bl_extract s a b
theorem seg_self (s : ByteArray) (a : Nat) : seg s a a = [] := by
  unfold seg
  rw [List.drop_eq_nil_iff, List.length_take]; omega
theorem seg_all (s : ByteArray) : seg s 0 s.size = bl s := by
  unfold seg
  rw [List.drop_zero, List.take_of_length_le (by rw [bl_length]; omega)]
theorem seg_length (s : ByteArray) (a b : Nat) (h : b ≤ s.size) : (seg s a b).length = b - a := by
  unfold seg
  rw [List.length_drop, List.length_take, bl_length]; omega
theorem seg_snoc (s : ByteArray) (a i : Nat) (h1 : a ≤ i) (h2 : i < s.size) : seg s a (i + 1) = seg s a i ++ [(bt s i).toNat] := by
  unfold seg
  rw [List.take_add_one, bl_get h2, List.drop_append_of_le_length (by rw [List.length_take, bl_length]; omega)]
  rfl
theorem seg_take (s : ByteArray) (a j i : Nat) (h1 : a ≤ j) (h2 : j ≤ i) (h3 : i ≤ s.size) : (seg s a i).take (j - a) = seg s a j := by
  unfold seg
  rw [List.take_drop, Nat.add_sub_cancel' h1, List.take_take, Nat.min_eq_left h2]
/-! ### The ends are those up to which bytes are the pattern's -/
theorem rowE_iff {ys : List AP} {y : AP} {s : ByteArray} {fr : Nat} {now : Nat → Bool} (hn : ∀ i, i ≤ s.size → (now i = true ↔ fr ≤ i ∧ mt ys (seg s fr i) = true)) : ∀ i, i ≤ s.size → (rowE y s fr now i = true ↔ fr ≤ i ∧ mt (ys ++ [y]) (seg s fr i) = true) := by
  by_cases h2 : y.kind = 2
  · have key : ∀ i, i ≤ s.size → (rowE y s fr now i = true ↔ ∃ j, fr ≤ j ∧ j ≤ i ∧ now j = true) := by
      intro i
      induction i with
      | zero =>
        intro hi
        by_cases hf : fr = 0
        · cases hz : now 0 with
          | true => rw [rowE_run1 h2 (by omega) hz]; exact ⟨fun _ => ⟨0, by omega, by omega, hz⟩, fun _ => rfl⟩
          | false =>
            rw [rowE_runE h2 hf.symm hz]
            refine ⟨fun h => by (cases h), fun ⟨j, _, h3, h4⟩ => ?_⟩
            obtain rfl : j = 0 := by omega
            rw [hz] at h4; exact h4
        · rw [rowE_lt (by omega)]
          exact ⟨fun h => by (cases h), fun ⟨j, h3, h4, _⟩ => by omega⟩
      | succ i ih =>
        intro hi
        by_cases hf : fr ≤ i + 1
        · cases hz : now (i + 1) with
          | true => rw [rowE_run1 h2 hf hz]; exact ⟨fun _ => ⟨i + 1, hf, by omega, hz⟩, fun _ => rfl⟩
          | false =>
            by_cases hlt : fr < i + 1
            · rw [rowE_run0 h2 hlt hz, ih (by omega)]
              constructor
              · rintro ⟨j, h3, h4, h5⟩; exact ⟨j, h3, by omega, h5⟩
              · rintro ⟨j, h3, h4, h5⟩
                by_cases e : j = i + 1
                · subst e; rw [hz] at h5; cases h5
                · exact ⟨j, h3, by omega, h5⟩
            · rw [rowE_runE h2 (by omega) hz]
              refine ⟨fun h => by (cases h), fun ⟨j, h3, h4, h5⟩ => ?_⟩
              obtain rfl : j = i + 1 := by omega
              rw [hz] at h5; exact h5
        · rw [rowE_lt (by omega)]
          exact ⟨fun h => by (cases h), fun ⟨j, h3, h4, _⟩ => by omega⟩
    intro i hi
    rw [key i hi, mt_snoc_run h2]
    constructor
    · rintro ⟨j, h3, h4, h5⟩
      refine ⟨by omega, seg s fr j, (seg s fr i).drop (j - fr), ?_, ((hn j (by omega)).1 h5).2⟩
      rw [← seg_take s fr j i h3 h4 hi, List.take_append_drop]
    · rintro ⟨h3, a, b, h4, h5⟩
      have hl : a.length ≤ i - fr := by
        have := congrArg List.length h4
        rw [seg_length s fr i hi, List.length_append] at this
        omega
      refine ⟨fr + a.length, by omega, by omega, (hn _ (by omega)).2 ⟨by omega, ?_⟩⟩
      rw [← seg_take s fr (fr + a.length) i (by omega) (by omega) hi, h4, Nat.add_sub_cancel_left, List.take_left]
      exact h5
  · intro i hi
    rw [mt_snoc_one h2]
    by_cases hlt : fr < i
    · obtain ⟨j, rfl⟩ : ∃ j, i = j + 1 := ⟨i - 1, by omega⟩
      rw [rowE_one h2 hlt, Bool.and_eq_true, hn j (by omega), seg_snoc s fr j (by omega) (by omega)]
      constructor
      · rintro ⟨⟨h3, h4⟩, h5⟩
        exact ⟨by omega, _, _, rfl, h4, h5⟩
      · rintro ⟨h3, a, c, h4, h5, h6⟩
        obtain ⟨rfl, e⟩ := List.append_inj' h4 rfl
        obtain rfl := List.singleton_inj.1 e
        exact ⟨⟨by omega, h5⟩, h6⟩
    · by_cases e : i = fr
      · rw [rowE_oneE h2 e]
        subst e
        rw [seg_self]
        refine ⟨fun h => by (cases h), fun ⟨_, a, c, h4, _⟩ => ?_⟩
        have := congrArg List.length h4
        simp at this
      · rw [rowE_lt (by omega)]
        exact ⟨fun h => by (cases h), fun ⟨h3, _⟩ => by omega⟩
theorem endE_iff {s : ByteArray} {fr : Nat} (hfr : fr ≤ s.size) : ∀ (n : Nat) (ys : List AP), ys.length = n → ∀ i, i ≤ s.size → (endE ys s fr i = true ↔ fr ≤ i ∧ mt ys (seg s fr i) = true)
  | 0, ys, hl, i, hi => by
    obtain rfl := List.length_eq_zero_iff.1 hl
    show decide (i = fr) = true ↔ _
    rw [decide_eq_true_eq, mt_nil]
    constructor
    · rintro rfl; exact ⟨Nat.le_refl _, seg_self s i⟩
    · rintro ⟨h1, h2⟩
      have := congrArg List.length h2
      rw [seg_length s fr i hi] at this
      simp at this
      omega
  | n + 1, ys, hl, i, hi => by
    have hne : ys ≠ [] := fun e => by subst e; simp at hl
    have e := (List.dropLast_concat_getLast hne).symm
    rw [e, endE_snoc]
    exact rowE_iff (endE_iff hfr n ys.dropLast (by rw [List.length_dropLast]; omega)) i hi
theorem endE_eq {ys : List AP} {s : ByteArray} {fr i : Nat} (hfr : fr ≤ s.size) (h1 : fr ≤ i) (hi : i ≤ s.size) : endE ys s fr i = mt ys (seg s fr i) := by
  rw [Bool.eq_iff_iff, endE_iff hfr _ ys rfl i hi]
  exact ⟨fun h => h.2, fun h => ⟨h1, h⟩⟩
/-! ### The first place -/
def endRun (ys : List AP) (s : ByteArray) (a : Nat) : Nat → Nat → Option Nat
  | 0, _ => none
  | f + 1, t => if mt ys (seg s a t) = true then some t else endRun ys s a f (t + 1)
def endAt (ys : List AP) (s : ByteArray) (a : Nat) : Option Nat := endRun ys s a (s.size + 1 - a) a
def findRun (ys : List AP) (s : ByteArray) : Nat → Nat → Option (Nat × Nat)
  | 0, _ => none
  | f + 1, a => match endAt ys s a with
    | some t => some (a, t)
    | none => findRun ys s f (a + 1)
def findL (ys : List AP) (s : ByteArray) (a : Int) : Option (Nat × Nat) := if a < 0 then none else findRun ys s (s.size + 1 - a.toNat) a.toNat
theorem endRun_ge {ys : List AP} {s : ByteArray} {a : Nat} : ∀ {f t r : Nat}, endRun ys s a f t = some r → t ≤ r ∧ r < t + f
  | 0, _, _, h => by cases h
  | f + 1, t, r, h => by
    unfold endRun at h
    split at h
    · cases h; omega
    · have := endRun_ge h; omega
theorem endAt_ge {ys : List AP} {s : ByteArray} {a r : Nat} (h : endAt ys s a = some r) : a ≤ r ∧ r ≤ s.size := by
  have := endRun_ge h
  omega
theorem findRun_ge {ys : List AP} {s : ByteArray} : ∀ {f a a' t : Nat}, findRun ys s f a = some (a', t) → a ≤ a' ∧ a' ≤ t ∧ t ≤ s.size
  | 0, _, _, _, h => by cases h
  | f + 1, a, a', t, h => by
    unfold findRun at h
    split at h
    · rename_i t' h'
      cases h
      have := endAt_ge h'
      omega
    · have := findRun_ge h; omega
theorem findL_ge {ys : List AP} {s : ByteArray} {a : Nat} {a' t : Nat} (h : findL ys s (a : Int) = some (a', t)) : a ≤ a' ∧ a' ≤ t ∧ t ≤ s.size := by
  unfold findL at h
  rw [if_neg (by omega)] at h
  have := findRun_ge h
  omega
def endV (r : Option Nat) : Value := match r with
  | none => .int .i64 (-1)
  | some t => .int .i64 (t : Int)
def findV (r : Option (Nat × Nat)) : Value := match r with
  | none => .tuple #[.int .i64 0, .int .i64 0, .bool false]
  | some (a, t) => .tuple #[.int .i64 (a : Int), .int .i64 (t : Int), .bool true]
structure EdIx (ys : List AP) (s : ByteArray) (a : Nat) (r : Option Nat) where
  f : Nat
  t : Nat
  ht : a ≤ t
  hf : f + t = s.size + 1
  hr : endRun ys s a f t = r
theorem end23 (xs : List PD) (ys : List AP) (hrel : RelL xs ys) (s : ByteArray) (hz : s.size ≤ 1000) (a : Nat) (ha : a ≤ s.size) (A : Option Addr) (c : Nat) (w : World) (hrd : Rd w A xs.length 7 (flatP xs)) (hxl : xs.length ≤ 100) : ComputesAt Try.prog 23 [patV A xs.length c, .string s, .int .i64 (a : Int)] w (endV (endAt ys s a)) := by
  refine ⟨?_⟩
  generalize hr0 : endAt ys s a = r
  refine calls_of_GC (n := 22) Try.func23 rfl rfl rfl rfl (St.start _) ?_
  (repeat (first | with_reducible refine GL.nil ?_ | ((with_reducible refine GL.step ?_ (fun N hN => ?_)); apply rfl; (first | (apply GO.ofV; (first | (apply GV.move; apply rfl; apply rfl) | (apply GV.assign; apply rfl; apply rfl) | (apply GV.addI; apply rfl; apply rfl; apply rfl; apply rfl; (simp only [kLo, kHi]; omega); (simp only [kLo, kHi]; omega)) | (apply GV.binI; apply rfl; apply rfl; apply rfl; apply rfl) | (apply GV.len_string; apply rfl; infer_instance; apply rfl) | (apply GV.len_slice; apply rfl; infer_instance; apply rfl)); apply rfl; apply rfl) | (apply GO.box; apply rfl; apply rfl; apply rfl; apply rfl; apply rfl; intro _)); refine hN _ _ ?_; clear hN N) | (first | with_reducible refine GC.seq ?_ | with_reducible refine GC.region ?_ | with_reducible refine GQ.seq ?_ | with_reducible refine GQ.then_ret ?_ | with_reducible refine GC.ret ?_ | ((with_reducible refine GC.cond_true ?_ ?_ ?_); exact rfl; exact rfl) | ((with_reducible refine GC.cond_false ?_ ?_ ?_); exact rfl; exact rfl) | with_reducible refine GQ.then_exit ?_ | with_reducible refine GC.skip ?_ | with_reducible refine GC.block ?_ | with_reducible refine GC.exit ?_ | with_reducible refine GQ.block_normal ?_ | with_reducible refine GQ.block_ret ?_ | with_reducible refine GQ.block_exit ?_ | ((with_reducible refine GQ.block_pass ?_ ?_); exact rfl)) | (first | ((with_reducible apply GC.condT); apply rfl; (first | (apply decide_eq_true; omega) | assumption | (apply beq_iff_eq.mpr; omega) | (apply bne_iff_ne.mpr; omega) | apply rfl | (simp <;> omega))) | ((with_reducible apply GC.condF); apply rfl; (first | (apply decide_eq_false; omega) | assumption | (apply beq_eq_false_iff_ne.mpr; omega) | (apply bne_eq_false_iff_eq.mpr; omega) | apply rfl | (simp <;> omega))))))
  rename_i g3
  refine GC.sub ?_ ?_ (GC.loop (fun x : EdIx ys s a r => [(1, .string s), (2, .int .i64 (a : Int)), (3, pV g3), (7, .int .i64 (x.t : Int))]) (fun x => [blk g3 [.slice A xs.length c] 25]) (fun x => x.f) ⟨s.size + 1 - a, a, by omega, by omega, hr0⟩ ?_)
  · (repeat (first | exact subT_nil _ | refine subT_cons rfl ?_))
  · (repeat (first | exact Pick.nil | (apply Pick.cons; (repeat (first | exact Rm.here | apply Rm.there)))))
  rintro ⟨f, t, ht, hf, hr⟩
  dsimp only
  by_cases hlt : t ≤ s.size
  · obtain ⟨f, rfl⟩ : ∃ f', f = f' + 1 := ⟨f - 1, by omega⟩
    have k9 := fun (W : World) (L : List Asn) (hs : St w (fun _ => False) L W) => match9 xs ys hrel (s.extract a t) (by rw [ByteArray.size_extract]; omega) A c W (hrd.st hs) hxl
    simp only [seg_extract] at k9
    unfold endRun at hr
    cases hm : mt ys (seg s a t) with
    | true =>
      rw [if_pos hm] at hr
      subst hr
      simp only [hm] at k9
      (repeat (first | with_reducible refine GL.nil ?_ | ((with_reducible refine GL.step ?_ (fun N hN => ?_)); apply rfl; (first | (apply GO.ofV; (first | (apply GV.move; apply rfl; apply rfl) | (apply GV.assign; apply rfl; apply rfl) | (apply GV.addI; apply rfl; apply rfl; apply rfl; apply rfl; (simp only [kLo, kHi]; omega); (simp only [kLo, kHi]; omega)) | (apply GV.binI; apply rfl; apply rfl; apply rfl; apply rfl) | (apply GV.len_string; apply rfl; infer_instance; apply rfl) | (apply GV.len_slice; apply rfl; infer_instance; apply rfl)); apply rfl; apply rfl) | (apply GO.box; apply rfl; apply rfl; apply rfl; apply rfl; apply rfl; intro _)); refine hN _ _ ?_; clear hN N) | (first | with_reducible refine GC.seq ?_ | with_reducible refine GC.region ?_ | with_reducible refine GQ.seq ?_ | with_reducible refine GQ.then_ret ?_ | with_reducible refine GC.ret ?_ | ((with_reducible refine GC.cond_true ?_ ?_ ?_); exact rfl; exact rfl) | ((with_reducible refine GC.cond_false ?_ ?_ ?_); exact rfl; exact rfl) | with_reducible refine GQ.then_exit ?_ | with_reducible refine GC.skip ?_ | with_reducible refine GC.block ?_ | with_reducible refine GC.exit ?_ | with_reducible refine GQ.block_normal ?_ | with_reducible refine GQ.block_ret ?_ | with_reducible refine GQ.block_exit ?_ | ((with_reducible refine GQ.block_pass ?_ ?_); exact rfl)) | (first | ((with_reducible apply GC.condT); apply rfl; (first | (apply decide_eq_true; omega) | assumption | (apply beq_iff_eq.mpr; omega) | (apply bne_iff_ne.mpr; omega) | apply rfl | (simp <;> omega))) | ((with_reducible apply GC.condF); apply rfl; (first | (apply decide_eq_false; omega) | assumption | (apply beq_eq_false_iff_ne.mpr; omega) | (apply bne_eq_false_iff_eq.mpr; omega) | apply rfl | (simp <;> omega))))))
      refine GC.draws (L0 := _) (by kernel_rfl) (Pick.refl _) ?_
      (apply GA.take 0; apply rfl; apply rfl; apply rfl; apply rfl; kernel_rfl; kernel_rfl; kernel_rfl; exact fun _ _ _ h => h; (first | exact Pick.refl _ | (repeat (first | exact Pick.nil | (apply Pick.cons; (repeat (first | with_reducible apply Rm.here | with_reducible apply Rm.there)))))); (first  | ((apply GV.slice_string (l := a) (h := t)); apply rfl; infer_instance; apply rfl; (first | exact Or.inl ⟨rfl, rfl⟩ | (apply Or.inr; apply Exists.intro; apply Exists.intro; apply And.intro; apply rfl; apply rfl)); (first | exact Or.inl ⟨rfl, rfl⟩ | (apply Or.inr; apply Exists.intro; apply Exists.intro; apply And.intro; apply rfl; apply rfl)); omega; omega) | (apply GV.load_blk; apply rfl; infer_instance; apply rfl; (repeat (first | with_reducible apply List.mem_cons_self | with_reducible apply List.mem_cons_of_mem)); apply rfl)| (apply GV.load_blk_agg; apply rfl; infer_instance; apply rfl; (repeat (first | with_reducible apply List.mem_cons_self | with_reducible apply List.mem_cons_of_mem)); apply rfl)))
      (apply GA.take 1; apply rfl; apply rfl; apply rfl; apply rfl; kernel_rfl; kernel_rfl; kernel_rfl; exact fun _ _ _ h => h; (first | exact Pick.refl _ | (repeat (first | exact Pick.nil | (apply Pick.cons; (repeat (first | with_reducible apply Rm.here | with_reducible apply Rm.there)))))); (first  | (apply GV.move; apply rfl; apply rfl)))
      (apply GA.take 2; apply rfl; apply rfl; apply rfl; apply rfl; kernel_rfl; kernel_rfl; kernel_rfl; exact fun _ _ _ h => h; (first | exact Pick.refl _ | (repeat (first | exact Pick.nil | (apply Pick.cons; (repeat (first | with_reducible apply Rm.here | with_reducible apply Rm.there)))))); (first  | (apply GV.move; apply rfl; apply rfl)))
      (apply GA.take 3; apply rfl; apply rfl; apply rfl; apply rfl; kernel_rfl; kernel_rfl; kernel_rfl; exact fun _ _ _ h => h; (first | exact Pick.refl _ | (repeat (first | exact Pick.nil | (apply Pick.cons; (repeat (first | with_reducible apply Rm.here | with_reducible apply Rm.there)))))); (first  | (apply GV.move; apply rfl; apply rfl)))
      (apply GA.take 4; apply rfl; apply rfl; apply rfl; apply rfl; kernel_rfl; kernel_rfl; kernel_rfl; exact fun _ _ _ h => h; (first | exact Pick.refl _ | (repeat (first | exact Pick.nil | (apply Pick.cons; (repeat (first | with_reducible apply Rm.here | with_reducible apply Rm.there)))))); (first  | ((apply GV.slice_string (l := a) (h := t)); apply rfl; infer_instance; apply rfl; (first | exact Or.inl ⟨rfl, rfl⟩ | (apply Or.inr; apply Exists.intro; apply Exists.intro; apply And.intro; apply rfl; apply rfl)); (first | exact Or.inl ⟨rfl, rfl⟩ | (apply Or.inr; apply Exists.intro; apply Exists.intro; apply And.intro; apply rfl; apply rfl)); omega; omega) ))
      ((refine GA.one 5 (by kernel_rfl) rfl rfl (fun N hN => ?_)); (first  | ((apply GV.slice_string (l := a) (h := t)); apply rfl; infer_instance; apply rfl; (first | exact Or.inl ⟨rfl, rfl⟩ | (apply Or.inr; apply Exists.intro; apply Exists.intro; apply And.intro; apply rfl; apply rfl)); (first | exact Or.inl ⟨rfl, rfl⟩ | (apply Or.inr; apply Exists.intro; apply Exists.intro; apply And.intro; apply rfl; apply rfl)); omega; omega) | (apply GO.callAt; apply rfl; apply rfl; apply rfl; infer_instance; apply rfl; exact fun W hs => k9 W _ hs) ); (refine hN _ _ ?_ ?_); ((first | exact Pick.refl _ | (repeat (first | exact Pick.nil | (apply Pick.cons; (repeat (first | with_reducible apply Rm.here | with_reducible apply Rm.there))))))); clear hN N)
      refine GA.done (by kernel_rfl) ?_
      (repeat (first | with_reducible refine GL.nil ?_ | ((with_reducible refine GL.step ?_ (fun N hN => ?_)); apply rfl; (first | (apply GO.ofV; (first | (apply GV.move; apply rfl; apply rfl) | (apply GV.assign; apply rfl; apply rfl) | (apply GV.addI; apply rfl; apply rfl; apply rfl; apply rfl; (simp only [kLo, kHi]; omega); (simp only [kLo, kHi]; omega)) | (apply GV.binI; apply rfl; apply rfl; apply rfl; apply rfl) | (apply GV.len_string; apply rfl; infer_instance; apply rfl) | (apply GV.len_slice; apply rfl; infer_instance; apply rfl)); apply rfl; apply rfl) | (apply GO.box; apply rfl; apply rfl; apply rfl; apply rfl; apply rfl; intro _)); refine hN _ _ ?_; clear hN N) | (first | with_reducible refine GC.seq ?_ | with_reducible refine GC.region ?_ | with_reducible refine GQ.seq ?_ | with_reducible refine GQ.then_ret ?_ | with_reducible refine GC.ret ?_ | ((with_reducible refine GC.cond_true ?_ ?_ ?_); exact rfl; exact rfl) | ((with_reducible refine GC.cond_false ?_ ?_ ?_); exact rfl; exact rfl) | with_reducible refine GQ.then_exit ?_ | with_reducible refine GC.skip ?_ | with_reducible refine GC.block ?_ | with_reducible refine GC.exit ?_ | with_reducible refine GQ.block_normal ?_ | with_reducible refine GQ.block_ret ?_ | with_reducible refine GQ.block_exit ?_ | ((with_reducible refine GQ.block_pass ?_ ?_); exact rfl)) | (first | ((with_reducible apply GC.condT); apply rfl; (first | (apply decide_eq_true; omega) | assumption | (apply beq_iff_eq.mpr; omega) | (apply bne_iff_ne.mpr; omega) | apply rfl | (simp <;> omega))) | ((with_reducible apply GC.condF); apply rfl; (first | (apply decide_eq_false; omega) | assumption | (apply beq_eq_false_iff_ne.mpr; omega) | (apply bne_eq_false_iff_eq.mpr; omega) | apply rfl | (simp <;> omega))))))
      (refine' GQ.ret rfl ?_ ?_ ?_; rotate_left 2; (repeat (first | exact ResL.nil | (apply ResL.cons; first | exact Res1.tmp rfl | (refine' Res1.agg rfl ?_ ?_; rotate_left 3; (repeat (first | with_reducible apply List.mem_cons_self | with_reducible apply List.mem_cons_of_mem)); exact rfl) | (refine' Res1.cell rfl ?_ ?_; rotate_left 2; (repeat (first | with_reducible apply List.mem_cons_self | with_reducible apply List.mem_cons_of_mem)); exact rfl)))); apply rfl)
      exact fun w' hs => ⟨rfl, hs.toBelow⟩
    | false =>
      rw [if_neg (by rw [hm]; decide)] at hr
      simp only [hm] at k9
      (repeat (first | with_reducible refine GL.nil ?_ | ((with_reducible refine GL.step ?_ (fun N hN => ?_)); apply rfl; (first | (apply GO.ofV; (first | (apply GV.move; apply rfl; apply rfl) | (apply GV.assign; apply rfl; apply rfl) | (apply GV.addI; apply rfl; apply rfl; apply rfl; apply rfl; (simp only [kLo, kHi]; omega); (simp only [kLo, kHi]; omega)) | (apply GV.binI; apply rfl; apply rfl; apply rfl; apply rfl) | (apply GV.len_string; apply rfl; infer_instance; apply rfl) | (apply GV.len_slice; apply rfl; infer_instance; apply rfl)); apply rfl; apply rfl) | (apply GO.box; apply rfl; apply rfl; apply rfl; apply rfl; apply rfl; intro _)); refine hN _ _ ?_; clear hN N) | (first | with_reducible refine GC.seq ?_ | with_reducible refine GC.region ?_ | with_reducible refine GQ.seq ?_ | with_reducible refine GQ.then_ret ?_ | with_reducible refine GC.ret ?_ | ((with_reducible refine GC.cond_true ?_ ?_ ?_); exact rfl; exact rfl) | ((with_reducible refine GC.cond_false ?_ ?_ ?_); exact rfl; exact rfl) | with_reducible refine GQ.then_exit ?_ | with_reducible refine GC.skip ?_ | with_reducible refine GC.block ?_ | with_reducible refine GC.exit ?_ | with_reducible refine GQ.block_normal ?_ | with_reducible refine GQ.block_ret ?_ | with_reducible refine GQ.block_exit ?_ | ((with_reducible refine GQ.block_pass ?_ ?_); exact rfl)) | (first | ((with_reducible apply GC.condT); apply rfl; (first | (apply decide_eq_true; omega) | assumption | (apply beq_iff_eq.mpr; omega) | (apply bne_iff_ne.mpr; omega) | apply rfl | (simp <;> omega))) | ((with_reducible apply GC.condF); apply rfl; (first | (apply decide_eq_false; omega) | assumption | (apply beq_eq_false_iff_ne.mpr; omega) | (apply bne_eq_false_iff_eq.mpr; omega) | apply rfl | (simp <;> omega))))))
      refine GC.draws (L0 := _) (by kernel_rfl) (Pick.refl _) ?_
      (apply GA.take 0; apply rfl; apply rfl; apply rfl; apply rfl; kernel_rfl; kernel_rfl; kernel_rfl; exact fun _ _ _ h => h; (first | exact Pick.refl _ | (repeat (first | exact Pick.nil | (apply Pick.cons; (repeat (first | with_reducible apply Rm.here | with_reducible apply Rm.there)))))); (first  | ((apply GV.slice_string (l := a) (h := t)); apply rfl; infer_instance; apply rfl; (first | exact Or.inl ⟨rfl, rfl⟩ | (apply Or.inr; apply Exists.intro; apply Exists.intro; apply And.intro; apply rfl; apply rfl)); (first | exact Or.inl ⟨rfl, rfl⟩ | (apply Or.inr; apply Exists.intro; apply Exists.intro; apply And.intro; apply rfl; apply rfl)); omega; omega) | (apply GV.load_blk; apply rfl; infer_instance; apply rfl; (repeat (first | with_reducible apply List.mem_cons_self | with_reducible apply List.mem_cons_of_mem)); apply rfl)| (apply GV.load_blk_agg; apply rfl; infer_instance; apply rfl; (repeat (first | with_reducible apply List.mem_cons_self | with_reducible apply List.mem_cons_of_mem)); apply rfl)))
      (apply GA.take 1; apply rfl; apply rfl; apply rfl; apply rfl; kernel_rfl; kernel_rfl; kernel_rfl; exact fun _ _ _ h => h; (first | exact Pick.refl _ | (repeat (first | exact Pick.nil | (apply Pick.cons; (repeat (first | with_reducible apply Rm.here | with_reducible apply Rm.there)))))); (first  | (apply GV.move; apply rfl; apply rfl)))
      (apply GA.take 2; apply rfl; apply rfl; apply rfl; apply rfl; kernel_rfl; kernel_rfl; kernel_rfl; exact fun _ _ _ h => h; (first | exact Pick.refl _ | (repeat (first | exact Pick.nil | (apply Pick.cons; (repeat (first | with_reducible apply Rm.here | with_reducible apply Rm.there)))))); (first  | (apply GV.move; apply rfl; apply rfl)))
      (apply GA.take 3; apply rfl; apply rfl; apply rfl; apply rfl; kernel_rfl; kernel_rfl; kernel_rfl; exact fun _ _ _ h => h; (first | exact Pick.refl _ | (repeat (first | exact Pick.nil | (apply Pick.cons; (repeat (first | with_reducible apply Rm.here | with_reducible apply Rm.there)))))); (first  | (apply GV.move; apply rfl; apply rfl)))
      (apply GA.take 4; apply rfl; apply rfl; apply rfl; apply rfl; kernel_rfl; kernel_rfl; kernel_rfl; exact fun _ _ _ h => h; (first | exact Pick.refl _ | (repeat (first | exact Pick.nil | (apply Pick.cons; (repeat (first | with_reducible apply Rm.here | with_reducible apply Rm.there)))))); (first  | ((apply GV.slice_string (l := a) (h := t)); apply rfl; infer_instance; apply rfl; (first | exact Or.inl ⟨rfl, rfl⟩ | (apply Or.inr; apply Exists.intro; apply Exists.intro; apply And.intro; apply rfl; apply rfl)); (first | exact Or.inl ⟨rfl, rfl⟩ | (apply Or.inr; apply Exists.intro; apply Exists.intro; apply And.intro; apply rfl; apply rfl)); omega; omega) ))
      ((refine GA.one 5 (by kernel_rfl) rfl rfl (fun N hN => ?_)); (first  | ((apply GV.slice_string (l := a) (h := t)); apply rfl; infer_instance; apply rfl; (first | exact Or.inl ⟨rfl, rfl⟩ | (apply Or.inr; apply Exists.intro; apply Exists.intro; apply And.intro; apply rfl; apply rfl)); (first | exact Or.inl ⟨rfl, rfl⟩ | (apply Or.inr; apply Exists.intro; apply Exists.intro; apply And.intro; apply rfl; apply rfl)); omega; omega) | (apply GO.callAt; apply rfl; apply rfl; apply rfl; infer_instance; apply rfl; exact fun W hs => k9 W _ hs) ); (refine hN _ _ ?_ ?_); ((first | exact Pick.refl _ | (repeat (first | exact Pick.nil | (apply Pick.cons; (repeat (first | with_reducible apply Rm.here | with_reducible apply Rm.there))))))); clear hN N)
      refine GA.done (by kernel_rfl) ?_
      (repeat (first | with_reducible refine GL.nil ?_ | ((with_reducible refine GL.step ?_ (fun N hN => ?_)); apply rfl; (first | (apply GO.ofV; (first | (apply GV.move; apply rfl; apply rfl) | (apply GV.assign; apply rfl; apply rfl) | (apply GV.addI; apply rfl; apply rfl; apply rfl; apply rfl; (simp only [kLo, kHi]; omega); (simp only [kLo, kHi]; omega)) | (apply GV.binI; apply rfl; apply rfl; apply rfl; apply rfl) | (apply GV.len_string; apply rfl; infer_instance; apply rfl) | (apply GV.len_slice; apply rfl; infer_instance; apply rfl)); apply rfl; apply rfl) | (apply GO.box; apply rfl; apply rfl; apply rfl; apply rfl; apply rfl; intro _)); refine hN _ _ ?_; clear hN N) | (first | with_reducible refine GC.seq ?_ | with_reducible refine GC.region ?_ | with_reducible refine GQ.seq ?_ | with_reducible refine GQ.then_ret ?_ | with_reducible refine GC.ret ?_ | ((with_reducible refine GC.cond_true ?_ ?_ ?_); exact rfl; exact rfl) | ((with_reducible refine GC.cond_false ?_ ?_ ?_); exact rfl; exact rfl) | with_reducible refine GQ.then_exit ?_ | with_reducible refine GC.skip ?_ | with_reducible refine GC.block ?_ | with_reducible refine GC.exit ?_ | with_reducible refine GQ.block_normal ?_ | with_reducible refine GQ.block_ret ?_ | with_reducible refine GQ.block_exit ?_ | ((with_reducible refine GQ.block_pass ?_ ?_); exact rfl)) | (first | ((with_reducible apply GC.condT); apply rfl; (first | (apply decide_eq_true; omega) | assumption | (apply beq_iff_eq.mpr; omega) | (apply bne_iff_ne.mpr; omega) | apply rfl | (simp <;> omega))) | ((with_reducible apply GC.condF); apply rfl; (first | (apply decide_eq_false; omega) | assumption | (apply beq_eq_false_iff_ne.mpr; omega) | (apply bne_eq_false_iff_eq.mpr; omega) | apply rfl | (simp <;> omega))))))
      refine GQ.next (⟨f, t + 1, by omega, by omega, hr⟩ : EdIx ys s a r) (by dsimp only; omega) ?_ ?_
      · (repeat (first | exact subT_nil _ | refine subT_cons rfl ?_))
      · (repeat (first | exact Pick.nil | (apply Pick.cons; (repeat (first | exact Rm.here | apply Rm.there)))))
  · obtain rfl : f = 0 := by omega
    have hr' : none = r := hr
    subst hr'
    (repeat (first | with_reducible refine GL.nil ?_ | ((with_reducible refine GL.step ?_ (fun N hN => ?_)); apply rfl; (first | (apply GO.ofV; (first | (apply GV.move; apply rfl; apply rfl) | (apply GV.assign; apply rfl; apply rfl) | (apply GV.addI; apply rfl; apply rfl; apply rfl; apply rfl; (simp only [kLo, kHi]; omega); (simp only [kLo, kHi]; omega)) | (apply GV.binI; apply rfl; apply rfl; apply rfl; apply rfl) | (apply GV.len_string; apply rfl; infer_instance; apply rfl) | (apply GV.len_slice; apply rfl; infer_instance; apply rfl)); apply rfl; apply rfl) | (apply GO.box; apply rfl; apply rfl; apply rfl; apply rfl; apply rfl; intro _)); refine hN _ _ ?_; clear hN N) | (first | with_reducible refine GC.seq ?_ | with_reducible refine GC.region ?_ | with_reducible refine GQ.seq ?_ | with_reducible refine GQ.then_ret ?_ | with_reducible refine GC.ret ?_ | ((with_reducible refine GC.cond_true ?_ ?_ ?_); exact rfl; exact rfl) | ((with_reducible refine GC.cond_false ?_ ?_ ?_); exact rfl; exact rfl) | with_reducible refine GQ.then_exit ?_ | with_reducible refine GC.skip ?_ | with_reducible refine GC.block ?_ | with_reducible refine GC.exit ?_ | with_reducible refine GQ.block_normal ?_ | with_reducible refine GQ.block_ret ?_ | with_reducible refine GQ.block_exit ?_ | ((with_reducible refine GQ.block_pass ?_ ?_); exact rfl)) | (first | ((with_reducible apply GC.condT); apply rfl; (first | (apply decide_eq_true; omega) | assumption | (apply beq_iff_eq.mpr; omega) | (apply bne_iff_ne.mpr; omega) | apply rfl | (simp <;> omega))) | ((with_reducible apply GC.condF); apply rfl; (first | (apply decide_eq_false; omega) | assumption | (apply beq_eq_false_iff_ne.mpr; omega) | (apply bne_eq_false_iff_eq.mpr; omega) | apply rfl | (simp <;> omega))))))
    (refine' GQ.ret rfl ?_ ?_ ?_; rotate_left 2; (repeat (first | exact ResL.nil | (apply ResL.cons; first | exact Res1.tmp rfl | (refine' Res1.agg rfl ?_ ?_; rotate_left 3; (repeat (first | with_reducible apply List.mem_cons_self | with_reducible apply List.mem_cons_of_mem)); exact rfl) | (refine' Res1.cell rfl ?_ ?_; rotate_left 2; (repeat (first | with_reducible apply List.mem_cons_self | with_reducible apply List.mem_cons_of_mem)); exact rfl)))); apply rfl)
    exact fun w' hs => ⟨rfl, hs.toBelow⟩
structure FdIx (ys : List AP) (s : ByteArray) (r : Option (Nat × Nat)) where
  f : Nat
  a : Nat
  hf : f + a = s.size + 1 ∨ (f = 0 ∧ s.size < a)
  ha : a ≤ 9223372036854775807
  hr : findRun ys s f a = r
theorem find11 (xs : List PD) (ys : List AP) (hrel : RelL xs ys) (s : ByteArray) (hz : s.size ≤ 1000) (a : Int) (ha : a ≤ 9223372036854775807) (A : Option Addr) (c : Nat) (w : World) (hrd : Rd w A xs.length 7 (flatP xs)) (hxl : xs.length ≤ 100) : ComputesAt Try.prog 11 [patV A xs.length c, .string s, .int .i64 a] w (findV (findL ys s a)) := by
  refine ⟨?_⟩
  by_cases h0 : a < 0
  · have hr : findL ys s a = none := by unfold findL; rw [if_pos h0]
    rw [hr]
    refine calls_of_GC (n := 26) Try.func11 rfl rfl rfl rfl (St.start _) ?_
    (repeat (first | with_reducible refine GL.nil ?_ | ((with_reducible refine GL.step ?_ (fun N hN => ?_)); apply rfl; (first | (apply GO.ofV; (first | (apply GV.move; apply rfl; apply rfl) | (apply GV.assign; apply rfl; apply rfl) | (apply GV.load_blk; apply rfl; infer_instance; apply rfl; (repeat (first | with_reducible apply List.mem_cons_self | with_reducible apply List.mem_cons_of_mem)); apply rfl) | (apply GV.load_blk_agg; apply rfl; infer_instance; apply rfl; (repeat (first | with_reducible apply List.mem_cons_self | with_reducible apply List.mem_cons_of_mem)); apply rfl) | (apply GV.addI; apply rfl; apply rfl; apply rfl; apply rfl; (simp only [kLo, kHi]; omega); (simp only [kLo, kHi]; omega)) | (apply GV.binI; apply rfl; apply rfl; apply rfl; apply rfl) | (apply GV.len_string; apply rfl; infer_instance; apply rfl) | (apply GV.len_slice; apply rfl; infer_instance; apply rfl)); apply rfl; apply rfl) | (apply GO.box; apply rfl; apply rfl; apply rfl; apply rfl; apply rfl; intro _)); refine hN _ _ ?_; clear hN N) | (first | with_reducible refine GC.seq ?_ | with_reducible refine GC.region ?_ | with_reducible refine GQ.seq ?_ | with_reducible refine GQ.then_ret ?_ | with_reducible refine GC.ret ?_ | ((with_reducible refine GC.cond_true ?_ ?_ ?_); exact rfl; exact rfl) | ((with_reducible refine GC.cond_false ?_ ?_ ?_); exact rfl; exact rfl) | with_reducible refine GQ.then_exit ?_ | with_reducible refine GC.skip ?_ | with_reducible refine GC.block ?_ | with_reducible refine GC.exit ?_ | with_reducible refine GQ.block_normal ?_ | with_reducible refine GQ.block_ret ?_ | with_reducible refine GQ.block_exit ?_ | ((with_reducible refine GQ.block_pass ?_ ?_); exact rfl)) | (first | ((with_reducible apply GC.condT); apply rfl; (first | (apply decide_eq_true; omega) | assumption | (apply beq_iff_eq.mpr; omega) | (apply bne_iff_ne.mpr; omega) | apply rfl | (simp <;> omega))) | ((with_reducible apply GC.condF); apply rfl; (first | (apply decide_eq_false; omega) | assumption | (apply beq_eq_false_iff_ne.mpr; omega) | (apply bne_eq_false_iff_eq.mpr; omega) | apply rfl | (simp <;> omega))))))
    (refine' GQ.ret rfl ?_ ?_ ?_; rotate_left 2; (repeat (first | exact ResL.nil | (apply ResL.cons; first | exact Res1.tmp rfl | (refine' Res1.agg rfl ?_ ?_; rotate_left 3; (repeat (first | with_reducible apply List.mem_cons_self | with_reducible apply List.mem_cons_of_mem)); exact rfl) | (refine' Res1.cell rfl ?_ ?_; rotate_left 2; (repeat (first | with_reducible apply List.mem_cons_self | with_reducible apply List.mem_cons_of_mem)); exact rfl)))); apply rfl)
    exact fun w' hs => ⟨rfl, hs.toBelow⟩
  · obtain ⟨a, rfl⟩ : ∃ b : Nat, a = (b : Int) := ⟨a.toNat, by omega⟩
    generalize hr0 : findL ys s (a : Int) = r
    have hr1 : findRun ys s (s.size + 1 - a) a = r := by
      unfold findL at hr0
      rw [if_neg h0] at hr0
      exact hr0
    refine calls_of_GC (n := 26) Try.func11 rfl rfl rfl rfl (St.start _) ?_
    (repeat (first | with_reducible refine GL.nil ?_ | ((with_reducible refine GL.step ?_ (fun N hN => ?_)); apply rfl; (first | (apply GO.ofV; (first | (apply GV.move; apply rfl; apply rfl) | (apply GV.assign; apply rfl; apply rfl) | (apply GV.load_blk; apply rfl; infer_instance; apply rfl; (repeat (first | with_reducible apply List.mem_cons_self | with_reducible apply List.mem_cons_of_mem)); apply rfl) | (apply GV.load_blk_agg; apply rfl; infer_instance; apply rfl; (repeat (first | with_reducible apply List.mem_cons_self | with_reducible apply List.mem_cons_of_mem)); apply rfl) | (apply GV.addI; apply rfl; apply rfl; apply rfl; apply rfl; (simp only [kLo, kHi]; omega); (simp only [kLo, kHi]; omega)) | (apply GV.binI; apply rfl; apply rfl; apply rfl; apply rfl) | (apply GV.len_string; apply rfl; infer_instance; apply rfl) | (apply GV.len_slice; apply rfl; infer_instance; apply rfl)); apply rfl; apply rfl) | (apply GO.box; apply rfl; apply rfl; apply rfl; apply rfl; apply rfl; intro _)); refine hN _ _ ?_; clear hN N) | (first | with_reducible refine GC.seq ?_ | with_reducible refine GC.region ?_ | with_reducible refine GQ.seq ?_ | with_reducible refine GQ.then_ret ?_ | with_reducible refine GC.ret ?_ | ((with_reducible refine GC.cond_true ?_ ?_ ?_); exact rfl; exact rfl) | ((with_reducible refine GC.cond_false ?_ ?_ ?_); exact rfl; exact rfl) | with_reducible refine GQ.then_exit ?_ | with_reducible refine GC.skip ?_ | with_reducible refine GC.block ?_ | with_reducible refine GC.exit ?_ | with_reducible refine GQ.block_normal ?_ | with_reducible refine GQ.block_ret ?_ | with_reducible refine GQ.block_exit ?_ | ((with_reducible refine GQ.block_pass ?_ ?_); exact rfl)) | (first | ((with_reducible apply GC.condT); apply rfl; (first | (apply decide_eq_true; omega) | assumption | (apply beq_iff_eq.mpr; omega) | (apply bne_iff_ne.mpr; omega) | apply rfl | (simp <;> omega))) | ((with_reducible apply GC.condF); apply rfl; (first | (apply decide_eq_false; omega) | assumption | (apply beq_eq_false_iff_ne.mpr; omega) | (apply bne_eq_false_iff_eq.mpr; omega) | apply rfl | (simp <;> omega))))))
    rename_i g3
    refine GC.sub ?_ ?_ (GC.loop (fun x : FdIx ys s r => [(1, .string s), (3, pV g3), (6, .int .i64 (x.a : Int)), (8, .bool false)]) (fun x => [blk g3 [.slice A xs.length c] 25]) (fun x => x.f) ⟨s.size + 1 - a, a, by omega, by omega, hr1⟩ ?_)
    · (repeat (first | exact subT_nil _ | refine subT_cons rfl ?_))
    · (repeat (first | exact Pick.nil | (apply Pick.cons; (repeat (first | exact Rm.here | apply Rm.there)))))
    rintro ⟨f, a, hf, ha, hr⟩
    dsimp only
    by_cases hlt : a ≤ s.size
    · obtain ⟨f, rfl⟩ : ∃ f', f = f' + 1 := ⟨f - 1, by omega⟩
      have k23 := fun (W : World) (L : List Asn) (hs : St w (fun _ => False) L W) => end23 xs ys hrel s hz a hlt A c W (hrd.st hs) hxl
      unfold findRun at hr
      cases he : endAt ys s a with
      | some t =>
        rw [he] at hr
        dsimp only at hr
        subst hr
        simp only [he] at k23
        (repeat (first | with_reducible refine GL.nil ?_ | ((with_reducible refine GL.step ?_ (fun N hN => ?_)); apply rfl; (first | (apply GO.callAt; apply rfl; apply rfl; apply rfl; infer_instance; apply rfl; exact fun W hs => k23 W _ hs) | (first | (apply GO.ofV; (first | (apply GV.move; apply rfl; apply rfl) | (apply GV.assign; apply rfl; apply rfl) | (apply GV.load_blk; apply rfl; infer_instance; apply rfl; (repeat (first | with_reducible apply List.mem_cons_self | with_reducible apply List.mem_cons_of_mem)); apply rfl) | (apply GV.load_blk_agg; apply rfl; infer_instance; apply rfl; (repeat (first | with_reducible apply List.mem_cons_self | with_reducible apply List.mem_cons_of_mem)); apply rfl) | (apply GV.addI; apply rfl; apply rfl; apply rfl; apply rfl; (simp only [kLo, kHi]; omega); (simp only [kLo, kHi]; omega)) | (apply GV.binI; apply rfl; apply rfl; apply rfl; apply rfl) | (apply GV.len_string; apply rfl; infer_instance; apply rfl) | (apply GV.len_slice; apply rfl; infer_instance; apply rfl)); apply rfl; apply rfl) | (apply GO.box; apply rfl; apply rfl; apply rfl; apply rfl; apply rfl; intro _))); refine hN _ _ ?_; clear hN N) | fail | (first | with_reducible refine GC.seq ?_ | with_reducible refine GC.region ?_ | with_reducible refine GQ.seq ?_ | with_reducible refine GQ.then_ret ?_ | with_reducible refine GC.ret ?_ | ((with_reducible refine GC.cond_true ?_ ?_ ?_); exact rfl; exact rfl) | ((with_reducible refine GC.cond_false ?_ ?_ ?_); exact rfl; exact rfl) | with_reducible refine GQ.then_exit ?_ | with_reducible refine GC.skip ?_ | with_reducible refine GC.block ?_ | with_reducible refine GC.exit ?_ | with_reducible refine GQ.block_normal ?_ | with_reducible refine GQ.block_ret ?_ | with_reducible refine GQ.block_exit ?_ | ((with_reducible refine GQ.block_pass ?_ ?_); exact rfl)) | (first | ((with_reducible apply GC.condT); apply rfl; (first | (apply decide_eq_true; omega) | assumption | (apply beq_iff_eq.mpr; omega) | (apply bne_iff_ne.mpr; omega) | apply rfl | (simp <;> omega))) | ((with_reducible apply GC.condF); apply rfl; (first | (apply decide_eq_false; omega) | assumption | (apply beq_eq_false_iff_ne.mpr; omega) | (apply bne_eq_false_iff_eq.mpr; omega) | apply rfl | (simp <;> omega))))))
        (refine' GQ.ret rfl ?_ ?_ ?_; rotate_left 2; (repeat (first | exact ResL.nil | (apply ResL.cons; first | exact Res1.tmp rfl | (refine' Res1.agg rfl ?_ ?_; rotate_left 3; (repeat (first | with_reducible apply List.mem_cons_self | with_reducible apply List.mem_cons_of_mem)); exact rfl) | (refine' Res1.cell rfl ?_ ?_; rotate_left 2; (repeat (first | with_reducible apply List.mem_cons_self | with_reducible apply List.mem_cons_of_mem)); exact rfl)))); apply rfl)
        exact fun w' hs => ⟨rfl, hs.toBelow⟩
      | none =>
        rw [he] at hr
        dsimp only at hr
        simp only [he] at k23
        (repeat (first | with_reducible refine GL.nil ?_ | ((with_reducible refine GL.step ?_ (fun N hN => ?_)); apply rfl; (first | (apply GO.callAt; apply rfl; apply rfl; apply rfl; infer_instance; apply rfl; exact fun W hs => k23 W _ hs) | (first | (apply GO.ofV; (first | (apply GV.move; apply rfl; apply rfl) | (apply GV.assign; apply rfl; apply rfl) | (apply GV.load_blk; apply rfl; infer_instance; apply rfl; (repeat (first | with_reducible apply List.mem_cons_self | with_reducible apply List.mem_cons_of_mem)); apply rfl) | (apply GV.load_blk_agg; apply rfl; infer_instance; apply rfl; (repeat (first | with_reducible apply List.mem_cons_self | with_reducible apply List.mem_cons_of_mem)); apply rfl) | (apply GV.addI; apply rfl; apply rfl; apply rfl; apply rfl; (simp only [kLo, kHi]; omega); (simp only [kLo, kHi]; omega)) | (apply GV.binI; apply rfl; apply rfl; apply rfl; apply rfl) | (apply GV.len_string; apply rfl; infer_instance; apply rfl) | (apply GV.len_slice; apply rfl; infer_instance; apply rfl)); apply rfl; apply rfl) | (apply GO.box; apply rfl; apply rfl; apply rfl; apply rfl; apply rfl; intro _))); refine hN _ _ ?_; clear hN N) | fail | (first | with_reducible refine GC.seq ?_ | with_reducible refine GC.region ?_ | with_reducible refine GQ.seq ?_ | with_reducible refine GQ.then_ret ?_ | with_reducible refine GC.ret ?_ | ((with_reducible refine GC.cond_true ?_ ?_ ?_); exact rfl; exact rfl) | ((with_reducible refine GC.cond_false ?_ ?_ ?_); exact rfl; exact rfl) | with_reducible refine GQ.then_exit ?_ | with_reducible refine GC.skip ?_ | with_reducible refine GC.block ?_ | with_reducible refine GC.exit ?_ | with_reducible refine GQ.block_normal ?_ | with_reducible refine GQ.block_ret ?_ | with_reducible refine GQ.block_exit ?_ | ((with_reducible refine GQ.block_pass ?_ ?_); exact rfl)) | (first | ((with_reducible apply GC.condT); apply rfl; (first | (apply decide_eq_true; omega) | assumption | (apply beq_iff_eq.mpr; omega) | (apply bne_iff_ne.mpr; omega) | apply rfl | (simp <;> omega))) | ((with_reducible apply GC.condF); apply rfl; (first | (apply decide_eq_false; omega) | assumption | (apply beq_eq_false_iff_ne.mpr; omega) | (apply bne_eq_false_iff_eq.mpr; omega) | apply rfl | (simp <;> omega))))))
        refine GQ.next (⟨f, a + 1, by omega, by omega, hr⟩ : FdIx ys s r) (by dsimp only; omega) ?_ ?_
        · (repeat (first | exact subT_nil _ | refine subT_cons rfl ?_))
        · (repeat (first | exact Pick.nil | (apply Pick.cons; (repeat (first | exact Rm.here | apply Rm.there)))))
    · obtain rfl : f = 0 := by omega
      have hr' : none = r := hr
      subst hr'
      (repeat (first | with_reducible refine GL.nil ?_ | ((with_reducible refine GL.step ?_ (fun N hN => ?_)); apply rfl; (first | (apply GO.ofV; (first | (apply GV.move; apply rfl; apply rfl) | (apply GV.assign; apply rfl; apply rfl) | (apply GV.load_blk; apply rfl; infer_instance; apply rfl; (repeat (first | with_reducible apply List.mem_cons_self | with_reducible apply List.mem_cons_of_mem)); apply rfl) | (apply GV.load_blk_agg; apply rfl; infer_instance; apply rfl; (repeat (first | with_reducible apply List.mem_cons_self | with_reducible apply List.mem_cons_of_mem)); apply rfl) | (apply GV.addI; apply rfl; apply rfl; apply rfl; apply rfl; (simp only [kLo, kHi]; omega); (simp only [kLo, kHi]; omega)) | (apply GV.binI; apply rfl; apply rfl; apply rfl; apply rfl) | (apply GV.len_string; apply rfl; infer_instance; apply rfl) | (apply GV.len_slice; apply rfl; infer_instance; apply rfl)); apply rfl; apply rfl) | (apply GO.box; apply rfl; apply rfl; apply rfl; apply rfl; apply rfl; intro _)); refine hN _ _ ?_; clear hN N) | (first | with_reducible refine GC.seq ?_ | with_reducible refine GC.region ?_ | with_reducible refine GQ.seq ?_ | with_reducible refine GQ.then_ret ?_ | with_reducible refine GC.ret ?_ | ((with_reducible refine GC.cond_true ?_ ?_ ?_); exact rfl; exact rfl) | ((with_reducible refine GC.cond_false ?_ ?_ ?_); exact rfl; exact rfl) | with_reducible refine GQ.then_exit ?_ | with_reducible refine GC.skip ?_ | with_reducible refine GC.block ?_ | with_reducible refine GC.exit ?_ | with_reducible refine GQ.block_normal ?_ | with_reducible refine GQ.block_ret ?_ | with_reducible refine GQ.block_exit ?_ | ((with_reducible refine GQ.block_pass ?_ ?_); exact rfl)) | (first | ((with_reducible apply GC.condT); apply rfl; (first | (apply decide_eq_true; omega) | assumption | (apply beq_iff_eq.mpr; omega) | (apply bne_iff_ne.mpr; omega) | apply rfl | (simp <;> omega))) | ((with_reducible apply GC.condF); apply rfl; (first | (apply decide_eq_false; omega) | assumption | (apply beq_eq_false_iff_ne.mpr; omega) | (apply bne_eq_false_iff_eq.mpr; omega) | apply rfl | (simp <;> omega))))))
      (refine' GQ.ret rfl ?_ ?_ ?_; rotate_left 2; (repeat (first | exact ResL.nil | (apply ResL.cons; first | exact Res1.tmp rfl | (refine' Res1.agg rfl ?_ ?_; rotate_left 3; (repeat (first | with_reducible apply List.mem_cons_self | with_reducible apply List.mem_cons_of_mem)); exact rfl) | (refine' Res1.cell rfl ?_ ?_; rotate_left 2; (repeat (first | with_reducible apply List.mem_cons_self | with_reducible apply List.mem_cons_of_mem)); exact rfl)))); apply rfl)
      exact fun w' hs => ⟨rfl, hs.toBelow⟩
structure RdIx (ys : List AP) (s : ByteArray) (a : Nat) (r : Option Nat) where
  f : Nat
  t : Nat
  ht : a ≤ t
  hf : f + t = s.size + 1
  hr : endRun ys s a f t = r
theorem find12 (ys : List AP) (s : ByteArray) (hz : s.size ≤ 1000) (a : Int) (ha : a ≤ 9223372036854775807) (A : Option Addr) (c : Nat) (w : World) (hrd : Rd w A ys.length 257 (flatA ys)) (hyl : ys.length ≤ 1000) : ComputesAt Try.prog 12 [.slice A ys.length c, .string s, .int .i64 a] w (findV (findL ys s a)) := by
  refine ⟨?_⟩
  by_cases h0 : a < 0
  · have hr : findL ys s a = none := by unfold findL; rw [if_pos h0]
    rw [hr]
    refine calls_of_GC (n := 40) Try.func12 rfl rfl rfl rfl (St.start _) ?_
    (repeat (first | with_reducible refine GL.nil ?_ | ((with_reducible refine GL.step ?_ (fun N hN => ?_)); apply rfl; (first | (apply GO.ofV; (first | (apply GV.move; apply rfl; apply rfl) | (apply GV.assign; apply rfl; apply rfl) | (apply GV.load_blk; apply rfl; infer_instance; apply rfl; (repeat (first | with_reducible apply List.mem_cons_self | with_reducible apply List.mem_cons_of_mem)); apply rfl) | (apply GV.load_blk_agg; apply rfl; infer_instance; apply rfl; (repeat (first | with_reducible apply List.mem_cons_self | with_reducible apply List.mem_cons_of_mem)); apply rfl) | (apply GV.addI; apply rfl; apply rfl; apply rfl; apply rfl; (simp only [kLo, kHi]; omega); (simp only [kLo, kHi]; omega)) | (apply GV.binI; apply rfl; apply rfl; apply rfl; apply rfl) | (apply GV.pick_true; apply rfl; apply rfl; apply rfl) | (apply GV.pick_false; apply rfl; apply rfl; apply rfl) | (apply GV.len_string; apply rfl; infer_instance; apply rfl) | (apply GV.len_slice; apply rfl; infer_instance; apply rfl)); apply rfl; apply rfl) ); refine hN _ _ ?_; clear hN N) | ((with_reducible apply GL.skip); apply rfl; apply rfl; apply rfl) | (first | with_reducible refine GC.seq ?_ | with_reducible refine GC.region ?_ | with_reducible refine GQ.seq ?_ | with_reducible refine GQ.then_ret ?_ | with_reducible refine GC.ret ?_ | ((with_reducible refine GC.cond_true ?_ ?_ ?_); exact rfl; exact rfl) | ((with_reducible refine GC.cond_false ?_ ?_ ?_); exact rfl; exact rfl) | with_reducible refine GQ.then_exit ?_ | with_reducible refine GC.skip ?_ | with_reducible refine GC.block ?_ | with_reducible refine GC.exit ?_ | with_reducible refine GQ.block_normal ?_ | with_reducible refine GQ.block_ret ?_ | with_reducible refine GQ.block_exit ?_ | ((with_reducible refine GQ.block_pass ?_ ?_); exact rfl)) | (first | ((with_reducible apply GL.guardT); apply rfl; apply rfl; apply rfl; (first | (apply decide_eq_true; omega) | assumption | (apply beq_iff_eq.mpr; omega) | (apply bne_iff_ne.mpr; omega) | apply rfl | (simp <;> omega))) | ((with_reducible apply GL.guardF); apply rfl; apply rfl; apply rfl; (first | (apply decide_eq_false; omega) | assumption | (apply beq_eq_false_iff_ne.mpr; omega) | (apply bne_eq_false_iff_eq.mpr; omega) | apply rfl | (simp <;> omega))) | ((with_reducible apply GC.condT); apply rfl; (first | (apply decide_eq_true; omega) | assumption | (apply beq_iff_eq.mpr; omega) | (apply bne_iff_ne.mpr; omega) | apply rfl | (simp <;> omega))) | ((with_reducible apply GC.condF); apply rfl; (first | (apply decide_eq_false; omega) | assumption | (apply beq_eq_false_iff_ne.mpr; omega) | (apply bne_eq_false_iff_eq.mpr; omega) | apply rfl | (simp <;> omega))))))
    refine GC.sub ?_ ?_ (GC.loop (fun _ : Unit => [(1, .string s), (9, .int .i64 a)]) (fun x => []) (fun x => 0) () ?_)
    · (repeat (first | exact subT_nil _ | refine subT_cons rfl ?_))
    · (repeat (first | exact Pick.nil | (apply Pick.cons; (repeat (first | exact Rm.here | apply Rm.there)))))
    intro _
    (repeat (first | with_reducible refine GL.nil ?_ | ((with_reducible refine GL.step ?_ (fun N hN => ?_)); apply rfl; (first | (apply GO.ofV; (first | (apply GV.move; apply rfl; apply rfl) | (apply GV.assign; apply rfl; apply rfl) | (apply GV.load_blk; apply rfl; infer_instance; apply rfl; (repeat (first | with_reducible apply List.mem_cons_self | with_reducible apply List.mem_cons_of_mem)); apply rfl) | (apply GV.load_blk_agg; apply rfl; infer_instance; apply rfl; (repeat (first | with_reducible apply List.mem_cons_self | with_reducible apply List.mem_cons_of_mem)); apply rfl) | (apply GV.addI; apply rfl; apply rfl; apply rfl; apply rfl; (simp only [kLo, kHi]; omega); (simp only [kLo, kHi]; omega)) | (apply GV.binI; apply rfl; apply rfl; apply rfl; apply rfl) | (apply GV.pick_true; apply rfl; apply rfl; apply rfl) | (apply GV.pick_false; apply rfl; apply rfl; apply rfl) | (apply GV.len_string; apply rfl; infer_instance; apply rfl) | (apply GV.len_slice; apply rfl; infer_instance; apply rfl)); apply rfl; apply rfl) ); refine hN _ _ ?_; clear hN N) | ((with_reducible apply GL.skip); apply rfl; apply rfl; apply rfl) | (first | with_reducible refine GC.seq ?_ | with_reducible refine GC.region ?_ | with_reducible refine GQ.seq ?_ | with_reducible refine GQ.then_ret ?_ | with_reducible refine GC.ret ?_ | ((with_reducible refine GC.cond_true ?_ ?_ ?_); exact rfl; exact rfl) | ((with_reducible refine GC.cond_false ?_ ?_ ?_); exact rfl; exact rfl) | with_reducible refine GQ.then_exit ?_ | with_reducible refine GC.skip ?_ | with_reducible refine GC.block ?_ | with_reducible refine GC.exit ?_ | with_reducible refine GQ.block_normal ?_ | with_reducible refine GQ.block_ret ?_ | with_reducible refine GQ.block_exit ?_ | ((with_reducible refine GQ.block_pass ?_ ?_); exact rfl)) | (first | ((with_reducible apply GL.guardT); apply rfl; apply rfl; apply rfl; (first | (apply decide_eq_true; omega) | assumption | (apply beq_iff_eq.mpr; omega) | (apply bne_iff_ne.mpr; omega) | apply rfl | (simp <;> omega))) | ((with_reducible apply GL.guardF); apply rfl; apply rfl; apply rfl; (first | (apply decide_eq_false; omega) | assumption | (apply beq_eq_false_iff_ne.mpr; omega) | (apply bne_eq_false_iff_eq.mpr; omega) | apply rfl | (simp <;> omega))) | ((with_reducible apply GC.condT); apply rfl; (first | (apply decide_eq_true; omega) | assumption | (apply beq_iff_eq.mpr; omega) | (apply bne_iff_ne.mpr; omega) | apply rfl | (simp <;> omega))) | ((with_reducible apply GC.condF); apply rfl; (first | (apply decide_eq_false; omega) | assumption | (apply beq_eq_false_iff_ne.mpr; omega) | (apply bne_eq_false_iff_eq.mpr; omega) | apply rfl | (simp <;> omega))))))
    (refine' GQ.ret rfl ?_ ?_ ?_; rotate_left 2; (repeat (first | exact ResL.nil | (apply ResL.cons; first | exact Res1.tmp rfl | (refine' Res1.agg rfl ?_ ?_; rotate_left 3; (repeat (first | with_reducible apply List.mem_cons_self | with_reducible apply List.mem_cons_of_mem)); exact rfl) | (refine' Res1.cell rfl ?_ ?_; rotate_left 2; (repeat (first | with_reducible apply List.mem_cons_self | with_reducible apply List.mem_cons_of_mem)); exact rfl)))); apply rfl)
    exact fun w' hs => ⟨rfl, hs.toBelow⟩
  · obtain ⟨a, rfl⟩ : ∃ b : Nat, a = (b : Int) := ⟨a.toNat, by omega⟩
    generalize hr0 : findL ys s (a : Int) = r
    have hr1 : findRun ys s (s.size + 1 - a) a = r := by
      unfold findL at hr0
      rw [if_neg h0] at hr0
      exact hr0
    refine calls_of_GC (n := 40) Try.func12 rfl rfl rfl rfl (St.start _) ?_
    (repeat (first | with_reducible refine GL.nil ?_ | ((with_reducible refine GL.step ?_ (fun N hN => ?_)); apply rfl; (first | (apply GO.ofV; (first | (apply GV.move; apply rfl; apply rfl) | (apply GV.assign; apply rfl; apply rfl) | (apply GV.load_blk; apply rfl; infer_instance; apply rfl; (repeat (first | with_reducible apply List.mem_cons_self | with_reducible apply List.mem_cons_of_mem)); apply rfl) | (apply GV.load_blk_agg; apply rfl; infer_instance; apply rfl; (repeat (first | with_reducible apply List.mem_cons_self | with_reducible apply List.mem_cons_of_mem)); apply rfl) | (apply GV.addI; apply rfl; apply rfl; apply rfl; apply rfl; (simp only [kLo, kHi]; omega); (simp only [kLo, kHi]; omega)) | (apply GV.binI; apply rfl; apply rfl; apply rfl; apply rfl) | (apply GV.pick_true; apply rfl; apply rfl; apply rfl) | (apply GV.pick_false; apply rfl; apply rfl; apply rfl) | (apply GV.len_string; apply rfl; infer_instance; apply rfl) | (apply GV.len_slice; apply rfl; infer_instance; apply rfl)); apply rfl; apply rfl) ); refine hN _ _ ?_; clear hN N) | ((with_reducible apply GL.skip); apply rfl; apply rfl; apply rfl) | (first | with_reducible refine GC.seq ?_ | with_reducible refine GC.region ?_ | with_reducible refine GQ.seq ?_ | with_reducible refine GQ.then_ret ?_ | with_reducible refine GC.ret ?_ | ((with_reducible refine GC.cond_true ?_ ?_ ?_); exact rfl; exact rfl) | ((with_reducible refine GC.cond_false ?_ ?_ ?_); exact rfl; exact rfl) | with_reducible refine GQ.then_exit ?_ | with_reducible refine GC.skip ?_ | with_reducible refine GC.block ?_ | with_reducible refine GC.exit ?_ | with_reducible refine GQ.block_normal ?_ | with_reducible refine GQ.block_ret ?_ | with_reducible refine GQ.block_exit ?_ | ((with_reducible refine GQ.block_pass ?_ ?_); exact rfl)) | (first | ((with_reducible apply GL.guardT); apply rfl; apply rfl; apply rfl; (first | (apply decide_eq_true; omega) | assumption | (apply beq_iff_eq.mpr; omega) | (apply bne_iff_ne.mpr; omega) | apply rfl | (simp <;> omega))) | ((with_reducible apply GL.guardF); apply rfl; apply rfl; apply rfl; (first | (apply decide_eq_false; omega) | assumption | (apply beq_eq_false_iff_ne.mpr; omega) | (apply bne_eq_false_iff_eq.mpr; omega) | apply rfl | (simp <;> omega))) | ((with_reducible apply GC.condT); apply rfl; (first | (apply decide_eq_true; omega) | assumption | (apply beq_iff_eq.mpr; omega) | (apply bne_iff_ne.mpr; omega) | apply rfl | (simp <;> omega))) | ((with_reducible apply GC.condF); apply rfl; (first | (apply decide_eq_false; omega) | assumption | (apply beq_eq_false_iff_ne.mpr; omega) | (apply bne_eq_false_iff_eq.mpr; omega) | apply rfl | (simp <;> omega))))))
    refine GC.sub ?_ ?_ (GC.loop (fun x : FdIx ys s r => [(0, .slice A ys.length c), (1, .string s), (9, .int .i64 (x.a : Int))]) (fun x => []) (fun x => x.f) ⟨s.size + 1 - a, a, by omega, by omega, hr1⟩ ?_)
    · (repeat (first | exact subT_nil _ | refine subT_cons rfl ?_))
    · (repeat (first | exact Pick.nil | (apply Pick.cons; (repeat (first | exact Rm.here | apply Rm.there)))))
    rintro ⟨f, a, hf, ha, hr⟩
    dsimp only
    by_cases hlt : a ≤ s.size
    · obtain ⟨f, rfl⟩ : ∃ f', f = f' + 1 := ⟨f - 1, by omega⟩
      have k10 := fun (W : World) (L : List Asn) (hs : St w (fun _ => False) L W) => ends10 ys s a hlt hz hyl A c W (hrd.st hs)
      obtain ⟨e, he⟩ : ∃ e, e = endAt ys s a := ⟨_, rfl⟩
      unfold findRun at hr
      rw [← he] at hr
      have he' : endRun ys s a (s.size + 1 - a) a = e := he.symm
      (repeat (first | with_reducible refine GL.nil ?_ | ((with_reducible refine GL.step ?_ (fun N hN => ?_)); apply rfl; (first | (apply GO.callMakes; apply rfl; apply rfl; apply rfl; infer_instance; apply rfl; exact fun W hs => k10 W _ hs; rintro _ _ ⟨g, rfl, rfl⟩) | (first | (apply GO.ofV; (first | (apply GV.move; apply rfl; apply rfl) | (apply GV.assign; apply rfl; apply rfl) | (apply GV.load_blk; apply rfl; infer_instance; apply rfl; (repeat (first | with_reducible apply List.mem_cons_self | with_reducible apply List.mem_cons_of_mem)); apply rfl) | (apply GV.load_blk_agg; apply rfl; infer_instance; apply rfl; (repeat (first | with_reducible apply List.mem_cons_self | with_reducible apply List.mem_cons_of_mem)); apply rfl) | (apply GV.addI; apply rfl; apply rfl; apply rfl; apply rfl; (simp only [kLo, kHi]; omega); (simp only [kLo, kHi]; omega)) | (apply GV.binI; apply rfl; apply rfl; apply rfl; apply rfl) | (apply GV.pick_true; apply rfl; apply rfl; apply rfl) | (apply GV.pick_false; apply rfl; apply rfl; apply rfl) | (apply GV.len_string; apply rfl; infer_instance; apply rfl) | (apply GV.len_slice; apply rfl; infer_instance; apply rfl)); apply rfl; apply rfl) )); refine hN _ _ ?_; clear hN N) | ((with_reducible apply GL.skip); apply rfl; apply rfl; apply rfl) | (first | with_reducible refine GC.seq ?_ | with_reducible refine GC.region ?_ | with_reducible refine GQ.seq ?_ | with_reducible refine GQ.then_ret ?_ | with_reducible refine GC.ret ?_ | ((with_reducible refine GC.cond_true ?_ ?_ ?_); exact rfl; exact rfl) | ((with_reducible refine GC.cond_false ?_ ?_ ?_); exact rfl; exact rfl) | with_reducible refine GQ.then_exit ?_ | with_reducible refine GC.skip ?_ | with_reducible refine GC.block ?_ | with_reducible refine GC.exit ?_ | with_reducible refine GQ.block_normal ?_ | with_reducible refine GQ.block_ret ?_ | with_reducible refine GQ.block_exit ?_ | ((with_reducible refine GQ.block_pass ?_ ?_); exact rfl)) | (first | ((with_reducible apply GL.guardT); apply rfl; apply rfl; apply rfl; (first | (apply decide_eq_true; omega) | assumption | (apply beq_iff_eq.mpr; omega) | (apply bne_iff_ne.mpr; omega) | apply rfl | (simp <;> omega))) | ((with_reducible apply GL.guardF); apply rfl; apply rfl; apply rfl; (first | (apply decide_eq_false; omega) | assumption | (apply beq_eq_false_iff_ne.mpr; omega) | (apply bne_eq_false_iff_eq.mpr; omega) | apply rfl | (simp <;> omega))) | ((with_reducible apply GC.condT); apply rfl; (first | (apply decide_eq_true; omega) | assumption | (apply beq_iff_eq.mpr; omega) | (apply bne_iff_ne.mpr; omega) | apply rfl | (simp <;> omega))) | ((with_reducible apply GC.condF); apply rfl; (first | (apply decide_eq_false; omega) | assumption | (apply beq_eq_false_iff_ne.mpr; omega) | (apply bne_eq_false_iff_eq.mpr; omega) | apply rfl | (simp <;> omega))))))
      refine GC.sub ?_ ?_ (GC.loop (fun x : RdIx ys s a e => [(0, .slice A ys.length c), (1, .string s), (9, .int .i64 (a : Int)), (10, slB g (s.size + 1)), (11, .int .i64 (x.t : Int))]) (fun x => [bBlk g (s.size + 1) (endE ys s a)]) (fun x => x.f) ⟨s.size + 1 - a, a, by omega, by omega, he'⟩ ?_)
      · (repeat (first | exact subT_nil _ | refine subT_cons rfl ?_))
      · (repeat (first | exact Pick.nil | (apply Pick.cons; (repeat (first | exact Rm.here | apply Rm.there)))))
      rintro ⟨f2, t, ht, hf2, hr2⟩
      dsimp only
      by_cases hlt2 : t ≤ s.size
      · obtain ⟨f2, rfl⟩ : ∃ f', f2 = f' + 1 := ⟨f2 - 1, by omega⟩
        have ct : (rowC (s.size + 1) fun i => Value.bool (endE ys s a i))[t]? = some (.bool (mt ys (seg s a t))) := by
          rw [rowC_get (by omega), endE_eq hlt ht hlt2]
        unfold endRun at hr2
        cases hm : mt ys (seg s a t) with
        | true =>
          rw [if_pos hm] at hr2
          rw [← hr2] at hr
          dsimp only at hr
          subst hr
          rw [hm] at ct
          (repeat (first | with_reducible refine GL.nil ?_ | ((with_reducible refine GL.step ?_ (fun N hN => ?_)); apply rfl; (first | (apply GO.ofV; (apply GV.indexAddr1; apply rfl; infer_instance; infer_instance; apply rfl; apply rfl; omega); apply rfl; apply rfl) | (apply GO.ofV; ((apply GV.load_at (v := .bool true)); apply rfl; infer_instance; apply rfl; exact fun w' hs => blk_cell (by (repeat (first | with_reducible apply List.mem_cons_self | with_reducible apply List.mem_cons_of_mem))) hs ct); apply rfl; apply rfl) | (first | (apply GO.ofV; (first | (apply GV.move; apply rfl; apply rfl) | (apply GV.assign; apply rfl; apply rfl) | (apply GV.load_blk; apply rfl; infer_instance; apply rfl; (repeat (first | with_reducible apply List.mem_cons_self | with_reducible apply List.mem_cons_of_mem)); apply rfl) | (apply GV.load_blk_agg; apply rfl; infer_instance; apply rfl; (repeat (first | with_reducible apply List.mem_cons_self | with_reducible apply List.mem_cons_of_mem)); apply rfl) | (apply GV.addI; apply rfl; apply rfl; apply rfl; apply rfl; (simp only [kLo, kHi]; omega); (simp only [kLo, kHi]; omega)) | (apply GV.binI; apply rfl; apply rfl; apply rfl; apply rfl) | (apply GV.pick_true; apply rfl; apply rfl; apply rfl) | (apply GV.pick_false; apply rfl; apply rfl; apply rfl) | (apply GV.len_string; apply rfl; infer_instance; apply rfl) | (apply GV.len_slice; apply rfl; infer_instance; apply rfl)); apply rfl; apply rfl) )); refine hN _ _ ?_; clear hN N) | ((with_reducible apply GL.skip); apply rfl; apply rfl; apply rfl) | (first | with_reducible refine GC.seq ?_ | with_reducible refine GC.region ?_ | with_reducible refine GQ.seq ?_ | with_reducible refine GQ.then_ret ?_ | with_reducible refine GC.ret ?_ | ((with_reducible refine GC.cond_true ?_ ?_ ?_); exact rfl; exact rfl) | ((with_reducible refine GC.cond_false ?_ ?_ ?_); exact rfl; exact rfl) | with_reducible refine GQ.then_exit ?_ | with_reducible refine GC.skip ?_ | with_reducible refine GC.block ?_ | with_reducible refine GC.exit ?_ | with_reducible refine GQ.block_normal ?_ | with_reducible refine GQ.block_ret ?_ | with_reducible refine GQ.block_exit ?_ | ((with_reducible refine GQ.block_pass ?_ ?_); exact rfl)) | (first | ((with_reducible apply GL.guardT); apply rfl; apply rfl; apply rfl; (first | (apply decide_eq_true; omega) | assumption | (apply beq_iff_eq.mpr; omega) | (apply bne_iff_ne.mpr; omega) | apply rfl | (simp <;> omega))) | ((with_reducible apply GL.guardF); apply rfl; apply rfl; apply rfl; (first | (apply decide_eq_false; omega) | assumption | (apply beq_eq_false_iff_ne.mpr; omega) | (apply bne_eq_false_iff_eq.mpr; omega) | apply rfl | (simp <;> omega))) | ((with_reducible apply GC.condT); apply rfl; (first | (apply decide_eq_true; omega) | assumption | (apply beq_iff_eq.mpr; omega) | (apply bne_iff_ne.mpr; omega) | apply rfl | (simp <;> omega))) | ((with_reducible apply GC.condF); apply rfl; (first | (apply decide_eq_false; omega) | assumption | (apply beq_eq_false_iff_ne.mpr; omega) | (apply bne_eq_false_iff_eq.mpr; omega) | apply rfl | (simp <;> omega))))))
          (refine' GQ.ret rfl ?_ ?_ ?_; rotate_left 2; (repeat (first | exact ResL.nil | (apply ResL.cons; first | exact Res1.tmp rfl | (refine' Res1.agg rfl ?_ ?_; rotate_left 3; (repeat (first | with_reducible apply List.mem_cons_self | with_reducible apply List.mem_cons_of_mem)); exact rfl) | (refine' Res1.cell rfl ?_ ?_; rotate_left 2; (repeat (first | with_reducible apply List.mem_cons_self | with_reducible apply List.mem_cons_of_mem)); exact rfl)))); apply rfl)
          exact fun w' hs => ⟨rfl, hs.toBelow⟩
        | false =>
          rw [if_neg (by rw [hm]; decide)] at hr2
          rw [hm] at ct
          (repeat (first | with_reducible refine GL.nil ?_ | ((with_reducible refine GL.step ?_ (fun N hN => ?_)); apply rfl; (first | (apply GO.ofV; (apply GV.indexAddr1; apply rfl; infer_instance; infer_instance; apply rfl; apply rfl; omega); apply rfl; apply rfl) | (apply GO.ofV; ((apply GV.load_at (v := .bool false)); apply rfl; infer_instance; apply rfl; exact fun w' hs => blk_cell (by (repeat (first | with_reducible apply List.mem_cons_self | with_reducible apply List.mem_cons_of_mem))) hs ct); apply rfl; apply rfl) | (first | (apply GO.ofV; (first | (apply GV.move; apply rfl; apply rfl) | (apply GV.assign; apply rfl; apply rfl) | (apply GV.load_blk; apply rfl; infer_instance; apply rfl; (repeat (first | with_reducible apply List.mem_cons_self | with_reducible apply List.mem_cons_of_mem)); apply rfl) | (apply GV.load_blk_agg; apply rfl; infer_instance; apply rfl; (repeat (first | with_reducible apply List.mem_cons_self | with_reducible apply List.mem_cons_of_mem)); apply rfl) | (apply GV.addI; apply rfl; apply rfl; apply rfl; apply rfl; (simp only [kLo, kHi]; omega); (simp only [kLo, kHi]; omega)) | (apply GV.binI; apply rfl; apply rfl; apply rfl; apply rfl) | (apply GV.pick_true; apply rfl; apply rfl; apply rfl) | (apply GV.pick_false; apply rfl; apply rfl; apply rfl) | (apply GV.len_string; apply rfl; infer_instance; apply rfl) | (apply GV.len_slice; apply rfl; infer_instance; apply rfl)); apply rfl; apply rfl) )); refine hN _ _ ?_; clear hN N) | ((with_reducible apply GL.skip); apply rfl; apply rfl; apply rfl) | (first | with_reducible refine GC.seq ?_ | with_reducible refine GC.region ?_ | with_reducible refine GQ.seq ?_ | with_reducible refine GQ.then_ret ?_ | with_reducible refine GC.ret ?_ | ((with_reducible refine GC.cond_true ?_ ?_ ?_); exact rfl; exact rfl) | ((with_reducible refine GC.cond_false ?_ ?_ ?_); exact rfl; exact rfl) | with_reducible refine GQ.then_exit ?_ | with_reducible refine GC.skip ?_ | with_reducible refine GC.block ?_ | with_reducible refine GC.exit ?_ | with_reducible refine GQ.block_normal ?_ | with_reducible refine GQ.block_ret ?_ | with_reducible refine GQ.block_exit ?_ | ((with_reducible refine GQ.block_pass ?_ ?_); exact rfl)) | (first | ((with_reducible apply GL.guardT); apply rfl; apply rfl; apply rfl; (first | (apply decide_eq_true; omega) | assumption | (apply beq_iff_eq.mpr; omega) | (apply bne_iff_ne.mpr; omega) | apply rfl | (simp <;> omega))) | ((with_reducible apply GL.guardF); apply rfl; apply rfl; apply rfl; (first | (apply decide_eq_false; omega) | assumption | (apply beq_eq_false_iff_ne.mpr; omega) | (apply bne_eq_false_iff_eq.mpr; omega) | apply rfl | (simp <;> omega))) | ((with_reducible apply GC.condT); apply rfl; (first | (apply decide_eq_true; omega) | assumption | (apply beq_iff_eq.mpr; omega) | (apply bne_iff_ne.mpr; omega) | apply rfl | (simp <;> omega))) | ((with_reducible apply GC.condF); apply rfl; (first | (apply decide_eq_false; omega) | assumption | (apply beq_eq_false_iff_ne.mpr; omega) | (apply bne_eq_false_iff_eq.mpr; omega) | apply rfl | (simp <;> omega))))))
          refine GQ.next (⟨f2, t + 1, by omega, by omega, hr2⟩ : RdIx ys s a e) (by dsimp only; omega) ?_ ?_
          · (repeat (first | exact subT_nil _ | refine subT_cons rfl ?_))
          · (repeat (first | exact Pick.nil | (apply Pick.cons; (repeat (first | exact Rm.here | apply Rm.there)))))
      · obtain rfl : f2 = 0 := by omega
        have hr' : none = e := hr2
        subst hr'
        dsimp only at hr
        (repeat (first | with_reducible refine GL.nil ?_ | ((with_reducible refine GL.step ?_ (fun N hN => ?_)); apply rfl; (first | (apply GO.ofV; (first | (apply GV.move; apply rfl; apply rfl) | (apply GV.assign; apply rfl; apply rfl) | (apply GV.load_blk; apply rfl; infer_instance; apply rfl; (repeat (first | with_reducible apply List.mem_cons_self | with_reducible apply List.mem_cons_of_mem)); apply rfl) | (apply GV.load_blk_agg; apply rfl; infer_instance; apply rfl; (repeat (first | with_reducible apply List.mem_cons_self | with_reducible apply List.mem_cons_of_mem)); apply rfl) | (apply GV.addI; apply rfl; apply rfl; apply rfl; apply rfl; (simp only [kLo, kHi]; omega); (simp only [kLo, kHi]; omega)) | (apply GV.binI; apply rfl; apply rfl; apply rfl; apply rfl) | (apply GV.pick_true; apply rfl; apply rfl; apply rfl) | (apply GV.pick_false; apply rfl; apply rfl; apply rfl) | (apply GV.len_string; apply rfl; infer_instance; apply rfl) | (apply GV.len_slice; apply rfl; infer_instance; apply rfl)); apply rfl; apply rfl) ); refine hN _ _ ?_; clear hN N) | ((with_reducible apply GL.skip); apply rfl; apply rfl; apply rfl) | (first | with_reducible refine GC.seq ?_ | with_reducible refine GC.region ?_ | with_reducible refine GQ.seq ?_ | with_reducible refine GQ.then_ret ?_ | with_reducible refine GC.ret ?_ | ((with_reducible refine GC.cond_true ?_ ?_ ?_); exact rfl; exact rfl) | ((with_reducible refine GC.cond_false ?_ ?_ ?_); exact rfl; exact rfl) | with_reducible refine GQ.then_exit ?_ | with_reducible refine GC.skip ?_ | with_reducible refine GC.block ?_ | with_reducible refine GC.exit ?_ | with_reducible refine GQ.block_normal ?_ | with_reducible refine GQ.block_ret ?_ | with_reducible refine GQ.block_exit ?_ | ((with_reducible refine GQ.block_pass ?_ ?_); exact rfl)) | (first | ((with_reducible apply GL.guardT); apply rfl; apply rfl; apply rfl; (first | (apply decide_eq_true; omega) | assumption | (apply beq_iff_eq.mpr; omega) | (apply bne_iff_ne.mpr; omega) | apply rfl | (simp <;> omega))) | ((with_reducible apply GL.guardF); apply rfl; apply rfl; apply rfl; (first | (apply decide_eq_false; omega) | assumption | (apply beq_eq_false_iff_ne.mpr; omega) | (apply bne_eq_false_iff_eq.mpr; omega) | apply rfl | (simp <;> omega))) | ((with_reducible apply GC.condT); apply rfl; (first | (apply decide_eq_true; omega) | assumption | (apply beq_iff_eq.mpr; omega) | (apply bne_iff_ne.mpr; omega) | apply rfl | (simp <;> omega))) | ((with_reducible apply GC.condF); apply rfl; (first | (apply decide_eq_false; omega) | assumption | (apply beq_eq_false_iff_ne.mpr; omega) | (apply bne_eq_false_iff_eq.mpr; omega) | apply rfl | (simp <;> omega))))))
        refine GQ.next (⟨f, a + 1, by omega, by omega, hr⟩ : FdIx ys s r) (by dsimp only; omega) ?_ ?_
        · (repeat (first | exact subT_nil _ | refine subT_cons rfl ?_))
        · (repeat (first | exact Pick.nil | (apply Pick.cons; (repeat (first | exact Rm.here | apply Rm.there)))))
    · obtain rfl : f = 0 := by omega
      have hr' : none = r := hr
      subst hr'
      (repeat (first | with_reducible refine GL.nil ?_ | ((with_reducible refine GL.step ?_ (fun N hN => ?_)); apply rfl; (first | (apply GO.ofV; (first | (apply GV.move; apply rfl; apply rfl) | (apply GV.assign; apply rfl; apply rfl) | (apply GV.load_blk; apply rfl; infer_instance; apply rfl; (repeat (first | with_reducible apply List.mem_cons_self | with_reducible apply List.mem_cons_of_mem)); apply rfl) | (apply GV.load_blk_agg; apply rfl; infer_instance; apply rfl; (repeat (first | with_reducible apply List.mem_cons_self | with_reducible apply List.mem_cons_of_mem)); apply rfl) | (apply GV.addI; apply rfl; apply rfl; apply rfl; apply rfl; (simp only [kLo, kHi]; omega); (simp only [kLo, kHi]; omega)) | (apply GV.binI; apply rfl; apply rfl; apply rfl; apply rfl) | (apply GV.pick_true; apply rfl; apply rfl; apply rfl) | (apply GV.pick_false; apply rfl; apply rfl; apply rfl) | (apply GV.len_string; apply rfl; infer_instance; apply rfl) | (apply GV.len_slice; apply rfl; infer_instance; apply rfl)); apply rfl; apply rfl) ); refine hN _ _ ?_; clear hN N) | ((with_reducible apply GL.skip); apply rfl; apply rfl; apply rfl) | (first | with_reducible refine GC.seq ?_ | with_reducible refine GC.region ?_ | with_reducible refine GQ.seq ?_ | with_reducible refine GQ.then_ret ?_ | with_reducible refine GC.ret ?_ | ((with_reducible refine GC.cond_true ?_ ?_ ?_); exact rfl; exact rfl) | ((with_reducible refine GC.cond_false ?_ ?_ ?_); exact rfl; exact rfl) | with_reducible refine GQ.then_exit ?_ | with_reducible refine GC.skip ?_ | with_reducible refine GC.block ?_ | with_reducible refine GC.exit ?_ | with_reducible refine GQ.block_normal ?_ | with_reducible refine GQ.block_ret ?_ | with_reducible refine GQ.block_exit ?_ | ((with_reducible refine GQ.block_pass ?_ ?_); exact rfl)) | (first | ((with_reducible apply GL.guardT); apply rfl; apply rfl; apply rfl; (first | (apply decide_eq_true; omega) | assumption | (apply beq_iff_eq.mpr; omega) | (apply bne_iff_ne.mpr; omega) | apply rfl | (simp <;> omega))) | ((with_reducible apply GL.guardF); apply rfl; apply rfl; apply rfl; (first | (apply decide_eq_false; omega) | assumption | (apply beq_eq_false_iff_ne.mpr; omega) | (apply bne_eq_false_iff_eq.mpr; omega) | apply rfl | (simp <;> omega))) | ((with_reducible apply GC.condT); apply rfl; (first | (apply decide_eq_true; omega) | assumption | (apply beq_iff_eq.mpr; omega) | (apply bne_iff_ne.mpr; omega) | apply rfl | (simp <;> omega))) | ((with_reducible apply GC.condF); apply rfl; (first | (apply decide_eq_false; omega) | assumption | (apply beq_eq_false_iff_ne.mpr; omega) | (apply bne_eq_false_iff_eq.mpr; omega) | apply rfl | (simp <;> omega))))))
      (refine' GQ.ret rfl ?_ ?_ ?_; rotate_left 2; (repeat (first | exact ResL.nil | (apply ResL.cons; first | exact Res1.tmp rfl | (refine' Res1.agg rfl ?_ ?_; rotate_left 3; (repeat (first | with_reducible apply List.mem_cons_self | with_reducible apply List.mem_cons_of_mem)); exact rfl) | (refine' Res1.cell rfl ?_ ?_; rotate_left 2; (repeat (first | with_reducible apply List.mem_cons_self | with_reducible apply List.mem_cons_of_mem)); exact rfl)))); apply rfl)
      exact fun w' hs => ⟨rfl, hs.toBelow⟩
end Go.Proofs.YtkbpiodcndjpnaaG
