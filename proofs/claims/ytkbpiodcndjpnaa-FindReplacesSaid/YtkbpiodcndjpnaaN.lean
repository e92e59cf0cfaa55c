/- Seat 36: all places where a pattern is. -/
import Derived.Test.YtkbpiodcndjpnaaL
namespace Go.Proofs.YtkbpiodcndjpnaaG
open Go Go.RowKit
set_option maxRecDepth 10000
set_option maxHeartbeats 2000000
set_option linter.unusedVariables false
set_option linter.unusedSimpArgs false

section
variable {P : Program} {w0 w w' : World} {M : Nat → Prop} {n : Nat} {T : TL} {L L' : List Asn} {o : Oper} {N : TL → List Asn → Prop} {d size : Nat} {v : Value}
theorem run_eqInt {t : Nat} {k : IntKind} (hu : P.underlying t = some (.int k)) (d : Nat) (a b : Int) (w : World) : (Op.equalIn (d + 1) t (.int .i64 a) (.int .i64 b)).run P w = .ok (a == b) w := by
  simp [Op.equalIn, run_underlying hu]
theorem run_eqArr {t e : Nat} {k : IntKind} (hu : P.underlying t = some (.array 2 e)) (he : P.underlying e = some (.int k)) [TI P e false 1] (d : Nat) (a b a' b' : Int) (w : World) :
    (Op.equalIn (d + 2) t (.agg #[.int .i64 a, .int .i64 b]) (.agg #[.int .i64 a', .int .i64 b'])).run P w = .ok (decide (a = a' ∧ b = b')) w := by
  have h1 := fun a b w => run_eqInt (P := P) he d a b w
  rw [Op.equalIn.eq_def]
  simp only [Sem.run_bind, run_underlying hu, Result.andThen_ok, size_run (t := e), Std.Legacy.Range.forIn_eq_forIn_range', Std.Legacy.Range.size]
  simp [List.range', part, agg_run (t := e), size_run (t := e), h1]
  by_cases ha : a = a'
  · by_cases hb : b = b'
    · simp [ha, hb]
    · simp [ha, hb]
  · simp [ha]
/-- Two pairs of whole numbers. -/
theorem GV.neqPair {t e yt : Nat} {k : IntKind} {x y : Operand} {a b a' b' : Int} (hop : o.op = .binOp .neq t x y yt) (_i0 : AR P t 2 e) (_i1 : IT P e k) (_i2 : TI P e false 1) (hg : P.eqGuardType P.depth t = false) (hx : Ev T x (.agg #[.int .i64 a, .int .i64 b])) (hy : Ev T y (.agg #[.int .i64 a', .int .i64 b'])) : GV P w0 M n o T L (.bool (!decide (a = a' ∧ b = b'))) :=
  GV.bin hop hx hy fun w => by
    have := run_eqArr (P := P) (t := t) (e := e) (AR.out (P := P) (t := t)) (IT.out (P := P) (t := e)) 9998 a b a' b' w
    have h2 : (Op.equal t (.agg #[.int .i64 a, .int .i64 b]) (.agg #[.int .i64 a', .int .i64 b'])).run P w = .ok (decide (a = a' ∧ b = b')) w := this
    simp [eqGuard, binOp, hg, h2]
theorem GV.buildArr {t e len : Nat} {b : Bool} {z C : List Value} {parts : List (Nat × Operand)} {xs : List Operand} {is : List Nat} {vs : List Value} {qs : List (Nat × List Value)} (hop : o.op = .build t parts.toArray) (_i0 : TZ P t z) (_i1 : AR P t len e) (_i2 : TI P e b size)
    (h1 : parts.map (·.2) = xs) (h2 : parts.map (·.1) = is) (hx : Evs T xs vs) (hq : Parts is vs qs) (hC : fillK (fun i => some (i * size, size)) z qs = some C) : GV P w0 M n o T L (.agg C.toArray) :=
  ⟨fun a w ht _ => by
    simp only [execOp, hop]
    refine run_v ?_
    obtain ⟨zv, hz, hzr⟩ := zero_run (P := P) (t := t)
    have hu := AR.out (P := P) (t := t)
    have hev := ht.evs hx
    have hps : (parts.map fun p => (p.1, a.eval p.2)) = is.zip vs := by
      subst h1 h2
      have e1 : (parts.map (·.2)).map a.eval = vs := by
        have := congrArg Array.toList hev
        simpa using this
      rw [← e1, List.map_map, List.zip_map']
      rfl
    have hfill := fill_of (pl := fun i => some (i * size, size)) (is.zip vs) qs z C hq.eq ((fillK_eq qs z).symm.trans hC)
    unfold Instr.build
    rw [Sem.run_bind, hzr w, Result.andThen_ok, Sem.run_bind, run_underlying hu, Result.andThen_ok]
    simp only []
    rw [Sem.run_bind, size_run (t := e), Result.andThen_ok]
    have e5 : ((parts.toArray.map fun (p : Nat × Operand) => (p.1, a.eval p.2)).toList) = is.zip vs := by simp [hps]
    show Sem.run P (match Instr.fill (fun (i : Nat) => some (i * size, size)) zv.cells ((parts.toArray.map fun (p : Nat × Operand) => (p.1, a.eval p.2)).toList) with | some cells => pure (Value.agg cells) | _ => stuck "build: a part of the wrong size") w = _
    rw [e5, hz, hfill]
    rfl⟩
theorem GV.max2v {at' : Array Nat} {x y : Operand} {k k' : IntKind} {a b r : Int} (hop : o.op = .call { callee := .builtin .max, args := #[x, y], argTypes := at' }) (hx : Ev T x (.int k a)) (hy : Ev T y (.int k' b)) (h : (if b > a then b else a) = r) : GV P w0 M n o T L (.int k r) := by
  subst h
  exact GV.max2 hop hx hy
end
theorem max_nat (t a : Nat) : (if ((a : Int) + 1) > (t : Int) then ((a : Int) + 1) else (t : Int)) = ((max t (a + 1) : Nat) : Int) := by
  split <;> omega
/-! ### All places -/
def allRun (ys : List AP) (s : ByteArray) : Nat → Nat → List (Nat × Nat)
  | 0, _ => []
  | f + 1, a => match findL ys s (a : Int) with
    | none => []
    | some (b, t) => (b, t) :: allRun ys s f (max t (b + 1))
def allL (ys : List AP) (s : ByteArray) : List (Nat × Nat) := allRun ys s (s.size + 2) 0
theorem find_end {ys : List AP} {s : ByteArray} {a : Nat} (h : s.size < a) : findL ys s (a : Int) = none := by
  unfold findL
  rw [if_neg (by omega), show s.size + 1 - ((a : Int)).toNat = 0 by omega]
  rfl
def pairC (x : Nat × Nat) : List Value := [.int .i64 (x.1 : Int), .int .i64 (x.2 : Int)]
def flat2 (l : List (Nat × Nat)) : List Value := l.flatMap pairC
theorem flat2_snoc (l : List (Nat × Nat)) (x : Nat × Nat) : flat2 (l ++ [x]) = flat2 l ++ pairC x := by simp [flat2]
abbrev pRow (A : Option Addr) (c : Nat) (l : List (Nat × Nat)) : Asn := row (.slice A l.length c) 42 2 l.length (flat2 l)
def IsAll (r : List (Nat × Nat)) (v : Value) (B : Asn) : Prop := ∃ A c, v = .slice A r.length c ∧ B = pRow A c r
structure AlIx (ys : List AP) (s : ByteArray) (r : List (Nat × Nat)) where
  f : Nat
  b : Nat
  A : Option Addr
  c : Nat
  l : List (Nat × Nat)
  hb : b ≤ s.size + 1
  hf : s.size + 2 ≤ f + b
  hl : l.length ≤ b
  hr : l ++ allRun ys s f b = r
theorem all13 (xs : List PD) (ys : List AP) (hrel : RelL xs ys) (s : ByteArray) (hz : s.size ≤ 1000) (A : Option Addr) (c : Nat) (w : World) (hrd : Rd w A xs.length 7 (flatP xs)) (hxl : xs.length ≤ 100) : MakesAt Try.prog 13 [patV A xs.length c, .string s] w (IsAll (allL ys s)) := by
  refine ⟨?_⟩
  generalize hr0 : allL ys s = r
  refine calls_of_GC (n := 31) Try.func13 rfl rfl rfl rfl (St.start _) ?_
  (repeat (first | with_reducible refine GL.nil ?_ | ((with_reducible refine GL.step ?_ (fun N hN => ?_)); apply rfl; (first | (apply GO.ofV; (first | (apply GV.move; apply rfl; apply rfl) | (apply GV.assign; apply rfl; apply rfl) | (apply GV.load_blk; apply rfl; infer_instance; apply rfl; (repeat (first | with_reducible apply List.mem_cons_self | with_reducible apply List.mem_cons_of_mem)); apply rfl) | (apply GV.load_blk_agg; apply rfl; infer_instance; apply rfl; (repeat (first | with_reducible apply List.mem_cons_self | with_reducible apply List.mem_cons_of_mem)); apply rfl) | (apply GV.addI; apply rfl; apply rfl; apply rfl; apply rfl; (simp only [kLo, kHi]; omega); (simp only [kLo, kHi]; omega)) | (apply GV.not; apply rfl; apply rfl) | (apply GV.build; apply rfl; infer_instance; infer_instance; apply rfl; apply rfl; apply rfl; apply rfl; apply rfl) | (apply GV.extract; apply rfl; apply rfl; apply rfl)); apply rfl; apply rfl) | (apply GO.box; apply rfl; apply rfl; apply rfl; apply rfl; apply rfl; intro _) | (apply GO.buildSlice; apply rfl; apply rfl; apply rfl; infer_instance; infer_instance; infer_instance; apply rfl; apply rfl; apply rfl; apply rfl; apply rfl; apply rfl; apply rfl; apply rfl; intro _)); refine hN _ _ ?_; clear hN N) | (first | with_reducible refine GC.seq ?_ | with_reducible refine GC.region ?_ | with_reducible refine GQ.seq ?_ | with_reducible refine GQ.then_ret ?_ | with_reducible refine GC.ret ?_ | ((with_reducible refine GC.cond_true ?_ ?_ ?_); exact rfl; exact rfl) | ((with_reducible refine GC.cond_false ?_ ?_ ?_); exact rfl; exact rfl) | with_reducible refine GC.skip ?_ | with_reducible refine GC.label ?_ | with_reducible refine GC.goto ?_ | with_reducible refine GQ.then_goto ?_) | (first | ((with_reducible apply GC.condT); apply rfl; (first | (apply decide_eq_true; omega) | assumption | (apply beq_iff_eq.mpr; omega) | (apply bne_iff_ne.mpr; omega) | apply rfl | (simp <;> omega))) | ((with_reducible apply GC.condF); apply rfl; (first | (apply decide_eq_false; omega) | assumption | (apply beq_eq_false_iff_ne.mpr; omega) | (apply bne_eq_false_iff_eq.mpr; omega) | apply rfl | (simp <;> omega))))))
  rename_i g2
  refine GC.scopeL (fun x : AlIx ys s r => [(1, .string s), (2, pV g2), (5, .slice x.A x.l.length x.c), (6, .int .i64 (x.b : Int))]) (fun x => [blk g2 [.slice A xs.length c] 25, pRow x.A x.c x.l]) (fun x => x.f) 0 rfl (fun h => ?_) ?_
  · (repeat (first | with_reducible refine GL.nil ?_ | ((with_reducible refine GL.step ?_ (fun N hN => ?_)); apply rfl; (first | fail | (first | (apply GO.ofV; (first | (apply GV.move; apply rfl; apply rfl) | (apply GV.assign; apply rfl; apply rfl) | (apply GV.load_blk; apply rfl; infer_instance; apply rfl; (repeat (first | with_reducible apply List.mem_cons_self | with_reducible apply List.mem_cons_of_mem)); apply rfl) | (apply GV.load_blk_agg; apply rfl; infer_instance; apply rfl; (repeat (first | with_reducible apply List.mem_cons_self | with_reducible apply List.mem_cons_of_mem)); apply rfl) | (apply GV.addI; apply rfl; apply rfl; apply rfl; apply rfl; (simp only [kLo, kHi]; omega); (simp only [kLo, kHi]; omega)) | (apply GV.not; apply rfl; apply rfl) | (apply GV.build; apply rfl; infer_instance; infer_instance; apply rfl; apply rfl; apply rfl; apply rfl; apply rfl) | (apply GV.extract; apply rfl; apply rfl; apply rfl)); apply rfl; apply rfl) | (apply GO.box; apply rfl; apply rfl; apply rfl; apply rfl; apply rfl; intro _) | (apply GO.buildSlice; apply rfl; apply rfl; apply rfl; infer_instance; infer_instance; infer_instance; apply rfl; apply rfl; apply rfl; apply rfl; apply rfl; apply rfl; apply rfl; apply rfl; intro _))); refine hN _ _ ?_; clear hN N) | fail | (first | ((with_reducible refine GC.seqNL ?_ ?_); exact rfl) | with_reducible refine GC.region ?_ | with_reducible refine GQ.seq ?_ | with_reducible refine GQ.then_ret ?_ | with_reducible refine GC.ret ?_ | ((with_reducible refine GC.cond_true ?_ ?_ ?_); exact rfl; exact rfl) | ((with_reducible refine GC.cond_false ?_ ?_ ?_); exact rfl; exact rfl) | with_reducible refine GC.skip ?_ | with_reducible refine GC.label ?_ | with_reducible refine GC.goto ?_ | with_reducible refine GQ.then_goto ?_) | (first | ((with_reducible apply GC.condT); apply rfl; (first | (apply decide_eq_true; omega) | assumption | (apply beq_iff_eq.mpr; omega) | (apply bne_iff_ne.mpr; omega) | apply rfl | (simp <;> omega))) | ((with_reducible apply GC.condF); apply rfl; (first | (apply decide_eq_false; omega) | assumption | (apply beq_eq_false_iff_ne.mpr; omega) | (apply bne_eq_false_iff_eq.mpr; omega) | apply rfl | (simp <;> omega))))))
    refine GC.rowNil 42 2 ?_
    refine GC.atLabel (GC.sub ?_ ?_ (h ⟨s.size + 2, 0, none, 0, [], by omega, by omega, by simp, hr0⟩))
    · (repeat (first | exact subT_nil _ | refine subT_cons rfl ?_))
    · (repeat (first | exact Pick.nil | (apply Pick.cons; (repeat (first | exact Rm.here | apply Rm.there)))))
  · rintro ⟨f, b, A1, c1, l, hb, hf, hl, hr⟩
    dsimp only
    obtain ⟨f, rfl⟩ : ∃ f', f = f' + 1 := ⟨f - 1, by omega⟩
    have k11 := fun (W : World) (L : List Asn) (hs : St w (fun _ => False) L W) => find11 xs ys hrel s hz (b : Int) (by omega) A c W (hrd.st hs) hxl
    unfold allRun at hr
    cases hF : findL ys s (b : Int) with
    | none =>
      rw [hF] at hr
      dsimp only at hr
      rw [List.append_nil] at hr
      subst hr
      simp only [hF] at k11
      (repeat (first | with_reducible refine GL.nil ?_ | ((with_reducible refine GL.step ?_ (fun N hN => ?_)); apply rfl; (first | (apply GO.callAt; apply rfl; apply rfl; apply rfl; infer_instance; apply rfl; exact fun W hs => k11 W _ hs) | (first | (apply GO.ofV; (first | (apply GV.move; apply rfl; apply rfl) | (apply GV.assign; apply rfl; apply rfl) | (apply GV.load_blk; apply rfl; infer_instance; apply rfl; (repeat (first | with_reducible apply List.mem_cons_self | with_reducible apply List.mem_cons_of_mem)); apply rfl) | (apply GV.load_blk_agg; apply rfl; infer_instance; apply rfl; (repeat (first | with_reducible apply List.mem_cons_self | with_reducible apply List.mem_cons_of_mem)); apply rfl) | (apply GV.addI; apply rfl; apply rfl; apply rfl; apply rfl; (simp only [kLo, kHi]; omega); (simp only [kLo, kHi]; omega)) | (apply GV.not; apply rfl; apply rfl) | (apply GV.build; apply rfl; infer_instance; infer_instance; apply rfl; apply rfl; apply rfl; apply rfl; apply rfl) | (apply GV.extract; apply rfl; apply rfl; apply rfl)); apply rfl; apply rfl) | (apply GO.box; apply rfl; apply rfl; apply rfl; apply rfl; apply rfl; intro _) | (apply GO.buildSlice; apply rfl; apply rfl; apply rfl; infer_instance; infer_instance; infer_instance; apply rfl; apply rfl; apply rfl; apply rfl; apply rfl; apply rfl; apply rfl; apply rfl; intro _))); refine hN _ _ ?_; clear hN N) | fail | (first | with_reducible refine GC.seq ?_ | with_reducible refine GC.region ?_ | with_reducible refine GQ.seq ?_ | with_reducible refine GQ.then_ret ?_ | with_reducible refine GC.ret ?_ | ((with_reducible refine GC.cond_true ?_ ?_ ?_); exact rfl; exact rfl) | ((with_reducible refine GC.cond_false ?_ ?_ ?_); exact rfl; exact rfl) | with_reducible refine GC.skip ?_ | with_reducible refine GC.label ?_ | with_reducible refine GC.goto ?_ | with_reducible refine GQ.then_goto ?_) | (first | ((with_reducible apply GC.condT); apply rfl; (first | (apply decide_eq_true; omega) | assumption | (apply beq_iff_eq.mpr; omega) | (apply bne_iff_ne.mpr; omega) | apply rfl | (simp <;> omega))) | ((with_reducible apply GC.condF); apply rfl; (first | (apply decide_eq_false; omega) | assumption | (apply beq_eq_false_iff_ne.mpr; omega) | (apply bne_eq_false_iff_eq.mpr; omega) | apply rfl | (simp <;> omega))))))
      refine GQ.jump_ret ?_
      (refine' GQ.ret rfl ?_ ?_ ?_; rotate_left 2; (repeat (first | exact ResL.nil | (apply ResL.cons; first | exact Res1.tmp rfl | (refine' Res1.agg rfl ?_ ?_; rotate_left 3; (repeat (first | with_reducible apply List.mem_cons_self | with_reducible apply List.mem_cons_of_mem)); exact rfl) | (refine' Res1.cell rfl ?_ ?_; rotate_left 2; (repeat (first | with_reducible apply List.mem_cons_self | with_reducible apply List.mem_cons_of_mem)); exact rfl)))); apply rfl)
      exact fun w' hs => ⟨_, _, rfl, ⟨A1, c1, rfl, rfl⟩, hs.makes (by (repeat (first | with_reducible apply List.mem_cons_self | with_reducible apply List.mem_cons_of_mem)))⟩
    | some at' =>
      obtain ⟨a, t⟩ := at'
      obtain ⟨g1, g2', g3⟩ := findL_ge hF
      rw [hF] at hr
      dsimp only at hr
      simp only [hF] at k11
      (repeat (first | with_reducible refine GL.nil ?_ | ((with_reducible refine GL.step ?_ (fun N hN => ?_)); apply rfl; (first | (apply GO.callAt; apply rfl; apply rfl; apply rfl; infer_instance; apply rfl; exact fun W hs => k11 W _ hs) | (apply GO.ofV; ((apply GV.buildArr); apply rfl; infer_instance; infer_instance; infer_instance; apply rfl; apply rfl; apply rfl; apply rfl; apply rfl); apply rfl; apply rfl) | ((apply GO.append (news := [.int .i64 (a : Int), .int .i64 (t : Int)])); apply rfl; apply rfl; apply rfl; infer_instance; infer_instance; infer_instance; infer_instance; apply rfl; apply rfl; (intro v'; (repeat (first | with_reducible apply Rep.here | with_reducible apply Rep.there))); (intro w' hw'; refine ⟨blk_rd (e := 42) (cs := [.int .i64 (a : Int), .int .i64 (t : Int)]) ?_ hw' rfl, rfl⟩; first | exact List.mem_cons_self | (apply List.mem_cons_of_mem; exact List.mem_cons_self)); apply rfl; apply rfl; decide; omega; omega; intro A' c') | (apply GO.ofV; ((apply GV.max2v (r := ((max t (a + 1) : Nat) : Int))); apply rfl; apply rfl; apply rfl; exact max_nat t a); apply rfl; apply rfl) | (first | (apply GO.ofV; (first | (apply GV.move; apply rfl; apply rfl) | (apply GV.assign; apply rfl; apply rfl) | (apply GV.load_blk; apply rfl; infer_instance; apply rfl; (repeat (first | with_reducible apply List.mem_cons_self | with_reducible apply List.mem_cons_of_mem)); apply rfl) | (apply GV.load_blk_agg; apply rfl; infer_instance; apply rfl; (repeat (first | with_reducible apply List.mem_cons_self | with_reducible apply List.mem_cons_of_mem)); apply rfl) | (apply GV.addI; apply rfl; apply rfl; apply rfl; apply rfl; (simp only [kLo, kHi]; omega); (simp only [kLo, kHi]; omega)) | (apply GV.not; apply rfl; apply rfl) | (apply GV.build; apply rfl; infer_instance; infer_instance; apply rfl; apply rfl; apply rfl; apply rfl; apply rfl) | (apply GV.extract; apply rfl; apply rfl; apply rfl)); apply rfl; apply rfl) | (apply GO.box; apply rfl; apply rfl; apply rfl; apply rfl; apply rfl; intro _) | (apply GO.buildSlice; apply rfl; apply rfl; apply rfl; infer_instance; infer_instance; infer_instance; apply rfl; apply rfl; apply rfl; apply rfl; apply rfl; apply rfl; apply rfl; apply rfl; intro _))); refine hN _ _ ?_; clear hN N) | fail | (first | with_reducible refine GC.seq ?_ | with_reducible refine GC.region ?_ | with_reducible refine GQ.seq ?_ | with_reducible refine GQ.then_ret ?_ | with_reducible refine GC.ret ?_ | ((with_reducible refine GC.cond_true ?_ ?_ ?_); exact rfl; exact rfl) | ((with_reducible refine GC.cond_false ?_ ?_ ?_); exact rfl; exact rfl) | with_reducible refine GC.skip ?_ | with_reducible refine GC.label ?_ | with_reducible refine GC.goto ?_ | with_reducible refine GQ.then_goto ?_) | (first | ((with_reducible apply GC.condT); apply rfl; (first | (apply decide_eq_true; omega) | assumption | (apply beq_iff_eq.mpr; omega) | (apply bne_iff_ne.mpr; omega) | apply rfl | (simp <;> omega))) | ((with_reducible apply GC.condF); apply rfl; (first | (apply decide_eq_false; omega) | assumption | (apply beq_eq_false_iff_ne.mpr; omega) | (apply bne_eq_false_iff_eq.mpr; omega) | apply rfl | (simp <;> omega))))))
      rw [show l.length + 1 = (l ++ [(a, t)]).length by simp, show flat2 l ++ [Value.int .i64 (a : Int), Value.int .i64 (t : Int)] = flat2 (l ++ [(a, t)]) from (flat2_snoc l (a, t)).symm]
      refine GQ.jump_next (⟨f, max t (a + 1), A', c', l ++ [(a, t)], by omega, by omega, by simp; omega, by rw [List.append_assoc]; exact hr⟩ : AlIx ys s r) (by dsimp only; omega) ?_ ?_
      · (repeat (first | exact subT_nil _ | refine subT_cons rfl ?_))
      · (repeat (first | exact Pick.nil | (apply Pick.cons; (repeat (first | exact Rm.here | apply Rm.there)))))
theorem all14 (ys : List AP) (s : ByteArray) (hz : s.size ≤ 1000) (A : Option Addr) (c : Nat) (w : World) (hrd : Rd w A ys.length 257 (flatA ys)) (hyl : ys.length ≤ 1000) : MakesAt Try.prog 14 [.slice A ys.length c, .string s] w (IsAll (allL ys s)) := by
  refine ⟨?_⟩
  generalize hr0 : allL ys s = r
  refine calls_of_GC (n := 33) Try.func14 rfl rfl rfl rfl (St.start _) ?_
  (repeat (first | with_reducible refine GL.nil ?_ | ((with_reducible refine GL.step ?_ (fun N hN => ?_)); apply rfl; (first | (apply GO.ofV; (first | (apply GV.move; apply rfl; apply rfl) | (apply GV.assign; apply rfl; apply rfl) | (apply GV.addI; apply rfl; apply rfl; apply rfl; apply rfl; (simp only [kLo, kHi]; omega); (simp only [kLo, kHi]; omega)) | (apply GV.binI; apply rfl; apply rfl; apply rfl; apply rfl) | (apply GV.not; apply rfl; apply rfl) | (apply GV.build; apply rfl; infer_instance; infer_instance; apply rfl; apply rfl; apply rfl; apply rfl; apply rfl) | (apply GV.extract; apply rfl; apply rfl; apply rfl)); apply rfl; apply rfl) | (apply GO.buildSlice; apply rfl; apply rfl; apply rfl; infer_instance; infer_instance; infer_instance; apply rfl; apply rfl; apply rfl; apply rfl; apply rfl; apply rfl; apply rfl; apply rfl; intro _)); refine hN _ _ ?_; clear hN N) | (first | with_reducible refine GC.seq ?_ | with_reducible refine GC.region ?_ | with_reducible refine GQ.seq ?_ | with_reducible refine GQ.then_ret ?_ | with_reducible refine GC.ret ?_ | ((with_reducible refine GC.cond_true ?_ ?_ ?_); exact rfl; exact rfl) | ((with_reducible refine GC.cond_false ?_ ?_ ?_); exact rfl; exact rfl) | with_reducible refine GQ.then_exit ?_ | with_reducible refine GC.skip ?_ | with_reducible refine GC.block ?_ | with_reducible refine GC.exit ?_ | with_reducible refine GQ.block_normal ?_ | with_reducible refine GQ.block_ret ?_ | with_reducible refine GQ.block_exit ?_ | ((with_reducible refine GQ.block_pass ?_ ?_); exact rfl)) | (first | ((with_reducible apply GC.condT); apply rfl; (first | (apply decide_eq_true; omega) | assumption | (apply beq_iff_eq.mpr; omega) | (apply bne_iff_ne.mpr; omega) | apply rfl | (simp <;> omega))) | ((with_reducible apply GC.condF); apply rfl; (first | (apply decide_eq_false; omega) | assumption | (apply beq_eq_false_iff_ne.mpr; omega) | (apply bne_eq_false_iff_eq.mpr; omega) | apply rfl | (simp <;> omega))))))
  refine GC.rowNil 42 2 ?_
  refine GC.sub ?_ ?_ (GC.loop (fun x : AlIx ys s r => [(0, .slice A ys.length c), (1, .string s), (5, .slice x.A x.l.length x.c), (6, .int .i64 (x.b : Int))]) (fun x => [pRow x.A x.c x.l]) (fun x => x.f) ⟨s.size + 2, 0, none, 0, [], by omega, by omega, by simp, hr0⟩ ?_)
  · (repeat (first | exact subT_nil _ | refine subT_cons rfl ?_))
  · (repeat (first | exact Pick.nil | (apply Pick.cons; (repeat (first | exact Rm.here | apply Rm.there)))))
  rintro ⟨f, b, A1, c1, l, hb, hf, hl, hr⟩
  dsimp only
  obtain ⟨f, rfl⟩ : ∃ f', f = f' + 1 := ⟨f - 1, by omega⟩
  have k12 := fun (W : World) (L : List Asn) (hs : St w (fun _ => False) L W) => find12 ys s hz (b : Int) (by omega) A c W (hrd.st hs) hyl
  unfold allRun at hr
  cases hF : findL ys s (b : Int) with
  | none =>
    rw [hF] at hr
    dsimp only at hr
    rw [List.append_nil] at hr
    subst hr
    simp only [hF] at k12
    (repeat (first | with_reducible refine GL.nil ?_ | ((with_reducible refine GL.step ?_ (fun N hN => ?_)); apply rfl; (first | (apply GO.callAt; apply rfl; apply rfl; apply rfl; infer_instance; apply rfl; exact fun W hs => k12 W _ hs) | (first | (apply GO.ofV; (first | (apply GV.move; apply rfl; apply rfl) | (apply GV.assign; apply rfl; apply rfl) | (apply GV.addI; apply rfl; apply rfl; apply rfl; apply rfl; (simp only [kLo, kHi]; omega); (simp only [kLo, kHi]; omega)) | (apply GV.binI; apply rfl; apply rfl; apply rfl; apply rfl) | (apply GV.not; apply rfl; apply rfl) | (apply GV.build; apply rfl; infer_instance; infer_instance; apply rfl; apply rfl; apply rfl; apply rfl; apply rfl) | (apply GV.extract; apply rfl; apply rfl; apply rfl)); apply rfl; apply rfl) | (apply GO.buildSlice; apply rfl; apply rfl; apply rfl; infer_instance; infer_instance; infer_instance; apply rfl; apply rfl; apply rfl; apply rfl; apply rfl; apply rfl; apply rfl; apply rfl; intro _))); refine hN _ _ ?_; clear hN N) | fail | (first | with_reducible refine GC.seq ?_ | with_reducible refine GC.region ?_ | with_reducible refine GQ.seq ?_ | with_reducible refine GQ.then_ret ?_ | with_reducible refine GC.ret ?_ | ((with_reducible refine GC.cond_true ?_ ?_ ?_); exact rfl; exact rfl) | ((with_reducible refine GC.cond_false ?_ ?_ ?_); exact rfl; exact rfl) | with_reducible refine GQ.then_exit ?_ | with_reducible refine GC.skip ?_ | with_reducible refine GC.block ?_ | with_reducible refine GC.exit ?_ | with_reducible refine GQ.block_normal ?_ | with_reducible refine GQ.block_ret ?_ | with_reducible refine GQ.block_exit ?_ | ((with_reducible refine GQ.block_pass ?_ ?_); exact rfl)) | (first | ((with_reducible apply GC.condT); apply rfl; (first | (apply decide_eq_true; omega) | assumption | (apply beq_iff_eq.mpr; omega) | (apply bne_iff_ne.mpr; omega) | apply rfl | (simp <;> omega))) | ((with_reducible apply GC.condF); apply rfl; (first | (apply decide_eq_false; omega) | assumption | (apply beq_eq_false_iff_ne.mpr; omega) | (apply bne_eq_false_iff_eq.mpr; omega) | apply rfl | (simp <;> omega))))))
    (refine' GQ.ret rfl ?_ ?_ ?_; rotate_left 2; (repeat (first | exact ResL.nil | (apply ResL.cons; first | exact Res1.tmp rfl | (refine' Res1.agg rfl ?_ ?_; rotate_left 3; (repeat (first | with_reducible apply List.mem_cons_self | with_reducible apply List.mem_cons_of_mem)); exact rfl) | (refine' Res1.cell rfl ?_ ?_; rotate_left 2; (repeat (first | with_reducible apply List.mem_cons_self | with_reducible apply List.mem_cons_of_mem)); exact rfl)))); apply rfl)
    exact fun w' hs => ⟨_, _, rfl, ⟨A1, c1, rfl, rfl⟩, hs.makes (by (repeat (first | with_reducible apply List.mem_cons_self | with_reducible apply List.mem_cons_of_mem)))⟩
  | some at' =>
    obtain ⟨a, t⟩ := at'
    obtain ⟨g1, g2', g3⟩ := findL_ge hF
    rw [hF] at hr
    dsimp only at hr
    simp only [hF] at k12
    by_cases hta : t = a
    · have em : max t (a + 1) = a + 1 := by omega
      rw [em] at hr
      (repeat (first | with_reducible refine GL.nil ?_ | ((with_reducible refine GL.step ?_ (fun N hN => ?_)); apply rfl; (first | (apply GO.callAt; apply rfl; apply rfl; apply rfl; infer_instance; apply rfl; exact fun W hs => k12 W _ hs) | (apply GO.ofV; ((apply GV.buildArr); apply rfl; infer_instance; infer_instance; infer_instance; apply rfl; apply rfl; apply rfl; apply rfl; apply rfl); apply rfl; apply rfl) | ((apply GO.append (news := [.int .i64 (a : Int), .int .i64 (t : Int)])); apply rfl; apply rfl; apply rfl; infer_instance; infer_instance; infer_instance; infer_instance; apply rfl; apply rfl; (intro v'; (repeat (first | with_reducible apply Rep.here | with_reducible apply Rep.there))); (intro w' hw'; refine ⟨blk_rd (e := 42) (cs := [.int .i64 (a : Int), .int .i64 (t : Int)]) ?_ hw' rfl, rfl⟩; first | exact List.mem_cons_self | (apply List.mem_cons_of_mem; exact List.mem_cons_self)); apply rfl; apply rfl; decide; omega; omega; intro A' c') | (first | (apply GO.ofV; (first | (apply GV.move; apply rfl; apply rfl) | (apply GV.assign; apply rfl; apply rfl) | (apply GV.addI; apply rfl; apply rfl; apply rfl; apply rfl; (simp only [kLo, kHi]; omega); (simp only [kLo, kHi]; omega)) | (apply GV.binI; apply rfl; apply rfl; apply rfl; apply rfl) | (apply GV.not; apply rfl; apply rfl) | (apply GV.build; apply rfl; infer_instance; infer_instance; apply rfl; apply rfl; apply rfl; apply rfl; apply rfl) | (apply GV.extract; apply rfl; apply rfl; apply rfl)); apply rfl; apply rfl) | (apply GO.buildSlice; apply rfl; apply rfl; apply rfl; infer_instance; infer_instance; infer_instance; apply rfl; apply rfl; apply rfl; apply rfl; apply rfl; apply rfl; apply rfl; apply rfl; intro _))); refine hN _ _ ?_; clear hN N) | fail | (first | with_reducible refine GC.seq ?_ | with_reducible refine GC.region ?_ | with_reducible refine GQ.seq ?_ | with_reducible refine GQ.then_ret ?_ | with_reducible refine GC.ret ?_ | ((with_reducible refine GC.cond_true ?_ ?_ ?_); exact rfl; exact rfl) | ((with_reducible refine GC.cond_false ?_ ?_ ?_); exact rfl; exact rfl) | with_reducible refine GQ.then_exit ?_ | with_reducible refine GC.skip ?_ | with_reducible refine GC.block ?_ | with_reducible refine GC.exit ?_ | with_reducible refine GQ.block_normal ?_ | with_reducible refine GQ.block_ret ?_ | with_reducible refine GQ.block_exit ?_ | ((with_reducible refine GQ.block_pass ?_ ?_); exact rfl)) | (first | ((with_reducible apply GC.condT); apply rfl; (first | (apply decide_eq_true; omega) | assumption | (apply beq_iff_eq.mpr; omega) | (apply bne_iff_ne.mpr; omega) | apply rfl | (simp <;> omega))) | ((with_reducible apply GC.condF); apply rfl; (first | (apply decide_eq_false; omega) | assumption | (apply beq_eq_false_iff_ne.mpr; omega) | (apply bne_eq_false_iff_eq.mpr; omega) | apply rfl | (simp <;> omega))))))
      rw [show l.length + 1 = (l ++ [(a, t)]).length by simp, show flat2 l ++ [Value.int .i64 (a : Int), Value.int .i64 (t : Int)] = flat2 (l ++ [(a, t)]) from (flat2_snoc l (a, t)).symm]
      refine GQ.next (⟨f, a + 1, A', c', l ++ [(a, t)], by omega, by omega, by simp; omega, by rw [List.append_assoc]; exact hr⟩ : AlIx ys s r) (by dsimp only; omega) ?_ ?_
      · (repeat (first | exact subT_nil _ | refine subT_cons rfl ?_))
      · (repeat (first | exact Pick.nil | (apply Pick.cons; (repeat (first | exact Rm.here | apply Rm.there)))))
    · have em : max t (a + 1) = t := by omega
      rw [em] at hr
      (repeat (first | with_reducible refine GL.nil ?_ | ((with_reducible refine GL.step ?_ (fun N hN => ?_)); apply rfl; (first | (apply GO.callAt; apply rfl; apply rfl; apply rfl; infer_instance; apply rfl; exact fun W hs => k12 W _ hs) | (apply GO.ofV; ((apply GV.buildArr); apply rfl; infer_instance; infer_instance; infer_instance; apply rfl; apply rfl; apply rfl; apply rfl; apply rfl); apply rfl; apply rfl) | ((apply GO.append (news := [.int .i64 (a : Int), .int .i64 (t : Int)])); apply rfl; apply rfl; apply rfl; infer_instance; infer_instance; infer_instance; infer_instance; apply rfl; apply rfl; (intro v'; (repeat (first | with_reducible apply Rep.here | with_reducible apply Rep.there))); (intro w' hw'; refine ⟨blk_rd (e := 42) (cs := [.int .i64 (a : Int), .int .i64 (t : Int)]) ?_ hw' rfl, rfl⟩; first | exact List.mem_cons_self | (apply List.mem_cons_of_mem; exact List.mem_cons_self)); apply rfl; apply rfl; decide; omega; omega; intro A' c') | (first | (apply GO.ofV; (first | (apply GV.move; apply rfl; apply rfl) | (apply GV.assign; apply rfl; apply rfl) | (apply GV.addI; apply rfl; apply rfl; apply rfl; apply rfl; (simp only [kLo, kHi]; omega); (simp only [kLo, kHi]; omega)) | (apply GV.binI; apply rfl; apply rfl; apply rfl; apply rfl) | (apply GV.not; apply rfl; apply rfl) | (apply GV.build; apply rfl; infer_instance; infer_instance; apply rfl; apply rfl; apply rfl; apply rfl; apply rfl) | (apply GV.extract; apply rfl; apply rfl; apply rfl)); apply rfl; apply rfl) | (apply GO.buildSlice; apply rfl; apply rfl; apply rfl; infer_instance; infer_instance; infer_instance; apply rfl; apply rfl; apply rfl; apply rfl; apply rfl; apply rfl; apply rfl; apply rfl; intro _))); refine hN _ _ ?_; clear hN N) | fail | (first | with_reducible refine GC.seq ?_ | with_reducible refine GC.region ?_ | with_reducible refine GQ.seq ?_ | with_reducible refine GQ.then_ret ?_ | with_reducible refine GC.ret ?_ | ((with_reducible refine GC.cond_true ?_ ?_ ?_); exact rfl; exact rfl) | ((with_reducible refine GC.cond_false ?_ ?_ ?_); exact rfl; exact rfl) | with_reducible refine GQ.then_exit ?_ | with_reducible refine GC.skip ?_ | with_reducible refine GC.block ?_ | with_reducible refine GC.exit ?_ | with_reducible refine GQ.block_normal ?_ | with_reducible refine GQ.block_ret ?_ | with_reducible refine GQ.block_exit ?_ | ((with_reducible refine GQ.block_pass ?_ ?_); exact rfl)) | (first | ((with_reducible apply GC.condT); apply rfl; (first | (apply decide_eq_true; omega) | assumption | (apply beq_iff_eq.mpr; omega) | (apply bne_iff_ne.mpr; omega) | apply rfl | (simp <;> omega))) | ((with_reducible apply GC.condF); apply rfl; (first | (apply decide_eq_false; omega) | assumption | (apply beq_eq_false_iff_ne.mpr; omega) | (apply bne_eq_false_iff_eq.mpr; omega) | apply rfl | (simp <;> omega))))))
      rw [show l.length + 1 = (l ++ [(a, t)]).length by simp, show flat2 l ++ [Value.int .i64 (a : Int), Value.int .i64 (t : Int)] = flat2 (l ++ [(a, t)]) from (flat2_snoc l (a, t)).symm]
      refine GQ.next (⟨f, t, A', c', l ++ [(a, t)], by omega, by omega, by simp; omega, by rw [List.append_assoc]; exact hr⟩ : AlIx ys s r) (by dsimp only; omega) ?_ ?_
      · (repeat (first | exact subT_nil _ | refine subT_cons rfl ?_))
      · (repeat (first | exact Pick.nil | (apply Pick.cons; (repeat (first | exact Rm.here | apply Rm.there)))))
end Go.Proofs.YtkbpiodcndjpnaaG
