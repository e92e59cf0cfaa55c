/- Seat 26: edits in pieces. -/
import Derived.Test.YtomalamdnnnggaaG
namespace Go.Proofs.YtomalamdnnnggaaG
open Go Go.RowKit
set_option maxRecDepth 10000
set_option maxHeartbeats 4000000
set_option linter.unusedVariables false
set_option linter.unusedSimpArgs false

theorem flatE_drop : ∀ (k : Nat) (l : List EditD), (flatE l).drop (k * 5) = flatE (l.drop k)
  | 0, l => by simp
  | k + 1, [] => by simp [flatE]
  | k + 1, e :: l => by
    have e1 : (k + 1) * 5 = e.cells.length + k * 5 := by simp [EditD.cells]; omega
    simp only [flatE, List.flatMap_cons, List.drop_succ_cons]
    rw [e1, ← List.drop_drop, List.drop_left]
    exact flatE_drop k l
theorem flatE_take : ∀ (k : Nat) (l : List EditD), (flatE l).take (k * 5) = flatE (l.take k)
  | 0, l => by simp [flatE]
  | k + 1, [] => by simp [flatE]
  | k + 1, e :: l => by
    have e1 : (k + 1) * 5 = e.cells.length + k * 5 := by simp [EditD.cells]; omega
    simp only [flatE, List.flatMap_cons, List.take_succ_cons]
    rw [e1, List.take_length_add_append]
    congr 1
    exact flatE_take k l
theorem flatE_ok (l : List EditD) : (flatE l).all okCell = true := by
  rw [List.all_eq_true]
  intro x hx
  obtain ⟨e, _, he⟩ := List.mem_flatMap.1 hx
  simp only [EditD.cells, List.mem_cons, List.not_mem_nil, or_false] at he
  rcases he with rfl | rfl | rfl | rfl | rfl <;> rfl

/-! ### Memory that is made -/
structure MakesL (P : Program) (f : Nat) (vs : List Value) (w : World) (Φ : Value → List Asn → Prop) : Prop where
  mk :: (out : Calls P f vs.toArray w fun e w' => ∃ v L2, e = .returned v ∧ Φ v L2 ∧ St w (fun _ => False) L2 w')
theorem St.toDom {w0 w : World} {L : List Asn} (h : St w0 (fun _ => False) L w) : St w0 (domOf []) L w :=
  ⟨h.os, h.tape, h.output, h.size, fun k hk _ => h.frame k hk id, h.holds, fun A hA k hk => ⟨(h.own A hA k hk).1, (h.own A hA k hk).2.imp id False.elim⟩, h.disj⟩
theorem GO.callML {P : Program} {w0 : World} {M : Nat → Prop} {n : Nat} {o : Oper} {T : TL} {L : List Asn} {N : TL → List Asn → Prop} {d f : Nat} {fn : Func} {xs : List Operand} {ats : Array Nat} {vs : List Value} {Φ : Value → List Asn → Prop} (hop : o.op = .call { callee := .value (.func f), args := xs.toArray, argTypes := ats }) (hd : o.dst = some d) (hn : Nat.blt d n = true) (_i0 : FN P f fn) (hx : Evs T xs vs)
    (hc : ∀ w, St w0 M L w → MakesL P f vs w Φ) (k : ∀ v L2, Φ v L2 → N ((d, v) :: T) (L2 ++ L)) : GO P w0 M n o T L N :=
  GO.call hop hd hn _i0 hx fun w hs => (hc w hs).out.mono fun e w' ⟨v, L2, he, hΦ, h2⟩ => ⟨v, L2 ++ L, he, St.joined (L1 := []) (Lr := L) hs h2.toDom, k v L2 hΦ⟩

/-! ### Pieces -/
structure Pc where
  A : Option Addr
  c : Nat
  e : List EditD
def Pc.v (p : Pc) : Value := .slice p.A p.e.length p.c
def piecesA (ps : List Pc) : Asn where
  dom := fun k => ∃ p ∈ ps, ∃ ad, p.A = some ad ∧ ad.block = k
  holds := fun w => ∀ p ∈ ps, Rd w p.A p.e.length 5 (flatE p.e)
  loc := fun {w w'} h hw p hp => ⟨(hw p hp).1, fun j u hj => by
    obtain ⟨ad, e, hc⟩ := (hw p hp).2 j u hj
    refine ⟨ad, e, (World.cell?_of_block (h _ ⟨p, hp, ad, e, ?_⟩)).trans hc⟩
    unfold Addr.add; split <;> rfl⟩
section
variable {P : Program} {w0 w w' : World} {M : Nat → Prop} {n : Nat} {T : TL} {L L' : List Asn}
theorem St.piecesNil (hst : St w0 M L w) : St w0 M (piecesA [] :: L) w :=
  hst.add rfl rfl rfl (Nat.le_refl _) (fun _ _ => rfl) (fun p hp => by simp at hp) fun k hk => by
    obtain ⟨p, hp, _⟩ := hk
    simp at hp
theorem GC.piecesNil {cc : Code} {Q : Exit → Act → World → Prop} (h : GC P w0 M n cc Q T (piecesA [] :: L)) : GC P w0 M n cc Q T L := fun a w ht hs => h a w ht hs.piecesNil
theorem St.piecesMore {A : Option Addr} {c : Nat} {ps : List Pc} {e : List EditD} (h0 : 0 < e.length) (hst : St w0 M (row (.slice A e.length c) 29 5 e.length (flatE e) :: piecesA ps :: L) w) : St w0 M (piecesA (ps ++ [⟨A, c, e⟩]) :: L) w := by
  obtain ⟨d1, d2⟩ := List.pairwise_cons.1 hst.disj
  obtain ⟨d3, d4⟩ := List.pairwise_cons.1 d2
  have hrow : w.ownsRow 0 29 5 (.slice A e.length c) e.length (flatE e) := hst.holds _ List.mem_cons_self
  have hrd := row_rd (e := 29) List.mem_cons_self hst
  have hps : ∀ p ∈ ps, Rd w p.A p.e.length 5 (flatE p.e) := hst.holds (piecesA ps) (List.mem_cons_of_mem _ List.mem_cons_self)
  have hA : ∀ ad, A = some ad → (row (.slice A e.length c) 29 5 e.length (flatE e)).dom ad.block := by
    intro ad e'
    rcases hrow.2 with ⟨h1, h2⟩ | ⟨g, cap, cur, h1, _⟩
    · have := hrd.1
      rw [h2] at this
      simp at this
      omega
    · have h1' := h1
      injection h1 with hA _ _
      rw [e'] at hA
      have : ad = ⟨g, 0, none⟩ := Option.some.inj hA
      subst this
      show (Value.slice A e.length c).ownBlock = _
      rw [h1']
      rfl
  have hdom : ∀ k, (piecesA (ps ++ [⟨A, c, e⟩])).dom k → (piecesA ps).dom k ∨ (row (.slice A e.length c) 29 5 e.length (flatE e)).dom k := by
    rintro k ⟨p, hp, ad, h1, h2⟩
    rcases List.mem_append.1 hp with h | h
    · exact .inl ⟨p, h, ad, h1, h2⟩
    · have : p = ⟨A, c, e⟩ := by simpa using h
      subst this
      exact .inr (h2 ▸ hA ad h1)
  refine ⟨hst.os, hst.tape, hst.output, hst.size, hst.frame, ?_, ?_, ?_⟩
  · intro B hB
    rcases List.mem_cons.1 hB with rfl | hB
    · intro p hp
      rcases List.mem_append.1 hp with h | h
      · exact hps p h
      · have : p = ⟨A, c, e⟩ := by simpa using h
        subst this
        exact hrd
    · exact hst.holds B (List.mem_cons_of_mem _ (List.mem_cons_of_mem _ hB))
  · intro B hB k hk
    rcases List.mem_cons.1 hB with rfl | hB
    · rcases hdom k hk with h | h
      · exact hst.own _ (List.mem_cons_of_mem _ List.mem_cons_self) k h
      · exact hst.own _ List.mem_cons_self k h
    · exact hst.own B (List.mem_cons_of_mem _ (List.mem_cons_of_mem _ hB)) k hk
  · refine List.pairwise_cons.2 ⟨fun B hB k hk hk' => ?_, d4⟩
    rcases hdom k hk with h | h
    · exact d3 B hB k h hk'
    · exact d1 B (List.mem_cons_of_mem _ hB) k h hk'
theorem GQ.piecesMore {A : Option Addr} {c : Nat} {ps : List Pc} {e : List EditD} {x : Exit} {Q : Exit → Act → World → Prop} {L1 : List Asn} (h0 : 0 < e.length) (hp : Pick L (row (.slice A e.length c) 29 5 e.length (flatE e) :: piecesA ps :: L1)) (h : GQ w0 M n Q x T (piecesA (ps ++ [⟨A, c, e⟩]) :: L1)) : GQ w0 M n Q x T L := fun a w ht hst => h a w ht ((hst.pick hp).piecesMore h0)
theorem pieces_rd {ps : List Pc} (hin : piecesA ps ∈ L) (hst : St w0 M L w) {p : Pc} (hp : p ∈ ps) : Rd w p.A p.e.length 5 (flatE p.e) := hst.holds _ hin p hp
end
structure GrI (l : List EditD) (w : World) where
  j : Nat
  A : Option Addr
  c : Nat
  r : Nat
  B : Option Addr
  cB : Nat
  ps : List Pc
  hr : r = l.length - 16 * j
  hj : ps.length = j
  hj2 : 16 * j < l.length + 16
  hrd : Rd w A r 5 (flatE (l.drop (16 * j)))
  hc : r ≤ c
  hps : ∀ i (h : i < ps.length), (ps[i]).e = (l.drop (16 * i)).take 16
def IsGroups (l : List EditD) (v : Value) (L2 : List Asn) : Prop := ∃ B cB ps, v = .slice B ps.length cB ∧ l.length ≤ 16 * ps.length ∧ 16 * ps.length < l.length + 16 ∧ (∀ i (h : i < ps.length), (ps[i]).e = (l.drop (16 * i)).take 16) ∧ L2 = [row (.slice B ps.length cB) 23 1 ps.length (ps.map Pc.v), piecesA ps]
theorem groups14 (l : List EditD) (A : Option Addr) (c : Nat) (w : World) (h : Rd w A l.length 5 (flatE l)) (hc : l.length ≤ c) (hl : l.length ≤ 1000) : MakesL Try.prog 14 [.slice A l.length c] w (IsGroups l) := by
  refine ⟨?_⟩
  refine calls_of_GC (n := 22) Try.func14 rfl rfl rfl rfl (St.start _) ?_
  (repeat (first | with_reducible refine GL.nil ?_ | ((with_reducible refine GL.step ?_ (fun N hN => ?_)); apply rfl; (first | (apply GO.ofV; (first | (apply GV.move; apply rfl; apply rfl) | (apply GV.assign; apply rfl; apply rfl) | (apply GV.nilCheck; apply rfl; apply rfl) | (apply GV.fieldAddr_at; apply rfl; infer_instance; apply rfl; (first | (simp only [Nat.reduceAdd]; apply rfl) | apply rfl)) | (apply GV.load_blk; apply rfl; infer_instance; apply rfl; (repeat (first | with_reducible apply List.mem_cons_self | with_reducible apply List.mem_cons_of_mem)); apply rfl) | (apply GV.load_blk_agg; apply rfl; infer_instance; apply rfl; (repeat (first | with_reducible apply List.mem_cons_self | with_reducible apply List.mem_cons_of_mem)); apply rfl) | (apply GV.addI; apply rfl; apply rfl; apply rfl; apply rfl; (simp only [kLo, kHi]; omega); (simp only [kLo, kHi]; omega)) | (apply GV.subI; apply rfl; apply rfl; apply rfl; apply rfl; (simp only [kLo, kHi]; omega); (simp only [kLo, kHi]; omega)) | (apply GV.binI; apply rfl; apply rfl; apply rfl; apply rfl) | (apply GV.eqB; apply rfl; infer_instance; apply rfl; apply rfl) | (apply GV.neqB; apply rfl; infer_instance; apply rfl; apply rfl) | (apply GV.eqA; apply rfl; infer_instance; apply rfl; apply rfl; apply rfl) | (apply GV.neqA; apply rfl; infer_instance; apply rfl; apply rfl; apply rfl) | (apply GV.eqS; apply rfl; apply rfl; apply rfl) | (apply GV.neqS; apply rfl; apply rfl; apply rfl) | (apply GV.concat; apply rfl; apply rfl; apply rfl; omega) | (apply GV.convI_in; apply rfl; infer_instance; infer_instance; apply rfl; (simp only [kLo, kHi]; omega); (simp only [kLo, kHi]; omega)) | (apply GV.convI; apply rfl; infer_instance; infer_instance; apply rfl) | (apply GV.not; apply rfl; apply rfl) | (apply GV.pick_true; apply rfl; apply rfl; apply rfl) | (apply GV.pick_false; apply rfl; apply rfl; apply rfl) | (apply GV.build; apply rfl; infer_instance; infer_instance; apply rfl; apply rfl; apply rfl; apply rfl; apply rfl) | (apply GV.field; apply rfl; infer_instance; infer_instance; apply rfl; apply rfl) | (apply GV.field_agg; apply rfl; infer_instance; infer_instance; apply rfl; apply rfl) | (apply GV.extract; apply rfl; apply rfl; apply rfl) | (apply GV.index_stringN; apply rfl; infer_instance; apply rfl; apply rfl; omega) | (apply GV.index_string; apply rfl; infer_instance; apply rfl; apply rfl; omega; omega) | (apply GV.len_string; apply rfl; infer_instance; apply rfl) | (apply GV.len_slice; apply rfl; infer_instance; apply rfl)); apply rfl; apply rfl) | (apply GO.box; apply rfl; apply rfl; apply rfl; apply rfl; apply rfl; intro _) | (apply GO.alloc; apply rfl; apply rfl; apply rfl; infer_instance; intro _) | (apply GO.store; apply rfl; apply rfl; infer_instance; apply rfl; apply rfl; (repeat (first | with_reducible apply Rep.here | with_reducible apply Rep.there)); apply rfl; apply rfl; apply rfl; apply rfl; apply rfl) | (apply GO.buildSlice; apply rfl; apply rfl; apply rfl; infer_instance; infer_instance; infer_instance; apply rfl; apply rfl; apply rfl; apply rfl; apply rfl; apply rfl; apply rfl; apply rfl; intro _)); refine hN _ _ ?_; clear hN N) | ((with_reducible apply GL.skip); apply rfl; apply rfl; apply rfl) | (first | with_reducible refine GC.seq ?_ | with_reducible refine GC.region ?_ | with_reducible refine GQ.seq ?_ | with_reducible refine GQ.then_ret ?_ | with_reducible refine GC.ret ?_ | ((with_reducible refine GC.cond_true ?_ ?_ ?_); exact rfl; exact rfl) | ((with_reducible refine GC.cond_false ?_ ?_ ?_); exact rfl; exact rfl) | with_reducible refine GQ.then_exit ?_ | with_reducible refine GC.skip ?_ | with_reducible refine GC.block ?_ | with_reducible refine GC.exit ?_ | with_reducible refine GQ.block_normal ?_ | with_reducible refine GQ.block_ret ?_ | with_reducible refine GQ.block_exit ?_ | ((with_reducible refine GQ.block_pass ?_ ?_); exact rfl) | with_reducible refine GC.label ?_ | with_reducible refine GC.goto ?_ | with_reducible refine GQ.then_goto ?_ | with_reducible refine GQ.block_goto ?_) | (first | ((with_reducible apply GL.guardT); apply rfl; apply rfl; apply rfl; (first | (apply decide_eq_true; omega) | assumption | (apply beq_iff_eq.mpr; omega) | (apply bne_iff_ne.mpr; omega) | apply rfl | (simp <;> omega))) | ((with_reducible apply GL.guardF); apply rfl; apply rfl; apply rfl; (first | (apply decide_eq_false; omega) | assumption | (apply beq_eq_false_iff_ne.mpr; omega) | (apply bne_eq_false_iff_eq.mpr; omega) | apply rfl | (simp <;> omega))) | ((with_reducible apply GC.condT); apply rfl; (first | (apply decide_eq_true; omega) | assumption | (apply beq_iff_eq.mpr; omega) | (apply bne_iff_ne.mpr; omega) | apply rfl | (simp <;> omega))) | ((with_reducible apply GC.condF); apply rfl; (first | (apply decide_eq_false; omega) | assumption | (apply beq_eq_false_iff_ne.mpr; omega) | (apply bne_eq_false_iff_eq.mpr; omega) | apply rfl | (simp <;> omega))))))
  refine GC.scopeL (fun x : GrI l w => [(0, .slice x.A x.r x.c), (3, .slice x.B x.j x.cB)]) (fun x => [row (.slice x.B x.j x.cB) 23 1 x.j (x.ps.map Pc.v), piecesA x.ps]) (fun x => x.r) 0 rfl (fun h' => ?_) ?_
  · refine GC.rowNil 23 1 (GC.piecesNil ?_)
    (repeat (first | with_reducible refine GL.nil ?_ | ((with_reducible refine GL.step ?_ (fun N hN => ?_)); apply rfl; (first | fail | (first | (apply GO.ofV; (first | (apply GV.move; apply rfl; apply rfl) | (apply GV.assign; apply rfl; apply rfl) | (apply GV.nilCheck; apply rfl; apply rfl) | (apply GV.fieldAddr_at; apply rfl; infer_instance; apply rfl; (first | (simp only [Nat.reduceAdd]; apply rfl) | apply rfl)) | (apply GV.load_blk; apply rfl; infer_instance; apply rfl; (repeat (first | with_reducible apply List.mem_cons_self | with_reducible apply List.mem_cons_of_mem)); apply rfl) | (apply GV.load_blk_agg; apply rfl; infer_instance; apply rfl; (repeat (first | with_reducible apply List.mem_cons_self | with_reducible apply List.mem_cons_of_mem)); apply rfl) | (apply GV.addI; apply rfl; apply rfl; apply rfl; apply rfl; (simp only [kLo, kHi]; omega); (simp only [kLo, kHi]; omega)) | (apply GV.subI; apply rfl; apply rfl; apply rfl; apply rfl; (simp only [kLo, kHi]; omega); (simp only [kLo, kHi]; omega)) | (apply GV.binI; apply rfl; apply rfl; apply rfl; apply rfl) | (apply GV.eqB; apply rfl; infer_instance; apply rfl; apply rfl) | (apply GV.neqB; apply rfl; infer_instance; apply rfl; apply rfl) | (apply GV.eqA; apply rfl; infer_instance; apply rfl; apply rfl; apply rfl) | (apply GV.neqA; apply rfl; infer_instance; apply rfl; apply rfl; apply rfl) | (apply GV.eqS; apply rfl; apply rfl; apply rfl) | (apply GV.neqS; apply rfl; apply rfl; apply rfl) | (apply GV.concat; apply rfl; apply rfl; apply rfl; omega) | (apply GV.convI_in; apply rfl; infer_instance; infer_instance; apply rfl; (simp only [kLo, kHi]; omega); (simp only [kLo, kHi]; omega)) | (apply GV.convI; apply rfl; infer_instance; infer_instance; apply rfl) | (apply GV.not; apply rfl; apply rfl) | (apply GV.pick_true; apply rfl; apply rfl; apply rfl) | (apply GV.pick_false; apply rfl; apply rfl; apply rfl) | (apply GV.build; apply rfl; infer_instance; infer_instance; apply rfl; apply rfl; apply rfl; apply rfl; apply rfl) | (apply GV.field; apply rfl; infer_instance; infer_instance; apply rfl; apply rfl) | (apply GV.field_agg; apply rfl; infer_instance; infer_instance; apply rfl; apply rfl) | (apply GV.extract; apply rfl; apply rfl; apply rfl) | (apply GV.index_stringN; apply rfl; infer_instance; apply rfl; apply rfl; omega) | (apply GV.index_string; apply rfl; infer_instance; apply rfl; apply rfl; omega; omega) | (apply GV.len_string; apply rfl; infer_instance; apply rfl) | (apply GV.len_slice; apply rfl; infer_instance; apply rfl)); apply rfl; apply rfl) | (apply GO.box; apply rfl; apply rfl; apply rfl; apply rfl; apply rfl; intro _) | (apply GO.alloc; apply rfl; apply rfl; apply rfl; infer_instance; intro _) | (apply GO.store; apply rfl; apply rfl; infer_instance; apply rfl; apply rfl; (repeat (first | with_reducible apply Rep.here | with_reducible apply Rep.there)); apply rfl; apply rfl; apply rfl; apply rfl; apply rfl) | (apply GO.buildSlice; apply rfl; apply rfl; apply rfl; infer_instance; infer_instance; infer_instance; apply rfl; apply rfl; apply rfl; apply rfl; apply rfl; apply rfl; apply rfl; apply rfl; intro _))); refine hN _ _ ?_; clear hN N) | ((with_reducible apply GL.skip); apply rfl; apply rfl; apply rfl) | (first | ((with_reducible refine GC.seqNL ?_ ?_); exact rfl) | with_reducible refine GC.region ?_ | with_reducible refine GQ.seq ?_ | with_reducible refine GQ.then_ret ?_ | with_reducible refine GC.ret ?_ | ((with_reducible refine GC.cond_true ?_ ?_ ?_); exact rfl; exact rfl) | ((with_reducible refine GC.cond_false ?_ ?_ ?_); exact rfl; exact rfl) | with_reducible refine GQ.then_exit ?_ | with_reducible refine GC.skip ?_ | with_reducible refine GC.block ?_ | with_reducible refine GC.exit ?_ | with_reducible refine GQ.block_normal ?_ | with_reducible refine GQ.block_ret ?_ | with_reducible refine GQ.block_exit ?_ | ((with_reducible refine GQ.block_pass ?_ ?_); exact rfl) | with_reducible refine GC.label ?_ | with_reducible refine GC.goto ?_ | with_reducible refine GQ.then_goto ?_ | with_reducible refine GQ.block_goto ?_) | (first | ((with_reducible apply GL.guardT); apply rfl; apply rfl; apply rfl; (first | (apply decide_eq_true; omega) | assumption | (apply beq_iff_eq.mpr; omega) | (apply bne_iff_ne.mpr; omega) | apply rfl | (simp <;> omega))) | ((with_reducible apply GL.guardF); apply rfl; apply rfl; apply rfl; (first | (apply decide_eq_false; omega) | assumption | (apply beq_eq_false_iff_ne.mpr; omega) | (apply bne_eq_false_iff_eq.mpr; omega) | apply rfl | (simp <;> omega))) | ((with_reducible apply GC.condT); apply rfl; (first | (apply decide_eq_true; omega) | assumption | (apply beq_iff_eq.mpr; omega) | (apply bne_iff_ne.mpr; omega) | apply rfl | (simp <;> omega))) | ((with_reducible apply GC.condF); apply rfl; (first | (apply decide_eq_false; omega) | assumption | (apply beq_eq_false_iff_ne.mpr; omega) | (apply bne_eq_false_iff_eq.mpr; omega) | apply rfl | (simp <;> omega))))))
    refine GC.atLabel (GC.sub ?_ ?_ (h' ⟨0, A, c, l.length, none, 0, [], by omega, rfl, by omega, h, hc, fun i h => by simp at h⟩))
    · (repeat (first | exact subT_nil _ | refine subT_cons rfl ?_))
    · exact Pick.cons (Rm.there Rm.here) (Pick.cons Rm.here Pick.nil)
  rintro ⟨j, A0, c0, r, B, cB, ps, hr, hj, hj2, hrd, hc', hps⟩
  dsimp only
  by_cases h0 : r = 0
  · subst h0
    (repeat (first | with_reducible refine GL.nil ?_ | ((with_reducible refine GL.step ?_ (fun N hN => ?_)); apply rfl; (first | (apply GO.ofV; (first | (apply GV.move; apply rfl; apply rfl) | (apply GV.assign; apply rfl; apply rfl) | (apply GV.nilCheck; apply rfl; apply rfl) | (apply GV.fieldAddr_at; apply rfl; infer_instance; apply rfl; (first | (simp only [Nat.reduceAdd]; apply rfl) | apply rfl)) | (apply GV.load_blk; apply rfl; infer_instance; apply rfl; (repeat (first | with_reducible apply List.mem_cons_self | with_reducible apply List.mem_cons_of_mem)); apply rfl) | (apply GV.load_blk_agg; apply rfl; infer_instance; apply rfl; (repeat (first | with_reducible apply List.mem_cons_self | with_reducible apply List.mem_cons_of_mem)); apply rfl) | (apply GV.addI; apply rfl; apply rfl; apply rfl; apply rfl; (simp only [kLo, kHi]; omega); (simp only [kLo, kHi]; omega)) | (apply GV.subI; apply rfl; apply rfl; apply rfl; apply rfl; (simp only [kLo, kHi]; omega); (simp only [kLo, kHi]; omega)) | (apply GV.binI; apply rfl; apply rfl; apply rfl; apply rfl) | (apply GV.eqB; apply rfl; infer_instance; apply rfl; apply rfl) | (apply GV.neqB; apply rfl; infer_instance; apply rfl; apply rfl) | (apply GV.eqA; apply rfl; infer_instance; apply rfl; apply rfl; apply rfl) | (apply GV.neqA; apply rfl; infer_instance; apply rfl; apply rfl; apply rfl) | (apply GV.eqS; apply rfl; apply rfl; apply rfl) | (apply GV.neqS; apply rfl; apply rfl; apply rfl) | (apply GV.concat; apply rfl; apply rfl; apply rfl; omega) | (apply GV.convI_in; apply rfl; infer_instance; infer_instance; apply rfl; (simp only [kLo, kHi]; omega); (simp only [kLo, kHi]; omega)) | (apply GV.convI; apply rfl; infer_instance; infer_instance; apply rfl) | (apply GV.not; apply rfl; apply rfl) | (apply GV.pick_true; apply rfl; apply rfl; apply rfl) | (apply GV.pick_false; apply rfl; apply rfl; apply rfl) | (apply GV.build; apply rfl; infer_instance; infer_instance; apply rfl; apply rfl; apply rfl; apply rfl; apply rfl) | (apply GV.field; apply rfl; infer_instance; infer_instance; apply rfl; apply rfl) | (apply GV.field_agg; apply rfl; infer_instance; infer_instance; apply rfl; apply rfl) | (apply GV.extract; apply rfl; apply rfl; apply rfl) | (apply GV.index_stringN; apply rfl; infer_instance; apply rfl; apply rfl; omega) | (apply GV.index_string; apply rfl; infer_instance; apply rfl; apply rfl; omega; omega) | (apply GV.len_string; apply rfl; infer_instance; apply rfl) | (apply GV.len_slice; apply rfl; infer_instance; apply rfl)); apply rfl; apply rfl) | (apply GO.box; apply rfl; apply rfl; apply rfl; apply rfl; apply rfl; intro _) | (apply GO.alloc; apply rfl; apply rfl; apply rfl; infer_instance; intro _) | (apply GO.store; apply rfl; apply rfl; infer_instance; apply rfl; apply rfl; (repeat (first | with_reducible apply Rep.here | with_reducible apply Rep.there)); apply rfl; apply rfl; apply rfl; apply rfl; apply rfl) | (apply GO.buildSlice; apply rfl; apply rfl; apply rfl; infer_instance; infer_instance; infer_instance; apply rfl; apply rfl; apply rfl; apply rfl; apply rfl; apply rfl; apply rfl; apply rfl; intro _)); refine hN _ _ ?_; clear hN N) | ((with_reducible apply GL.skip); apply rfl; apply rfl; apply rfl) | (first | with_reducible refine GC.seq ?_ | with_reducible refine GC.region ?_ | with_reducible refine GQ.seq ?_ | with_reducible refine GQ.then_ret ?_ | with_reducible refine GC.ret ?_ | ((with_reducible refine GC.cond_true ?_ ?_ ?_); exact rfl; exact rfl) | ((with_reducible refine GC.cond_false ?_ ?_ ?_); exact rfl; exact rfl) | with_reducible refine GQ.then_exit ?_ | with_reducible refine GC.skip ?_ | with_reducible refine GC.block ?_ | with_reducible refine GC.exit ?_ | with_reducible refine GQ.block_normal ?_ | with_reducible refine GQ.block_ret ?_ | with_reducible refine GQ.block_exit ?_ | ((with_reducible refine GQ.block_pass ?_ ?_); exact rfl) | with_reducible refine GC.label ?_ | with_reducible refine GC.goto ?_ | with_reducible refine GQ.then_goto ?_ | with_reducible refine GQ.block_goto ?_) | (first | ((with_reducible apply GL.guardT); apply rfl; apply rfl; apply rfl; (first | (apply decide_eq_true; omega) | assumption | (apply beq_iff_eq.mpr; omega) | (apply bne_iff_ne.mpr; omega) | apply rfl | (simp <;> omega))) | ((with_reducible apply GL.guardF); apply rfl; apply rfl; apply rfl; (first | (apply decide_eq_false; omega) | assumption | (apply beq_eq_false_iff_ne.mpr; omega) | (apply bne_eq_false_iff_eq.mpr; omega) | apply rfl | (simp <;> omega))) | ((with_reducible apply GC.condT); apply rfl; (first | (apply decide_eq_true; omega) | assumption | (apply beq_iff_eq.mpr; omega) | (apply bne_iff_ne.mpr; omega) | apply rfl | (simp <;> omega))) | ((with_reducible apply GC.condF); apply rfl; (first | (apply decide_eq_false; omega) | assumption | (apply beq_eq_false_iff_ne.mpr; omega) | (apply bne_eq_false_iff_eq.mpr; omega) | apply rfl | (simp <;> omega))))))
    refine GQ.jump_ret ?_
    (refine' GQ.ret rfl ?_ ?_ ?_; rotate_left 2; (repeat (first | exact ResL.nil | (apply ResL.cons; first | exact Res1.tmp rfl | (refine' Res1.agg rfl ?_ ?_; rotate_left 3; (repeat (first | with_reducible apply List.mem_cons_self | with_reducible apply List.mem_cons_of_mem)); exact rfl) | (refine' Res1.cell rfl ?_ ?_; rotate_left 2; (repeat (first | with_reducible apply List.mem_cons_self | with_reducible apply List.mem_cons_of_mem)); exact rfl)))); apply rfl)
    exact fun w' hs' => ⟨_, _, rfl, ⟨B, cB, ps, by rw [hj], by omega, by omega, hps, by rw [hj]⟩, hs'⟩
  · obtain ⟨n, hn⟩ : ∃ n, n = min r 16 := ⟨_, rfl⟩
    have hnm : (if (16 : Int) < (r : Int) then (16 : Int) else (r : Int)) = (n : Int) := by split <;> omega
    have hpl : ps.length ≤ 1000 := by omega
    have hdl : (l.drop (16 * j)).length = r := by rw [List.length_drop]; omega
    have hpn : ((l.drop (16 * j)).take 16).length = n := by rw [List.length_take, hdl]; omega
    have ep : ((flatE (l.drop (16 * j))).drop (0 * 5)).take ((n - 0) * 5) = flatE ((l.drop (16 * j)).take 16) := by
      rw [Nat.zero_mul, List.drop_zero, Nat.sub_zero, flatE_take]
      congr 1
      apply List.ext_getElem?
      intro i
      rw [List.getElem?_take, List.getElem?_take]
      by_cases hi : i < n
      · rw [if_pos hi, if_pos (by omega)]
      · rw [if_neg hi]
        split
        · rw [List.getElem?_eq_none (by omega)]
        · rfl
    have hpc := hrd.sub (l := 0) (hi := n) (Nat.zero_le _) (by omega) hc'
    rw [ep] at hpc
    have hqc := hrd.sub (l := n) (hi := r) (by omega) (Nat.le_refl _) hc'
    have eq : ((flatE (l.drop (16 * j))).drop (n * 5)).take ((r - n) * 5) = flatE (l.drop (16 * (j + 1))) := by
      rw [flatE_drop, flatE_take, List.drop_drop]
      rw [List.take_of_length_le (by rw [List.length_drop]; omega)]
      congr 1
      by_cases h16 : n = 16
      · congr 1; omega
      · rw [List.drop_of_length_le (by omega), List.drop_of_length_le (by omega)]
    rw [eq] at hqc
    have el : 0 + (n - 0) = ((l.drop (16 * j)).take 16).length := by omega
    refine GC.rowNil 29 5 ?_
    (repeat (first | with_reducible refine GL.nil ?_ | ((with_reducible refine GL.step ?_ (fun N hN => ?_)); apply rfl; (first | (apply GO.ofV; (apply GV.min2v (r := (n : Int)); apply rfl; apply rfl; apply rfl; exact hnm); apply rfl; apply rfl) | (apply GO.ofV; ((apply GV.slice_slice (l := 0) (h := n)); apply rfl; infer_instance; infer_instance; apply rfl; (first | exact Or.inl ⟨rfl, rfl⟩ | (apply Or.inr; apply Exists.intro; apply Exists.intro; apply And.intro; apply rfl; apply rfl)); (first | exact Or.inl ⟨rfl, rfl⟩ | (apply Or.inr; apply Exists.intro; apply Exists.intro; apply And.intro; apply rfl; apply rfl)); omega; omega); apply rfl; apply rfl) | (apply GO.ofV; ((apply GV.slice_slice (l := n) (h := r)); apply rfl; infer_instance; infer_instance; apply rfl; (first | exact Or.inl ⟨rfl, rfl⟩ | (apply Or.inr; apply Exists.intro; apply Exists.intro; apply And.intro; apply rfl; apply rfl)); (first | exact Or.inl ⟨rfl, rfl⟩ | (apply Or.inr; apply Exists.intro; apply Exists.intro; apply And.intro; apply rfl; apply rfl)); omega; omega); apply rfl; apply rfl) | (apply GO.append; apply rfl; apply rfl; apply rfl; infer_instance; infer_instance; infer_instance; infer_instance; apply rfl; apply rfl; (intro v'; (repeat (first | with_reducible apply Rep.here | with_reducible apply Rep.there))); (exact fun w' hs => ⟨hpc.st hs, hpc.isSome (by omega)⟩); exact flatE_ok _; apply rfl; decide; omega; omega; intro P1 cP; rw [el, List.nil_append]) | ((apply GO.append (news := [Value.slice P1 ((l.drop (16 * j)).take 16).length cP])); apply rfl; apply rfl; apply rfl; infer_instance; infer_instance; infer_instance; infer_instance; apply rfl; apply rfl; (intro v'; (repeat (first | with_reducible apply Rep.here | with_reducible apply Rep.there))); (intro w' hw'; refine ⟨blk_rd (e := 23) (cs := [Value.slice P1 ((l.drop (16 * j)).take 16).length cP]) ?_ hw' rfl, rfl⟩; first | exact List.mem_cons_self | (apply List.mem_cons_of_mem; exact List.mem_cons_self)); apply rfl; apply rfl; decide; omega; omega; intro A' c') | (first | (apply GO.ofV; (first | (apply GV.move; apply rfl; apply rfl) | (apply GV.assign; apply rfl; apply rfl) | (apply GV.nilCheck; apply rfl; apply rfl) | (apply GV.fieldAddr_at; apply rfl; infer_instance; apply rfl; (first | (simp only [Nat.reduceAdd]; apply rfl) | apply rfl)) | (apply GV.load_blk; apply rfl; infer_instance; apply rfl; (repeat (first | with_reducible apply List.mem_cons_self | with_reducible apply List.mem_cons_of_mem)); apply rfl) | (apply GV.load_blk_agg; apply rfl; infer_instance; apply rfl; (repeat (first | with_reducible apply List.mem_cons_self | with_reducible apply List.mem_cons_of_mem)); apply rfl) | (apply GV.addI; apply rfl; apply rfl; apply rfl; apply rfl; (simp only [kLo, kHi]; omega); (simp only [kLo, kHi]; omega)) | (apply GV.subI; apply rfl; apply rfl; apply rfl; apply rfl; (simp only [kLo, kHi]; omega); (simp only [kLo, kHi]; omega)) | (apply GV.binI; apply rfl; apply rfl; apply rfl; apply rfl) | (apply GV.eqB; apply rfl; infer_instance; apply rfl; apply rfl) | (apply GV.neqB; apply rfl; infer_instance; apply rfl; apply rfl) | (apply GV.eqA; apply rfl; infer_instance; apply rfl; apply rfl; apply rfl) | (apply GV.neqA; apply rfl; infer_instance; apply rfl; apply rfl; apply rfl) | (apply GV.eqS; apply rfl; apply rfl; apply rfl) | (apply GV.neqS; apply rfl; apply rfl; apply rfl) | (apply GV.concat; apply rfl; apply rfl; apply rfl; omega) | (apply GV.convI_in; apply rfl; infer_instance; infer_instance; apply rfl; (simp only [kLo, kHi]; omega); (simp only [kLo, kHi]; omega)) | (apply GV.convI; apply rfl; infer_instance; infer_instance; apply rfl) | (apply GV.not; apply rfl; apply rfl) | (apply GV.pick_true; apply rfl; apply rfl; apply rfl) | (apply GV.pick_false; apply rfl; apply rfl; apply rfl) | (apply GV.build; apply rfl; infer_instance; infer_instance; apply rfl; apply rfl; apply rfl; apply rfl; apply rfl) | (apply GV.field; apply rfl; infer_instance; infer_instance; apply rfl; apply rfl) | (apply GV.field_agg; apply rfl; infer_instance; infer_instance; apply rfl; apply rfl) | (apply GV.extract; apply rfl; apply rfl; apply rfl) | (apply GV.index_stringN; apply rfl; infer_instance; apply rfl; apply rfl; omega) | (apply GV.index_string; apply rfl; infer_instance; apply rfl; apply rfl; omega; omega) | (apply GV.len_string; apply rfl; infer_instance; apply rfl) | (apply GV.len_slice; apply rfl; infer_instance; apply rfl)); apply rfl; apply rfl) | (apply GO.box; apply rfl; apply rfl; apply rfl; apply rfl; apply rfl; intro _) | (apply GO.alloc; apply rfl; apply rfl; apply rfl; infer_instance; intro _) | (apply GO.store; apply rfl; apply rfl; infer_instance; apply rfl; apply rfl; (repeat (first | with_reducible apply Rep.here | with_reducible apply Rep.there)); apply rfl; apply rfl; apply rfl; apply rfl; apply rfl) | (apply GO.buildSlice; apply rfl; apply rfl; apply rfl; infer_instance; infer_instance; infer_instance; apply rfl; apply rfl; apply rfl; apply rfl; apply rfl; apply rfl; apply rfl; apply rfl; intro _))); refine hN _ _ ?_; clear hN N) | ((with_reducible apply GL.skip); apply rfl; apply rfl; apply rfl) | (first | with_reducible refine GC.seq ?_ | with_reducible refine GC.region ?_ | with_reducible refine GQ.seq ?_ | with_reducible refine GQ.then_ret ?_ | with_reducible refine GC.ret ?_ | ((with_reducible refine GC.cond_true ?_ ?_ ?_); exact rfl; exact rfl) | ((with_reducible refine GC.cond_false ?_ ?_ ?_); exact rfl; exact rfl) | with_reducible refine GQ.then_exit ?_ | with_reducible refine GC.skip ?_ | with_reducible refine GC.block ?_ | with_reducible refine GC.exit ?_ | with_reducible refine GQ.block_normal ?_ | with_reducible refine GQ.block_ret ?_ | with_reducible refine GQ.block_exit ?_ | ((with_reducible refine GQ.block_pass ?_ ?_); exact rfl) | with_reducible refine GC.label ?_ | with_reducible refine GC.goto ?_ | with_reducible refine GQ.then_goto ?_ | with_reducible refine GQ.block_goto ?_) | (first | ((with_reducible apply GL.guardT); apply rfl; apply rfl; apply rfl; (first | (apply decide_eq_true; omega) | assumption | (apply beq_iff_eq.mpr; omega) | (apply bne_iff_ne.mpr; omega) | apply rfl | (simp <;> omega))) | ((with_reducible apply GL.guardF); apply rfl; apply rfl; apply rfl; (first | (apply decide_eq_false; omega) | assumption | (apply beq_eq_false_iff_ne.mpr; omega) | (apply bne_eq_false_iff_eq.mpr; omega) | apply rfl | (simp <;> omega))) | ((with_reducible apply GC.condT); apply rfl; (first | (apply decide_eq_true; omega) | assumption | (apply beq_iff_eq.mpr; omega) | (apply bne_iff_ne.mpr; omega) | apply rfl | (simp <;> omega))) | ((with_reducible apply GC.condF); apply rfl; (first | (apply decide_eq_false; omega) | assumption | (apply beq_eq_false_iff_ne.mpr; omega) | (apply bne_eq_false_iff_eq.mpr; omega) | apply rfl | (simp <;> omega))))))
    have em : ps.map Pc.v ++ [Value.slice P1 ((l.drop (16 * j)).take 16).length cP] = (ps ++ [Pc.mk P1 cP ((l.drop (16 * j)).take 16)]).map Pc.v := by simp [Pc.v]
    rw [em]
    refine GQ.piecesMore (A := P1) (c := cP) (ps := ps) (e := (l.drop (16 * j)).take 16) (by omega) (Pick.cons (Rm.there Rm.here) (Pick.cons (Rm.there (Rm.there Rm.here)) (Pick.cons (Rm.there Rm.here) Pick.nil))) ?_
    refine GQ.jump_next (⟨j + 1, subA A0 c0 n 5, c0 - n, r - n, A', c', ps ++ [⟨P1, cP, (l.drop (16 * j)).take 16⟩], by omega, by simp [hj], by omega, hqc, by omega, ?_⟩ : GrI l w) (by dsimp only; omega) ?_ ?_
    · intro i hi
      by_cases e : i < ps.length
      · rw [List.getElem_append_left e]; exact hps i e
      · have : i = j := by simp at hi; omega
        subst this
        rw [List.getElem_append_right (by omega)]
        simp
    · (repeat (first | exact subT_nil _ | refine subT_cons rfl ?_))
    · exact Pick.cons (Rm.there Rm.here) (Pick.cons Rm.here Pick.nil)
end Go.Proofs.YtomalamdnnnggaaG
