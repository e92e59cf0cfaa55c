/- Calls that turn memory that was handed over; makeSlice; a table of rows of one-cell elements. Over any program. -/
import Derived.Test.YtkbpiodcndjpnaaG7
import Derived.Laws.MakeOwn
namespace Go.Proofs.YtkbpiodcndjpnaaG
set_option linter.unusedVariables false
set_option linter.unusedSimpArgs false
open Go Go.RowKit

/-! ### A part of memory handed over -/
def domOf (L : List Asn) : Nat → Prop := fun k => ∃ A ∈ L, A.dom k
section
variable {P : Program} {w0 w w' : World} {M : Nat → Prop} {n : Nat} {T : TL} {L L' : List Asn} {o : Oper} {N : TL → List Asn → Prop} {d : Nat} {v : Value} {A : Option Addr} {m c size : Nat} {cs : List Value}
theorem St.part {L1 Lr : List Asn} (h : St w0 M (L1 ++ Lr) w) : St w (domOf L1) L1 w :=
  ⟨rfl, rfl, rfl, Nat.le_refl _, fun _ _ _ => rfl, fun A hA => h.holds A (List.mem_append_left _ hA), fun A hA k hk => ⟨(h.own A (List.mem_append_left _ hA) k hk).1, .inr ⟨A, hA, hk⟩⟩, (List.pairwise_append.1 h.disj).1⟩
theorem St.joined {L1 L2 Lr : List Asn} (h : St w0 M (L1 ++ Lr) w) (h2 : St w (domOf L1) L2 w') : St w0 M (L2 ++ Lr) w' := by
  obtain ⟨p1, p2, p3⟩ := List.pairwise_append.1 h.disj
  have hlr : ∀ A ∈ Lr, ∀ k, A.dom k → k < w.heap.size ∧ ¬ domOf L1 k := fun A hA k hk => ⟨(h.own A (List.mem_append_right _ hA) k hk).1, fun ⟨B, hB, hk'⟩ => p3 B hB A hA k hk' hk⟩
  refine ⟨h2.os.trans h.os, h2.tape.trans h.tape, h2.output.trans h.output, Nat.le_trans h.size h2.size, fun k hk hM => ?_, ?_, ?_, ?_⟩
  · refine (h2.frame k (Nat.lt_of_lt_of_le hk h.size) fun ⟨A, hA, hd⟩ => ?_).trans (h.frame k hk hM)
    rcases (h.own A (List.mem_append_left _ hA) k hd).2 with h1 | h1
    · omega
    · exact hM h1
  · intro A hA
    rcases List.mem_append.1 hA with h1 | h1
    · exact h2.holds A h1
    · exact A.loc (fun k hk => h2.frame k (hlr A h1 k hk).1 (hlr A h1 k hk).2) (h.holds A (List.mem_append_right _ h1))
  · intro A hA k hk
    rcases List.mem_append.1 hA with h1 | h1
    · obtain ⟨q1, q2⟩ := h2.own A h1 k hk
      refine ⟨q1, ?_⟩
      rcases q2 with q2 | ⟨B, hB, hd⟩
      · exact .inl (Nat.le_trans h.size q2)
      · exact (h.own B (List.mem_append_left _ hB) k hd).2
    · exact ⟨Nat.lt_of_lt_of_le (hlr A h1 k hk).1 h2.size, (h.own A (List.mem_append_right _ h1) k hk).2⟩
  · refine List.pairwise_append.2 ⟨h2.disj, p2, fun A hA B hB k hk hk' => ?_⟩
    rcases (h2.own A hA k hk).2 with q | q
    · have := (hlr B hB k hk').1
      omega
    · exact (hlr B hB k hk').2 q
/-- A function that is handed the memory of L1, and leaves that of which Φ tells. -/
structure Hands (P : Program) (f : Nat) (vs : List Value) (L1 : List Asn) (Φ : Value → List Asn → Prop) : Prop where
  mk :: (out : ∀ w, St w (domOf L1) L1 w → Calls P f vs.toArray w fun e w' => ∃ v L2, e = .returned v ∧ Φ v L2 ∧ St w (domOf L1) L2 w')
theorem GO.callL {f : Nat} {fn : Func} {xs : List Operand} {ats : Array Nat} {vs : List Value} {L1 Lr : List Asn} {Φ : Value → List Asn → Prop} (hop : o.op = .call { callee := .value (.func f), args := xs.toArray, argTypes := ats }) (hd : o.dst = some d) (hn : Nat.blt d n = true) (_i0 : FN P f fn) (hx : Evs T xs vs)
    (hc : Hands P f vs L1 Φ) (hp : Pick L (L1 ++ Lr)) (k : ∀ v L2, Φ v L2 → N ((d, v) :: T) (L2 ++ Lr)) : GO P w0 M n o T L N :=
  GO.call hop hd hn _i0 hx fun w hs => (hc.out w (hs.pick hp).part).mono fun e w' ⟨v, L2, he, hΦ, h2⟩ => ⟨v, L2 ++ Lr, he, (hs.pick hp).joined h2, k v L2 hΦ⟩

/-- A scope with one label, from which on it is X. -/
theorem GC.scopeL {ι : Type} (Tf : ι → TL) (Lf : ι → List Asn) (mm : ι → Nat) {cc X : Code} {Q : Exit → Act → World → Prop} (l : Nat) (hf : findLabel cc l = some (.seq .skip X))
    (first : (∀ i0, GC P w0 M n X (Exit.jump l (fun a w => ∃ j, Tm n (Tf j) a ∧ St w0 M (Lf j) w) Q) (Tf i0) (Lf i0)) → GC P w0 M n cc (Exit.jump l (fun a w => ∃ j, Tm n (Tf j) a ∧ St w0 M (Lf j) w) Q) T L)
    (pass : ∀ i, GC P w0 M n X (Exit.jump l (Handon w0 M n Tf Lf mm i) Q) (Tf i) (Lf i)) : GC P w0 M n (.scope cc) Q T L := by
  refine GC.scope Tf Lf mm l hf (first fun i0 => (pass i0).mono fun e a w hq => ?_) fun i => ?_
  · cases e with
    | goto l' =>
      obtain ⟨h1, j, _, h2, h3⟩ := hq
      exact ⟨h1, j, h2, h3⟩
    | normal => exact hq
    | exit id => exact hq
    | ret => exact hq
    | panic ch => exact hq
    | outgrown => exact hq
  · exact GC.seq (GC.skip (GQ.seq (pass i)))
/-- A loop in a block, and what is behind it: what is between is told by a family. -/
theorem GC.midB {ι : Type} (Tf : ι → TL) (Lf : ι → List Asn) {cc y : Code} {id : Nat} {Q : Exit → Act → World → Prop} (h1 : GC P w0 M n cc (Exit.inBlock id (Exit.then (fun a w => ∃ j, Tm n (Tf j) a ∧ St w0 M (Lf j) w) Q)) T L) (h2 : ∀ j, GC P w0 M n y Q (Tf j) (Lf j)) :
    GC P w0 M n cc (Exit.inBlock id (Exit.then (fun a w => y.wp P Q a w) Q)) T L := by
  refine h1.mono fun e a w hq => ?_
  have key : ∀ e', Exit.then (fun a w => ∃ j, Tm n (Tf j) a ∧ St w0 M (Lf j) w) Q e' a w → Exit.then (fun a w => y.wp P Q a w) Q e' a w := fun e' h => by
    cases e' with
    | normal =>
      obtain ⟨j, ht, hs⟩ := h
      exact h2 j a w ht hs
    | exit id => exact h
    | goto l => exact h
    | ret => exact h
    | panic ch => exact h
    | outgrown => exact h
  cases e with
  | exit id' =>
    simp only [Exit.inBlock] at hq ⊢
    split
    · rename_i e; rw [if_pos e] at hq; exact key _ hq
    · rename_i e; rw [if_neg e] at hq; exact key _ hq
  | normal => exact key .normal hq
  | goto l => exact key (.goto l) hq
  | ret => exact key .ret hq
  | panic ch => exact key (.panic ch) hq
  | outgrown => exact key .outgrown hq
theorem GQ.mid {ι : Type} {Tf : ι → TL} {Lf : ι → List Asn} {Q : Exit → Act → World → Prop} (j : ι) (hT : subT T (Tf j)) (hL : Pick L (Lf j)) : GQ w0 M n (Exit.then (fun a w => ∃ j, Tm n (Tf j) a ∧ St w0 M (Lf j) w) Q) .normal T L :=
  fun _ _ ht hs => ⟨j, ht.sub hT, hs.pick hL⟩
def notLabel : Code → Bool
  | .label _ => false
  | _ => true
theorem GC.seqNL {x y : Code} {Q : Exit → Act → World → Prop} (_h : notLabel x = true) (h : GC P w0 M n x (Exit.then (fun a w => y.wp P Q a w) Q) T L) : GC P w0 M n (.seq x y) Q T L := GC.seq h
/-- A label where the walk arrives. -/
theorem GC.atLabel {X : Code} {Q : Exit → Act → World → Prop} {l : Nat} (h : GC P w0 M n X Q T L) : GC P w0 M n (.seq (.label l) X) Q T L := GC.seq (GC.label (GQ.seq h))

/-! ### Single operations -/
theorem GV.min2v {at' : Array Nat} {x y : Operand} {k k' : IntKind} {a b r : Int} (hop : o.op = .call { callee := .builtin .min, args := #[x, y], argTypes := at' }) (hx : Ev T x (.int k a)) (hy : Ev T y (.int k' b)) (h : (if b < a then b else a) = r) : GV P w0 M n o T L (.int k r) :=
  ⟨fun ac w ht _ => by subst h; simp [execOp, hop, resolve, invoke, builtin, ht.ev hx, ht.ev hy, run_min_int2]⟩
theorem GV.min2 {at' : Array Nat} {x y : Operand} {k k' : IntKind} {a b : Int} (hop : o.op = .call { callee := .builtin .min, args := #[x, y], argTypes := at' }) (hx : Ev T x (.int k a)) (hy : Ev T y (.int k' b)) : GV P w0 M n o T L (.int k (if b < a then b else a)) :=
  ⟨fun ac w ht _ => by simp [execOp, hop, resolve, invoke, builtin, ht.ev hx, ht.ev hy, run_min_int2]⟩
theorem madeCells_one (z : Array Value) (v : Value) (hz : z = #[v]) (m : Nat) : madeCells z m = (List.replicate m v).toArray := by
  subst hz
  unfold madeCells
  apply Array.ext
  · simp
  · intro i h1 h2
    simp [Nat.mod_one]
/-- make([]e, n), e of one cell. -/
theorem GO.makeSlice {t e bytes : Nat} {b : Bool} {z : Value} {x y : Operand} {m : Nat} (hop : o.op = .makeSlice t x y) (hd : o.dst = some d) (hn : Nat.blt d n = true) (_i0 : SL P t e) (_i1 : TI P e b 1) (_i2 : TZ P e [z]) (_i3 : TB P e bytes)
    (hx : Ev T x (.int .i64 (m : Int))) (hy : Ev T y (.int .i64 (m : Int))) (hbytes : m * bytes ≤ 281474976710656) (hm : m ≤ 9223372036854775807) (k : ∀ g, N ((d, .slice (some ⟨g, 0, none⟩) m m) :: T) (blk g (List.replicate m z) e :: L)) : GO P w0 M n o T L N :=
  GO.ofNew hd hn fun a w ht hs => by
    refine ⟨_, _, _, ?_, hs.alloc (List.replicate m z) e, k w.heap.size⟩
    have hu := SL.out (P := P) (t := t)
    obtain ⟨i, hi, hiz⟩ := Option.map_eq_some_iff.1 (TI.size_ (P := P) (t := e))
    obtain ⟨i', hi', hb⟩ := Option.map_eq_some_iff.1 (TB.out (P := P) (t := e))
    obtain ⟨i'', hi'', hzz⟩ := Option.map_eq_some_iff.1 (TZ.out (P := P) (t := e))
    obtain rfl : i = i' := Option.some.inj (hi.symm.trans hi')
    obtain rfl : i = i'' := Option.some.inj (hi.symm.trans hi'')
    obtain ⟨zv, hzv, hzc⟩ := Option.map_eq_some_iff.1 hzz
    have hzc' : zv.cells = #[z] := by apply Array.ext'; simpa using hzc
    have hb' : (i.bytes : Int) * (m : Int) ≤ 281474976710656 := by
      have h : ((i.bytes * m : Nat) : Int) ≤ 281474976710656 := by rw [hb, Nat.mul_comm]; omega
      rwa [Int.natCast_mul] at h
    have hr := run_make (P := P) w t e i zv hu hi hzv .i64 .i64 m m (by omega) (Int.le_refl _) hb' (by omega)
    simp only [execOp, hop, ht.ev hx, ht.ev hy]
    refine run_v ?_
    rw [hr]
    rw [hiz, Nat.mul_one, madeCells_one _ z hzc']
    simp
/-- x[i], x a slice of known elements of one cell. -/
theorem GV.indexAddr1 {t e : Nat} {b : Bool} {x y : Operand} {g : Nat} {ki : IntKind} {i : Nat} (hop : o.op = .indexAddr t x y) (_i0 : SL P t e) (_i1 : TI P e b 1) (hx : Ev T x (.slice (some ⟨g, 0, none⟩) m c)) (hy : Ev T y (.int ki (i : Int))) (h1 : i < m) :
    GV P w0 M n o T L (.pointer (some ⟨g, i, none⟩)) :=
  ⟨fun a w ht hs => by
    have := (GV.indexAddr_slice (P := P) (w0 := w0) (M := M) (n := n) (L := L) (ad := ⟨g, 0, none⟩) (m := m) (c := c) (s := 1) hop _i0 _i1 hx hy (by omega) (by omega)).out a w ht hs
    simpa [add_plain0] using this⟩
theorem GV.indexAddrJ {t e : Nat} {b : Bool} {x y : Operand} {g : Nat} {ki : IntKind} (i : Nat) {j : Int} (hop : o.op = .indexAddr t x y) (_i0 : SL P t e) (_i1 : TI P e b 1) (hx : Ev T x (.slice (some ⟨g, 0, none⟩) m c)) (hy : Ev T y (.int ki j)) (hj : j = (i : Int)) (h1 : i < m) :
    GV P w0 M n o T L (.pointer (some ⟨g, i, none⟩)) := by
  subst hj
  exact GV.indexAddr1 hop _i0 _i1 hx hy h1
theorem GO.storeAt {t g off ty : Nat} {x y : Operand} {C : List Value} {u : Value} (hop : o.op = .store t x y) (hd : o.dst = none) (_i0 : TI P t false 1) (hx : Ev T x (.pointer (some ⟨g, off, none⟩))) (hy : Ev T y u)
    (hrep : Rep (blk g C ty) (blk g (C.set off u) ty) L L') (hlt : off < C.length) (hcs : u.cells = #[u]) (hok : okCell u = true) (k : N T L') : GO P w0 M n o T L N :=
  GO.ofUnit hd fun a w ht hs => by
    have hg : w.heap[g]? = some (.cells C.toArray ty (0, 0)) := hs.holds _ hrep.mem
    obtain ⟨w', h1, h2, h3, h4, h5, h6, h7⟩ := run_storeAt_put (P := P) (t := t) (b := false) (s := 1) hg (u := u) (off := off) (by rw [hcs]; rfl) (by omega) (by rw [hcs]; simp [hok])
    refine ⟨w', L', ?_, hs.rep hrep h4 h5 h6 (by omega) (fun k _ hk => h7 k hk) ?_ ?_, k⟩
    · simp only [execOp, hop, ht.ev hx, ht.ev hy]; exact run_u h1
    · show w'.heap[g]? = _
      rw [h2, hcs]
      simp [putCells_cons, putCells_nil]
    · intro k hk
      have hlt := (Array.getElem?_eq_some_iff.1 hg).1
      have : k = g := hk
      subst this
      exact ⟨by omega, .inl rfl⟩

/-! ### A table: rows of m cells of one value each -/
def rowC (m : Nat) (f : Nat → Value) : List Value := (List.range m).map f
theorem rowC_get {m : Nat} {f : Nat → Value} {k : Nat} (h : k < m) : (rowC m f)[k]? = some (f k) := by simp [rowC, h]
theorem rowC_length (m : Nat) (f : Nat → Value) : (rowC m f).length = m := by simp [rowC]
def updF (F : Nat → Nat → Value) (i k : Nat) (u : Value) : Nat → Nat → Value := fun i' k' => if i' = i ∧ k' = k then u else F i' k'
theorem rowC_set (m : Nat) (F : Nat → Nat → Value) (i k : Nat) (u : Value) : (rowC m (F i)).set k u = rowC m (updF F i k u i) := by
  apply List.ext_getElem
  · simp [rowC]
  · intro j h1 h2
    simp only [rowC, List.getElem_set, List.getElem_map, List.getElem_range, updF]
    by_cases e : k = j
    · subst e; simp
    · rw [if_neg e, if_neg (fun h => e h.2.symm)]
theorem rowC_other (m : Nat) (F : Nat → Nat → Value) (i k j : Nat) (u : Value) (h : j ≠ i) : rowC m (updF F i k u j) = rowC m (F j) := by
  unfold rowC updF
  congr 1
  funext k'
  rw [if_neg (fun hh => h hh.1)]
theorem replicate_rowC (m : Nat) (v : Value) : List.replicate m v = rowC m fun _ => v := by
  apply List.ext_getElem
  · simp [rowC]
  · intro j h1 h2; simp [rowC]
def rowsA (hs : List Nat) (m ty : Nat) (F : Nat → Nat → Value) : Asn where
  dom := fun k => k ∈ hs
  holds := fun w => hs.Nodup ∧ ∀ (i h : Nat), hs[i]? = some h → w.heap[h]? = some (.cells (rowC m (F i)).toArray ty (0, 0))
  loc := fun h hw => ⟨hw.1, fun i g hg => (h g (List.mem_of_getElem? hg)).trans (hw.2 i g hg)⟩
theorem rows_cell {hs : List Nat} {ty i k h : Nat} {F : Nat → Nat → Value} (hin : rowsA hs m ty F ∈ L) (hst : St w0 M L w) (hh : hs[i]? = some h) (hk : k < m) : w.cell? ⟨h, k, none⟩ = some (F i k) := by
  have := (hst.holds _ hin).2 i h hh
  have h2 := rowC_get (f := F i) hk
  simp [World.cell?, this, h2]
theorem St.rowsNil (hst : St w0 M L w) (m ty : Nat) (F : Nat → Nat → Value) : St w0 M (rowsA [] m ty F :: L) w :=
  hst.add rfl rfl rfl (Nat.le_refl _) (fun _ _ => rfl) ⟨List.nodup_nil, fun i h hh => by simp at hh⟩ fun k hk => by simp [rowsA] at hk
theorem GC.rowsNil {cc : Code} {Q : Exit → Act → World → Prop} (m ty : Nat) (F : Nat → Nat → Value) (h : GC P w0 M n cc Q T (rowsA [] m ty F :: L)) : GC P w0 M n cc Q T L := fun a w ht hs => h a w ht (hs.rowsNil m ty F)
/-- A further row. -/
theorem St.rowsMore {hs : List Nat} {ty g : Nat} {F : Nat → Nat → Value} (hst : St w0 M (blk g (rowC m (F hs.length)) ty :: rowsA hs m ty F :: L) w) : St w0 M (rowsA (hs ++ [g]) m ty F :: L) w := by
  obtain ⟨d1, d2⟩ := List.pairwise_cons.1 hst.disj
  obtain ⟨d3, d4⟩ := List.pairwise_cons.1 d2
  have hb : w.heap[g]? = _ := hst.holds _ List.mem_cons_self
  have hr : hs.Nodup ∧ _ := hst.holds _ (List.mem_cons_of_mem _ List.mem_cons_self)
  have hnot : g ∉ hs := fun h => d1 _ List.mem_cons_self g rfl h
  refine ⟨hst.os, hst.tape, hst.output, hst.size, hst.frame, ?_, ?_, ?_⟩
  · intro A hA
    rcases List.mem_cons.1 hA with rfl | hA
    · refine ⟨List.nodup_append.2 ⟨hr.1, by simp, fun a ha b hb' => by
        have : b = g := by simpa using hb'
        subst this
        exact fun e => hnot (e ▸ ha)⟩, fun i h hh => ?_⟩
      by_cases e : i < hs.length
      · rw [List.getElem?_append_left e] at hh
        exact hr.2 i h hh
      · have hi : i < (hs ++ [g]).length := (List.getElem?_eq_some_iff.1 hh).1
        have : i = hs.length := by simp at hi; omega
        subst this
        rw [List.getElem?_append_right (Nat.le_refl _)] at hh
        have : g = h := by simpa using hh
        subst this
        exact hb
    · exact hst.holds A (List.mem_cons_of_mem _ (List.mem_cons_of_mem _ hA))
  · intro A hA k hk
    rcases List.mem_cons.1 hA with rfl | hA
    · have : k ∈ hs ∨ k = g := by simpa [rowsA] using hk
      rcases this with h | h
      · exact hst.own _ (List.mem_cons_of_mem _ List.mem_cons_self) k h
      · exact hst.own _ List.mem_cons_self k h
    · exact hst.own A (List.mem_cons_of_mem _ (List.mem_cons_of_mem _ hA)) k hk
  · refine List.pairwise_cons.2 ⟨fun B hB k hk hk' => ?_, d4⟩
    have : k ∈ hs ∨ k = g := by simpa [rowsA] using hk
    rcases this with h | h
    · exact d3 B hB k h hk'
    · exact d1 B (List.mem_cons_of_mem _ hB) k h hk'
theorem GQ.rowsMore {hs : List Nat} {ty g : Nat} {F : Nat → Nat → Value} {x : Exit} {Q : Exit → Act → World → Prop} {L1 : List Asn} (hp : Pick L (blk g (rowC m (F hs.length)) ty :: rowsA hs m ty F :: L1)) (h : GQ w0 M n Q x T (rowsA (hs ++ [g]) m ty F :: L1)) : GQ w0 M n Q x T L := fun a w ht hst => h a w ht (hst.pick hp).rowsMore
theorem GC.rowsMore {hs : List Nat} {ty g : Nat} {F : Nat → Nat → Value} {x : Code} {Q : Exit → Act → World → Prop} {L1 : List Asn} (hp : Pick L (blk g (rowC m (F hs.length)) ty :: rowsA hs m ty F :: L1)) (h : GC P w0 M n x Q T (rowsA (hs ++ [g]) m ty F :: L1)) : GC P w0 M n x Q T L := fun a w ht hst => h a w ht (hst.pick hp).rowsMore
theorem GO.storeRows {t ty i k h : Nat} {hs : List Nat} {x y : Operand} {F : Nat → Nat → Value} {u : Value} (hop : o.op = .store t x y) (hd : o.dst = none) (_i0 : TI P t false 1) (hx : Ev T x (.pointer (some ⟨h, k, none⟩))) (hy : Ev T y u)
    (hrep : Rep (rowsA hs m ty F) (rowsA hs m ty (updF F i k u)) L L') (hh : hs[i]? = some h) (hk : k < m) (hcs : u.cells = #[u]) (hok : okCell u = true) (kk : N T L') : GO P w0 M n o T L N :=
  GO.ofUnit hd fun a w ht hst => by
    obtain ⟨hnd, hr⟩ : hs.Nodup ∧ ∀ (i h : Nat), hs[i]? = some h → w.heap[h]? = some (.cells (rowC m (F i)).toArray ty (0, 0)) := hst.holds _ hrep.mem
    have hg := hr i h hh
    obtain ⟨w', h1, h2, h3, h4, h5, h6, h7⟩ := run_storeAt_put (P := P) (t := t) (b := false) (s := 1) hg (u := u) (off := k) (by rw [hcs]; rfl) (by rw [rowC_length]; omega) (by rw [hcs]; simp [hok])
    refine ⟨w', L', ?_, hst.rep hrep h4 h5 h6 (by omega) (fun k' _ hk' => h7 k' fun e => hk' (e ▸ List.mem_of_getElem? hh)) ⟨hnd, fun j g hjg => ?_⟩ ?_, kk⟩
    · simp only [execOp, hop, ht.ev hx, ht.ev hy]; exact run_u h1
    · by_cases e : g = h
      · subst e
        have hji : j = i := by
          obtain ⟨a1, a2⟩ := List.getElem?_eq_some_iff.1 hjg
          obtain ⟨b1, b2⟩ := List.getElem?_eq_some_iff.1 hh
          exact (List.getElem_inj hnd).1 (a2.trans b2.symm)
        subst hji
        rw [h2, hcs]
        simp only [putCells_cons, putCells_nil]
        rw [← rowC_set]
        try rfl
      · have hji : j ≠ i := fun e' => by
          subst e'
          rw [hjg] at hh
          exact e (Option.some.inj hh)
        rw [h7 g e, hr j g hjg, rowC_other m F i k j u hji]
    · intro k' hk'
      have hlt := (Array.getElem?_eq_some_iff.1 (hr _ k' (List.getElem?_eq_getElem (List.getElem_of_mem hk').choose_spec.1 |>.trans (congrArg some (List.getElem_of_mem hk').choose_spec.2)))).1
      exact ⟨by omega, .inl hk'⟩

/-! ### What waits for what, through others -/
section
variable {ops : Array Oper} {Z : List Nat}
/-- Who is listed, has all listed that it waits for. -/
def closedB (ops : Array Oper) (listed : Array Bool) : Bool := (List.range ops.size).all fun j => !(listed.getD j true) || (ops[j]?).all fun o => o.after.all fun e => !(Region.binds .any e) || listed[e.on]? == some true
def waitsN (ops : Array Oper) : Nat → Nat → Nat → Bool
  | 0, _, _ => false
  | d + 1, z, i => (ops[z]?).any fun o => o.after.any fun e => Region.binds .any e && (e.on == i || waitsN ops d e.on i)
def waitsC (ops : Array Oper) (Z : List Nat) (i : Nat) : Bool := Z.all fun z => waitsN ops ops.size z i
theorem getD_some {listed : Array Bool} {e : Nat} (h : listed.getD e false = true) : listed[e]? = some true := by
  rw [Array.getD_eq_getD_getElem?] at h
  cases hh : listed[e]? with
  | none => rw [hh] at h; cases h
  | some b => rw [hh] at h; simp at h; rw [h]
theorem closed_step {listed : Array Bool} {j : Nat} (hc : closedB ops listed = true) (hj : j ∈ Region.ready .any ops listed) : closedB ops (listed.setIfInBounds j true) = true := by
  obtain ⟨_, oj, hoj, hall⟩ := mem_ready.1 hj
  unfold closedB at *
  rw [List.all_eq_true] at *
  intro k hk
  have h1 := hc k hk
  have up : ∀ e : Nat, listed[e]? = some true → (listed.setIfInBounds j true)[e]? = some true := fun e he => by
    rw [Array.getElem?_setIfInBounds]
    have := (Array.getElem?_eq_some_iff.1 he).1
    split
    · rename_i h; subst h; simp [this]
    · exact he
  by_cases e : j = k
  · subst e
    rw [hoj]
    simp only [Option.all_some, Bool.or_eq_true, Array.all_eq_true]
    refine .inr fun i hi => ?_
    cases hb : Region.binds .any oj.after[i] with
    | false => simp
    | true => simp [up _ (getD_some (hall _ (Array.getElem_mem hi) hb))]
  · rw [getD_set_ne true e]
    simp only [Bool.or_eq_true] at h1 ⊢
    rcases h1 with h1 | h1
    · exact .inl h1
    · right
      cases ho : ops[k]? with
      | none => simp
      | some o =>
        rw [ho] at h1
        simp only [Option.all_some, Array.all_eq_true, Bool.or_eq_true] at h1 ⊢
        intro i hi
        rcases h1 i hi with h2 | h2
        · exact .inl h2
        · exact .inr (by simpa using up _ (by simpa using h2))
theorem waitsN_listed {listed : Array Bool} (hc : closedB ops listed = true) : ∀ (d z i : Nat), waitsN ops d z i = true → (∀ o, ops[z]? = some o → ∀ e ∈ o.after, Region.binds .any e = true → listed[e.on]? = some true) → listed[i]? = some true
  | 0, _, _, h, _ => by simp [waitsN] at h
  | d + 1, z, i, h, hz => by
    unfold waitsN at h
    cases ho : ops[z]? with
    | none => rw [ho] at h; simp at h
    | some o =>
      rw [ho] at h
      simp only [Option.any_some, Array.any_eq_true, Bool.and_eq_true, Bool.or_eq_true, beq_iff_eq] at h
      obtain ⟨k, hk, hb, he⟩ := h
      have h1 := hz o ho _ (Array.getElem_mem hk) hb
      rcases he with he | he
      · rw [← he]; exact h1
      · refine waitsN_listed hc d _ i he fun o' ho' e' he' hb' => ?_
        unfold closedB at hc
        rw [List.all_eq_true] at hc
        have hlt : (o.after[k]).on < ops.size := (Array.getElem?_eq_some_iff.1 ho').1
        have h2 := hc _ (List.mem_range.2 hlt)
        rw [ho'] at h2
        simp only [Array.getD_eq_getD_getElem?, h1, Option.getD_some, Bool.not_true, Bool.false_or, Option.all_some, Array.all_eq_true, Bool.or_eq_true] at h2
        obtain ⟨m, hm, rfl⟩ := Array.mem_iff_getElem.1 he'
        rcases h2 m hm with h3 | h3
        · simp [hb'] at h3
        · simpa using h3
theorem fresh_stepC {listed : Array Bool} {i j : Nat} (hw : waitsC ops Z i = true) (hc : closedB ops listed = true) (hf : freshZ Z listed = true) (hj : j ∈ Region.ready .any ops listed) (hi : listed.getD i true = false) : freshZ Z (listed.setIfInBounds j true) = true := by
  unfold freshZ at *
  rw [List.all_eq_true] at *
  intro z hz
  by_cases e : j = z
  · subst e
    obtain ⟨_, oj, hoj, hall⟩ := mem_ready.1 hj
    have h1 := waitsN_listed hc _ _ i (List.all_eq_true.1 hw j hz) fun o ho e he hb => by
      rw [hoj] at ho
      obtain rfl := Option.some.inj ho
      exact getD_some (hall e he hb)
    simp [Array.getD_eq_getD_getElem?, h1] at hi
  · rw [getD_set_ne true e]
    exact hf z hz
end
theorem GZ.takeT {ops : Array Oper} {Q : Exit → Act → World → Prop} {L0 L1 : List Asn} {Z : List Nat} {fuel : Nat} {listed : Array Bool} (i : Nat) {oi : Oper} (hi : ops[i]? = some oi) (hd : oi.dst = some d) (hn : Nat.blt d n = true) (hw : wantT ops T oi = some true) (hs : Region.noSelect ops = true) (hf : Region.free .any ops listed i = true)
    (hr : (Region.ready .any ops listed).contains i = true) (hQ : ∀ c a w, Q (.panic c) (a.put (some d) v) w → Q (.panic c) a w) (hz : Z.contains i = false) (hp : Pick L L0) (hp1 : Pick L L1) (hfr : (freshZ Z listed && closedB ops listed) = true) (hwt : waitsC ops Z i = true) (hun : listed.getD i true = false) (hv : GV P w0 M n oi T L1 v)
    (k : GZ P w0 M n ops Q L0 L1 Z fuel (listed.setIfInBounds i true) ((d, v) :: T) L) : GZ P w0 M n ops Q L0 L1 Z (fuel + 1) listed T L := by
  refine ⟨fun a w ht hst => ?_⟩
  simp only [Bool.and_eq_true] at hfr
  refine wpAnyZ_first (S := St w0 M L1) (C := fun l => freshZ Z l = true ∧ closedB ops l = true) hi (by simpa using hz) (Region.noSelect_spec hs) (by rw [hd]; exact hQ) (fun l j hc hj hji hiu => ⟨fresh_stepC hwt hc.2 hc.1 hj hiu, closed_step hc.2 hj⟩) (fun l w hc _ h1 => h1 hc.1) fuel listed a w hfr (Region.free_spec hi hf) (by simpa using hr)
    (.inl ⟨wantT_spec ht hw, fun w' hS => hv.out a w' ht hS⟩) (hst.pick hp) (fun _ => hst.pick hp1) ?_
  rw [hd]
  exact k.out _ _ (ht.put (by simpa using hn) v) hst
theorem GC.drawsY {id : Nat} {ops : Array Oper} {Q : Exit → Act → World → Prop} (Z : List Nat) (L0 : List Asn) (hm : P.follows .mixedOrders = true) (h : GZ P w0 M n ops Q L0 L Z ops.size (Array.replicate ops.size false) T L) : GC P w0 M n (.region id ops true) Q T L :=
  fun a w ht hs => wp_region_any hm (wpAny_of_Z _ _ _ _ (h.out a w.drew ht hs.drew))

/-! ### A region that draws its order and writes to memory that A tells of -/
theorem GC.drawsA {id : Nat} {ops : Array Oper} {Q : Exit → Act → World → Prop} (Z : List Nat) {A : Asn} {L0 : List Asn} (hm : P.follows .mixedOrders = true) (hr : Rm A L L0) (h : GZ P w0 M n ops Q L0 L Z ops.size (Array.replicate ops.size false) T L) : GC P w0 M n (.region id ops true) Q T L :=
  fun a w ht hs => wp_region_any hm (wpAny_of_Z _ _ _ _ (h.out a w.drew ht hs.drew))
end
end Go.Proofs.YtkbpiodcndjpnaaG
