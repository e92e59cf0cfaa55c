/- Slices: what one reads as, a row that is appended to, a literal; calls that make memory. Over any program. -/
import Derived.Test.YtkbpiodcndjpnaaG3
import Derived.Laws.OwnMore
namespace Go.Proofs.YtkbpiodcndjpnaaG
set_option linter.unusedVariables false
set_option linter.unusedSimpArgs false
open Go Go.RowKit

/-- A slice of n elements that reads as these cells. -/
def Rd (w : World) (A : Option Addr) (n size : Nat) (cs : List Value) : Prop :=
  cs.length = n * size ∧ ∀ j u, cs[j]? = some u → ∃ ad, A = some ad ∧ w.cell? (ad.add j) = some u
theorem add_add (a : Addr) (i j : Nat) : (a.add i).add j = a.add (i + j) := by
  unfold Addr.add
  by_cases hi : i = 0
  · subst hi; simp
  · by_cases hj : j = 0
    · subst hj; simp
    · simp [hi, hj]; omega
section
variable {P : Program} {w0 w w' : World} {M : Nat → Prop} {n : Nat} {T : TL} {L : List Asn} {o : Oper} {N : TL → List Asn → Prop} {d : Nat} {v : Value} {A : Option Addr} {m c size : Nat} {cs : List Value}
theorem Rd.nil (w : World) (A : Option Addr) (size : Nat) : Rd w A 0 size [] := ⟨by simp, fun j u h => by simp at h⟩
theorem Rd.below (h : Rd w A m size cs) (hb : Below w.heap.size w w') : Rd w' A m size cs :=
  ⟨h.1, fun j u hj => by
    obtain ⟨ad, e, hc⟩ := h.2 j u hj
    exact ⟨ad, e, (hb.cell (World.block_lt_of_cell? w _ hc)).trans hc⟩⟩
theorem Rd.st (h : Rd w0 A m size cs) (hs : St w0 (fun _ => False) L w) : Rd w A m size cs :=
  ⟨h.1, fun j u hj => by
    obtain ⟨ad, e, hc⟩ := h.2 j u hj
    exact ⟨ad, e, hs.cell hc⟩⟩
theorem row_rd {e : Nat} (hin : row (.slice A m c) e size m cs ∈ L) (hs : St w0 M L w) : Rd w A m size cs := by
  have h : w.ownsRow 0 e size (.slice A m c) m cs := hs.holds _ hin
  refine ⟨h.1, fun j u hj => ?_⟩
  rcases h.2 with ⟨h1, h2⟩ | ⟨g, cap, cur, h1, _, _⟩
  · subst h2
    have := h.1
    simp at this
    subst this
    simp at hj
  · injection h1 with hA _ _
    subst hA
    exact ⟨_, rfl, h.cells (g := g) rfl j u hj⟩
theorem blk_rd {g e n' : Nat} (hin : blk g cs e ∈ L) (hs : St w0 M L w) (hl : cs.length = n' * size) : Rd w (some ⟨g, 0, none⟩) n' size cs :=
  ⟨hl, fun j u hj => ⟨_, rfl, by rw [add_plain0]; exact blk_cell hin hs (by simpa using hj)⟩⟩
theorem row_rd_some {e : Nat} (hin : row (.slice A m c) e size m cs ∈ L) (hs : St w0 M L w) (h0 : 0 < m * size) : Rd w A m size cs ∧ A.isSome = true := by
  have h := row_rd hin hs
  refine ⟨h, ?_⟩
  have hl := h.1
  obtain ⟨ad, e, _⟩ := h.2 0 cs[0] (by simp)
  simp [e]
/-- The address that s[lo:] has. -/
def subA (A : Option Addr) (c l size : Nat) : Option Addr := if c = l then A else A.map (·.add (l * size))
theorem Rd.sub (h : Rd w A m size cs) {l hi : Nat} (h1 : l ≤ hi) (h2 : hi ≤ m) (h3 : m ≤ c) : Rd w (subA A c l size) (hi - l) size ((cs.drop (l * size)).take ((hi - l) * size)) := by
  have hle : (l * size) + (hi - l) * size ≤ m * size := by rw [← Nat.add_mul]; exact Nat.mul_le_mul_right _ (by omega)
  refine ⟨by rw [List.length_take, List.length_drop, h.1]; omega, fun j u hj => ?_⟩
  rw [List.getElem?_take] at hj
  split at hj
  · rw [List.getElem?_drop] at hj
    obtain ⟨ad, rfl, hc⟩ := h.2 _ u hj
    unfold subA
    split
    · rename_i hlt e
      subst e
      have : hi = c := by omega
      subst this
      simp at hlt
    · exact ⟨_, rfl, by rw [add_add]; exact hc⟩
  · cases hj
theorem GV.slice_slice {t e : Nat} {b : Bool} {x : Operand} {lo hi : Option Operand} {l h : Nat} (hop : o.op = .slice t x lo hi none) (_i0 : SL P t e) (_i1 : TI P e b size) (hx : Ev T x (.slice A m c))
    (hlo : lo = none ∧ l = 0 ∨ ∃ y k, lo = some y ∧ Ev T y (.int k (l : Int))) (hhi : hi = none ∧ h = m ∨ ∃ y k, hi = some y ∧ Ev T y (.int k (h : Int))) (h1 : l ≤ h) (h2 : h ≤ c) : GV P w0 M n o T L (.slice (subA A c l size) (h - l) (c - l)) :=
  ⟨fun a w ht _ => by
    have hu := SL.out (P := P) (t := t)
    simp only [execOp, hop, ht.ev hx]
    refine run_v ?_
    have ee : ∀ (k : IntKind) (i y : Nat) (c : BoundsCode), i ≤ y → (Instr.sliceBound (.int k (i : Int)) y c).run P w = .ok i w := fun k i y c hle => by
      have := run_sliceBound (P := P) (x := .int k (i : Int)) (y := y) (c := c) rfl (by omega) (by omega) w
      simpa using this
    have hz : (sizeOf e).run P w = .ok size w := size_run w
    rcases hlo with ⟨rfl, rfl⟩ | ⟨y, k, rfl, hy⟩ <;> rcases hhi with ⟨rfl, rfl⟩ | ⟨z, k', rfl, hz'⟩
    · simp [Instr.sliceAt, Instr.slice, Instr.sliceBounds, run_underlying hu, hz, subA]
    · simp [Instr.sliceAt, Instr.slice, Instr.sliceBounds, run_underlying hu, ht.ev hz', ee k' h c _ h2, hz, subA]
    · simp [Instr.sliceAt, Instr.slice, Instr.sliceBounds, run_underlying hu, ht.ev hy, ee k l h _ h1, hz, subA]
    · simp [Instr.sliceAt, Instr.slice, Instr.sliceBounds, run_underlying hu, ht.ev hy, ht.ev hz', ee k' h c _ h2, ee k l h _ h1, hz, subA]⟩

/-! ### Elements -/
/-- x[i] of a slice that reads as cs, a struct. -/
theorem GV.indexAddr_rd {t e : Nat} {b : Bool} {x y : Operand} {ki : IntKind} {i : Nat} (hop : o.op = .indexAddr t x y) (_i0 : SL P t e) (_i1 : TI P e b size) (hx : Ev T x (.slice A m c)) (hy : Ev T y (.int ki (i : Int))) (h1 : i < m) (hA : A.isSome = true) :
    GV P w0 M n o T L (.pointer (some ((A.getD default).add (i * size)))) :=
  ⟨fun a w ht hs => by
    obtain ⟨ad, rfl⟩ := Option.isSome_iff_exists.1 hA
    have := (GV.indexAddr_slice (P := P) (w0 := w0) (M := M) (n := n) (L := L) (ad := ad) (m := m) (c := c) (s := size) hop _i0 _i1 hx hy (by omega) (by omega)).out a w ht hs
    simpa using this⟩
theorem Rd.isSome (h : Rd w A m size cs) (h0 : 0 < m * size) : A.isSome = true := by
  have hl := h.1
  obtain ⟨ad, e, _⟩ := h.2 0 cs[0] (by simp)
  simp [e]
theorem Rd.elem (h : Rd w A m size cs) {i : Nat} (hi : i < m) {el : List Value} (he : (cs.drop (i * size)).take size = el) : el.length = size ∧ ∀ j u, el[j]? = some u → w.cell? (((A.getD default).add (i * size)).add j) = some u := by
  have hl := h.1
  have hle : i * size + size ≤ m * size := by rw [← Nat.succ_mul]; exact Nat.mul_le_mul_right _ hi
  subst he
  refine ⟨by rw [List.length_take, List.length_drop]; omega, fun j u hj => ?_⟩
  rw [List.getElem?_take] at hj
  split at hj
  · rw [List.getElem?_drop] at hj
    obtain ⟨ad, rfl, hc⟩ := h.2 _ u hj
    rw [add_add]
    exact hc
  · cases hj

/-! ### Literals, append -/
def zinit (z : List Value) (len : Nat) : List Value := (List.range (len * z.length)).map fun i => z.getD (i % z.length) undef
theorem GO.buildSlice {t e len : Nat} {b : Bool} {z C : List Value} {parts : List (Nat × Operand)} {xs : List Operand} {is : List Nat} {vs : List Value} {qs : List (Nat × List Value)} (hop : o.op = .buildSlice t len parts.toArray) (hd : o.dst = some d) (hn : Nat.blt d n = true)
    (_i0 : SL P t e) (_i1 : TI P e b size) (_i2 : TZ P e z) (h1 : parts.map (·.2) = xs) (h2 : parts.map (·.1) = is) (hx : Evs T xs vs) (hq : Parts is vs qs) (hsz : z.length = size) (hbig : Nat.ble (len * size) 16777216 = true) (hpos : Nat.blt 0 (len * size) = true)
    (hC : fillK (fun i => some (i * size, size)) (zinit z len) qs = some C) (k : ∀ g, N ((d, .slice (some ⟨g, 0, none⟩) len len) :: T) (blk g C e :: L)) : GO P w0 M n o T L N :=
  GO.ofNew hd hn fun a w ht hs => by
    refine ⟨_, _, _, ?_, hs.alloc C e, k w.heap.size⟩
    simp only [execOp, hop]
    refine run_v ?_
    have hu := SL.out (P := P) (t := t)
    obtain ⟨zv, hz, hzr⟩ := zero_run (P := P) (t := e)
    have hev := ht.evs hx
    have hps : (parts.map fun p => (p.1, a.eval p.2)) = is.zip vs := by
      subst h1 h2
      have e1 : (parts.map (·.2)).map a.eval = vs := by
        have := congrArg Array.toList hev
        simpa using this
      rw [← e1, List.map_map, List.zip_map']
      rfl
    have hfill := fill_of (pl := fun i => some (i * size, size)) (is.zip vs) qs (zinit z len) C hq.eq ((fillK_eq qs _).symm.trans hC)
    have hb : ¬ len * size > 2 ^ 24 := by have : len * size ≤ 16777216 := by simpa using hbig
                                          omega
    have hp : ¬ len * size = 0 := by have : 0 < len * size := by simpa using hpos
                                     omega
    have hsr : (sizeOf e).run P w = .ok size w := size_run w
    have hzi : (Array.range (len * size)).map (zv.cells[· % zv.cells.size]!) = (zinit z len).toArray := by
      rw [hz]
      apply Array.ext'
      simp only [zinit, Array.toList_map, Array.toList_range, List.size_toArray, hsz]
      refine List.map_congr_left fun i hi => ?_
      have : 0 < size := Nat.pos_of_ne_zero fun e => by subst e; simp at hp
      have hlt : i % size < z.length := by rw [hsz]; exact Nat.mod_lt _ this
      simp [hlt]
    unfold Instr.buildSlice
    rw [Sem.run_bind, run_underlying hu, Result.andThen_ok]
    simp only []
    rw [Sem.run_bind, hsr, Result.andThen_ok, if_neg hb]
    have e5 : ((parts.toArray.map fun (p : Nat × Operand) => (p.1, a.eval p.2)).toList) = is.zip vs := by simp [hps]
    have e5' : (List.map (fun (x : Nat × Operand) => (x.fst, a.eval x.snd)) parts) = is.zip vs := hps
    have hzc : zv.cells = z.toArray := hz
    simp [hp, hzr w, hzi, e5', hfill, newRow, run_newObj']
theorem okCell_one {u : Value} (h : okCell u = true) : u.oneCell' = true := by cases u <;> first | rfl | (simp [okCell] at h; done)
/-- append(v, ys...), v a row of ours, ys a slice that reads as news. -/
theorem GO.append {t e bytes k' c' : Nat} {b : Bool} {z : List Value} {x y : Operand} {A : Option Addr} {m c : Nat} {B : Option Addr} {xs news : List Value} {L' : Value → List Asn} (hop : o.op = .call { callee := .builtin .append, args := #[x, y], argTypes := #[t, t] }) (hd : o.dst = some d) (hn : Nat.blt d n = true)
    (_i0 : SL P t e) (_i1 : TI P e b size) (_i2 : TZ P e z) (_i3 : TB P e bytes) (hx : Ev T x (.slice A m c)) (hy : Ev T y (.slice B k' c')) (hrep : ∀ v', Rep (row (.slice A m c) e size m xs) (row v' e size (m + k') (xs ++ news)) L (L' v'))
    (hrd : ∀ w, St w0 M L w → Rd w B k' size news ∧ B.isSome = true) (hok : news.all okCell = true) (hz : z.length = size) (hsz : 0 < size) (hlen : m + k' ≤ 140737488355328) (hbytes : (m + k') * bytes ≤ 140737488355328)
    (k : ∀ A' c', N ((d, .slice A' (m + k') c') :: T) (L' (.slice A' (m + k') c'))) : GO P w0 M n o T L N :=
  GO.ofNew hd hn fun a w ht hs => by
    obtain ⟨ad, rfl⟩ := Option.isSome_iff_exists.1 (hrd w hs).2
    have hu := SL.out (P := P) (t := t)
    obtain ⟨i, hi, hiz⟩ := Option.map_eq_some_iff.1 (TI.size_ (P := P) (t := e))
    obtain ⟨i', hi', hb⟩ := Option.map_eq_some_iff.1 (TB.out (P := P) (t := e))
    obtain ⟨i'', hi'', hzz⟩ := Option.map_eq_some_iff.1 (TZ.out (P := P) (t := e))
    obtain rfl : i = i' := Option.some.inj (hi.symm.trans hi')
    obtain rfl : i = i'' := Option.some.inj (hi.symm.trans hi'')
    obtain ⟨zv, hzv, hzc⟩ := Option.map_eq_some_iff.1 hzz
    have hown : w.ownsRow 0 e size (.slice A m c) m xs := hs.holds _ (hrep undef).mem
    have hr := (hrd w hs).1
    obtain ⟨v', w', h1, h2, h3, _, h5⟩ := run_append_own_at (P := P) w 0 t o.type e i zv size bytes hu hi hzv hiz hb (by rw [← hz, ← hzc]; simp) hsz (.slice A m c) m xs hown ad k' c' news hr.1
      (fun j u hj => by
        obtain ⟨ad', e', hc⟩ := hr.2 j u hj
        cases e'
        exact hc) (fun u hu => okCell_one (List.all_eq_true.1 hok u hu)) (by simp only [maxLen]; omega) hbytes (Nat.zero_le _)
    obtain ⟨A', c'', rfl⟩ : ∃ A' c'', v' = .slice A' (m + k') c'' := by
      rcases h2.2 with ⟨rfl, h0⟩ | ⟨g, cap, cur, rfl, _⟩
      · exact ⟨none, 0, by rw [h0]⟩
      · exact ⟨_, _, rfl⟩
    refine ⟨_, w', _, ?_, hs.rep (hrep _) h3.os h3.tape h3.output h3.size (fun k hk hA => h3.block k hk fun e => hA e.symm) h2 ?_, k A' c''⟩
    · simp only [execOp, hop, resolve]
      simp [invoke, builtin, ht.ev hx, ht.ev hy, h1]
    · intro k hk
      have hlt := (h2.lt k hk).2
      refine ⟨hlt, ?_⟩
      have hk' : (Value.slice A' (m + k') c'').ownBlock = some k := hk
      rcases h5 with h5 | h5
      · exact .inl (by rw [h5] at hk'; exact hk')
      · rw [h5] at hk'
        exact .inr (by have := Option.some.inj hk'; omega)

/-! ### Calls -/
/-- In the world w: its result is known, elder memory stays. -/
structure ComputesAt (P : Program) (f : Nat) (vs : List Value) (w : World) (v : Value) : Prop where
  mk :: (out : Calls P f vs.toArray w fun e w' => e = .returned v ∧ Below w.heap.size w w')
theorem Computes.at {P : Program} {f : Nat} {vs : List Value} {v : Value} (h : Computes P f vs v) (w : World) : ComputesAt P f vs w v := ⟨h.out w⟩
theorem GO.callAt {f : Nat} {fn : Func} {xs : List Operand} {ats : Array Nat} {vs : List Value} (hop : o.op = .call { callee := .value (.func f), args := xs.toArray, argTypes := ats }) (hd : o.dst = some d) (hn : Nat.blt d n = true) (_i0 : FN P f fn) (hx : Evs T xs vs)
    (hc : ∀ w, St w0 M L w → ComputesAt P f vs w v) (k : N ((d, v) :: T) L) : GO P w0 M n o T L N :=
  GO.call hop hd hn _i0 hx fun w hs => (hc w hs).out.mono fun e w' ⟨he, hb⟩ => ⟨v, L, he, hs.below hb, k⟩
/-- It makes memory of its own, of which B tells. -/
structure MakesAt (P : Program) (f : Nat) (vs : List Value) (w : World) (Φ : Value → Asn → Prop) : Prop where
  mk :: (out : Calls P f vs.toArray w fun e w' => ∃ v B, e = .returned v ∧ Φ v B ∧ Below w.heap.size w w' ∧ B.holds w' ∧ ∀ k, B.dom k → w.heap.size ≤ k ∧ k < w'.heap.size)
theorem GO.callMakes {f : Nat} {fn : Func} {xs : List Operand} {ats : Array Nat} {vs : List Value} {Φ : Value → Asn → Prop} (hop : o.op = .call { callee := .value (.func f), args := xs.toArray, argTypes := ats }) (hd : o.dst = some d) (hn : Nat.blt d n = true) (_i0 : FN P f fn) (hx : Evs T xs vs)
    (hc : ∀ w, St w0 M L w → MakesAt P f vs w Φ) (k : ∀ v B, Φ v B → N ((d, v) :: T) (B :: L)) : GO P w0 M n o T L N :=
  GO.call hop hd hn _i0 hx fun w hs => (hc w hs).out.mono fun e w' ⟨v, B, he, hΦ, hb, hB, hd⟩ => ⟨v, B :: L, he, hs.add hb.os hb.tape hb.output hb.size hb.block hB (fun k hk => ⟨(hd k hk).2, (hd k hk).1⟩), k v B hΦ⟩
/-- What a function that makes memory ends with. -/
theorem St.makes {B : Asn} {L : List Asn} (hs : St w (fun _ => False) L w') (hin : B ∈ L) : Below w.heap.size w w' ∧ B.holds w' ∧ ∀ k, B.dom k → w.heap.size ≤ k ∧ k < w'.heap.size :=
  ⟨hs.toBelow, hs.holds B hin, fun k hk => ⟨((hs.own B hin k hk).2).resolve_right id, (hs.own B hin k hk).1⟩⟩
theorem row_nil (e size : Nat) : ∀ w : World, (row (.slice none 0 0) e size 0 []).holds w := fun w => World.ownsRow_nil w 0 e size
theorem St.rowNil {L : List Asn} (hs : St w0 M L w) (e size : Nat) : St w0 M (row (.slice none 0 0) e size 0 [] :: L) w :=
  hs.add rfl rfl rfl (Nat.le_refl _) (fun _ _ => rfl) (row_nil e size w) fun k hk => by simp [row, Value.ownBlock] at hk
theorem GC.rowNil {c : Code} {Q : Exit → Act → World → Prop} (e size : Nat) (h : GC P w0 M n c Q T (row (.slice none 0 0) e size 0 [] :: L)) : GC P w0 M n c Q T L := fun a w ht hs => h a w ht (hs.rowNil e size)
theorem GL.rowNil {ops : Array Oper} {rest : List Oper} {Q : Exit → Act → World → Prop} (e size : Nat) (h : GL P w0 M n ops Q rest T (row (.slice none 0 0) e size 0 [] :: L)) : GL P w0 M n ops Q rest T L := fun a w ht hs => h a w ht (hs.rowNil e size)
theorem GQ.rowNil {x : Exit} {Q : Exit → Act → World → Prop} (e size : Nat) (h : GQ w0 M n Q x T (row (.slice none 0 0) e size 0 [] :: L)) : GQ w0 M n Q x T L := fun a w ht hs => h a w ht (hs.rowNil e size)
end
end Go.Proofs.YtkbpiodcndjpnaaG
