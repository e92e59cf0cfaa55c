/- Seat 19: the memory of a tally; what is read of it. -/
import Derived.Test.YtaigjhkoaoboiaaG2
import Derived.Test.YtaigjhkoaoboiaaGM
namespace Go.Proofs.YtaigjhkoaoboiaaG
open Go Go.RowKit
set_option maxRecDepth 10000
set_option maxHeartbeats 4000000
set_option linter.unusedVariables false
set_option linter.unusedSimpArgs false

instance : K2T Try.prog 31 := ⟨⟨_, _, Try.underlying31, by decide, by decide, rfl, rfl, by kernel_rfl, by kernel_rfl⟩⟩
instance : K2T Try.prog 33 := ⟨⟨_, _, Try.underlying33, by decide, by decide, rfl, rfl, by kernel_rfl, by kernel_rfl⟩⟩
instance : ZV Try.prog 58 (.pointer none) := ⟨by kernel_rfl⟩
instance : ZV Try.prog 61 (.pointer none) := ⟨by kernel_rfl⟩
class PT (P : Program) (t : Nat) : Prop where out : ∃ e, P.underlying t = some (.pointer e)
instance : PT Try.prog 58 := ⟨⟨_, Try.underlying58⟩⟩
instance : PT Try.prog 61 := ⟨⟨_, Try.underlying61⟩⟩
section
variable {P : Program} {w0 w w' : World} {M : Nat → Prop} {n : Nat} {T : TL} {L L' : List Asn} {o : Oper} {N : TL → List Asn → Prop} {d : Nat} {v : Value}
theorem run_ptrNil {t : Nat} [PT P t] (p : Option Addr) (w : World) : (Op.equal t (.pointer p) (.pointer none)).run P w = .ok p.isNone w := by
  obtain ⟨e, h⟩ := PT.out (P := P) (t := t)
  have h1 : ∀ d, (Op.equalIn (d + 1) t (.pointer p) (.pointer none)).run P w = .ok p.isNone w := fun d => by
    cases p <;> simp [Op.equalIn, run_underlying h]
  exact h1 9999
theorem GV.eqPtr {t yt : Nat} {x y : Operand} {p : Option Addr} (hop : o.op = .binOp .eql t x y yt) (_i0 : PT P t) (hx : Ev T x (.pointer p)) (hy : Ev T y (.pointer none)) : GV P w0 M n o T L (.bool p.isNone) :=
  GV.bin hop hx hy fun w => by simp [eqGuard, binOp, run_ptrNil (P := P) (t := t) p w]
theorem GV.neqPtr {t yt : Nat} {x y : Operand} {p : Option Addr} (hop : o.op = .binOp .neq t x y yt) (_i0 : PT P t) (hx : Ev T x (.pointer p)) (hy : Ev T y (.pointer none)) : GV P w0 M n o T L (.bool (!p.isNone)) :=
  GV.bin hop hx hy fun w => by simp [eqGuard, binOp, run_ptrNil (P := P) (t := t) p w]
def MapSt (w : World) (q : Option Nat) (f : MF) : Prop := (q = none ∧ ∀ k, f k = none) ∨ ∃ r, q = some r ∧ (mapF r f).holds w
theorem GV.lookupU {t kt et : Nat} {z : Value} {x y : Operand} {q : Option Nat} {k : K2} {f : MF} {u : Value} (hop : o.op = .lookup t x y false) (_i0 : MP P t kt et) (_i1 : K2T P kt) (_i2 : EQ P kt [.int .u16, .int .u32]) (_i3 : ZV P et z) (hx : Ev T x (.map q)) (hy : Ev T y (kV k)) (hin : ∀ w, St w0 M L w → MapSt w q f)
    (hv : f k = some u ∨ f k = none ∧ u = z) : GV P w0 M n o T L u :=
  ⟨fun a w ht hs => by
    rcases hin w hs with ⟨rfl, hn⟩ | ⟨r, rfl, _⟩
    · rcases hv with hv | ⟨_, rfl⟩
      · rw [hn k] at hv; cases hv
      · exact (GV.lookup2_nil (P := P) (w0 := w0) (M := M) (n := n) (L := L) (z := u) hop _i0 _i1 _i2 _i3 hx hy).out a w ht hs
    · have hin2 : ∀ w, St w0 M L w → (mapF r f).holds w := fun w hs => by
        rcases hin w hs with ⟨h, _⟩ | ⟨r', h, h2⟩
        · cases h
        · cases h; exact h2
      rcases hv with hv | ⟨hv, rfl⟩
      · exact (GV.lookupF (P := P) (w0 := w0) (M := M) (n := n) (L := L) hop _i0 _i1 _i2 hx hy hin2 hv).out a w ht hs
      · exact (GV.lookupF_none (P := P) (w0 := w0) (M := M) (n := n) (L := L) hop _i0 _i1 _i2 _i3 hx hy hin2 hv).out a w ht hs⟩
theorem mapSt_st {q : Option Nat} {f : MF} (h : MapSt w q f) (hs : St w (fun _ => False) L w') : MapSt w' q f := by
  rcases h with h | ⟨r, h1, l, ⟨es, clock, h2, h3⟩, h4⟩
  · exact .inl h
  · have hlt := (Array.getElem?_eq_some_iff.1 h2).1
    exact .inr ⟨r, h1, l, ⟨es, clock, (hs.frame r hlt id).trans h2, h3⟩, h4⟩
theorem rm_of_mem {A : Asn} : ∀ {L : List Asn}, A ∈ L → ∃ L1, Rm A L L1
  | B :: L, h => by
    rcases List.mem_cons.1 h with rfl | h
    · exact ⟨L, .here⟩
    · obtain ⟨L1, h1⟩ := rm_of_mem h
      exact ⟨B :: L1, .there h1⟩
theorem st_all {La : List Asn} (hin : allA La ∈ L) (hs : St w0 M L w) : St w0 M La w := by
  obtain ⟨L1, h1⟩ := rm_of_mem hin
  have := (hs.pick (Pick.cons h1 Pick.nil)).unpack
  rwa [List.append_nil] at this
end
def flatK (l : List K2) : List Value := l.flatMap fun k => [.int .u16 k.1, .int .u32 k.2]
theorem flatK_snoc (l : List K2) (k : K2) : flatK (l ++ [k]) = flatK l ++ [.int .u16 k.1, .int .u32 k.2] := by simp [flatK]
theorem flatK_ok (l : List K2) : (flatK l).all okCell = true := by
  rw [List.all_eq_true]
  intro x hx
  obtain ⟨e, _, he⟩ := List.mem_flatMap.1 hx
  simp only [List.mem_cons, List.not_mem_nil, or_false] at he
  rcases he with rfl | rfl <;> rfl
theorem flatK_elem (l : List K2) (i : Nat) (h : i < l.length) : ((flatK l).drop (i * 2)).take 2 = [.int .u16 (l[i]).1, .int .u32 (l[i]).2] := by
  induction l generalizing i with
  | nil => simp at h
  | cons a l ih =>
    cases i with
    | zero => simp [flatK]
    | succ i =>
      have e : (i + 1) * 2 = ([Value.int .u16 a.1, .int .u32 a.2]).length + i * 2 := by simp; omega
      simp only [flatK, List.flatMap_cons]
      rw [e, ← List.drop_drop, List.drop_left]
      have := ih i (by simpa using h)
      simp only [flatK] at this
      simpa using this
theorem eqK2 (a b : K2) (r : Bool) (h : (a == b) = r) : eqL [.int .u16, .int .u32] [.int .u16 a.1, .int .u32 a.2] [.int .u16 b.1, .int .u32 b.2] = some r := by
  subst h
  have : (a == b) = (a.1 == b.1 && a.2 == b.2) := by
    rw [Bool.eq_iff_iff]
    simp only [beq_iff_eq, Bool.and_eq_true]
    exact ⟨fun h => by subst h; exact ⟨rfl, rfl⟩, fun ⟨h1, h2⟩ => Prod.ext h1 h2⟩
  simp [eqL, eqV, this]
def BoxIn (w : World) (g : Nat) (cs : List Value) : Prop := ∀ j u, cs[j]? = some u → w.cell? ⟨g, j, none⟩ = some u
theorem boxIn_of {w0 w : World} {M : Nat → Prop} {L : List Asn} {g t : Nat} {C : List Value} (hin : blk g C t ∈ L) (hs : St w0 M L w) : BoxIn w g C := fun j u hj => blk_cell hin hs hj
structure DeedD where
  undone : Int
  touched : List K2
  undoes : Bool
structure LifeD where
  made : K2
  gone : List K2
def dCells (d : DeedD) (A : Option Addr) (c : Nat) : List Value := [.int .i64 d.undone, .slice A d.touched.length c, .bool d.undoes]
def lCells (d : LifeD) (A : Option Addr) (c : Nat) : List Value := [.int .u16 d.made.1, .int .u32 d.made.2, .slice A d.gone.length c]
abbrev dBody (g : Nat) (d : DeedD) (A : Option Addr) (c : Nat) : List Asn := [blk g [.int .i64 d.undone, .slice A d.touched.length c, .bool d.undoes] 60, row (.slice A d.touched.length c) 33 2 d.touched.length (flatK d.touched)]
abbrev lBody (g : Nat) (d : LifeD) (A : Option Addr) (c : Nat) : List Asn := [blk g [.int .u16 d.made.1, .int .u32 d.made.2, .slice A d.gone.length c] 64, row (.slice A d.gone.length c) 31 2 d.gone.length (flatK d.gone)]
def IsDeed (g : Nat) (d : DeedD) (B : Asn) : Prop := ∃ A c, B = allA (dBody g d A c)
def IsLife (g : Nat) (d : LifeD) (B : Asn) : Prop := ∃ A c, B = allA (lBody g d A c)
/-- A map's entry that points to memory of its own. -/
structure KR (α : Type) where
  k : K2
  g : Nat
  d : α
  B : Asn
abbrev MO (α : Type) := K2 → Option α
def updO {α : Type} (m : MO α) (k : K2) (d : α) : MO α := fun k' => if k' = k then some d else m k'
abbrev pV (g : Nat) : Value := .pointer (some ⟨g, 0, none⟩)
def ToldK {α : Type} (Is : Nat → α → Asn → Prop) (rows : List (KR α)) (f : MF) (m : MO α) : Prop := ∀ k, match rows.find? (fun r => r.k == k) with
  | none => f k = none ∧ m k = none
  | some r => f k = some (pV r.g) ∧ m k = some r.d ∧ Is r.g r.d r.B
theorem told_new {α : Type} {Is : Nat → α → Asn → Prop} {rows rest : List (KR α)} {f : MF} {m : MO α} (h : ToldK Is rows f m) (row : KR α) (h0 : Is row.g row.d row.B) (hr : ∀ k, k ≠ row.k → rest.find? (fun r => r.k == k) = rows.find? (fun r => r.k == k)) : ToldK Is (row :: rest) (updM f row.k (pV row.g)) (updO m row.k row.d) := by
  intro k
  have hk := h k
  by_cases e : k = row.k
  · subst e
    simp [updM, updO, h0]
  · have e1 : (row.k == k) = false := beq_eq_false_iff_ne.2 (Ne.symm e)
    simp only [List.find?_cons, e1, updM, updO, if_neg e]
    rw [hr k e]
    exact hk
theorem updM_same {f : MF} {k : K2} {u : Value} (h : f k = some u) : updM f k u = f := by
  funext k'
  unfold updM
  split
  · rename_i e; rw [e, h]
  · rfl
theorem told_set {α : Type} {Is : Nat → α → Asn → Prop} {l1 l2 : List (KR α)} {row : KR α} {f : MF} {m : MO α} (h : ToldK Is (l1 ++ row :: l2) f m) (hf : f row.k = some (pV row.g)) (d : α) (B : Asn) (h0 : Is row.g d B) : ToldK Is (⟨row.k, row.g, d, B⟩ :: (l1 ++ l2)) f (updO m row.k d) := by
  have := told_new h ⟨row.k, row.g, d, B⟩ h0 (rest := l1 ++ l2) fun k hk => by
    have : (row.k == k) = false := beq_eq_false_iff_ne.2 (Ne.symm hk)
    simp [List.find?_append, List.find?_cons, this]
  rw [updM_same hf] at this
  exact this
abbrev tTop (g : Nat) (qd ql : Option Nat) : Asn := blk g [.map qd, .map ql] 27
def IsTally (g : Nat) (dm : MO DeedD) (lm : MO LifeD) (fl : MF) (L : List Asn) : Prop := (L = [tTop g none none] ∧ (∀ k, dm k = none) ∧ (∀ k, lm k = none) ∧ ∀ k, fl k = none) ∨ ∃ rd rl fd deeds lives, L.Perm (tTop g (some rd) (some rl) :: mapF rd fd :: mapF rl fl :: (deeds.map KR.B ++ lives.map KR.B)) ∧ ToldK IsDeed deeds fd dm ∧ ToldK IsLife lives fl lm
def DeedAt (w : World) (f : MF) (k : K2) (m : MO DeedD) : Prop := (f k = none ∧ m k = none) ∨ ∃ gd A c d, f k = some (pV gd) ∧ m k = some d ∧ BoxIn w gd (dCells d A c) ∧ Rd w A d.touched.length 2 (flatK d.touched)
def LifeAt (w : World) (f : MF) (k : K2) (m : MO LifeD) : Prop := (f k = none ∧ m k = none) ∨ ∃ gd A c d, f k = some (pV gd) ∧ m k = some d ∧ BoxIn w gd (lCells d A c) ∧ Rd w A d.gone.length 2 (flatK d.gone)
structure TallyIn (w : World) (g : Nat) (dm : MO DeedD) (lm : MO LifeD) (qd ql : Option Nat) (fd fl : MF) : Prop where
  top : BoxIn w g [.map qd, .map ql]
  md : MapSt w qd fd
  ml : MapSt w ql fl
  deed : ∀ k, DeedAt w fd k dm
  life : ∀ k, LifeAt w fl k lm
structure TallyD (w : World) (g : Nat) (dm : MO DeedD) (qd ql : Option Nat) (fd : MF) (t : K2) : Prop where
  top : BoxIn w g [.map qd, .map ql]
  md : MapSt w qd fd
  deed : DeedAt w fd t dm
theorem TallyIn.atD {w : World} {g : Nat} {dm : MO DeedD} {lm : MO LifeD} {qd ql : Option Nat} {fd fl : MF} (h : TallyIn w g dm lm qd ql fd fl) (t : K2) : TallyD w g dm qd ql fd t := ⟨h.top, h.md, h.deed t⟩
theorem tallyIn_of {g : Nat} {dm : MO DeedD} {lm : MO LifeD} {fl : MF} {La : List Asn} (h : IsTally g dm lm fl La) : ∃ qd ql fd, ∀ (w0 w : World) (M : Nat → Prop), St w0 M La w → TallyIn w g dm lm qd ql fd fl := by
  rcases h with ⟨rfl, h1, h2, h3⟩ | ⟨rd, rl, fd, deeds, lives, hp, ht, hl⟩
  · exact ⟨none, none, fun _ => none, fun w0 w M hs => ⟨boxIn_of List.mem_cons_self hs, .inl ⟨rfl, fun _ => rfl⟩, .inl ⟨rfl, h3⟩, fun k => .inl ⟨rfl, h1 k⟩, fun k => .inl ⟨h3 k, h2 k⟩⟩⟩
  · refine ⟨some rd, some rl, fd, fun w0 w M hs => ?_⟩
    have hs := hs.perm hp
    refine ⟨boxIn_of List.mem_cons_self hs, .inr ⟨rd, rfl, hs.holds _ (List.mem_cons_of_mem _ List.mem_cons_self)⟩, .inr ⟨rl, rfl, hs.holds _ (List.mem_cons_of_mem _ (List.mem_cons_of_mem _ List.mem_cons_self))⟩, fun k => ?_, fun k => ?_⟩
    · have hk := ht k
      cases hf : deeds.find? (fun r => r.k == k) with
      | none => rw [hf] at hk; exact .inl hk
      | some row =>
        rw [hf] at hk
        obtain ⟨h1, h2, A, c, hB⟩ := hk
        have hin : row.B ∈ (tTop g (some rd) (some rl) :: mapF rd fd :: mapF rl fl :: (deeds.map KR.B ++ lives.map KR.B)) := List.mem_cons_of_mem _ (List.mem_cons_of_mem _ (List.mem_cons_of_mem _ (List.mem_append_left _ (List.mem_map.2 ⟨row, List.mem_of_find?_eq_some hf, rfl⟩))))
        rw [hB] at hin
        have hs2 := st_all hin hs
        exact .inr ⟨row.g, A, c, row.d, h1, h2, boxIn_of List.mem_cons_self hs2, row_rd (e := 33) (List.mem_cons_of_mem _ List.mem_cons_self) hs2⟩
    · have hk := hl k
      cases hf : lives.find? (fun r => r.k == k) with
      | none => rw [hf] at hk; exact .inl hk
      | some row =>
        rw [hf] at hk
        obtain ⟨h1, h2, A, c, hB⟩ := hk
        have hin : row.B ∈ (tTop g (some rd) (some rl) :: mapF rd fd :: mapF rl fl :: (deeds.map KR.B ++ lives.map KR.B)) := List.mem_cons_of_mem _ (List.mem_cons_of_mem _ (List.mem_cons_of_mem _ (List.mem_append_right _ (List.mem_map.2 ⟨row, List.mem_of_find?_eq_some hf, rfl⟩))))
        rw [hB] at hin
        have hs2 := st_all hin hs
        exact .inr ⟨row.g, A, c, row.d, h1, h2, boxIn_of List.mem_cons_self hs2, row_rd (e := 31) (List.mem_cons_of_mem _ List.mem_cons_self) hs2⟩
theorem box_cell {w : World} {g j : Nat} {cs : List Value} {u : Value} (h : BoxIn w g cs) (hj : cs[j]? = some u) : ∀ w', St w (fun _ => False) [] w' → w'.cell? ⟨g, 0 + j, none⟩ = some u := fun w' hs => by
  rw [Nat.zero_add]; exact hs.cell (h j u hj)
/-! ### What is read -/
def offD (dm : MO DeedD) (t : K2) : Bool := match dm t with
  | none => false
  | some d => decide (0 < d.undone)
def openD (dm : MO DeedD) (t : K2) : Bool := match dm t with
  | none => false
  | some d => !d.undoes
theorem off10 (g : Nat) (dm : MO DeedD) (qd ql : Option Nat) (fd : MF) (t : K2) (w : World) (h : TallyD w g dm qd ql fd t) : ComputesAt Try.prog 10 [pV g, kV t] w (.bool (offD dm t)) := by
  refine ⟨?_⟩
  have hT := box_cell h.top (j := 0) rfl
  rcases h.deed with ⟨h1, h2⟩ | ⟨gd, A, c, d, h1, h2, h3, h4⟩
  · have hv : fd t = some (.pointer none) ∨ fd t = none ∧ (Value.pointer none) = .pointer none := .inr ⟨h1, rfl⟩
    have hr : (offD dm t) = false := by simp only [offD, h2]; try rfl
    refine calls_of_GC (n := 21) Try.func10 rfl rfl rfl rfl (St.start _) ?_
    (repeat (first | with_reducible refine GL.nil ?_ | ((with_reducible refine GL.step ?_ (fun N hN => ?_)); apply rfl; (first | (apply GO.ofV; (first | (apply GV.move; apply rfl; apply rfl) | (apply GV.assign; apply rfl; apply rfl) | (apply GV.nilCheck; apply rfl; apply rfl) | (apply GV.fieldAddr_at; apply rfl; infer_instance; apply rfl; (first | (simp only [Nat.reduceAdd]; apply rfl) | apply rfl)) | (apply GV.load_blk; apply rfl; infer_instance; apply rfl; (repeat (first | with_reducible apply List.mem_cons_self | with_reducible apply List.mem_cons_of_mem)); apply rfl) | (apply GV.load_blk_agg; apply rfl; infer_instance; apply rfl; (repeat (first | with_reducible apply List.mem_cons_self | with_reducible apply List.mem_cons_of_mem)); apply rfl) | (apply GV.binI; apply rfl; apply rfl; apply rfl; apply rfl) | (apply GV.pick_true; apply rfl; apply rfl; apply rfl) | (apply GV.pick_false; apply rfl; apply rfl; apply rfl)); apply rfl; apply rfl) | (apply GO.box; apply rfl; apply rfl; apply rfl; apply rfl; apply rfl; intro _)); refine hN _ _ ?_; clear hN N) | ((with_reducible apply GL.skip); apply rfl; apply rfl; apply rfl) | (first | with_reducible refine GC.seq ?_ | with_reducible refine GC.region ?_ | with_reducible refine GQ.seq ?_ | with_reducible refine GQ.then_ret ?_ | with_reducible refine GC.ret ?_ | with_reducible refine GC.skip ?_) | (first | ((with_reducible apply GL.guardT); apply rfl; apply rfl; apply rfl; (first | (apply decide_eq_true; omega) | assumption | (apply beq_iff_eq.mpr; omega) | (apply bne_iff_ne.mpr; omega) | apply rfl | (simp <;> omega))) | ((with_reducible apply GL.guardF); apply rfl; apply rfl; apply rfl; (first | (apply decide_eq_false; omega) | assumption | (apply beq_eq_false_iff_ne.mpr; omega) | (apply bne_eq_false_iff_eq.mpr; omega) | apply rfl | (simp <;> omega))))))
    refine GC.draws (L0 := _) (by kernel_rfl) (Pick.refl _) ?_
    (apply GA.take 0; apply rfl; apply rfl; apply rfl; apply rfl; kernel_rfl; kernel_rfl; kernel_rfl; exact fun _ _ _ h => h; (first | exact Pick.refl _ | (repeat (first | exact Pick.nil | (apply Pick.cons; (repeat (first | with_reducible apply Rm.here | with_reducible apply Rm.there)))))); (first  | (apply GV.move; apply rfl; apply rfl)))
    (apply GA.take 1; apply rfl; apply rfl; apply rfl; apply rfl; kernel_rfl; kernel_rfl; kernel_rfl; exact fun _ _ _ h => h; (first | exact Pick.refl _ | (repeat (first | exact Pick.nil | (apply Pick.cons; (repeat (first | with_reducible apply Rm.here | with_reducible apply Rm.there)))))); (first  | (apply GV.nilCheck; apply rfl; apply rfl)))
    (apply GA.take 2; apply rfl; apply rfl; apply rfl; apply rfl; kernel_rfl; kernel_rfl; kernel_rfl; exact fun _ _ _ h => h; (first | exact Pick.refl _ | (repeat (first | exact Pick.nil | (apply Pick.cons; (repeat (first | with_reducible apply Rm.here | with_reducible apply Rm.there)))))); (first  | (apply GV.fieldAddr_at; apply rfl; infer_instance; apply rfl; (first | (simp only [Nat.reduceAdd]; apply rfl) | apply rfl))))
    (apply GA.take 3; apply rfl; apply rfl; apply rfl; apply rfl; kernel_rfl; kernel_rfl; kernel_rfl; exact fun _ _ _ h => h; (first | exact Pick.refl _ | (repeat (first | exact Pick.nil | (apply Pick.cons; (repeat (first | with_reducible apply Rm.here | with_reducible apply Rm.there)))))); (first | ((apply GV.load_at (v := .map qd)); apply rfl; infer_instance; apply rfl; exact fun w' hs => hT w' (hs.pick Pick.nil))  | (apply GV.load_blk; apply rfl; infer_instance; apply rfl; (repeat (first | with_reducible apply List.mem_cons_self | with_reducible apply List.mem_cons_of_mem)); apply rfl)| (apply GV.load_blk_agg; apply rfl; infer_instance; apply rfl; (repeat (first | with_reducible apply List.mem_cons_self | with_reducible apply List.mem_cons_of_mem)); apply rfl)))
    (apply GA.take 4; apply rfl; apply rfl; apply rfl; apply rfl; kernel_rfl; kernel_rfl; kernel_rfl; exact fun _ _ _ h => h; (first | exact Pick.refl _ | (repeat (first | exact Pick.nil | (apply Pick.cons; (repeat (first | with_reducible apply Rm.here | with_reducible apply Rm.there)))))); (first | ((apply GV.load_at (v := .map qd)); apply rfl; infer_instance; apply rfl; exact fun w' hs => hT w' (hs.pick Pick.nil))  | (apply GV.load_blk; apply rfl; infer_instance; apply rfl; (repeat (first | with_reducible apply List.mem_cons_self | with_reducible apply List.mem_cons_of_mem)); apply rfl)| (apply GV.load_blk_agg; apply rfl; infer_instance; apply rfl; (repeat (first | with_reducible apply List.mem_cons_self | with_reducible apply List.mem_cons_of_mem)); apply rfl)))
    ((refine GA.one 5 (by kernel_rfl) rfl rfl (fun N hN => ?_)); (first | (apply GO.ofV; (apply GV.lookupU (f := fd); apply rfl; infer_instance; infer_instance; infer_instance; infer_instance; apply rfl; apply rfl; exact (fun w' hs => mapSt_st h.md hs); exact hv); apply rfl; apply rfl)  ); (refine hN _ _ ?_ ?_); ((first | exact Pick.refl _ | (repeat (first | exact Pick.nil | (apply Pick.cons; (repeat (first | with_reducible apply Rm.here | with_reducible apply Rm.there))))))); clear hN N)
    ((refine GA.one 6 (by kernel_rfl) rfl rfl (fun N hN => ?_)); (first  | (apply GO.ofV; (apply GV.assign; apply rfl; apply rfl); apply rfl; apply rfl) ); (refine hN _ _ ?_ ?_); ((first | exact Pick.refl _ | (repeat (first | exact Pick.nil | (apply Pick.cons; (repeat (first | with_reducible apply Rm.here | with_reducible apply Rm.there))))))); clear hN N)
    refine GA.done (by kernel_rfl) ?_
    (repeat (first | with_reducible refine GL.nil ?_ | ((with_reducible refine GL.step ?_ (fun N hN => ?_)); apply rfl; (first | (apply GO.ofV; (apply GV.neqPtr; apply rfl; infer_instance; apply rfl; apply rfl); apply rfl; apply rfl) | (first | (apply GO.ofV; (first | (apply GV.move; apply rfl; apply rfl) | (apply GV.assign; apply rfl; apply rfl) | (apply GV.nilCheck; apply rfl; apply rfl) | (apply GV.fieldAddr_at; apply rfl; infer_instance; apply rfl; (first | (simp only [Nat.reduceAdd]; apply rfl) | apply rfl)) | (apply GV.load_blk; apply rfl; infer_instance; apply rfl; (repeat (first | with_reducible apply List.mem_cons_self | with_reducible apply List.mem_cons_of_mem)); apply rfl) | (apply GV.load_blk_agg; apply rfl; infer_instance; apply rfl; (repeat (first | with_reducible apply List.mem_cons_self | with_reducible apply List.mem_cons_of_mem)); apply rfl) | (apply GV.binI; apply rfl; apply rfl; apply rfl; apply rfl) | (apply GV.pick_true; apply rfl; apply rfl; apply rfl) | (apply GV.pick_false; apply rfl; apply rfl; apply rfl)); apply rfl; apply rfl) | (apply GO.box; apply rfl; apply rfl; apply rfl; apply rfl; apply rfl; intro _))); refine hN _ _ ?_; clear hN N) | ((with_reducible apply GL.skip); apply rfl; apply rfl; apply rfl) | (first | with_reducible refine GC.seq ?_ | with_reducible refine GC.region ?_ | with_reducible refine GQ.seq ?_ | with_reducible refine GQ.then_ret ?_ | with_reducible refine GC.ret ?_ | with_reducible refine GC.skip ?_) | (first | ((with_reducible apply GL.guardT); apply rfl; apply rfl; apply rfl; (first | (apply decide_eq_true; omega) | assumption | (apply beq_iff_eq.mpr; omega) | (apply bne_iff_ne.mpr; omega) | apply rfl | (simp <;> omega))) | ((with_reducible apply GL.guardF); apply rfl; apply rfl; apply rfl; (first | (apply decide_eq_false; omega) | assumption | (apply beq_eq_false_iff_ne.mpr; omega) | (apply bne_eq_false_iff_eq.mpr; omega) | apply rfl | (simp <;> omega))))))
    (refine' GQ.ret rfl ?_ ?_ ?_; rotate_left 2; (repeat (first | exact ResL.nil | (apply ResL.cons; first | exact Res1.tmp rfl | (refine' Res1.agg rfl ?_ ?_; rotate_left 3; (repeat (first | with_reducible apply List.mem_cons_self | with_reducible apply List.mem_cons_of_mem)); exact rfl) | (refine' Res1.cell rfl ?_ ?_; rotate_left 2; (repeat (first | with_reducible apply List.mem_cons_self | with_reducible apply List.mem_cons_of_mem)); exact rfl)))); apply rfl)
    exact fun w' hs => ⟨by rw [hr] <;> rfl, hs.toBelow⟩
  · have hv : fd t = some (pV gd) ∨ fd t = none ∧ pV gd = .pointer none := .inl h1
    have hr : (offD dm t) = decide (0 < d.undone) := by simp only [offD, h2]; try rfl
    have hD := box_cell h3 (j := 0) rfl
    refine calls_of_GC (n := 21) Try.func10 rfl rfl rfl rfl (St.start _) ?_
    (repeat (first | with_reducible refine GL.nil ?_ | ((with_reducible refine GL.step ?_ (fun N hN => ?_)); apply rfl; (first | (apply GO.ofV; (first | (apply GV.move; apply rfl; apply rfl) | (apply GV.assign; apply rfl; apply rfl) | (apply GV.nilCheck; apply rfl; apply rfl) | (apply GV.fieldAddr_at; apply rfl; infer_instance; apply rfl; (first | (simp only [Nat.reduceAdd]; apply rfl) | apply rfl)) | (apply GV.load_blk; apply rfl; infer_instance; apply rfl; (repeat (first | with_reducible apply List.mem_cons_self | with_reducible apply List.mem_cons_of_mem)); apply rfl) | (apply GV.load_blk_agg; apply rfl; infer_instance; apply rfl; (repeat (first | with_reducible apply List.mem_cons_self | with_reducible apply List.mem_cons_of_mem)); apply rfl) | (apply GV.binI; apply rfl; apply rfl; apply rfl; apply rfl) | (apply GV.pick_true; apply rfl; apply rfl; apply rfl) | (apply GV.pick_false; apply rfl; apply rfl; apply rfl)); apply rfl; apply rfl) | (apply GO.box; apply rfl; apply rfl; apply rfl; apply rfl; apply rfl; intro _)); refine hN _ _ ?_; clear hN N) | ((with_reducible apply GL.skip); apply rfl; apply rfl; apply rfl) | (first | with_reducible refine GC.seq ?_ | with_reducible refine GC.region ?_ | with_reducible refine GQ.seq ?_ | with_reducible refine GQ.then_ret ?_ | with_reducible refine GC.ret ?_ | with_reducible refine GC.skip ?_) | (first | ((with_reducible apply GL.guardT); apply rfl; apply rfl; apply rfl; (first | (apply decide_eq_true; omega) | assumption | (apply beq_iff_eq.mpr; omega) | (apply bne_iff_ne.mpr; omega) | apply rfl | (simp <;> omega))) | ((with_reducible apply GL.guardF); apply rfl; apply rfl; apply rfl; (first | (apply decide_eq_false; omega) | assumption | (apply beq_eq_false_iff_ne.mpr; omega) | (apply bne_eq_false_iff_eq.mpr; omega) | apply rfl | (simp <;> omega))))))
    refine GC.draws (L0 := _) (by kernel_rfl) (Pick.refl _) ?_
    (apply GA.take 0; apply rfl; apply rfl; apply rfl; apply rfl; kernel_rfl; kernel_rfl; kernel_rfl; exact fun _ _ _ h => h; (first | exact Pick.refl _ | (repeat (first | exact Pick.nil | (apply Pick.cons; (repeat (first | with_reducible apply Rm.here | with_reducible apply Rm.there)))))); (first  | (apply GV.move; apply rfl; apply rfl)))
    (apply GA.take 1; apply rfl; apply rfl; apply rfl; apply rfl; kernel_rfl; kernel_rfl; kernel_rfl; exact fun _ _ _ h => h; (first | exact Pick.refl _ | (repeat (first | exact Pick.nil | (apply Pick.cons; (repeat (first | with_reducible apply Rm.here | with_reducible apply Rm.there)))))); (first  | (apply GV.nilCheck; apply rfl; apply rfl)))
    (apply GA.take 2; apply rfl; apply rfl; apply rfl; apply rfl; kernel_rfl; kernel_rfl; kernel_rfl; exact fun _ _ _ h => h; (first | exact Pick.refl _ | (repeat (first | exact Pick.nil | (apply Pick.cons; (repeat (first | with_reducible apply Rm.here | with_reducible apply Rm.there)))))); (first  | (apply GV.fieldAddr_at; apply rfl; infer_instance; apply rfl; (first | (simp only [Nat.reduceAdd]; apply rfl) | apply rfl))))
    (apply GA.take 3; apply rfl; apply rfl; apply rfl; apply rfl; kernel_rfl; kernel_rfl; kernel_rfl; exact fun _ _ _ h => h; (first | exact Pick.refl _ | (repeat (first | exact Pick.nil | (apply Pick.cons; (repeat (first | with_reducible apply Rm.here | with_reducible apply Rm.there)))))); (first | ((apply GV.load_at (v := .map qd)); apply rfl; infer_instance; apply rfl; exact fun w' hs => hT w' (hs.pick Pick.nil))  | (apply GV.load_blk; apply rfl; infer_instance; apply rfl; (repeat (first | with_reducible apply List.mem_cons_self | with_reducible apply List.mem_cons_of_mem)); apply rfl)| (apply GV.load_blk_agg; apply rfl; infer_instance; apply rfl; (repeat (first | with_reducible apply List.mem_cons_self | with_reducible apply List.mem_cons_of_mem)); apply rfl)))
    (apply GA.take 4; apply rfl; apply rfl; apply rfl; apply rfl; kernel_rfl; kernel_rfl; kernel_rfl; exact fun _ _ _ h => h; (first | exact Pick.refl _ | (repeat (first | exact Pick.nil | (apply Pick.cons; (repeat (first | with_reducible apply Rm.here | with_reducible apply Rm.there)))))); (first | ((apply GV.load_at (v := .map qd)); apply rfl; infer_instance; apply rfl; exact fun w' hs => hT w' (hs.pick Pick.nil))  | (apply GV.load_blk; apply rfl; infer_instance; apply rfl; (repeat (first | with_reducible apply List.mem_cons_self | with_reducible apply List.mem_cons_of_mem)); apply rfl)| (apply GV.load_blk_agg; apply rfl; infer_instance; apply rfl; (repeat (first | with_reducible apply List.mem_cons_self | with_reducible apply List.mem_cons_of_mem)); apply rfl)))
    ((refine GA.one 5 (by kernel_rfl) rfl rfl (fun N hN => ?_)); (first | (apply GO.ofV; (apply GV.lookupU (f := fd); apply rfl; infer_instance; infer_instance; infer_instance; infer_instance; apply rfl; apply rfl; exact (fun w' hs => mapSt_st h.md hs); exact hv); apply rfl; apply rfl)  ); (refine hN _ _ ?_ ?_); ((first | exact Pick.refl _ | (repeat (first | exact Pick.nil | (apply Pick.cons; (repeat (first | with_reducible apply Rm.here | with_reducible apply Rm.there))))))); clear hN N)
    ((refine GA.one 6 (by kernel_rfl) rfl rfl (fun N hN => ?_)); (first  | (apply GO.ofV; (apply GV.assign; apply rfl; apply rfl); apply rfl; apply rfl) ); (refine hN _ _ ?_ ?_); ((first | exact Pick.refl _ | (repeat (first | exact Pick.nil | (apply Pick.cons; (repeat (first | with_reducible apply Rm.here | with_reducible apply Rm.there))))))); clear hN N)
    refine GA.done (by kernel_rfl) ?_
    (repeat (first | with_reducible refine GL.nil ?_ | ((with_reducible refine GL.step ?_ (fun N hN => ?_)); apply rfl; (first | (apply GO.ofV; (apply GV.neqPtr; apply rfl; infer_instance; apply rfl; apply rfl); apply rfl; apply rfl) | (apply GO.ofV; ((apply GV.load_at (v := .int .i64 d.undone)); apply rfl; infer_instance; apply rfl; exact fun w' hs => hD w' (hs.pick Pick.nil)); apply rfl; apply rfl) | (first | (apply GO.ofV; (first | (apply GV.move; apply rfl; apply rfl) | (apply GV.assign; apply rfl; apply rfl) | (apply GV.nilCheck; apply rfl; apply rfl) | (apply GV.fieldAddr_at; apply rfl; infer_instance; apply rfl; (first | (simp only [Nat.reduceAdd]; apply rfl) | apply rfl)) | (apply GV.load_blk; apply rfl; infer_instance; apply rfl; (repeat (first | with_reducible apply List.mem_cons_self | with_reducible apply List.mem_cons_of_mem)); apply rfl) | (apply GV.load_blk_agg; apply rfl; infer_instance; apply rfl; (repeat (first | with_reducible apply List.mem_cons_self | with_reducible apply List.mem_cons_of_mem)); apply rfl) | (apply GV.binI; apply rfl; apply rfl; apply rfl; apply rfl) | (apply GV.pick_true; apply rfl; apply rfl; apply rfl) | (apply GV.pick_false; apply rfl; apply rfl; apply rfl)); apply rfl; apply rfl) | (apply GO.box; apply rfl; apply rfl; apply rfl; apply rfl; apply rfl; intro _))); refine hN _ _ ?_; clear hN N) | ((with_reducible apply GL.skip); apply rfl; apply rfl; apply rfl) | (first | with_reducible refine GC.seq ?_ | with_reducible refine GC.region ?_ | with_reducible refine GQ.seq ?_ | with_reducible refine GQ.then_ret ?_ | with_reducible refine GC.ret ?_ | with_reducible refine GC.skip ?_) | (first | ((with_reducible apply GL.guardT); apply rfl; apply rfl; apply rfl; (first | (apply decide_eq_true; omega) | assumption | (apply beq_iff_eq.mpr; omega) | (apply bne_iff_ne.mpr; omega) | apply rfl | (simp <;> omega))) | ((with_reducible apply GL.guardF); apply rfl; apply rfl; apply rfl; (first | (apply decide_eq_false; omega) | assumption | (apply beq_eq_false_iff_ne.mpr; omega) | (apply bne_eq_false_iff_eq.mpr; omega) | apply rfl | (simp <;> omega))))))
    (refine' GQ.ret rfl ?_ ?_ ?_; rotate_left 2; (repeat (first | exact ResL.nil | (apply ResL.cons; first | exact Res1.tmp rfl | (refine' Res1.agg rfl ?_ ?_; rotate_left 3; (repeat (first | with_reducible apply List.mem_cons_self | with_reducible apply List.mem_cons_of_mem)); exact rfl) | (refine' Res1.cell rfl ?_ ?_; rotate_left 2; (repeat (first | with_reducible apply List.mem_cons_self | with_reducible apply List.mem_cons_of_mem)); exact rfl)))); apply rfl)
    exact fun w' hs => ⟨by rw [hr] <;> rfl, hs.toBelow⟩
theorem open15 (g : Nat) (dm : MO DeedD) (qd ql : Option Nat) (fd : MF) (t : K2) (w : World) (h : TallyD w g dm qd ql fd t) : ComputesAt Try.prog 15 [pV g, kV t] w (.bool (openD dm t)) := by
  refine ⟨?_⟩
  have hT := box_cell h.top (j := 0) rfl
  rcases h.deed with ⟨h1, h2⟩ | ⟨gd, A, c, d, h1, h2, h3, h4⟩
  · have hv : fd t = some (.pointer none) ∨ fd t = none ∧ (Value.pointer none) = .pointer none := .inr ⟨h1, rfl⟩
    have hr : (openD dm t) = false := by simp only [openD, h2]; try rfl
    refine calls_of_GC (n := 21) Try.func15 rfl rfl rfl rfl (St.start _) ?_
    (repeat (first | with_reducible refine GL.nil ?_ | ((with_reducible refine GL.step ?_ (fun N hN => ?_)); apply rfl; (first | (apply GO.ofV; (first | (apply GV.move; apply rfl; apply rfl) | (apply GV.assign; apply rfl; apply rfl) | (apply GV.nilCheck; apply rfl; apply rfl) | (apply GV.fieldAddr_at; apply rfl; infer_instance; apply rfl; (first | (simp only [Nat.reduceAdd]; apply rfl) | apply rfl)) | (apply GV.load_blk; apply rfl; infer_instance; apply rfl; (repeat (first | with_reducible apply List.mem_cons_self | with_reducible apply List.mem_cons_of_mem)); apply rfl) | (apply GV.load_blk_agg; apply rfl; infer_instance; apply rfl; (repeat (first | with_reducible apply List.mem_cons_self | with_reducible apply List.mem_cons_of_mem)); apply rfl) | (apply GV.not; apply rfl; apply rfl) | (apply GV.pick_true; apply rfl; apply rfl; apply rfl) | (apply GV.pick_false; apply rfl; apply rfl; apply rfl)); apply rfl; apply rfl) | (apply GO.box; apply rfl; apply rfl; apply rfl; apply rfl; apply rfl; intro _)); refine hN _ _ ?_; clear hN N) | ((with_reducible apply GL.skip); apply rfl; apply rfl; apply rfl) | (first | with_reducible refine GC.seq ?_ | with_reducible refine GC.region ?_ | with_reducible refine GQ.seq ?_ | with_reducible refine GQ.then_ret ?_ | with_reducible refine GC.ret ?_ | with_reducible refine GC.skip ?_) | (first | ((with_reducible apply GL.guardT); apply rfl; apply rfl; apply rfl; (first | (apply decide_eq_true; omega) | assumption | (apply beq_iff_eq.mpr; omega) | (apply bne_iff_ne.mpr; omega) | apply rfl | (simp <;> omega))) | ((with_reducible apply GL.guardF); apply rfl; apply rfl; apply rfl; (first | (apply decide_eq_false; omega) | assumption | (apply beq_eq_false_iff_ne.mpr; omega) | (apply bne_eq_false_iff_eq.mpr; omega) | apply rfl | (simp <;> omega))))))
    refine GC.draws (L0 := _) (by kernel_rfl) (Pick.refl _) ?_
    (apply GA.take 0; apply rfl; apply rfl; apply rfl; apply rfl; kernel_rfl; kernel_rfl; kernel_rfl; exact fun _ _ _ h => h; (first | exact Pick.refl _ | (repeat (first | exact Pick.nil | (apply Pick.cons; (repeat (first | with_reducible apply Rm.here | with_reducible apply Rm.there)))))); (first  | (apply GV.move; apply rfl; apply rfl)))
    (apply GA.take 1; apply rfl; apply rfl; apply rfl; apply rfl; kernel_rfl; kernel_rfl; kernel_rfl; exact fun _ _ _ h => h; (first | exact Pick.refl _ | (repeat (first | exact Pick.nil | (apply Pick.cons; (repeat (first | with_reducible apply Rm.here | with_reducible apply Rm.there)))))); (first  | (apply GV.nilCheck; apply rfl; apply rfl)))
    (apply GA.take 2; apply rfl; apply rfl; apply rfl; apply rfl; kernel_rfl; kernel_rfl; kernel_rfl; exact fun _ _ _ h => h; (first | exact Pick.refl _ | (repeat (first | exact Pick.nil | (apply Pick.cons; (repeat (first | with_reducible apply Rm.here | with_reducible apply Rm.there)))))); (first  | (apply GV.fieldAddr_at; apply rfl; infer_instance; apply rfl; (first | (simp only [Nat.reduceAdd]; apply rfl) | apply rfl))))
    (apply GA.take 3; apply rfl; apply rfl; apply rfl; apply rfl; kernel_rfl; kernel_rfl; kernel_rfl; exact fun _ _ _ h => h; (first | exact Pick.refl _ | (repeat (first | exact Pick.nil | (apply Pick.cons; (repeat (first | with_reducible apply Rm.here | with_reducible apply Rm.there)))))); (first | ((apply GV.load_at (v := .map qd)); apply rfl; infer_instance; apply rfl; exact fun w' hs => hT w' (hs.pick Pick.nil))  | (apply GV.load_blk; apply rfl; infer_instance; apply rfl; (repeat (first | with_reducible apply List.mem_cons_self | with_reducible apply List.mem_cons_of_mem)); apply rfl)| (apply GV.load_blk_agg; apply rfl; infer_instance; apply rfl; (repeat (first | with_reducible apply List.mem_cons_self | with_reducible apply List.mem_cons_of_mem)); apply rfl)))
    (apply GA.take 4; apply rfl; apply rfl; apply rfl; apply rfl; kernel_rfl; kernel_rfl; kernel_rfl; exact fun _ _ _ h => h; (first | exact Pick.refl _ | (repeat (first | exact Pick.nil | (apply Pick.cons; (repeat (first | with_reducible apply Rm.here | with_reducible apply Rm.there)))))); (first | ((apply GV.load_at (v := .map qd)); apply rfl; infer_instance; apply rfl; exact fun w' hs => hT w' (hs.pick Pick.nil))  | (apply GV.load_blk; apply rfl; infer_instance; apply rfl; (repeat (first | with_reducible apply List.mem_cons_self | with_reducible apply List.mem_cons_of_mem)); apply rfl)| (apply GV.load_blk_agg; apply rfl; infer_instance; apply rfl; (repeat (first | with_reducible apply List.mem_cons_self | with_reducible apply List.mem_cons_of_mem)); apply rfl)))
    ((refine GA.one 5 (by kernel_rfl) rfl rfl (fun N hN => ?_)); (first | (apply GO.ofV; (apply GV.lookupU (f := fd); apply rfl; infer_instance; infer_instance; infer_instance; infer_instance; apply rfl; apply rfl; exact (fun w' hs => mapSt_st h.md hs); exact hv); apply rfl; apply rfl)  ); (refine hN _ _ ?_ ?_); ((first | exact Pick.refl _ | (repeat (first | exact Pick.nil | (apply Pick.cons; (repeat (first | with_reducible apply Rm.here | with_reducible apply Rm.there))))))); clear hN N)
    ((refine GA.one 6 (by kernel_rfl) rfl rfl (fun N hN => ?_)); (first  | (apply GO.ofV; (apply GV.assign; apply rfl; apply rfl); apply rfl; apply rfl) ); (refine hN _ _ ?_ ?_); ((first | exact Pick.refl _ | (repeat (first | exact Pick.nil | (apply Pick.cons; (repeat (first | with_reducible apply Rm.here | with_reducible apply Rm.there))))))); clear hN N)
    refine GA.done (by kernel_rfl) ?_
    (repeat (first | with_reducible refine GL.nil ?_ | ((with_reducible refine GL.step ?_ (fun N hN => ?_)); apply rfl; (first | (apply GO.ofV; (apply GV.neqPtr; apply rfl; infer_instance; apply rfl; apply rfl); apply rfl; apply rfl) | (first | (apply GO.ofV; (first | (apply GV.move; apply rfl; apply rfl) | (apply GV.assign; apply rfl; apply rfl) | (apply GV.nilCheck; apply rfl; apply rfl) | (apply GV.fieldAddr_at; apply rfl; infer_instance; apply rfl; (first | (simp only [Nat.reduceAdd]; apply rfl) | apply rfl)) | (apply GV.load_blk; apply rfl; infer_instance; apply rfl; (repeat (first | with_reducible apply List.mem_cons_self | with_reducible apply List.mem_cons_of_mem)); apply rfl) | (apply GV.load_blk_agg; apply rfl; infer_instance; apply rfl; (repeat (first | with_reducible apply List.mem_cons_self | with_reducible apply List.mem_cons_of_mem)); apply rfl) | (apply GV.not; apply rfl; apply rfl) | (apply GV.pick_true; apply rfl; apply rfl; apply rfl) | (apply GV.pick_false; apply rfl; apply rfl; apply rfl)); apply rfl; apply rfl) | (apply GO.box; apply rfl; apply rfl; apply rfl; apply rfl; apply rfl; intro _))); refine hN _ _ ?_; clear hN N) | ((with_reducible apply GL.skip); apply rfl; apply rfl; apply rfl) | (first | with_reducible refine GC.seq ?_ | with_reducible refine GC.region ?_ | with_reducible refine GQ.seq ?_ | with_reducible refine GQ.then_ret ?_ | with_reducible refine GC.ret ?_ | with_reducible refine GC.skip ?_) | (first | ((with_reducible apply GL.guardT); apply rfl; apply rfl; apply rfl; (first | (apply decide_eq_true; omega) | assumption | (apply beq_iff_eq.mpr; omega) | (apply bne_iff_ne.mpr; omega) | apply rfl | (simp <;> omega))) | ((with_reducible apply GL.guardF); apply rfl; apply rfl; apply rfl; (first | (apply decide_eq_false; omega) | assumption | (apply beq_eq_false_iff_ne.mpr; omega) | (apply bne_eq_false_iff_eq.mpr; omega) | apply rfl | (simp <;> omega))))))
    (refine' GQ.ret rfl ?_ ?_ ?_; rotate_left 2; (repeat (first | exact ResL.nil | (apply ResL.cons; first | exact Res1.tmp rfl | (refine' Res1.agg rfl ?_ ?_; rotate_left 3; (repeat (first | with_reducible apply List.mem_cons_self | with_reducible apply List.mem_cons_of_mem)); exact rfl) | (refine' Res1.cell rfl ?_ ?_; rotate_left 2; (repeat (first | with_reducible apply List.mem_cons_self | with_reducible apply List.mem_cons_of_mem)); exact rfl)))); apply rfl)
    exact fun w' hs => ⟨by rw [hr] <;> rfl, hs.toBelow⟩
  · have hv : fd t = some (pV gd) ∨ fd t = none ∧ pV gd = .pointer none := .inl h1
    have hr : (openD dm t) = !d.undoes := by simp only [openD, h2]; try rfl
    have hD := box_cell h3 (j := 2) rfl
    refine calls_of_GC (n := 21) Try.func15 rfl rfl rfl rfl (St.start _) ?_
    (repeat (first | with_reducible refine GL.nil ?_ | ((with_reducible refine GL.step ?_ (fun N hN => ?_)); apply rfl; (first | (apply GO.ofV; (first | (apply GV.move; apply rfl; apply rfl) | (apply GV.assign; apply rfl; apply rfl) | (apply GV.nilCheck; apply rfl; apply rfl) | (apply GV.fieldAddr_at; apply rfl; infer_instance; apply rfl; (first | (simp only [Nat.reduceAdd]; apply rfl) | apply rfl)) | (apply GV.load_blk; apply rfl; infer_instance; apply rfl; (repeat (first | with_reducible apply List.mem_cons_self | with_reducible apply List.mem_cons_of_mem)); apply rfl) | (apply GV.load_blk_agg; apply rfl; infer_instance; apply rfl; (repeat (first | with_reducible apply List.mem_cons_self | with_reducible apply List.mem_cons_of_mem)); apply rfl) | (apply GV.not; apply rfl; apply rfl) | (apply GV.pick_true; apply rfl; apply rfl; apply rfl) | (apply GV.pick_false; apply rfl; apply rfl; apply rfl)); apply rfl; apply rfl) | (apply GO.box; apply rfl; apply rfl; apply rfl; apply rfl; apply rfl; intro _)); refine hN _ _ ?_; clear hN N) | ((with_reducible apply GL.skip); apply rfl; apply rfl; apply rfl) | (first | with_reducible refine GC.seq ?_ | with_reducible refine GC.region ?_ | with_reducible refine GQ.seq ?_ | with_reducible refine GQ.then_ret ?_ | with_reducible refine GC.ret ?_ | with_reducible refine GC.skip ?_) | (first | ((with_reducible apply GL.guardT); apply rfl; apply rfl; apply rfl; (first | (apply decide_eq_true; omega) | assumption | (apply beq_iff_eq.mpr; omega) | (apply bne_iff_ne.mpr; omega) | apply rfl | (simp <;> omega))) | ((with_reducible apply GL.guardF); apply rfl; apply rfl; apply rfl; (first | (apply decide_eq_false; omega) | assumption | (apply beq_eq_false_iff_ne.mpr; omega) | (apply bne_eq_false_iff_eq.mpr; omega) | apply rfl | (simp <;> omega))))))
    refine GC.draws (L0 := _) (by kernel_rfl) (Pick.refl _) ?_
    (apply GA.take 0; apply rfl; apply rfl; apply rfl; apply rfl; kernel_rfl; kernel_rfl; kernel_rfl; exact fun _ _ _ h => h; (first | exact Pick.refl _ | (repeat (first | exact Pick.nil | (apply Pick.cons; (repeat (first | with_reducible apply Rm.here | with_reducible apply Rm.there)))))); (first  | (apply GV.move; apply rfl; apply rfl)))
    (apply GA.take 1; apply rfl; apply rfl; apply rfl; apply rfl; kernel_rfl; kernel_rfl; kernel_rfl; exact fun _ _ _ h => h; (first | exact Pick.refl _ | (repeat (first | exact Pick.nil | (apply Pick.cons; (repeat (first | with_reducible apply Rm.here | with_reducible apply Rm.there)))))); (first  | (apply GV.nilCheck; apply rfl; apply rfl)))
    (apply GA.take 2; apply rfl; apply rfl; apply rfl; apply rfl; kernel_rfl; kernel_rfl; kernel_rfl; exact fun _ _ _ h => h; (first | exact Pick.refl _ | (repeat (first | exact Pick.nil | (apply Pick.cons; (repeat (first | with_reducible apply Rm.here | with_reducible apply Rm.there)))))); (first  | (apply GV.fieldAddr_at; apply rfl; infer_instance; apply rfl; (first | (simp only [Nat.reduceAdd]; apply rfl) | apply rfl))))
    (apply GA.take 3; apply rfl; apply rfl; apply rfl; apply rfl; kernel_rfl; kernel_rfl; kernel_rfl; exact fun _ _ _ h => h; (first | exact Pick.refl _ | (repeat (first | exact Pick.nil | (apply Pick.cons; (repeat (first | with_reducible apply Rm.here | with_reducible apply Rm.there)))))); (first | ((apply GV.load_at (v := .map qd)); apply rfl; infer_instance; apply rfl; exact fun w' hs => hT w' (hs.pick Pick.nil))  | (apply GV.load_blk; apply rfl; infer_instance; apply rfl; (repeat (first | with_reducible apply List.mem_cons_self | with_reducible apply List.mem_cons_of_mem)); apply rfl)| (apply GV.load_blk_agg; apply rfl; infer_instance; apply rfl; (repeat (first | with_reducible apply List.mem_cons_self | with_reducible apply List.mem_cons_of_mem)); apply rfl)))
    (apply GA.take 4; apply rfl; apply rfl; apply rfl; apply rfl; kernel_rfl; kernel_rfl; kernel_rfl; exact fun _ _ _ h => h; (first | exact Pick.refl _ | (repeat (first | exact Pick.nil | (apply Pick.cons; (repeat (first | with_reducible apply Rm.here | with_reducible apply Rm.there)))))); (first | ((apply GV.load_at (v := .map qd)); apply rfl; infer_instance; apply rfl; exact fun w' hs => hT w' (hs.pick Pick.nil))  | (apply GV.load_blk; apply rfl; infer_instance; apply rfl; (repeat (first | with_reducible apply List.mem_cons_self | with_reducible apply List.mem_cons_of_mem)); apply rfl)| (apply GV.load_blk_agg; apply rfl; infer_instance; apply rfl; (repeat (first | with_reducible apply List.mem_cons_self | with_reducible apply List.mem_cons_of_mem)); apply rfl)))
    ((refine GA.one 5 (by kernel_rfl) rfl rfl (fun N hN => ?_)); (first | (apply GO.ofV; (apply GV.lookupU (f := fd); apply rfl; infer_instance; infer_instance; infer_instance; infer_instance; apply rfl; apply rfl; exact (fun w' hs => mapSt_st h.md hs); exact hv); apply rfl; apply rfl)  ); (refine hN _ _ ?_ ?_); ((first | exact Pick.refl _ | (repeat (first | exact Pick.nil | (apply Pick.cons; (repeat (first | with_reducible apply Rm.here | with_reducible apply Rm.there))))))); clear hN N)
    ((refine GA.one 6 (by kernel_rfl) rfl rfl (fun N hN => ?_)); (first  | (apply GO.ofV; (apply GV.assign; apply rfl; apply rfl); apply rfl; apply rfl) ); (refine hN _ _ ?_ ?_); ((first | exact Pick.refl _ | (repeat (first | exact Pick.nil | (apply Pick.cons; (repeat (first | with_reducible apply Rm.here | with_reducible apply Rm.there))))))); clear hN N)
    refine GA.done (by kernel_rfl) ?_
    (repeat (first | with_reducible refine GL.nil ?_ | ((with_reducible refine GL.step ?_ (fun N hN => ?_)); apply rfl; (first | (apply GO.ofV; (apply GV.neqPtr; apply rfl; infer_instance; apply rfl; apply rfl); apply rfl; apply rfl) | (apply GO.ofV; ((apply GV.load_at (v := .bool d.undoes)); apply rfl; infer_instance; apply rfl; exact fun w' hs => hD w' (hs.pick Pick.nil)); apply rfl; apply rfl) | (first | (apply GO.ofV; (first | (apply GV.move; apply rfl; apply rfl) | (apply GV.assign; apply rfl; apply rfl) | (apply GV.nilCheck; apply rfl; apply rfl) | (apply GV.fieldAddr_at; apply rfl; infer_instance; apply rfl; (first | (simp only [Nat.reduceAdd]; apply rfl) | apply rfl)) | (apply GV.load_blk; apply rfl; infer_instance; apply rfl; (repeat (first | with_reducible apply List.mem_cons_self | with_reducible apply List.mem_cons_of_mem)); apply rfl) | (apply GV.load_blk_agg; apply rfl; infer_instance; apply rfl; (repeat (first | with_reducible apply List.mem_cons_self | with_reducible apply List.mem_cons_of_mem)); apply rfl) | (apply GV.not; apply rfl; apply rfl) | (apply GV.pick_true; apply rfl; apply rfl; apply rfl) | (apply GV.pick_false; apply rfl; apply rfl; apply rfl)); apply rfl; apply rfl) | (apply GO.box; apply rfl; apply rfl; apply rfl; apply rfl; apply rfl; intro _))); refine hN _ _ ?_; clear hN N) | ((with_reducible apply GL.skip); apply rfl; apply rfl; apply rfl) | (first | with_reducible refine GC.seq ?_ | with_reducible refine GC.region ?_ | with_reducible refine GQ.seq ?_ | with_reducible refine GQ.then_ret ?_ | with_reducible refine GC.ret ?_ | with_reducible refine GC.skip ?_) | (first | ((with_reducible apply GL.guardT); apply rfl; apply rfl; apply rfl; (first | (apply decide_eq_true; omega) | assumption | (apply beq_iff_eq.mpr; omega) | (apply bne_iff_ne.mpr; omega) | apply rfl | (simp <;> omega))) | ((with_reducible apply GL.guardF); apply rfl; apply rfl; apply rfl; (first | (apply decide_eq_false; omega) | assumption | (apply beq_eq_false_iff_ne.mpr; omega) | (apply bne_eq_false_iff_eq.mpr; omega) | apply rfl | (simp <;> omega))))))
    (refine' GQ.ret rfl ?_ ?_ ?_; rotate_left 2; (repeat (first | exact ResL.nil | (apply ResL.cons; first | exact Res1.tmp rfl | (refine' Res1.agg rfl ?_ ?_; rotate_left 3; (repeat (first | with_reducible apply List.mem_cons_self | with_reducible apply List.mem_cons_of_mem)); exact rfl) | (refine' Res1.cell rfl ?_ ?_; rotate_left 2; (repeat (first | with_reducible apply List.mem_cons_self | with_reducible apply List.mem_cons_of_mem)); exact rfl)))); apply rfl)
    exact fun w' hs => ⟨by rw [hr] <;> rfl, hs.toBelow⟩
theorem knows13 (g : Nat) (dm : MO DeedD) (qd ql : Option Nat) (fd : MF) (t : K2) (w : World) (h : TallyD w g dm qd ql fd t) : ComputesAt Try.prog 13 [pV g, kV t] w (.bool ((dm t).isSome)) := by
  refine ⟨?_⟩
  have hT := box_cell h.top (j := 0) rfl
  rcases h.deed with ⟨h1, h2⟩ | ⟨gd, A, c, d, h1, h2, h3, h4⟩
  · have hv : fd t = some (.pointer none) ∨ fd t = none ∧ (Value.pointer none) = .pointer none := .inr ⟨h1, rfl⟩
    have hr : ((dm t).isSome) = false := by simp only [Option.isSome, h2]; try rfl
    refine calls_of_GC (n := 12) Try.func13 rfl rfl rfl rfl (St.start _) ?_
    (repeat (first | with_reducible refine GL.nil ?_ | ((with_reducible refine GL.step ?_ (fun N hN => ?_)); apply rfl; (first | (apply GO.ofV; (first | (apply GV.assign; apply rfl; apply rfl)); apply rfl; apply rfl) | (apply GO.box; apply rfl; apply rfl; apply rfl; apply rfl; apply rfl; intro _)); refine hN _ _ ?_; clear hN N) | (first | with_reducible refine GC.seq ?_ | with_reducible refine GC.region ?_ | with_reducible refine GQ.seq ?_ | with_reducible refine GQ.then_ret ?_ | with_reducible refine GC.ret ?_ | with_reducible refine GC.skip ?_) ))
    refine GC.draws (L0 := _) (by kernel_rfl) (Pick.refl _) ?_
    (apply GA.take 0; apply rfl; apply rfl; apply rfl; apply rfl; kernel_rfl; kernel_rfl; kernel_rfl; exact fun _ _ _ h => h; (first | exact Pick.refl _ | (repeat (first | exact Pick.nil | (apply Pick.cons; (repeat (first | with_reducible apply Rm.here | with_reducible apply Rm.there)))))); (first  | (apply GV.move; apply rfl; apply rfl)))
    (apply GA.take 1; apply rfl; apply rfl; apply rfl; apply rfl; kernel_rfl; kernel_rfl; kernel_rfl; exact fun _ _ _ h => h; (first | exact Pick.refl _ | (repeat (first | exact Pick.nil | (apply Pick.cons; (repeat (first | with_reducible apply Rm.here | with_reducible apply Rm.there)))))); (first  | (apply GV.nilCheck; apply rfl; apply rfl)))
    (apply GA.take 2; apply rfl; apply rfl; apply rfl; apply rfl; kernel_rfl; kernel_rfl; kernel_rfl; exact fun _ _ _ h => h; (first | exact Pick.refl _ | (repeat (first | exact Pick.nil | (apply Pick.cons; (repeat (first | with_reducible apply Rm.here | with_reducible apply Rm.there)))))); (first  | (apply GV.fieldAddr_at; apply rfl; infer_instance; apply rfl; (first | (simp only [Nat.reduceAdd]; apply rfl) | apply rfl))))
    (apply GA.take 3; apply rfl; apply rfl; apply rfl; apply rfl; kernel_rfl; kernel_rfl; kernel_rfl; exact fun _ _ _ h => h; (first | exact Pick.refl _ | (repeat (first | exact Pick.nil | (apply Pick.cons; (repeat (first | with_reducible apply Rm.here | with_reducible apply Rm.there)))))); (first | ((apply GV.load_at (v := .map qd)); apply rfl; infer_instance; apply rfl; exact fun w' hs => hT w' (hs.pick Pick.nil))  | (apply GV.load_blk; apply rfl; infer_instance; apply rfl; (repeat (first | with_reducible apply List.mem_cons_self | with_reducible apply List.mem_cons_of_mem)); apply rfl)| (apply GV.load_blk_agg; apply rfl; infer_instance; apply rfl; (repeat (first | with_reducible apply List.mem_cons_self | with_reducible apply List.mem_cons_of_mem)); apply rfl)))
    (apply GA.take 4; apply rfl; apply rfl; apply rfl; apply rfl; kernel_rfl; kernel_rfl; kernel_rfl; exact fun _ _ _ h => h; (first | exact Pick.refl _ | (repeat (first | exact Pick.nil | (apply Pick.cons; (repeat (first | with_reducible apply Rm.here | with_reducible apply Rm.there)))))); (first | ((apply GV.load_at (v := .map qd)); apply rfl; infer_instance; apply rfl; exact fun w' hs => hT w' (hs.pick Pick.nil))  | (apply GV.load_blk; apply rfl; infer_instance; apply rfl; (repeat (first | with_reducible apply List.mem_cons_self | with_reducible apply List.mem_cons_of_mem)); apply rfl)| (apply GV.load_blk_agg; apply rfl; infer_instance; apply rfl; (repeat (first | with_reducible apply List.mem_cons_self | with_reducible apply List.mem_cons_of_mem)); apply rfl)))
    ((refine GA.one 5 (by kernel_rfl) rfl rfl (fun N hN => ?_)); (first | (apply GO.ofV; (apply GV.lookupU (f := fd); apply rfl; infer_instance; infer_instance; infer_instance; infer_instance; apply rfl; apply rfl; exact (fun w' hs => mapSt_st h.md hs); exact hv); apply rfl; apply rfl)  ); (refine hN _ _ ?_ ?_); ((first | exact Pick.refl _ | (repeat (first | exact Pick.nil | (apply Pick.cons; (repeat (first | with_reducible apply Rm.here | with_reducible apply Rm.there))))))); clear hN N)
    (apply GA.take 6; apply rfl; apply rfl; apply rfl; apply rfl; kernel_rfl; kernel_rfl; kernel_rfl; exact fun _ _ _ h => h; (first | exact Pick.refl _ | (repeat (first | exact Pick.nil | (apply Pick.cons; (repeat (first | with_reducible apply Rm.here | with_reducible apply Rm.there)))))); (first | (apply GV.neqPtr; apply rfl; infer_instance; apply rfl; apply rfl)  ))
    ((refine GA.one 7 (by kernel_rfl) rfl rfl (fun N hN => ?_)); (first  | (apply GO.ofV; (apply GV.assign; apply rfl; apply rfl); apply rfl; apply rfl) ); (refine hN _ _ ?_ ?_); ((first | exact Pick.refl _ | (repeat (first | exact Pick.nil | (apply Pick.cons; (repeat (first | with_reducible apply Rm.here | with_reducible apply Rm.there))))))); clear hN N)
    refine GA.done (by kernel_rfl) ?_
    (repeat (first | with_reducible refine GL.nil ?_ | ((with_reducible refine GL.step ?_ (fun N hN => ?_)); apply rfl; (first | (apply GO.ofV; (apply GV.neqPtr; apply rfl; infer_instance; apply rfl; apply rfl); apply rfl; apply rfl) | (first | (apply GO.ofV; (first | (apply GV.assign; apply rfl; apply rfl)); apply rfl; apply rfl) | (apply GO.box; apply rfl; apply rfl; apply rfl; apply rfl; apply rfl; intro _))); refine hN _ _ ?_; clear hN N) | fail | (first | with_reducible refine GC.seq ?_ | with_reducible refine GC.region ?_ | with_reducible refine GQ.seq ?_ | with_reducible refine GQ.then_ret ?_ | with_reducible refine GC.ret ?_ | with_reducible refine GC.skip ?_) | fail))
    (refine' GQ.ret rfl ?_ ?_ ?_; rotate_left 2; (repeat (first | exact ResL.nil | (apply ResL.cons; first | exact Res1.tmp rfl | (refine' Res1.agg rfl ?_ ?_; rotate_left 3; (repeat (first | with_reducible apply List.mem_cons_self | with_reducible apply List.mem_cons_of_mem)); exact rfl) | (refine' Res1.cell rfl ?_ ?_; rotate_left 2; (repeat (first | with_reducible apply List.mem_cons_self | with_reducible apply List.mem_cons_of_mem)); exact rfl)))); apply rfl)
    exact fun w' hs => ⟨by rw [hr] <;> rfl, hs.toBelow⟩
  · have hv : fd t = some (pV gd) ∨ fd t = none ∧ pV gd = .pointer none := .inl h1
    have hr : ((dm t).isSome) = true := by simp only [Option.isSome, h2]; try rfl
    have hD := box_cell h3 (j := 0) rfl
    refine calls_of_GC (n := 12) Try.func13 rfl rfl rfl rfl (St.start _) ?_
    (repeat (first | with_reducible refine GL.nil ?_ | ((with_reducible refine GL.step ?_ (fun N hN => ?_)); apply rfl; (first | (apply GO.ofV; (first | (apply GV.assign; apply rfl; apply rfl)); apply rfl; apply rfl) | (apply GO.box; apply rfl; apply rfl; apply rfl; apply rfl; apply rfl; intro _)); refine hN _ _ ?_; clear hN N) | (first | with_reducible refine GC.seq ?_ | with_reducible refine GC.region ?_ | with_reducible refine GQ.seq ?_ | with_reducible refine GQ.then_ret ?_ | with_reducible refine GC.ret ?_ | with_reducible refine GC.skip ?_) ))
    refine GC.draws (L0 := _) (by kernel_rfl) (Pick.refl _) ?_
    (apply GA.take 0; apply rfl; apply rfl; apply rfl; apply rfl; kernel_rfl; kernel_rfl; kernel_rfl; exact fun _ _ _ h => h; (first | exact Pick.refl _ | (repeat (first | exact Pick.nil | (apply Pick.cons; (repeat (first | with_reducible apply Rm.here | with_reducible apply Rm.there)))))); (first  | (apply GV.move; apply rfl; apply rfl)))
    (apply GA.take 1; apply rfl; apply rfl; apply rfl; apply rfl; kernel_rfl; kernel_rfl; kernel_rfl; exact fun _ _ _ h => h; (first | exact Pick.refl _ | (repeat (first | exact Pick.nil | (apply Pick.cons; (repeat (first | with_reducible apply Rm.here | with_reducible apply Rm.there)))))); (first  | (apply GV.nilCheck; apply rfl; apply rfl)))
    (apply GA.take 2; apply rfl; apply rfl; apply rfl; apply rfl; kernel_rfl; kernel_rfl; kernel_rfl; exact fun _ _ _ h => h; (first | exact Pick.refl _ | (repeat (first | exact Pick.nil | (apply Pick.cons; (repeat (first | with_reducible apply Rm.here | with_reducible apply Rm.there)))))); (first  | (apply GV.fieldAddr_at; apply rfl; infer_instance; apply rfl; (first | (simp only [Nat.reduceAdd]; apply rfl) | apply rfl))))
    (apply GA.take 3; apply rfl; apply rfl; apply rfl; apply rfl; kernel_rfl; kernel_rfl; kernel_rfl; exact fun _ _ _ h => h; (first | exact Pick.refl _ | (repeat (first | exact Pick.nil | (apply Pick.cons; (repeat (first | with_reducible apply Rm.here | with_reducible apply Rm.there)))))); (first | ((apply GV.load_at (v := .map qd)); apply rfl; infer_instance; apply rfl; exact fun w' hs => hT w' (hs.pick Pick.nil))  | (apply GV.load_blk; apply rfl; infer_instance; apply rfl; (repeat (first | with_reducible apply List.mem_cons_self | with_reducible apply List.mem_cons_of_mem)); apply rfl)| (apply GV.load_blk_agg; apply rfl; infer_instance; apply rfl; (repeat (first | with_reducible apply List.mem_cons_self | with_reducible apply List.mem_cons_of_mem)); apply rfl)))
    (apply GA.take 4; apply rfl; apply rfl; apply rfl; apply rfl; kernel_rfl; kernel_rfl; kernel_rfl; exact fun _ _ _ h => h; (first | exact Pick.refl _ | (repeat (first | exact Pick.nil | (apply Pick.cons; (repeat (first | with_reducible apply Rm.here | with_reducible apply Rm.there)))))); (first | ((apply GV.load_at (v := .map qd)); apply rfl; infer_instance; apply rfl; exact fun w' hs => hT w' (hs.pick Pick.nil))  | (apply GV.load_blk; apply rfl; infer_instance; apply rfl; (repeat (first | with_reducible apply List.mem_cons_self | with_reducible apply List.mem_cons_of_mem)); apply rfl)| (apply GV.load_blk_agg; apply rfl; infer_instance; apply rfl; (repeat (first | with_reducible apply List.mem_cons_self | with_reducible apply List.mem_cons_of_mem)); apply rfl)))
    ((refine GA.one 5 (by kernel_rfl) rfl rfl (fun N hN => ?_)); (first | (apply GO.ofV; (apply GV.lookupU (f := fd); apply rfl; infer_instance; infer_instance; infer_instance; infer_instance; apply rfl; apply rfl; exact (fun w' hs => mapSt_st h.md hs); exact hv); apply rfl; apply rfl)  ); (refine hN _ _ ?_ ?_); ((first | exact Pick.refl _ | (repeat (first | exact Pick.nil | (apply Pick.cons; (repeat (first | with_reducible apply Rm.here | with_reducible apply Rm.there))))))); clear hN N)
    (apply GA.take 6; apply rfl; apply rfl; apply rfl; apply rfl; kernel_rfl; kernel_rfl; kernel_rfl; exact fun _ _ _ h => h; (first | exact Pick.refl _ | (repeat (first | exact Pick.nil | (apply Pick.cons; (repeat (first | with_reducible apply Rm.here | with_reducible apply Rm.there)))))); (first | (apply GV.neqPtr; apply rfl; infer_instance; apply rfl; apply rfl)  ))
    ((refine GA.one 7 (by kernel_rfl) rfl rfl (fun N hN => ?_)); (first  | (apply GO.ofV; (apply GV.assign; apply rfl; apply rfl); apply rfl; apply rfl) ); (refine hN _ _ ?_ ?_); ((first | exact Pick.refl _ | (repeat (first | exact Pick.nil | (apply Pick.cons; (repeat (first | with_reducible apply Rm.here | with_reducible apply Rm.there))))))); clear hN N)
    refine GA.done (by kernel_rfl) ?_
    (repeat (first | with_reducible refine GL.nil ?_ | ((with_reducible refine GL.step ?_ (fun N hN => ?_)); apply rfl; (first | (apply GO.ofV; (apply GV.neqPtr; apply rfl; infer_instance; apply rfl; apply rfl); apply rfl; apply rfl) | (apply GO.ofV; ((apply GV.load_at (v := .int .i64 d.undone)); apply rfl; infer_instance; apply rfl; exact fun w' hs => hD w' (hs.pick Pick.nil)); apply rfl; apply rfl) | (first | (apply GO.ofV; (first | (apply GV.assign; apply rfl; apply rfl)); apply rfl; apply rfl) | (apply GO.box; apply rfl; apply rfl; apply rfl; apply rfl; apply rfl; intro _))); refine hN _ _ ?_; clear hN N) | fail | (first | with_reducible refine GC.seq ?_ | with_reducible refine GC.region ?_ | with_reducible refine GQ.seq ?_ | with_reducible refine GQ.then_ret ?_ | with_reducible refine GC.ret ?_ | with_reducible refine GC.skip ?_) | fail))
    (refine' GQ.ret rfl ?_ ?_ ?_; rotate_left 2; (repeat (first | exact ResL.nil | (apply ResL.cons; first | exact Res1.tmp rfl | (refine' Res1.agg rfl ?_ ?_; rotate_left 3; (repeat (first | with_reducible apply List.mem_cons_self | with_reducible apply List.mem_cons_of_mem)); exact rfl) | (refine' Res1.cell rfl ?_ ?_; rotate_left 2; (repeat (first | with_reducible apply List.mem_cons_self | with_reducible apply List.mem_cons_of_mem)); exact rfl)))); apply rfl)
    exact fun w' hs => ⟨by rw [hr] <;> rfl, hs.toBelow⟩
end Go.Proofs.YtaigjhkoaoboiaaG
