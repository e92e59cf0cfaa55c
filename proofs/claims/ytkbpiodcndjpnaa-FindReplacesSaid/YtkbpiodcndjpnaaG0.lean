/- The ground of this seat's walks: what is known of temporaries (Tm) and of memory (St), and a judgement for code, regions and single operations, over any program. -/
import Derived.WalkKit
import Derived.OrdersHeld
import Derived.ScopeJumps
import Derived.Deep.LoopGhost
import Derived.Maps.AppendAt
import Derived.Laws.Tables
import Derived.KernelRfl
namespace Go.Proofs.YtkbpiodcndjpnaaG
set_option linter.unusedVariables false
set_option linter.unusedSimpArgs false
open Go Go.RowKit

/-! ### Temporaries -/
abbrev TL := List (Nat × Value)
def look : TL → Nat → Option Value
  | [], _ => none
  | (k, v) :: r, t => match Nat.beq k t with
    | true => some v
    | false => look r t
def evT (T : TL) : Operand → Value
  | .tmp t => (look T t).getD undef
  | .const v => v
  | .global g => .pointer (some ⟨g, 0, none⟩)
  | .func f => .func (.func f) #[] #[]
def okT (T : TL) : Operand → Bool
  | .tmp t => (look T t).isSome
  | _ => true
structure Tm (n : Nat) (T : TL) (a : Act) : Prop where
  defers : a.defers = []
  size : a.tmps.size = n
  val : ∀ t v, look T t = some v → a.tmps[t]? = some v

section
variable {n : Nat} {T : TL} {a : Act}
theorem look_cons (d : Nat) (v : Value) (T : TL) (t : Nat) : look ((d, v) :: T) t = if d = t then some v else look T t := by
  show (match Nat.beq d t with | true => some v | false => look T t) = _
  by_cases h : d = t
  · subst h; simp
  · have : Nat.beq d t = false := by
      cases hb : Nat.beq d t with
      | false => rfl
      | true => exact absurd (Nat.eq_of_beq_eq_true hb) h
    simp [this, h]
theorem Tm.put (h : Tm n T a) {d : Nat} (hd : d < n) (v : Value) : Tm n ((d, v) :: T) (a.put (some d) v) := by
  refine ⟨h.defers, by simp [Act.put, h.size], fun t u hu => ?_⟩
  rw [look_cons] at hu
  simp only [Act.put, Array.getElem?_setIfInBounds]
  by_cases e : d = t
  · subst e
    simp only [if_true, Option.some.injEq] at hu
    simp [h.size, hd, hu]
  · simp only [if_neg e] at hu ⊢
    exact h.val t u hu
theorem Tm.eval (h : Tm n T a) {x : Operand} (hx : okT T x = true) : a.eval x = evT T x := by
  cases x with
  | tmp t =>
    simp only [okT, Option.isSome_iff_exists] at hx
    obtain ⟨v, hv⟩ := hx
    have := h.val t v hv
    simp [Act.eval, evT, hv, Array.getD_eq_getD_getElem?, this]
  | const v => rfl
  | global g => rfl
  | func f => rfl
def noSel : Op → Bool
  | .select .. => false
  | _ => true
theorem noSel_spec {op : Op} (h : noSel op = true) : ∀ cs b, op ≠ .select cs b := by
  intro cs b e; subst e; cases h
theorem Tm.exec (h : Tm n T a) {o : Oper} (hs : noSel o.op = true) (hx : o.op.operands.all (okT T) = true) : execOp a.eval o = execOp (evT T) o :=
  execOp_congr o (noSel_spec hs) fun x hm => h.eval (by
    rw [Array.all_eq_true_iff_forall_mem] at hx
    exact hx x hm)
/-- A list that tells less. -/
def subT (T T' : TL) : Prop := ∀ t v, look T' t = some v → look T t = some v
theorem Tm.sub {T' : TL} (h : Tm n T a) (hs : subT T T') : Tm n T' a := ⟨h.defers, h.size, fun t v hv => h.val t v (hs t v hv)⟩
theorem subT_nil (T : TL) : subT T [] := fun t v h => by cases h
theorem subT_cons {T T' : TL} {d : Nat} {v : Value} (h1 : look T d = some v) (h2 : subT T T') : subT T ((d, v) :: T') := by
  intro t u hu
  rw [look_cons] at hu
  by_cases e : d = t
  · subst e; simp only [if_true] at hu; rw [← hu]; exact h1
  · simp only [if_neg e] at hu; exact h2 t u hu
end

/-! ### Memory -/
structure Asn where
  dom : Nat → Prop
  holds : World → Prop
  loc : ∀ {w w' : World}, (∀ k, dom k → w'.heap[k]? = w.heap[k]?) → holds w → holds w'

/-- A block of cells. -/
def blk (g : Nat) (cs : List Value) (t : TypeId) : Asn where
  dom := fun k => k = g
  holds := fun w => w.heap[g]? = some (.cells cs.toArray t (0, 0))
  loc := fun h hw => (h g rfl).trans hw
/-- A map's block. -/
def mapA (r : Nat) (es : List MapEntry) (clock : Nat) : Asn where
  dom := fun k => k = r
  holds := fun w => w.heap[r]? = some (.map es.toArray clock)
  loc := fun h hw => (h r rfl).trans hw
/-- A slice that owns its row: n elements, size cells each. -/
def row (v : Value) (e : TypeId) (size n : Nat) (xs : List Value) : Asn where
  dom := fun k => v.ownBlock = some k
  holds := fun w => w.ownsRow 0 e size v n xs
  loc := fun {w w'} h hw => by
    obtain ⟨h1, h2⟩ := hw
    refine ⟨h1, ?_⟩
    rcases h2 with h2 | ⟨g, cap, cur, rfl, hb, hh, r⟩
    · exact .inl h2
    · exact .inr ⟨g, cap, cur, rfl, hb, (h g rfl).trans hh, r⟩

/-- From w0 on: what is below w0's heap, but for M, is as it was; the assertions of L hold, apart from one another, in memory that is new or M's. -/
structure St (w0 : World) (M : Nat → Prop) (L : List Asn) (w : World) : Prop where
  os : w.os = w0.os
  tape : w.tape = w0.tape
  output : w.output = w0.output
  size : w0.heap.size ≤ w.heap.size
  frame : ∀ k, k < w0.heap.size → ¬ M k → w.heap[k]? = w0.heap[k]?
  holds : ∀ A ∈ L, A.holds w
  own : ∀ A ∈ L, ∀ k, A.dom k → k < w.heap.size ∧ (w0.heap.size ≤ k ∨ M k)
  disj : L.Pairwise fun A B => ∀ k, A.dom k → ¬ B.dom k

inductive Rep (A B : Asn) : List Asn → List Asn → Prop
  | here {L : List Asn} : Rep A B (A :: L) (B :: L)
  | there {C : Asn} {L L' : List Asn} : Rep A B L L' → Rep A B (C :: L) (C :: L')
inductive Rm (A : Asn) : List Asn → List Asn → Prop
  | here {L : List Asn} : Rm A (A :: L) L
  | there {C : Asn} {L L' : List Asn} : Rm A L L' → Rm A (C :: L) (C :: L')
/-- L' are some of L, in some order. -/
inductive Pick : List Asn → List Asn → Prop
  | nil {L : List Asn} : Pick L []
  | cons {A : Asn} {L L1 L' : List Asn} : Rm A L L1 → Pick L1 L' → Pick L (A :: L')

section
variable {w0 w w' : World} {M : Nat → Prop} {L L' : List Asn} {A B : Asn}
theorem Rep.mem (h : Rep A B L L') : A ∈ L := by
  induction h with
  | here => exact List.mem_cons_self
  | there _ ih => exact List.mem_cons_of_mem _ ih
theorem Rep.mem_new (h : Rep A B L L') : ∀ C ∈ L', C = B ∨ C ∈ L := by
  induction h with
  | here =>
    intro C hC
    rcases List.mem_cons.1 hC with h | h
    · exact .inl h
    · exact .inr (List.mem_cons_of_mem _ h)
  | there _ ih =>
    intro C hC
    rcases List.mem_cons.1 hC with h | h
    · exact .inr (h ▸ List.mem_cons_self)
    · rcases ih C h with h | h
      · exact .inl h
      · exact .inr (List.mem_cons_of_mem _ h)
/-- What is beside A is apart from it. -/
theorem Rep.beside (h : Rep A B L L') (hd : L.Pairwise fun A B => ∀ k, A.dom k → ¬ B.dom k) (P : Asn → Prop) (hP : ∀ C ∈ L, (∀ k, A.dom k → ¬ C.dom k) → P C) (hB : P B) : ∀ C ∈ L', P C := by
  induction h with
  | here =>
    intro C hC
    rcases List.mem_cons.1 hC with rfl | h
    · exact hB
    · exact hP C (List.mem_cons_of_mem _ h) ((List.pairwise_cons.1 hd).1 C h)
  | @there D L L' h ih =>
    intro C hC
    obtain ⟨hd1, hd2⟩ := List.pairwise_cons.1 hd
    rcases List.mem_cons.1 hC with rfl | h'
    · exact hP C List.mem_cons_self (fun k hk hc => hd1 A h.mem k hc hk)
    · exact ih hd2 (fun C hC hap => hP C (List.mem_cons_of_mem _ hC) hap) C h'
theorem Rep.disj (h : Rep A B L L') (hd : L.Pairwise fun A B => ∀ k, A.dom k → ¬ B.dom k) (hB : ∀ C ∈ L, (∀ k, A.dom k → ¬ C.dom k) → ∀ k, B.dom k → ¬ C.dom k) :
    L'.Pairwise fun A B => ∀ k, A.dom k → ¬ B.dom k := by
  induction h with
  | here =>
    obtain ⟨h1, h2⟩ := List.pairwise_cons.1 hd
    exact List.pairwise_cons.2 ⟨fun C hC => hB C (List.mem_cons_of_mem _ hC) (h1 C hC), h2⟩
  | @there D L L' h ih =>
    obtain ⟨h1, h2⟩ := List.pairwise_cons.1 hd
    refine List.pairwise_cons.2 ⟨?_, ih h2 fun C hC => hB C (List.mem_cons_of_mem _ hC)⟩
    refine h.beside h2 (fun C => ∀ k, D.dom k → ¬ C.dom k) (fun C hC _ => h1 C hC) ?_
    exact fun k hk hb => hB D List.mem_cons_self (fun k hk hc => h1 A h.mem k hc hk) k hb hk
/-- What A says is turned, beside new memory; nothing else is. -/
theorem St.rep (h : St w0 M L w) (hr : Rep A B L L') (hos : w'.os = w.os) (htape : w'.tape = w.tape) (hout : w'.output = w.output) (hsz : w.heap.size ≤ w'.heap.size)
    (hfr : ∀ k, k < w.heap.size → ¬ A.dom k → w'.heap[k]? = w.heap[k]?) (hB : B.holds w') (hd : ∀ k, B.dom k → k < w'.heap.size ∧ (A.dom k ∨ w.heap.size ≤ k)) : St w0 M L' w' := by
  refine ⟨hos.trans h.os, htape.trans h.tape, hout.trans h.output, Nat.le_trans h.size hsz, fun k hk hM => ?_, ?_, ?_, ?_⟩
  · refine (hfr k (Nat.lt_of_lt_of_le hk h.size) fun hA => ?_).trans (h.frame k hk hM)
    rcases (h.own A hr.mem k hA).2 with h1 | h1
    · omega
    · exact hM h1
  · refine hr.beside h.disj _ (fun C hC hap => ?_) hB
    refine C.loc (fun k hk => hfr k (h.own C hC k hk).1 fun hA => hap k hA hk) (h.holds C hC)
  · refine hr.beside h.disj (fun C => ∀ k, C.dom k → k < w'.heap.size ∧ (w0.heap.size ≤ k ∨ M k)) (fun C hC _ k hk => ⟨Nat.lt_of_lt_of_le (h.own C hC k hk).1 hsz, (h.own C hC k hk).2⟩) ?_
    intro k hk
    refine ⟨(hd k hk).1, ?_⟩
    rcases (hd k hk).2 with hA | hn
    · exact (h.own A hr.mem k hA).2
    · exact .inl (Nat.le_trans h.size hn)
  · refine hr.disj h.disj fun C hC hap k hB hCk => ?_
    rcases (hd k hB).2 with hA | hn
    · exact hap k hA hCk
    · have := (h.own C hC k hCk).1
      omega
theorem St.add (h : St w0 M L w) (hos : w'.os = w.os) (htape : w'.tape = w.tape) (hout : w'.output = w.output) (hsz : w.heap.size ≤ w'.heap.size)
    (hfr : ∀ k, k < w.heap.size → w'.heap[k]? = w.heap[k]?) (hB : B.holds w') (hd : ∀ k, B.dom k → k < w'.heap.size ∧ w.heap.size ≤ k) : St w0 M (B :: L) w' := by
  refine ⟨hos.trans h.os, htape.trans h.tape, hout.trans h.output, Nat.le_trans h.size hsz, fun k hk hM => (hfr k (Nat.lt_of_lt_of_le hk h.size)).trans (h.frame k hk hM), ?_, ?_, ?_⟩
  · intro C hC
    rcases List.mem_cons.1 hC with rfl | hC
    · exact hB
    · exact C.loc (fun k hk => hfr k (h.own C hC k hk).1) (h.holds C hC)
  · intro C hC k hk
    rcases List.mem_cons.1 hC with rfl | hC
    · exact ⟨(hd k hk).1, .inl (Nat.le_trans h.size (hd k hk).2)⟩
    · exact ⟨Nat.lt_of_lt_of_le (h.own C hC k hk).1 hsz, (h.own C hC k hk).2⟩
  · refine List.pairwise_cons.2 ⟨fun C hC k hB hk => ?_, h.disj⟩
    have := (h.own C hC k hk).1
    have := (hd k hB).2
    omega
theorem St.below (h : St w0 M L w) (hb : Below w.heap.size w w') : St w0 M L w' := by
  refine ⟨hb.os.trans h.os, hb.tape.trans h.tape, hb.output.trans h.output, Nat.le_trans h.size hb.size, fun k hk hM => (hb.block k (Nat.lt_of_lt_of_le hk h.size)).trans (h.frame k hk hM), ?_, ?_, h.disj⟩
  · exact fun C hC => C.loc (fun k hk => hb.block k (h.own C hC k hk).1) (h.holds C hC)
  · exact fun C hC k hk => ⟨Nat.lt_of_lt_of_le (h.own C hC k hk).1 hb.size, (h.own C hC k hk).2⟩
theorem Rm.mem {L1 : List Asn} (h : Rm A L L1) : A ∈ L ∧ ∀ C ∈ L1, C ∈ L := by
  induction h with
  | here => exact ⟨List.mem_cons_self, fun C hC => List.mem_cons_of_mem _ hC⟩
  | there _ ih =>
    refine ⟨List.mem_cons_of_mem _ ih.1, fun C hC => ?_⟩
    rcases List.mem_cons.1 hC with rfl | hC
    · exact List.mem_cons_self
    · exact List.mem_cons_of_mem _ (ih.2 C hC)
theorem Rm.disj {L1 : List Asn} (h : Rm A L L1) (hd : L.Pairwise fun A B => ∀ k, A.dom k → ¬ B.dom k) : (∀ C ∈ L1, ∀ k, A.dom k → ¬ C.dom k) ∧ L1.Pairwise fun A B => ∀ k, A.dom k → ¬ B.dom k := by
  induction h with
  | here => exact List.pairwise_cons.1 hd
  | @there D L L' h ih =>
    obtain ⟨h1, h2⟩ := List.pairwise_cons.1 hd
    obtain ⟨i1, i2⟩ := ih h2
    refine ⟨fun C hC => ?_, List.pairwise_cons.2 ⟨fun C hC => h1 C (h.mem.2 C hC), i2⟩⟩
    rcases List.mem_cons.1 hC with rfl | hC
    · exact fun k hk hc => h1 A h.mem.1 k hc hk
    · exact i1 C hC
theorem Pick.mem (h : Pick L L') : ∀ C ∈ L', C ∈ L := by
  induction h with
  | nil => intro C hC; cases hC
  | cons hr _ ih =>
    intro C hC
    rcases List.mem_cons.1 hC with rfl | hC
    · exact hr.mem.1
    · exact hr.mem.2 C (ih C hC)
theorem Pick.disj (h : Pick L L') (hd : L.Pairwise fun A B => ∀ k, A.dom k → ¬ B.dom k) : L'.Pairwise fun A B => ∀ k, A.dom k → ¬ B.dom k := by
  induction h with
  | nil => exact List.Pairwise.nil
  | cons hr hp ih => exact List.pairwise_cons.2 ⟨fun C hC => (hr.disj hd).1 C (hp.mem C hC), ih (hr.disj hd).2⟩
theorem Pick.refl : ∀ L : List Asn, Pick L L
  | [] => .nil
  | A :: L => .cons .here (Pick.refl L)
theorem St.pick (h : St w0 M L w) (hp : Pick L L') : St w0 M L' w :=
  ⟨h.os, h.tape, h.output, h.size, h.frame, fun C hC => h.holds C (hp.mem C hC), fun C hC => h.own C (hp.mem C hC), hp.disj h.disj⟩
theorem St.start (w : World) : St w (fun _ => False) [] w :=
  ⟨rfl, rfl, rfl, Nat.le_refl _, fun _ _ _ => rfl, fun _ h => (List.not_mem_nil h).elim, fun _ h => (List.not_mem_nil h).elim, List.Pairwise.nil⟩
theorem St.toBelow {L : List Asn} (h : St w0 (fun _ => False) L w) : Below w0.heap.size w0 w :=
  ⟨h.os, h.tape, h.output, h.size, fun k hk => h.frame k hk id⟩
/-- An assertion about memory that was there, and M's. -/
theorem St.drew (h : St w0 M L w) : St w0 M L w.drew := ⟨h.os, h.tape, h.output, h.size, h.frame, fun A hA => A.loc (w := w) (w' := w.drew) (fun _ _ => rfl) (h.holds A hA), h.own, h.disj⟩
/-- A cell of elder memory. -/
theorem St.cell (h : St w0 (fun _ => False) L w) {p : Addr} {v : Value} (hc : w0.cell? p = some v) : w.cell? p = some v :=
  (World.cell?_of_block (h.frame p.block (World.block_lt_of_cell? w0 p hc) id)).trans hc
theorem St.cellM (h : St w0 M L w) {p : Addr} {v : Value} (hM : ¬ M p.block) (hc : w0.cell? p = some v) : w.cell? p = some v :=
  (World.cell?_of_block (h.frame p.block (World.block_lt_of_cell? w0 p hc) hM)).trans hc
end

/-! ### The judgements -/
section
variable (P : Program) (w0 : World) (M : Nat → Prop) (n : Nat)
/-- Of an exit: whoever knows T and L has Q. -/
def GQ (Q : Exit → Act → World → Prop) (e : Exit) (T : TL) (L : List Asn) : Prop := ∀ a w, Tm n T a → St w0 M L w → Q e a w
/-- Of code. -/
def GC (c : Code) (Q : Exit → Act → World → Prop) (T : TL) (L : List Asn) : Prop := ∀ a w, Tm n T a → St w0 M L w → c.wp P Q a w
/-- Of operations in the text's order. -/
def GL (ops : Array Oper) (Q : Exit → Act → World → Prop) (rest : List Oper) (T : TL) (L : List Asn) : Prop := ∀ a w, Tm n T a → St w0 M L w → wpList P ops Q rest a w
/-- Of operations in whatever order; S holds behind each that is carried out. -/
structure GA (ops : Array Oper) (Q : Exit → Act → World → Prop) (S : World → Prop) (fuel : Nat) (listed : Array Bool) (T : TL) (L : List Asn) : Prop where
  mk :: (out : ∀ a w, Tm n T a → St w0 M L w → wpAnyH P .any ops Q S fuel listed a w)
/-- Of one operation: what is known behind it. -/
structure GO (o : Oper) (T : TL) (L : List Asn) (N : TL → List Asn → Prop) : Prop where
  mk :: (out : ∀ (Q : Exit → Act → World → Prop) (a : Act) (w : World) (K : Act → World → Prop), Tm n T a → St w0 M L w → (∀ T' L' a' w', N T' L' → Tm n T' a' → St w0 M L' w' → K a' w') → o.wp P a w K Q)
end

def wantT (ops : Array Oper) (T : TL) (o : Oper) : Option Bool :=
  match o.guard with
  | none => some true
  | some (j, want) => match (ops[j]?).bind (·.dst) with
    | none => some false
    | some d => match look T d with
      | some (.bool b) => some (b == want)
      | some (.tuple _) => some false
      | _ => none
theorem wantT_spec {n : Nat} {T : TL} {a : Act} (h : Tm n T a) {ops : Array Oper} {o : Oper} {r : Bool} (hw : wantT ops T o = some r) : Region.wanted o (yielded ops a.tmps) = r := by
  unfold wantT at hw
  unfold Region.wanted yielded
  cases hg : o.guard with
  | none => simp only [hg] at hw ⊢; exact Option.some.inj hw
  | some jw =>
    obtain ⟨j, want⟩ := jw
    simp only [hg] at hw ⊢
    cases hd : (ops[j]?).bind (·.dst) with
    | none => simp only [hd] at hw ⊢; simp at hw ⊢; exact hw
    | some d =>
      simp only [hd] at hw ⊢
      cases hl : look T d with
      | none => simp [hl] at hw
      | some v =>
        have := h.val d v hl
        simp only [Option.bind_some, this]
        cases v <;> simp_all

section
variable {P : Program} {w0 : World} {M : Nat → Prop} {n : Nat} {ops : Array Oper} {Q : Exit → Act → World → Prop} {T T' : TL} {L L' : List Asn} {o : Oper} {rest : List Oper} {N : TL → List Asn → Prop}

/-! #### Lists of operations -/
theorem GL.step (hw : wantT ops T o = some true) (h : ∀ N : TL → List Asn → Prop, (∀ T L, GL P w0 M n ops Q rest T L → N T L) → GO P w0 M n o T L N) : GL P w0 M n ops Q (o :: rest) T L := by
  intro a w ht hs
  unfold wpList
  rw [if_pos (wantT_spec ht hw)]
  exact .inl ((h _ (fun _ _ h => h)).out Q a w _ ht hs fun T' L' a' w' hN ht' hs' => hN a' w' ht' hs')
theorem GL.skip {d : Nat} (hw : wantT ops T o = some false) (hd : o.dst = some d) (hn : Nat.blt d n = true) (h : GL P w0 M n ops Q rest ((d, undef) :: T) L) : GL P w0 M n ops Q (o :: rest) T L := by
  intro a w ht hs
  unfold wpList
  rw [if_neg (by rw [wantT_spec ht hw]; simp), hd]
  exact h _ _ (ht.put (by simpa using hn) undef) hs
theorem GL.nil (h : GQ w0 M n Q .normal T L) : GL P w0 M n ops Q [] T L := fun a w ht hs => h a w ht hs
theorem GL.sub (hT : subT T T') (hL : Pick L L') (h : GL P w0 M n ops Q rest T' L') : GL P w0 M n ops Q rest T L := fun a w ht hs => h a w (ht.sub hT) (hs.pick hL)
theorem GL.set {d : Nat} {v v' : Value} (hl : look T d = some v) (e : v = v') (h : GL P w0 M n ops Q rest ((d, v') :: T) L) : GL P w0 M n ops Q rest T L :=
  fun a w ht hs => h a w (ht.sub (subT_cons (e ▸ hl) fun _ _ h => h)) hs
theorem GL.fork {d : Nat} {b : Bool} (hl : look T d = some (.bool b)) (h1 : b = true → GL P w0 M n ops Q rest ((d, .bool true) :: T) L) (h2 : b = false → GL P w0 M n ops Q rest ((d, .bool false) :: T) L) : GL P w0 M n ops Q rest T L := by
  cases b with
  | true => exact GL.set hl rfl (h1 rfl)
  | false => exact GL.set hl rfl (h2 rfl)

/-- A guard's Bool that is known. -/
theorem GL.guardT {g : Nat × Bool} {d : Nat} {b : Bool} (hg : o.guard = some g) (hd : (ops[g.1]?).bind (·.dst) = some d) (hl : look T d = some (.bool b)) (hb : b = true) (h : GL P w0 M n ops Q (o :: rest) ((d, .bool true) :: T) L) : GL P w0 M n ops Q (o :: rest) T L :=
  GL.set hl (by rw [hb]) h
theorem GL.guardF {g : Nat × Bool} {d : Nat} {b : Bool} (hg : o.guard = some g) (hd : (ops[g.1]?).bind (·.dst) = some d) (hl : look T d = some (.bool b)) (hb : b = false) (h : GL P w0 M n ops Q (o :: rest) ((d, .bool false) :: T) L) : GL P w0 M n ops Q (o :: rest) T L :=
  GL.set hl (by rw [hb]) h
theorem GL.id (h : GL P w0 M n ops Q (o :: rest) T L) : GL P w0 M n ops Q (o :: rest) T L := h
theorem GC.id {c : Operand} {x y : Code} (h : GC P w0 M n (.cond c x y) Q T L) : GC P w0 M n (.cond c x y) Q T L := h
theorem GL.forkG {g : Nat × Bool} {d : Nat} {b : Bool} (hg : o.guard = some g) (hd : (ops[g.1]?).bind (·.dst) = some d) (hl : look T d = some (.bool b)) (h1 : b = true → GL P w0 M n ops Q (o :: rest) ((d, .bool true) :: T) L) (h2 : b = false → GL P w0 M n ops Q (o :: rest) ((d, .bool false) :: T) L) : GL P w0 M n ops Q (o :: rest) T L :=
  GL.fork hl h1 h2
/-! #### Code -/
theorem GC.condT {d : Nat} {b : Bool} {x y : Code} (hl : look T d = some (.bool b)) (hb : b = true) (h : GC P w0 M n x Q T L) : GC P w0 M n (.cond (.tmp d) x y) Q T L := by
  subst hb
  refine fun a w ht hs => wp_cond_true ?_ (h a w ht hs)
  have := ht.val d _ hl
  simp [Act.eval, Array.getD_eq_getD_getElem?, this]
theorem GC.condF {d : Nat} {b : Bool} {x y : Code} (hl : look T d = some (.bool b)) (hb : b = false) (h : GC P w0 M n y Q T L) : GC P w0 M n (.cond (.tmp d) x y) Q T L := by
  subst hb
  refine fun a w ht hs => wp_cond_false ?_ (h a w ht hs)
  have := ht.val d _ hl
  simp [Act.eval, Array.getD_eq_getD_getElem?, this]
theorem GC.region {id : Nat} {l : List Oper} (h : GL P w0 M n l.toArray Q l T L) : GC P w0 M n (.region id l.toArray false) Q T L := fun a w ht hs => wp_region_lit (h a w ht hs)
theorem GC.draw {id : Nat} (S : World → Prop) (hm : P.follows .mixedOrders = true) (hS : ∀ w, St w0 M L w → S w) (h : GA P w0 M n ops Q S ops.size (Array.replicate ops.size false) T L) : GC P w0 M n (.region id ops true) Q T L :=
  fun a w ht hs => wp_region_held_drew' hm (hS _ hs.drew) (h.out a w.drew ht hs.drew)
where
  wp_region_held_drew' {P : Program} {ops : Array Oper} {Q : Exit → Act → World → Prop} {S : World → Prop} {id : Nat} {a : Act} {w : World} (hm : P.follows .mixedOrders = true) (_ : S w.drew)
      (h : wpAnyH P .any ops Q S ops.size (Array.replicate ops.size false) a w.drew) : (Code.region id ops true).wp P Q a w := wp_region_held hm h
theorem GC.seq {x y : Code} (h : GC P w0 M n x (Exit.then (fun a w => y.wp P Q a w) Q) T L) : GC P w0 M n (.seq x y) Q T L := fun a w ht hs => wp_seq (h a w ht hs)
theorem GC.skip (h : GQ w0 M n Q .normal T L) : GC P w0 M n .skip Q T L := fun a w ht hs => wp_skip (h a w ht hs)
theorem GC.label {l : Nat} (h : GQ w0 M n Q .normal T L) : GC P w0 M n (.label l) Q T L := fun a w ht hs => wp_label (h a w ht hs)
theorem GC.ret (h : GQ w0 M n Q .ret T L) : GC P w0 M n .ret Q T L := fun a w ht hs => wp_ret (h a w ht hs)
theorem GC.exit {id : Nat} (h : GQ w0 M n Q (.exit id) T L) : GC P w0 M n (.exit id) Q T L := fun a w ht hs => wp_exit (h a w ht hs)
theorem GC.goto {l : Nat} (h : GQ w0 M n Q (.goto l) T L) : GC P w0 M n (.goto l) Q T L := fun a w ht hs => wp_goto (h a w ht hs)
theorem GC.block {id : Nat} {c : Code} (h : GC P w0 M n c (Exit.inBlock id Q) T L) : GC P w0 M n (.block id c) Q T L := fun a w ht hs => wp_block (h a w ht hs)
theorem GC.cond_true {c : Operand} {x y : Code} (hok : okT T c = true) (hc : evT T c = .bool true) (h : GC P w0 M n x Q T L) : GC P w0 M n (.cond c x y) Q T L :=
  fun a w ht hs => wp_cond_true ((ht.eval hok).trans hc) (h a w ht hs)
theorem GC.cond_false {c : Operand} {x y : Code} (hok : okT T c = true) (hc : evT T c = .bool false) (h : GC P w0 M n y Q T L) : GC P w0 M n (.cond c x y) Q T L :=
  fun a w ht hs => wp_cond_false ((ht.eval hok).trans hc) (h a w ht hs)
theorem GC.cond {d : Nat} {b : Bool} {x y : Code} (hl : look T d = some (.bool b)) (h1 : b = true → GC P w0 M n x Q ((d, .bool true) :: T) L) (h2 : b = false → GC P w0 M n y Q ((d, .bool false) :: T) L) : GC P w0 M n (.cond (.tmp d) x y) Q T L := by
  intro a w ht hs
  have hv : a.eval (.tmp d) = .bool b := by
    have := ht.val d _ hl
    simp [Act.eval, Array.getD_eq_getD_getElem?, this]
  cases b with
  | true => exact wp_cond_true hv (h1 rfl a w (ht.sub (subT_cons hl fun _ _ h => h)) hs)
  | false => exact wp_cond_false hv (h2 rfl a w (ht.sub (subT_cons hl fun _ _ h => h)) hs)
theorem GC.sub {c : Code} (hT : subT T T') (hL : Pick L L') (h : GC P w0 M n c Q T' L') : GC P w0 M n c Q T L := fun a w ht hs => h a w (ht.sub hT) (hs.pick hL)
theorem GC.set {c : Code} {d : Nat} {v v' : Value} (hl : look T d = some v) (e : v = v') (h : GC P w0 M n c Q ((d, v') :: T) L) : GC P w0 M n c Q T L :=
  fun a w ht hs => h a w (ht.sub (subT_cons (e ▸ hl) fun _ _ h => h)) hs
theorem GC.mono {c : Code} {Q' : Exit → Act → World → Prop} (h : GC P w0 M n c Q T L) (hq : ∀ e a w, Q e a w → Q' e a w) : GC P w0 M n c Q' T L := fun a w ht hs => Code.wp_mono hq (h a w ht hs)

/-! #### Exits -/
theorem GQ.seq {y : Code} (h : GC P w0 M n y Q T L) : GQ w0 M n (Exit.then (fun a w => y.wp P Q a w) Q) .normal T L := h
theorem GQ.then_normal {K : Act → World → Prop} (h : ∀ a w, Tm n T a → St w0 M L w → K a w) : GQ w0 M n (Exit.then K Q) .normal T L := h
theorem GQ.then_ret {K : Act → World → Prop} (h : GQ w0 M n Q .ret T L) : GQ w0 M n (Exit.then K Q) .ret T L := h
theorem GQ.then_exit {K : Act → World → Prop} {id : Nat} (h : GQ w0 M n Q (.exit id) T L) : GQ w0 M n (Exit.then K Q) (.exit id) T L := h
theorem GQ.then_goto {K : Act → World → Prop} {id : Nat} (h : GQ w0 M n Q (.goto id) T L) : GQ w0 M n (Exit.then K Q) (.goto id) T L := h
theorem GQ.block_normal {id : Nat} (h : GQ w0 M n Q .normal T L) : GQ w0 M n (Exit.inBlock id Q) .normal T L := h
theorem GQ.block_ret {id : Nat} (h : GQ w0 M n Q .ret T L) : GQ w0 M n (Exit.inBlock id Q) .ret T L := h
theorem GQ.block_goto {id l : Nat} (h : GQ w0 M n Q (.goto l) T L) : GQ w0 M n (Exit.inBlock id Q) (.goto l) T L := h
theorem GQ.block_exit {id : Nat} (h : GQ w0 M n Q .normal T L) : GQ w0 M n (Exit.inBlock id Q) (.exit id) T L := fun a w ht hs => by simp only [Exit.inBlock, if_true]; exact h a w ht hs
theorem GQ.block_pass {id id' : Nat} (hne : Nat.beq id' id = false) (h : GQ w0 M n Q (.exit id') T L) : GQ w0 M n (Exit.inBlock id Q) (.exit id') T L := fun a w ht hs => by
  have : id' ≠ id := fun e => by subst e; simp at hne
  simp only [Exit.inBlock, if_neg this]; exact h a w ht hs

/-! #### A loop: its head's states, told by a family; 'K i': the way to the next head from i -/
def Handon (w0 : World) (M : Nat → Prop) (n : Nat) {ι : Type} (Tf : ι → TL) (Lf : ι → List Asn) (m : ι → Nat) (i : ι) (a : Act) (w : World) : Prop := ∃ j, m j < m i ∧ Tm n (Tf j) a ∧ St w0 M (Lf j) w
theorem GC.loop {ι : Type} (Tf : ι → TL) (Lf : ι → List Asn) (m : ι → Nat) {body : Code} (i : ι) (h : ∀ i, GC P w0 M n body (Exit.then (Handon w0 M n Tf Lf m i) Q) (Tf i) (Lf i)) : GC P w0 M n (.loop body) Q (Tf i) (Lf i) := by
  intro a w ht hs
  refine wp_loop_ghost (fun k a w => ∃ j, m j = k ∧ Tm n (Tf j) a ∧ St w0 M (Lf j) w) (m i) ⟨i, rfl, ht, hs⟩ ?_
  rintro k a w ⟨j, rfl, ht, hs⟩
  refine Code.wp_mono ?_ (h j a w ht hs)
  intro e a w hq
  cases e with
  | normal =>
    obtain ⟨j', hlt, ht', hs'⟩ := hq
    exact ⟨m j', hlt, j', rfl, ht', hs'⟩
  | exit id => exact hq
  | goto l => exact hq
  | ret => exact hq
  | panic ch => exact hq
  | outgrown => exact hq
theorem GQ.next {ι : Type} {Tf : ι → TL} {Lf : ι → List Asn} {m : ι → Nat} {i : ι} (j : ι) (hm : m j < m i) (hT : subT T (Tf j)) (hL : Pick L (Lf j)) : GQ w0 M n (Exit.then (Handon w0 M n Tf Lf m i) Q) .normal T L :=
  fun _ _ ht hs => ⟨j, hm, ht.sub hT, hs.pick hL⟩
/-- A scope in which the run jumps back to one label: 'first' from the scope's begin, 'pass' from the label on. -/
theorem GC.scope {ι : Type} (Tf : ι → TL) (Lf : ι → List Asn) (m : ι → Nat) {c rest : Code} (l : Nat) (hf : findLabel c l = some rest) (first : GC P w0 M n c (Exit.jump l (fun a w => ∃ j, Tm n (Tf j) a ∧ St w0 M (Lf j) w) Q) T L)
    (pass : ∀ i, GC P w0 M n rest (Exit.jump l (Handon w0 M n Tf Lf m i) Q) (Tf i) (Lf i)) : GC P w0 M n (.scope c) Q T L := by
  intro a w ht hs
  let J : Nat → Act → World → Prop := fun k a w => ∃ j, m j = k ∧ Tm n (Tf j) a ∧ St w0 M (Lf j) w
  refine wp_scope_jumps l (fun a w => ∃ k, J k a w) (fun a w => leastOf (fun k => J k a w)) hf ?_ ?_
  · refine Code.wp_mono ?_ (first a w ht hs)
    intro e a w hq
    cases e with
    | goto l' => obtain ⟨h1, j, h2, h3⟩ := hq; exact ⟨h1, m j, j, rfl, h2, h3⟩
    | normal => exact hq
    | exit id => exact hq
    | ret => exact hq
    | panic ch => exact hq
    | outgrown => exact hq
  · intro a w hJ
    obtain ⟨j, hj, ht, hs⟩ := (leastOf_spec hJ).1
    refine Code.wp_mono ?_ (pass j a w ht hs)
    intro e a' w' hq
    cases e with
    | goto l' =>
      obtain ⟨h1, j', hlt, h2, h3⟩ := hq
      have hI : J (m j') a' w' := ⟨j', rfl, h2, h3⟩
      exact ⟨h1, ⟨m j', hI⟩, Nat.lt_of_le_of_lt ((leastOf_spec ⟨m j', hI⟩).2 _ hI) (hj ▸ hlt)⟩
    | normal => exact hq
    | exit id => exact hq
    | ret => exact hq
    | panic ch => exact hq
    | outgrown => exact hq
theorem GC.scope_straight {c : Code} (h : GC P w0 M n c (Exit.noGoto Q) T L) : GC P w0 M n (.scope c) Q T L := fun a w ht hs => wp_scope_straight (h a w ht hs)
theorem GQ.jump_normal {l : Nat} {J : Act → World → Prop} (h : GQ w0 M n Q .normal T L) : GQ w0 M n (Exit.jump l J Q) .normal T L := h
theorem GQ.jump_ret {l : Nat} {J : Act → World → Prop} (h : GQ w0 M n Q .ret T L) : GQ w0 M n (Exit.jump l J Q) .ret T L := h
theorem GQ.jump_exit {l id : Nat} {J : Act → World → Prop} (h : GQ w0 M n Q (.exit id) T L) : GQ w0 M n (Exit.jump l J Q) (.exit id) T L := h
theorem GQ.jump_first {ι : Type} {Tf : ι → TL} {Lf : ι → List Asn} {l : Nat} (j : ι) (hT : subT T (Tf j)) (hL : Pick L (Lf j)) : GQ w0 M n (Exit.jump l (fun a w => ∃ j, Tm n (Tf j) a ∧ St w0 M (Lf j) w) Q) (.goto l) T L :=
  fun _ _ ht hs => ⟨rfl, j, ht.sub hT, hs.pick hL⟩
theorem GQ.jump_next {ι : Type} {Tf : ι → TL} {Lf : ι → List Asn} {m : ι → Nat} {i : ι} {l : Nat} (j : ι) (hm : m j < m i) (hT : subT T (Tf j)) (hL : Pick L (Lf j)) : GQ w0 M n (Exit.jump l (Handon w0 M n Tf Lf m i) Q) (.goto l) T L :=
  fun _ _ ht hs => ⟨rfl, j, hm, ht.sub hT, hs.pick hL⟩

/-! #### The begin and the end of a body -/
/-- The arguments, in slots 0, 1, .. -/
def argK : Nat → List Value → (TL → Option TL) → Option TL
  | _, [], K => K []
  | i, v :: vs, K => argK (i + 1) vs fun T => K ((i, v) :: T)
theorem argK_eq : ∀ (vs : List Value) (i : Nat) (K : TL → Option TL) (R : TL), argK i vs K = some R → ∃ T, K T = some R ∧ ∀ t v, look T t = some v → i ≤ t ∧ vs[t - i]? = some v
  | [], i, K, R, h => ⟨[], h, fun t v h => by cases h⟩
  | v :: vs, i, K, R, h => by
    obtain ⟨T, h1, h2⟩ := argK_eq vs (i + 1) _ R h
    refine ⟨_, h1, fun t u hu => ?_⟩
    rw [look_cons] at hu
    by_cases e : i = t
    · subst e; simp only [if_true, Option.some.injEq] at hu; simp [hu]
    · simp only [if_neg e] at hu
      obtain ⟨h3, h4⟩ := h2 t u hu
      refine ⟨by omega, ?_⟩
      rw [show t - i = (t - (i + 1)) + 1 by omega]
      simpa using h4
theorem argK_spec {vs : List Value} {T : TL} (h : argK 0 vs some = some T) (t : Nat) (v : Value) (hl : look T t = some v) : vs[t]? = some v := by
  obtain ⟨T', h1, h2⟩ := argK_eq vs 0 some T h
  simp only [Option.some.injEq] at h1
  subst h1
  exact (h2 t v hl).2
theorem calls_of_GC {f : FuncId} {fn : Func} {c : Code} {args : List Value} {R : Ending → World → Prop} {w : World} (hf : P.funcs[f]? = some fn) (hb : fn.body = some c) (hn : fn.ntmps = n) (hle : Nat.ble args.length n = true)
    {T : TL} (hT : argK 0 args some = some T) (hs : St w0 M L w) (h : GC P w0 M n c (bodyPost P fn R) T L) : Calls P f args.toArray w R := by
  have hle' : args.length ≤ n := by simpa using hle
  refine calls_of_wp hf hb (h _ w ⟨rfl, by simp [hn]; omega, fun t v hv => ?_⟩ hs)
  have := argK_spec hT t v hv
  have hlt : t < args.length := (List.getElem?_eq_some_iff.1 this).1
  have h2 := (List.getElem?_eq_some_iff.1 this).2
  simp [Array.getElem?_append, hlt, h2]
theorem GQ.endRet {fn : Func} {R : Ending → World → Prop} {v : Value} (hr : ∀ (tm : Array Value) (w : World), (∀ t u, look T t = some u → tm[t]? = some u) → St w0 M L w → (results fn tm).run P w = .ok v w)
    (hR : ∀ w, St w0 M L w → R (.returned v) w) : GQ w0 M n (bodyPost P fn R) .ret T L := fun a w ht hs => ⟨ht.defers, v, hr a.tmps w ht.val hs, hR w hs⟩
theorem GQ.endNormal {fn : Func} {R : Ending → World → Prop} {v : Value} (hr : ∀ (tm : Array Value) (w : World), (∀ t u, look T t = some u → tm[t]? = some u) → St w0 M L w → (results fn tm).run P w = .ok v w)
    (hR : ∀ w, St w0 M L w → R (.returned v) w) : GQ w0 M n (bodyPost P fn R) .normal T L := fun a w ht hs => ⟨ht.defers, v, hr a.tmps w ht.val hs, hR w hs⟩
end
end Go.Proofs.YtkbpiodcndjpnaaG
