/- From 'it returns true and leaves elder memory alone' to a row's end. Over any program. -/
import Derived.Test.YtkbpiodcndjpnaaG5
import Derived.ChangeSame
import Derived.WideKeyArgs
import Derived.RowKit3
import Derived.OpenShut
import Derived.Deep.Fields
import Derived.Deep.Slices
namespace Go.Proofs.YtkbpiodcndjpnaaG
set_option linter.unusedVariables false
set_option linter.unusedSimpArgs false
open Go Go.ChangeShapes Go.WideShapes Go.WideElems Go.RowKit Go.Deep
section
variable {H : Type} {enc : TypeId × Value → H} {P : Program}
theorem keptBut_of_below {W W' : World} (h : Below W.heap.size W W') (may : MemPlace → Prop) : W.keptBut W' may := by
  refine ⟨h.os, h.output, fun i hi => ?_⟩
  rw [h.block i hi]
  cases he : W.heap[i]? with
  | none => rfl
  | some o =>
    cases o with
    | cells c t fr => exact ⟨rfl, rfl, rfl, fun _ _ => rfl⟩
    | map es clock => exact Or.inr ⟨rfl, rfl⟩
    | _ => rfl
theorem sameAt_of_below {W W' : World} (h : Below W.heap.size W W') {p : MemPlace} (hp : p.block < W.heap.size) : W.sameAt W' p := by
  cases p with
  | cell b off => exact h.cell hp
  | map b => exact h.block b hp
theorem trodAll_stays (hl : laidOutB P = true) {W W' : World} {sp' : Nat → Bool} : ∀ {ts : List TypeId} {vs : List Value} {ds : List (DataW H)} {ps : List MemPlace}, (∀ t ∈ ts, P.readableRec t = true ∧ t < P.types.size) →
    DataW.TrodAll enc P W 0 (fun _ => true) true ts vs ds ps → (∀ p ∈ ps, W.sameAt W' p) → (∀ p ∈ ps, sp' p.block = true) → DataW.TrodAll enc P W' 0 sp' true ts vs ds ps := by
  intro ts
  induction ts with
  | nil =>
    intro vs ds ps _ h _ _
    cases vs <;> cases ds <;> first | exact h | exact h.elim
  | cons t ts ih =>
    intro vs ds ps ht h hsame hs
    obtain ⟨v, vs', d, ds', p, q, rfl, rfl, rfl, h1, h2⟩ := trodAll_cons h
    have h3 := ht t List.mem_cons_self
    exact trodAll_cons_mk (Trod_stays hl h3.1 h3.2 h1 (fun p hp => hsame p (List.mem_append_left _ hp)) (fun p hp => hs p (List.mem_append_left _ hp)))
      (ih (fun t ht' => ht t (List.mem_cons_of_mem _ ht')) h2 (fun p hp => hsame p (List.mem_append_right _ hp)) (fun p hp => hs p (List.mem_append_right _ hp)))
/-- It returned true, and elder memory stays: the row's end. -/
theorem post_of_below {f : Func} {s : ChangeSpec} {apart fresh handsOn again : Bool} {W W' : World} {args : Array Value} {ds : List (DataW H)} {before : List MemPlace} {tb : TypeId} (hl : laidOutB P = true) (hr0 : f.params.toList.all (fun t => P.readableRec t && decide (t < P.types.size)) = true)
    (htb : P.underlying tb = some .bool) (hres : f.resultTypes = #[tb]) (hvars : s.vars = []) (hfn : s.fn H ds = { results := [.lit (.bool true)], args := ds })
    (hW : DataW.Whole enc P f.params.toList s.vars apart W args.toList ds [] before) (hb : Below W.heap.size W W') : s.post enc P f apart fresh handsOn again W args (.bool true) W' := by
  have hr : ∀ t ∈ f.params.toList, P.readableRec t = true ∧ t < P.types.size := fun t ht => by
    have := List.all_eq_true.1 hr0 t ht
    simpa using this
  have hlt : ∀ p ∈ before, p.block < W.heap.size := fun p hp => hW.lt p hp
  have hold : ∀ p ∈ before, (fun b => decide (b < W.heap.size)) p.block = true := fun p hp => by simpa using hlt p hp
  have hsame : ∀ p ∈ before, W.sameAt W' p := fun p hp => sameAt_of_below hb (hlt p hp)
  have hW' := hW
  obtain ⟨p, q, hA, hV, rfl, hz, hn⟩ := hW
  rw [hvars] at hV
  obtain ⟨_, rfl⟩ := trodVars_none hV
  have hf0 : s.fn H (ds ++ []) = { results := [.lit (.bool true)], args := ds } := by rw [List.append_nil]; exact hfn
  have hA' : ∀ sp : Nat → Bool, (∀ x ∈ p ++ [], sp x.block = true) → DataW.TrodAll enc P W' 0 sp true f.params.toList args.toList (s.fn H (ds ++ [])).args p := fun sp hs => by
    rw [hf0]
    exact trodAll_stays hl hr hA (fun x hx => hsame x (by simpa using hx)) (fun x hx => hs x (by simpa using hx))
  have hR : ∀ (b : Nat) (sp : Nat → Bool) (hd : Bool), DataW.TrodAll enc P W' b sp hd f.resultTypes.toList ((Value.bool true).resultList f.resultTypes.size) (s.fn H (ds ++ [])).results [] := fun b sp hd => by
    rw [hf0, hres]
    exact trodAll_cons_mk (shut_bool htb true) trodAll_mk0
  have hV' : ∀ sp : Nat → Bool, DataW.TrodVars enc P W' sp s.vars (s.fn H (ds ++ [])).vars [] := fun sp => by
    rw [hf0, hvars]
    rfl
  refine ⟨ds, [], p ++ [], [], p, [], hW', hR _ _ _, hA' _ hold, hV' _, keptBut_of_below hb _, fun _ => ?_⟩
  refine ⟨fun j t r h1 h2 => ?_, _, _, ([] ++ p) ++ [], ⟨[] ++ p, [], trodAll_append (hA' _ (fun _ _ => rfl)) (hR _ _ _), hV' _, rfl, ?_, ?_⟩, ?_⟩
  · rw [hres] at h1 h2
    cases j with
    | zero =>
      have e1 : tb = t := by simpa using h1
      have e2 : Value.bool true = r := by simpa [Value.resultList] using h2
      subst e1 e2
      exact okWide_bool_mk htb _
    | succ j => simp at h1
  · intro b off hp
    have hb' := hlt (.cell b off) (by simpa using hp)
    have := hz b off (by simpa using hp)
    unfold World.frozen? at this ⊢
    rw [hb.block b hb']
    exact this
  · intro ha
    simpa using hn ha
  · intro x hx _
    simpa using hx

/-- A struct of one-cell fields, by value, opened: its cells, each with its own reading. -/
theorem open_aggN {w : World} {base : Nat} {spare : Nat → Bool} {held : Bool} {r : Reach} {b0 : Nat} {t : TypeId} {fs : Array Field} {v : Value} {d : DataW H} {p : List MemPlace} (hs : P.underlying t = some (.struct fs)) (hone : oneCellFields P fs = true) (hC : P.cellsOf t = fs.size)
    (hv : Value.okWide P w r b0 t v) (h : DataW.Trod enc P w base spare held t v d p) :
    ∃ (l : List Value) (y : Nat → DataW H × List MemPlace) (n : Nat), v = .agg ⟨l⟩ ∧ l.length = fs.size ∧
      ∀ (i : Nat) (f : Field) (u : Value), fs[i]? = some f → l[i]? = some u → DataW.trod enc P w base spare held n f.type [u] = some (y i) := by
  obtain ⟨cs, rfl, hsz⟩ := okWide_struct hs hv
  obtain ⟨l⟩ := cs
  obtain ⟨fuel, hf⟩ := h
  obtain ⟨xs, n, _, hx, _, hlen, hg⟩ := DataW.trod_struct hs hf
  refine ⟨l, fun i => (xs[i]?).getD (.nil, []), n, rfl, hsz.trans hC, fun i f u hi hu => ?_⟩
  obtain ⟨o, k⟩ := hone_of hone i f hi
  have hil : i < fs.size := (Array.getElem?_eq_some_iff.1 hi).1
  have hxi : xs[i]? = some (xs[i]'(by omega)) := List.getElem?_eq_getElem (by omega)
  have h1 := hg i f hi
  rw [o, k] at h1
  have e : ((Value.agg ⟨l⟩).cells.toList.drop i).take 1 = [u] := by
    obtain ⟨hi2, hu2⟩ := List.getElem?_eq_some_iff.1 hu
    show (l.drop i).take 1 = [u]
    rw [List.drop_eq_getElem_cons hi2, hu2]
    rfl
  rw [e] at h1
  rw [h1]
  show xs[i]? = some ((xs[i]?).getD (.nil, []))
  rw [hxi]
  rfl
/-- A field's reading, out of a struct's. -/
theorem field_of {w : World} {base : Nat} {spare : Nat → Bool} {held : Bool} {t : TypeId} {fs : Array Field} {fuel : Nat} {cs cs' : List Value} {x : DataW H × List MemPlace} (hs : P.underlying t = some (.struct fs)) (h : DataW.trod enc P w base spare held fuel t cs = some x)
    {i : Nat} {f : Field} (k : Nat) (hi : fs[i]? = some f) (hk : P.cellsOf f.type = k) (hcs : (cs.drop f.offset).take k = cs') : ∃ y n, DataW.trod enc P w base spare held n f.type cs' = some y := by
  obtain ⟨xs, n, _, _, _, hlen, hg⟩ := DataW.trod_struct hs h
  have hil : i < fs.size := (Array.getElem?_eq_some_iff.1 hi).1
  have h1 := hg i f hi
  rw [hk, hcs, List.getElem?_eq_getElem (by omega)] at h1
  exact ⟨_, _, h1⟩
theorem list7 {l : List Value} (h : l.length = 7) : ∃ c0 c1 c2 c3 c4 c5 c6, l = [c0, c1, c2, c3, c4, c5, c6] := by
  match l, h with
  | [c0, c1, c2, c3, c4, c5, c6], _ => exact ⟨c0, c1, c2, c3, c4, c5, c6, rfl⟩
theorem list5 {l : List Value} (h : l.length = 5) : ∃ c0 c1 c2 c3 c4, l = [c0, c1, c2, c3, c4] := by
  match l, h with
  | [c0, c1, c2, c3, c4], _ => exact ⟨c0, c1, c2, c3, c4, rfl⟩
theorem int_in {k : IntKind} {a : Int} (h : (Lit.int k a).wf = true) : k.min ≤ a ∧ a ≤ k.max := by simpa [Lit.wf] using h
/-! ### A slice of structs, out of an argument -/
theorem list_of {α : Type} {R : Nat → α → Prop} : ∀ n, (∀ i, i < n → ∃ o, R i o) → ∃ l : List α, l.length = n ∧ ∀ i (hi : i < l.length), R i l[i]
  | 0, _ => ⟨[], rfl, fun i hi => by simp at hi⟩
  | n + 1, h => by
    obtain ⟨l, hl, hr⟩ := list_of n fun i hi => h i (by omega)
    obtain ⟨o, ho⟩ := h n (by omega)
    refine ⟨l ++ [o], by simp [hl], fun i hi => ?_⟩
    by_cases e : i < l.length
    · rw [List.getElem_append_left e]; exact hr i e
    · have : i = l.length := by simp at hi; omega
      subst this
      simp only [List.getElem_append_right (Nat.le_refl _), Nat.sub_self, List.getElem_cons_zero]
      rw [hl]; exact ho
theorem flat_length {α : Type} {cells : α → List Value} {size : Nat} (hc : ∀ o, (cells o).length = size) (l : List α) : (l.flatMap cells).length = l.length * size := by
  induction l with
  | nil => simp
  | cons a l ih => simp only [List.flatMap_cons, List.length_append, ih, hc, List.length_cons, Nat.add_mul]; omega
theorem flat_get {α : Type} {cells : α → List Value} {size : Nat} (hc : ∀ o, (cells o).length = size) : ∀ (l : List α) (i r : Nat) (hi : i < l.length), r < size → (l.flatMap cells)[i * size + r]? = (cells l[i])[r]?
  | [], i, r, hi, _ => by simp at hi
  | a :: l, 0, r, _, hr => by
    simp only [List.flatMap_cons, Nat.zero_mul, Nat.zero_add, List.getElem_cons_zero]
    rw [List.getElem?_append_left (by rw [hc]; exact hr)]
  | a :: l, i + 1, r, hi, hr => by
    have e : (i + 1) * size + r = (cells a).length + (i * size + r) := by rw [hc, Nat.add_mul]; omega
    simp only [List.flatMap_cons, List.getElem_cons_succ]
    rw [e, List.getElem?_append_right (Nat.le_add_right _ _), Nat.add_sub_cancel_left]
    exact flat_get hc l i r (by simpa using hi) hr
theorem open_elems {α : Type} {W : World} {base : Nat} {spare : Nat → Bool} {held : Bool} {t e size len cap : Nat} {A : Option Addr} {d : DataW H} {p : List MemPlace} (cells : α → List Value) (Φ : α → Prop) (ht : P.underlying t = some (.slice e)) (hC : P.cellsOf e = size) (h0 : 0 < size)
    (h : DataW.Trod enc P W base spare held t (.slice A len cap) d p) (hc : ∀ o, (cells o).length = size) (hel : ∀ fuel cs x, cs.length = size → DataW.trod enc P W base spare held fuel e cs = some x → ∃ o, cells o = cs ∧ Φ o) :
    ∃ l : List α, l.length = len ∧ Rd W A l.length size (l.flatMap cells) ∧ (∀ o ∈ l, Φ o) ∧ len ≤ cap := by
  obtain ⟨fuel, hf⟩ := h
  rcases open_slice ht hf with ⟨hcs, _⟩ | ⟨a, len', cap', m, n, D, Pl, hcs, _, hlc, _, hm, _, hi⟩
  · have hcs' : [Value.slice A len cap] = [.slice none 0 0] := hcs
    simp only [List.cons.injEq, Value.slice.injEq, and_true] at hcs'
    obtain ⟨rfl, rfl, rfl⟩ := hcs'
    exact ⟨[], rfl, Rd.nil _ _ _, fun o ho => by simp at ho, Nat.le_refl _⟩
  · have hcs' : [Value.slice A len cap] = [.slice (some a) len' cap'] := hcs
    simp only [List.cons.injEq, Value.slice.injEq, and_true] at hcs'
    obtain ⟨rfl, rfl, rfl⟩ := hcs'
    have hmle : len ≤ m := by rw [hm]; split <;> omega
    obtain ⟨l, hl, hr⟩ := list_of (R := fun i o => Φ o ∧ ∀ j, j < size → W.cell? (a.add (i * size + j)) = (cells o)[j]?) len fun i hil => by
      obtain ⟨cs', h1, h2⟩ := hi i (by omega)
      rw [hC] at h1
      obtain ⟨_, hcl, hat⟩ := World.cells?_some h1
      obtain ⟨o, ho, hΦ⟩ := hel n cs' _ hcl h2
      exact ⟨o, hΦ, fun j hj => by rw [← add_add, hat j hj, ho]⟩
    refine ⟨l, hl, ⟨flat_length hc l, fun j u hj => ⟨a, rfl, ?_⟩⟩, fun o ho => ?_, hlc⟩
    · have hjl := (List.getElem?_eq_some_iff.1 hj).1
      rw [flat_length hc] at hjl
      have hd : j / size < l.length := Nat.div_lt_of_lt_mul (by rw [Nat.mul_comm]; exact hjl)
      have he : j = (j / size) * size + j % size := (Nat.div_add_mod' j size).symm
      have hmod := Nat.mod_lt j h0
      rw [he, flat_get hc l _ _ hd hmod] at hj
      rw [he, (hr _ hd).2 _ hmod]
      exact hj
    · obtain ⟨i, hi', rfl⟩ := List.mem_iff_getElem.1 ho
      exact (hr i hi').1
end
end Go.Proofs.YtkbpiodcndjpnaaG
