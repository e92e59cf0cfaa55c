/- A region that draws its order and writes what it has read: what is read is known till the first store. Further operations; what a walk may write. Over any program. -/
import Derived.Test.YtkbpiodcndjpnaaG6
namespace Go.Proofs.YtkbpiodcndjpnaaG
set_option linter.unusedVariables false
set_option linter.unusedSimpArgs false
open Go Go.RowKit

/-! ### Orders: S0 holds always, S1 till one of Z has come up -/
section
variable {P : Program} {ops : Array Oper} {Q : Exit → Act → World → Prop} {md : Region.Mode} {S S0 S1 : World → Prop} {Z : List Nat}
def freshZ (Z : List Nat) (listed : Array Bool) : Bool := Z.all fun z => !(listed.getD z true)
def wpAnyZ (P : Program) (md : Region.Mode) (ops : Array Oper) (Q : Exit → Act → World → Prop) (S0 S1 : World → Prop) (Z : List Nat) : Nat → Array Bool → Act → World → Prop
  | 0, listed, a, w => Region.ready md ops listed = [] ∧ Q .normal a w
  | fuel + 1, listed, a, w =>
    (Region.ready md ops listed = [] → Q .normal a w) ∧
    ∀ i ∈ Region.ready md ops listed, wpOp P ops Q i (fun a' w' => (S0 w' ∧ (freshZ Z (listed.setIfInBounds i true) = true → S1 w')) ∧ wpAnyZ P md ops Q S0 S1 Z fuel (listed.setIfInBounds i true) a' w') a w
theorem wpAny_of_Z : ∀ (fuel : Nat) (listed : Array Bool) (a : Act) (w : World), wpAnyZ P md ops Q S0 S1 Z fuel listed a w → wpAny P md ops Q fuel listed a w
  | 0, _, _, _, h => h
  | fuel + 1, _, _, _, h => ⟨h.1, fun i hi => wpOp_mono (fun a' w' h' => wpAny_of_Z fuel _ a' w' h'.2) (h.2 i hi)⟩
theorem freshZ_set {listed : Array Bool} {j : Nat} (h : freshZ Z listed = false) : freshZ Z (listed.setIfInBounds j true) = false := by
  unfold freshZ at *
  rw [List.all_eq_false] at *
  obtain ⟨z, hz, h1⟩ := h
  refine ⟨z, hz, ?_⟩
  by_cases e : j = z
  · subst e
    by_cases hlt : j < listed.size <;> simp [hlt]
  · rw [getD_set_ne true e]
    exact h1
/-- Behind the first of Z it is a 'wpAnyH'. -/
theorem wpAnyZ_of_H : ∀ (fuel : Nat) (listed : Array Bool) (a : Act) (w : World), freshZ Z listed = false → wpAnyH P md ops Q S0 fuel listed a w → wpAnyZ P md ops Q S0 S1 Z fuel listed a w
  | 0, _, _, _, _, h => h
  | fuel + 1, listed, _, _, hf, h => ⟨h.1, fun i hi => wpOp_mono (fun a' w' h' => ⟨⟨h'.1, fun hh => by rw [freshZ_set hf] at hh; cases hh⟩, wpAnyZ_of_H fuel _ a' w' (freshZ_set hf) h'.2⟩) (h.2 i hi)⟩
theorem wpAnyZ_first {C : Array Bool → Prop} {i : Nat} {oi : Oper} {v : Value} (hi : ops[i]? = some oi) (hiZ : i ∉ Z) (hsel : ∀ (j : Nat) (o : Oper) cs b, ops[j]? = some o → o.op ≠ .select cs b)
    (hQ : ∀ c a w, Q (.panic c) (a.put oi.dst v) w → Q (.panic c) a w) (hC : ∀ listed j, C listed → j ∈ Region.ready md ops listed → j ≠ i → listed.getD i true = false → C (listed.setIfInBounds j true))
    (hCS : ∀ listed w, C listed → S0 w → (freshZ Z listed = true → S1 w) → S w) :
    ∀ (fuel : Nat) (listed : Array Bool) (a : Act) (w : World), C listed →
      (∀ j oj, ops[j]? = some oj → j ≠ i → listed.getD j true = false → (∀ e ∈ oj.after, Region.binds md e = true → e.on ≠ i) → oi.apart ops oj = true) →
      i ∈ Region.ready md ops listed → YieldsIf P ops S oi v a → S0 w → (freshZ Z listed = true → S1 w) →
      wpAnyZ P md ops Q S0 S1 Z fuel (listed.setIfInBounds i true) (a.put oi.dst v) w → wpAnyZ P md ops Q S0 S1 Z (fuel + 1) listed a w := by
  have hup : ∀ (listed : Array Bool) (w : World), (freshZ Z listed = true → S1 w) → freshZ Z (listed.setIfInBounds i true) = true → S1 w := fun listed w h hh => h (by
    cases e : freshZ Z listed with
    | true => rfl
    | false => rw [freshZ_set e] at hh; cases hh)
  intro fuel
  induction fuel with
  | zero =>
    intro listed a w hc hfree hr hy hS0 hS1 H
    refine ⟨fun h => (by rw [h] at hr; cases hr), fun j hj => ?_⟩
    by_cases hji : j = i
    · subst hji; exact hy.wpOp hi (hCS listed w hc hS0 hS1) ⟨⟨hS0, hup listed w hS1⟩, H⟩
    · have := ready_mono hj hji
      rw [H.1] at this
      cases this
  | succ fuel ih =>
    intro listed a w hc hfree hr hy hS0 hS1 H
    refine ⟨fun h => (by rw [h] at hr; cases hr), fun j hj => ?_⟩
    by_cases hji : j = i
    · subst hji; exact hy.wpOp hi (hCS listed w hc hS0 hS1) ⟨⟨hS0, hup listed w hS1⟩, H⟩
    · have h1 := H.2 j (ready_mono hj hji)
      obtain ⟨hjun, oj, hoj, hall⟩ := mem_ready.1 hj
      have hiun := (mem_ready.1 hr).1
      have hnot : ∀ e ∈ oj.after, Region.binds md e = true → e.on ≠ i := fun e he hb heq => by
        have h1 := hall e he hb
        rw [heq] at h1
        rcases Nat.lt_or_ge i listed.size with h' | h'
        · simp [h'] at hiun h1; rw [hiun] at h1; cases h1
        · simp [Array.getElem?_eq_none h'] at h1
      have h2 := wpOp_putIf hoj (hfree j oj hoj hji hjun hnot) (fun cs b => hsel i oi cs b hi) (fun cs b => hsel j oj cs b hoj) hQ hy h1
      have hfree' : ∀ k ok, ops[k]? = some ok → k ≠ i → (listed.setIfInBounds j true).getD k true = false →
          (∀ e ∈ ok.after, Region.binds md e = true → e.on ≠ i) → oi.apart ops ok = true := fun k ok hk hki hun hno => by
        refine hfree k ok hk hki ?_ hno
        by_cases hjk : j = k
        · subst hjk; exact hjun
        · rw [getD_set_ne true hjk] at hun; exact hun
      have hcomm : (listed.setIfInBounds i true).setIfInBounds j true = (listed.setIfInBounds j true).setIfInBounds i true := Array.setIfInBounds_comm _ _ (Ne.symm hji)
      refine wpOp_mono (fun a' w' h3 => ?_) h2
      obtain ⟨h3y, ⟨h30, h31⟩, h3k⟩ := h3
      rw [hcomm] at h31 h3k
      have hnew : freshZ Z (listed.setIfInBounds j true) = true → S1 w' := fun hh => by
        refine h31 ?_
        unfold freshZ at *
        rw [List.all_eq_true] at *
        intro z hz
        have := hh z hz
        by_cases e : i = z
        · subst e
          exact absurd hz hiZ
        · rw [getD_set_ne true e]; exact this
      exact ⟨⟨h30, hnew⟩, ih (listed.setIfInBounds j true) a' w' (hC listed j hc hj hji hiun) hfree' (ready_mono hr (Ne.symm hji)) h3y h30 hnew h3k⟩
def waitsB (ops : Array Oper) (Z : List Nat) (i : Nat) : Bool := Z.all fun z => (ops[z]?).any fun o => o.after.any fun e => Region.binds .any e && e.on == i
theorem fresh_step {listed : Array Bool} {i j : Nat} (hw : waitsB ops Z i = true) (hf : freshZ Z listed = true) (hj : j ∈ Region.ready .any ops listed) (hi : listed.getD i true = false) : freshZ Z (listed.setIfInBounds j true) = true := by
  unfold freshZ at *
  rw [List.all_eq_true] at *
  intro z hz
  by_cases e : j = z
  · subst e
    obtain ⟨_, oj, hoj, hall⟩ := mem_ready.1 hj
    have h1 := List.all_eq_true.1 hw j hz
    rw [hoj] at h1
    simp only [Option.any_some, Array.any_eq_true, Bool.and_eq_true, beq_iff_eq] at h1
    obtain ⟨k, hk, hb, he⟩ := h1
    have h2 := hall _ (Array.getElem_mem hk) hb
    rw [he] at h2
    rcases Nat.lt_or_ge i listed.size with h' | h'
    · simp [h'] at hi h2; rw [hi] at h2; cases h2
    · simp [Array.getElem?_eq_none h'] at h2
  · rw [getD_set_ne true e]
    exact hf z hz
end

/-! ### The judgement -/
structure GZ (P : Program) (w0 : World) (M : Nat → Prop) (n : Nat) (ops : Array Oper) (Q : Exit → Act → World → Prop) (L0 L1 : List Asn) (Z : List Nat) (fuel : Nat) (listed : Array Bool) (T : TL) (L : List Asn) : Prop where
  mk :: (out : ∀ a w, Tm n T a → St w0 M L w → wpAnyZ P .any ops Q (St w0 M L0) (St w0 M L1) Z fuel listed a w)
section
variable {P : Program} {w0 w w' : World} {M : Nat → Prop} {n : Nat} {ops : Array Oper} {Q : Exit → Act → World → Prop} {T : TL} {L L0 L1 : List Asn} {Z : List Nat} {fuel : Nat} {listed : Array Bool} {d : Nat} {v : Value}
theorem GZ.take (i : Nat) {oi : Oper} (hi : ops[i]? = some oi) (hd : oi.dst = some d) (hn : Nat.blt d n = true) (hw : wantT ops T oi = some true) (hs : Region.noSelect ops = true) (hf : Region.free .any ops listed i = true)
    (hr : (Region.ready .any ops listed).contains i = true) (hQ : ∀ c a w, Q (.panic c) (a.put (some d) v) w → Q (.panic c) a w) (hz : Z.contains i = false) (hp : Pick L L0) (hp1 : Pick L L1) (hv : GV P w0 M n oi T L0 v)
    (k : GZ P w0 M n ops Q L0 L1 Z fuel (listed.setIfInBounds i true) ((d, v) :: T) L) : GZ P w0 M n ops Q L0 L1 Z (fuel + 1) listed T L := by
  refine ⟨fun a w ht hst => ?_⟩
  refine wpAnyZ_first (S := St w0 M L0) (C := fun _ => True) hi (by simpa using hz) (Region.noSelect_spec hs) (by rw [hd]; exact hQ) (fun _ _ _ _ _ _ => trivial) (fun _ _ _ h _ => h) fuel listed a w trivial (Region.free_spec hi hf) (by simpa using hr)
    (.inl ⟨wantT_spec ht hw, fun w' hS => hv.out a w' ht hS⟩) (hst.pick hp) (fun _ => hst.pick hp1) ?_
  rw [hd]
  exact k.out _ _ (ht.put (by simpa using hn) v) hst
theorem GZ.takeS (i : Nat) {oi : Oper} (hi : ops[i]? = some oi) (hd : oi.dst = some d) (hn : Nat.blt d n = true) (hw : wantT ops T oi = some true) (hs : Region.noSelect ops = true) (hf : Region.free .any ops listed i = true)
    (hr : (Region.ready .any ops listed).contains i = true) (hQ : ∀ c a w, Q (.panic c) (a.put (some d) v) w → Q (.panic c) a w) (hz : Z.contains i = false) (hp : Pick L L0) (hp1 : Pick L L1) (hfr : freshZ Z listed = true) (hwt : waitsB ops Z i = true) (hun : listed.getD i true = false) (hv : GV P w0 M n oi T L1 v)
    (k : GZ P w0 M n ops Q L0 L1 Z fuel (listed.setIfInBounds i true) ((d, v) :: T) L) : GZ P w0 M n ops Q L0 L1 Z (fuel + 1) listed T L := by
  refine ⟨fun a w ht hst => ?_⟩
  refine wpAnyZ_first (S := St w0 M L1) (C := fun l => freshZ Z l = true) hi (by simpa using hz) (Region.noSelect_spec hs) (by rw [hd]; exact hQ) (fun l j hc hj hji hiu => fresh_step hwt hc hj hiu) (fun l w hc _ h1 => h1 hc) fuel listed a w hfr (Region.free_spec hi hf) (by simpa using hr)
    (.inl ⟨wantT_spec ht hw, fun w' hS => hv.out a w' ht hS⟩) (hst.pick hp) (fun _ => hst.pick hp1) ?_
  rw [hd]
  exact k.out _ _ (ht.put (by simpa using hn) v) hst
/-- One operation alone may come up; none of Z. -/
theorem GZ.one (i : Nat) {oi : Oper} (hr : Region.ready .any ops listed = [i]) (hi : ops[i]? = some oi) (hw : wantT ops T oi = some true)
    (h : ∀ N : TL → List Asn → Prop, (∀ T L, Pick L L0 → Pick L L1 → GZ P w0 M n ops Q L0 L1 Z fuel (listed.setIfInBounds i true) T L → N T L) → GO P w0 M n oi T L N) : GZ P w0 M n ops Q L0 L1 Z (fuel + 1) listed T L := by
  refine ⟨fun a w ht hst => ⟨fun h0 => (by rw [hr] at h0; cases h0), fun j hj => ?_⟩⟩
  rw [hr] at hj
  obtain rfl : j = i := by simpa using hj
  unfold wpOp
  simp only [hi, wantT_spec ht hw, if_true]
  refine .inl ((h (fun T' L' => Pick L' L0 ∧ Pick L' L1 ∧ GZ P w0 M n ops Q L0 L1 Z fuel (listed.setIfInBounds j true) T' L') (fun _ _ h1 h2 h3 => ⟨h1, h2, h3⟩)).out Q a w _ ht hst ?_)
  rintro T' L' a' w' ⟨h1, h2, h3⟩ ht' hs'
  exact ⟨⟨hs'.pick h1, fun _ => hs'.pick h2⟩, h3.out a' w' ht' hs'⟩
/-- One operation alone may come up: the first of Z. -/
theorem GZ.oneZ (i : Nat) {oi : Oper} (hr : Region.ready .any ops listed = [i]) (hi : ops[i]? = some oi) (hw : wantT ops T oi = some true) (hz : freshZ Z (listed.setIfInBounds i true) = false)
    (h : ∀ N : TL → List Asn → Prop, (∀ T L, Pick L L0 → GA P w0 M n ops Q (St w0 M L0) fuel (listed.setIfInBounds i true) T L → N T L) → GO P w0 M n oi T L N) : GZ P w0 M n ops Q L0 L1 Z (fuel + 1) listed T L := by
  refine ⟨fun a w ht hst => ⟨fun h0 => (by rw [hr] at h0; cases h0), fun j hj => ?_⟩⟩
  rw [hr] at hj
  obtain rfl : j = i := by simpa using hj
  refine wpOp_mono (fun a' w' h' => ⟨⟨h'.1, fun hh => by rw [hz] at hh; cases hh⟩, wpAnyZ_of_H _ _ _ _ hz h'.2⟩) (GA.op hi hw h ht hst)
theorem GC.drawsZ {id : Nat} (Z : List Nat) {L0 : List Asn} (d1 : Nat) {g1 off1 t1 : Nat} {C1 : List Value} (hm : P.follows .mixedOrders = true) (h1 : look T d1 = some (.pointer (some ⟨g1, off1, none⟩))) (hr : Rm (blk g1 C1 t1) L L0) (h : GZ P w0 M n ops Q L0 L Z ops.size (Array.replicate ops.size false) T L) : GC P w0 M n (.region id ops true) Q T L :=
  fun a w ht hs => wp_region_any hm (wpAny_of_Z _ _ _ _ (h.out a w.drew ht hs.drew))

/-! ### Operations -/
variable {o : Oper} {N : TL → List Asn → Prop} {L' : List Asn} {A : Option Addr} {m c size : Nat} {cs : List Value}
theorem GV.nilCheck {x : Operand} {a : Addr} (hop : o.op = .nilCheck x) (hx : Ev T x (.pointer (some a))) : GV P w0 M n o T L (.pointer (some a)) :=
  ⟨fun ac w ht _ => by simp only [execOp, hop, ht.ev hx]; rfl⟩
theorem GV.indexAddr_arr {t e s len g j i : Nat} {b : Bool} {x y : Operand} {ki : IntKind} (hop : o.op = .indexAddr t x y) (_i0 : AR P t len e) (_i1 : TI P e b s) (hx : Ev T x (.pointer (some ⟨g, j, none⟩))) (hy : Ev T y (.int ki (i : Int))) (h1 : i < len) :
    GV P w0 M n o T L (.pointer (some ⟨g, j + i * s, none⟩)) :=
  ⟨fun a w ht _ => by
    have := AR.out (P := P) (t := t)
    simp only [execOp, hop, ht.ev hx, ht.ev hy]
    refine run_v ?_
    have h2 : ((i : Int) < (len : Int)) := by omega
    simp [Instr.indexAt, asIntOf, Instr.sureAddr, run_underlying this, h1, size_run (t := e) w, Addr.add]⟩
theorem run_equal_sliceNil (w : World) {t e : TypeId} (A : Option Addr) (m c m' c' : Nat) (h : P.underlying t = some (.slice e)) : (Op.equal t (.slice A m c) (.slice none m' c')).run P w = .ok A.isNone w := by
  have h1 : ∀ d, (Op.equalIn (d + 1) t (.slice A m c) (.slice none m' c')).run P w = .ok A.isNone w := fun d => by
    cases A <;> simp [Op.equalIn, run_underlying h]
  exact h1 9999
theorem GV.eqNil {t e yt : Nat} {x y : Operand} {A : Option Addr} {m c m' c' : Nat} (hop : o.op = .binOp .eql t x y yt) (_i0 : SL P t e) (hx : Ev T x (.slice A m c)) (hy : Ev T y (.slice none m' c')) : GV P w0 M n o T L (.bool A.isNone) :=
  GV.bin hop hx hy fun w => by
    have := SL.out (P := P) (t := t)
    simp [eqGuard, binOp, run_equal_sliceNil w A m c m' c' this]
theorem GO.buildSlice0 {t e : Nat} {b : Bool} (hop : o.op = .buildSlice t 0 #[]) (hd : o.dst = some d) (hn : Nat.blt d n = true) (_i0 : SL P t e) (_i1 : TI P e b size)
    (k : ∀ g, N ((d, .slice (some ⟨g, 0, none⟩) 0 0) :: T) (row (.slice (some ⟨g, 0, none⟩) 0 0) e size 0 [] :: L)) : GO P w0 M n o T L N :=
  GO.ofNew hd hn fun a w ht hs => by
    have hu := SL.out (P := P) (t := t)
    have hsr : (sizeOf e).run P w = .ok size w := size_run w
    refine ⟨_, w.alloc (.cells #[] e), _, ?_, ?_, k w.heap.size⟩
    · simp only [execOp, hop]
      refine run_v ?_
      unfold Instr.buildSlice
      rw [Sem.run_bind, run_underlying hu, Result.andThen_ok]
      simp only []
      rw [Sem.run_bind, hsr, Result.andThen_ok]
      simp [Instr.fill, newRow, run_newObj']
      have e0 : Array.range 0 = (#[] : Array Nat) := by simp [Array.range]
      rw [e0]
      simp
    · refine hs.add rfl rfl rfl (by rw [alloc_size]; omega) (fun k hk => alloc_get_old w _ hk) ?_ (fun k hk => ?_)
      · refine ⟨by simp, .inr ⟨w.heap.size, 0, #[], rfl, Nat.zero_le _, alloc_get_new w _, Nat.le_refl _, Nat.zero_le _, by simp, by simp⟩⟩
      · have : w.heap.size = k := by simpa [row, Value.ownBlock] using hk
        rw [alloc_size]
        omega

/-! ### What a walk may write -/
theorem St.startM {A : Asn} (w : World) (hA : A.holds w) (hd : ∀ k, A.dom k → k < w.heap.size ∧ M k) : St w M [A] w :=
  ⟨rfl, rfl, rfl, Nat.le_refl _, fun _ _ _ => rfl, fun B hB => by rw [List.mem_singleton.1 hB]; exact hA, fun B hB k hk => by rw [List.mem_singleton.1 hB] at hk; exact ⟨(hd k hk).1, .inr (hd k hk).2⟩, List.pairwise_singleton _ _⟩
theorem Rd.stM (h : Rd w0 A m size cs) (hs : St w0 M L w) (hne : ∀ ad, A = some ad → ¬ M ad.block) : Rd w A m size cs :=
  ⟨h.1, fun j u hj => by
    obtain ⟨ad, e, hc⟩ := h.2 j u hj
    refine ⟨ad, e, hs.cellM ?_ hc⟩
    have : (ad.add j).block = ad.block := by unfold Addr.add; split <;> rfl
    rw [this]
    exact hne ad e⟩
end
end Go.Proofs.YtkbpiodcndjpnaaG
