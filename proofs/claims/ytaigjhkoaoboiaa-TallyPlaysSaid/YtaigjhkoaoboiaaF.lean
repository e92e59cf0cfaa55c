/- Seat 19: the anchor; the law TallyOff's walk. -/
import Derived.Test.YtaigjhkoaoboiaaE
namespace Go.Proofs.YtaigjhkoaoboiaaG
open Go Go.RowKit
set_option maxRecDepth 10000
set_option maxHeartbeats 4000000
set_option linter.unusedVariables false
set_option linter.unusedSimpArgs false

theorem Hands.unpacked {P : Program} {f : Nat} {vs : List Value} {L1 : List Asn} {Φ : Value → List Asn → Prop} (h : Hands P f vs [allA L1] Φ) : Hands P f vs L1 Φ :=
  ⟨fun w hst => by
    have h0 : St w (domOf L1) [allA L1] w := by
      have := St.pack (L1 := L1) (Lr := []) (by rw [List.append_nil]; exact hst)
      exact this
    refine (h.out w (h0.monoM fun k => (domOf_all L1 k).symm)).mono fun e w' ⟨v, L2, he, hΦ, h2⟩ => ⟨v, L2, he, hΦ, h2.monoM (domOf_all L1)⟩⟩
theorem tally_at {g : Nat} {dm : MO DeedD} {lm : MO LifeD} {fl : MF} {La : List Asn} (h : IsTally g dm lm fl La) : ∃ qd ql fd, ∀ w0 w M L, allA La ∈ L → St w0 M L w → TallyIn w g dm lm qd ql fd fl := by
  obtain ⟨qd, ql, fd, hi⟩ := tallyIn_of h
  exact ⟨qd, ql, fd, fun w0 w M L hin hs => hi w0 w M (st_all hin hs)⟩
/-- What is read of a tally. -/
structure Reads (g : Nat) (dm : MO DeedD) (lm : MO LifeD) (La : List Asn) : Prop where
  off : ∀ (w0 w : World) (M : Nat → Prop) (L : List Asn) (t : K2), allA La ∈ L → St w0 M L w → ComputesAt Try.prog 10 [pV g, .agg #[.int .u16 t.1, .int .u32 t.2]] w (.bool (offD dm t))
  count : ∀ (w0 w : World) (M : Nat → Prop) (L : List Asn) (e : K2), (∀ l, lm e = some l → l.gone.length ≤ 100000) → allA La ∈ L → St w0 M L w → ComputesAt Try.prog 11 [pV g, .agg #[.int .u16 e.1, .int .u32 e.2]] w (.int .i64 (countD dm lm e))
  knows : ∀ (w0 w : World) (M : Nat → Prop) (L : List Asn) (t : K2), allA La ∈ L → St w0 M L w → ComputesAt Try.prog 13 [pV g, .agg #[.int .u16 t.1, .int .u32 t.2]] w (.bool (dm t).isSome)
  opens : ∀ (w0 w : World) (M : Nat → Prop) (L : List Asn) (t : K2), allA La ∈ L → St w0 M L w → ComputesAt Try.prog 15 [pV g, .agg #[.int .u16 t.1, .int .u32 t.2]] w (.bool (openD dm t))
  has : ∀ (w0 w : World) (M : Nat → Prop) (L : List Asn) (t : K2), allA La ∈ L → St w0 M L w → ComputesAt Try.prog 18 [pV g, .agg #[.int .u16 t.1, .int .u32 t.2]] w (.bool (lm t).isSome)
theorem reads_of {g : Nat} {dm : MO DeedD} {lm : MO LifeD} {fl : MF} {La : List Asn} (h : IsTally g dm lm fl La) : Reads g dm lm La := by
  obtain ⟨qd, ql, fd, hi⟩ := tally_at h
  exact ⟨fun w0 w M L t hin hs => off10 g dm qd ql fd t w ((hi w0 w M L hin hs).atD t), fun w0 w M L e hb hin hs => count11 g dm lm qd ql fd fl e w (hi w0 w M L hin hs) hb, fun w0 w M L t hin hs => knows13 g dm qd ql fd t w ((hi w0 w M L hin hs).atD t), fun w0 w M L t hin hs => open15 g dm qd ql fd t w ((hi w0 w M L hin hs).atD t), fun w0 w M L t hin hs => has18 g dm lm qd ql fd fl t w (hi w0 w M L hin hs)⟩
def dm0 : MO DeedD := fun _ => none
def lm0 : MO LifeD := fun _ => none
theorem fresh (g : Nat) : IsTally g dm0 lm0 (fun _ => none) [tTop g none none] := .inl ⟨rfl, fun _ => rfl, fun _ => rfl, fun _ => rfl⟩
/-- Of an open transaction. -/
theorem turn9_open {g : Nat} {dm : MO DeedD} {lm : MO LifeD} {fl : MF} {La : List Asn} (t : K2) (b : Bool) (h : IsTally g dm lm fl La) (u : Int) (tl : List K2) (ht : dm t = some ⟨u, tl, false⟩) (hb : tl.length ≤ 1000) (hn : -1000000 ≤ u ∧ u ≤ 1000000) : Hands Try.prog 9 [pV g, .agg #[.int .u16 t.1, .int .u32 t.2], .bool b] [allA La] (fun v L2 => ∃ La' A c, v = .tuple #[.slice A tl.length c, .int .i64 0] ∧ L2 = [allA La', row (.slice A tl.length c) 33 2 tl.length (flatK tl)] ∧ IsTally g (updO dm t ⟨if b = true then u + 1 else u - 1, tl, false⟩) lm fl La') :=
  (turn9 t b h _ ht rfl hb hn).mono fun v L2 ⟨La', X, d', h1, h2, h3, A, c, h4, h5⟩ => ⟨La', A, c, h4, by rw [h1, h5], by rw [h3] at h2; exact h2⟩
theorem know7_at {g : Nat} {dm : MO DeedD} {lm : MO LifeD} {fl : MF} {La : List Asn} (t : K2) (b : Bool) (h : IsTally g dm lm fl La) : Hands Try.prog 7 [pV g, .agg #[.int .u16 t.1, .int .u32 t.2], .bool b] [allA La] (fun v L2 => ∃ La', v = .int .i64 (knowE dm t) ∧ L2 = [allA La'] ∧ IsTally g (knowM dm t b) lm fl La') :=
  (know7 t b h).mono fun v L2 ⟨La', h1, h2, h3⟩ => ⟨La', h2, h1, h3⟩
theorem make8_at {g : Nat} {dm : MO DeedD} {lm : MO LifeD} {fl : MF} {La : List Asn} (t e : K2) (h : IsTally g dm lm fl La) (hb : ∀ d, dm t = some d → d.touched.length ≤ 1000) : Hands Try.prog 8 [pV g, .agg #[.int .u16 t.1, .int .u32 t.2], .agg #[.int .u16 e.1, .int .u32 e.2]] [allA La] (fun v L2 => ∃ La' fl', v = .int .i64 (makeE dm lm t e) ∧ L2 = [allA La'] ∧ IsTally g (makeD dm lm t e) (makeL dm lm t e) fl' La') := make8 t e h hb
theorem let21_at {g : Nat} {dm : MO DeedD} {lm : MO LifeD} {fl : MF} {La : List Asn} (t e : K2) (h : IsTally g dm lm fl La) (hb : ∀ d, dm t = some d → d.touched.length ≤ 1000) (hg : ∀ l, lm e = some l → l.gone.length ≤ 1000) : Hands Try.prog 21 [pV g, .agg #[.int .u16 t.1, .int .u32 t.2], .agg #[.int .u16 e.1, .int .u32 e.2]] [allA La] (fun v L2 => ∃ La' fl', v = .int .i64 (letE dm lm t e) ∧ L2 = [allA La'] ∧ IsTally g (letD dm lm t e) (letL dm lm t e) fl' La') := let21 t e h hb hg
theorem know7_first (g : Nat) (t : K2) (b : Bool) : Hands Try.prog 7 [pV g, .agg #[.int .u16 t.1, .int .u32 t.2], .bool b] [blk g [.map none, .map none] 27] (fun v L2 => ∃ La', v = .int .i64 (knowE dm0 t) ∧ L2 = [allA La'] ∧ IsTally g (knowM dm0 t b) lm0 (fun _ => none) La') := (know7_at t b (fresh g)).unpacked
end Go.Proofs.YtaigjhkoaoboiaaG
