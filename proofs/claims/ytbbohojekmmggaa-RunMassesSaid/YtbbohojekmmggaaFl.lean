/- Floats (binary64) that are whole numbers below 2^53: what is added, subtracted, multiplied, compared, turned to an integer and back is exact. No code here. -/
import Derived.Laws.FloatArith
namespace Go.Proofs.YtbbohojekmmggaaG
set_option linter.unusedVariables false
set_option linter.unusedSimpArgs false
open Ieee
set_option exponentiation.threshold 1100

/-- A datum, a word that is the whole number n. -/
def IsD (d : Datum) (n : Int) : Prop := ∃ (s : Bool) (m E X : Nat), d = .number s m ((E : Int) - X) ∧ m * 2 ^ E = n.natAbs * 2 ^ X ∧ (0 < m → (s = true ↔ n < 0))
def IsF (b : Nat) (n : Int) : Prop := IsD (double.read b) n
theorem d_sw : double.signWeight = 9223372036854775808 := by simp [Format.signWeight, double]
theorem d_bin : double.binade = 4503599627370496 := by simp [Format.binade, double]
theorem d_inf : double.infRung = 9218868437227405312 := by simp [Format.infRung, Format.binade, double]
theorem d_least : double.leastPlace = -1074 := by simp [Format.leastPlace, double]
theorem d_frac : ((double.fractionBits : Nat) : Int) = 52 := by simp [double]
theorem cut0 (neg : Bool) (n : Nat) : Toward.even.cut neg n 0 = n := by
  simp [Toward.cut, Nat.mod_one]
theorem cut_exact (neg : Bool) (q d : Nat) (hq : 0 < q) : Toward.even.cut neg (q * 2 ^ d) d = q := by
  have hp : 0 < 2 ^ d := Nat.two_pow_pos d
  have hlog : d ≤ (q * 2 ^ d).log2 + 2 := by
    have : d ≤ (q * 2 ^ d).log2 := by
      rw [Nat.le_log2 (by exact Nat.ne_of_gt (Nat.mul_pos hq hp))]
      exact Nat.le_mul_of_pos_left _ hq
    omega
  have hmin : min d ((q * 2 ^ d).log2 + 2) = d := Nat.min_eq_left hlog
  unfold Toward.cut
  rw [hmin]
  simp only [Nat.shiftLeft_eq, Nat.one_mul, Nat.mul_div_cancel _ hp, Nat.mul_mod_left, Nat.mul_zero]
  have h1 : ¬ (2 ^ d < 0) := Nat.not_lt_zero _
  have h2 : ((2 ^ d == 0) : Bool) = false := by simp
  simp [h2]
theorem log_bounds (m E X N L : Nat) (h : m * 2 ^ E = N * 2 ^ X) (hN : 1 ≤ N) (hN2 : N < 2 ^ 53) (hlo : 2 ^ L ≤ m) (hhi : m < 2 ^ (L + 1)) : X ≤ L + E ∧ L + E ≤ X + 52 := by
  constructor
  · apply Nat.le_of_not_lt
    intro hc
    have h1 : m * 2 ^ E < 2 ^ (L + 1) * 2 ^ E := Nat.mul_lt_mul_of_pos_right hhi (Nat.two_pow_pos _)
    rw [← Nat.pow_add] at h1
    have h2 : 2 ^ (L + 1 + E) ≤ 2 ^ X := Nat.pow_le_pow_right (by omega) (by omega)
    have h3 : 1 * 2 ^ X ≤ N * 2 ^ X := Nat.mul_le_mul_right _ hN
    rw [Nat.one_mul] at h3
    exact absurd (Nat.lt_of_lt_of_le (Nat.lt_of_lt_of_le h1 h2) h3) (by rw [h]; exact Nat.lt_irrefl _)
  · apply Nat.le_of_not_lt
    intro hc
    have h1 : 2 ^ L * 2 ^ E ≤ m * 2 ^ E := Nat.mul_le_mul_right _ hlo
    rw [← Nat.pow_add] at h1
    have h2 : 2 ^ (53 + X) ≤ 2 ^ (L + E) := Nat.pow_le_pow_right (by omega) (by omega)
    have h3 : N * 2 ^ X < 2 ^ 53 * 2 ^ X := Nat.mul_lt_mul_of_pos_right hN2 (Nat.two_pow_pos _)
    rw [← Nat.pow_add] at h3
    rw [← h] at h3
    exact absurd (Nat.lt_of_lt_of_le h3 (Nat.le_trans h2 h1)) (Nat.lt_irrefl _)
/-- What is kept of the digits. -/
theorem kept (s : Bool) (m E X N L : Nat) (h : m * 2 ^ E = N * 2 ^ X) (hN : 1 ≤ N) (hlo : 2 ^ L ≤ m) (hhi : m < 2 ^ (L + 1)) (b1 : X ≤ L + E) (b2 : L + E ≤ X + 52) : ∃ K : Nat, Toward.even.cut s (m <<< (52 - L)) (L - 52) = K ∧ 2 ^ 52 ≤ K ∧ K < 2 ^ 53 ∧ K * 2 ^ (E + L) = m * 2 ^ E * 2 ^ 52 := by
  by_cases hc : L ≤ 52
  · refine ⟨m * 2 ^ (52 - L), ?_, ?_, ?_, ?_⟩
    · rw [show L - 52 = 0 by omega, cut0, Nat.shiftLeft_eq]
    · have : 2 ^ L * 2 ^ (52 - L) ≤ m * 2 ^ (52 - L) := Nat.mul_le_mul_right _ hlo
      rwa [← Nat.pow_add, show L + (52 - L) = 52 by omega] at this
    · have : m * 2 ^ (52 - L) < 2 ^ (L + 1) * 2 ^ (52 - L) := Nat.mul_lt_mul_of_pos_right hhi (Nat.two_pow_pos _)
      rwa [← Nat.pow_add, show L + 1 + (52 - L) = 53 by omega] at this
    · rw [Nat.mul_assoc, ← Nat.pow_add, Nat.mul_assoc, ← Nat.pow_add, show 52 - L + (E + L) = E + 52 by omega]
  · have hme : m = N * 2 ^ (X - E) := by
      have : m * 2 ^ E = (N * 2 ^ (X - E)) * 2 ^ E := by rw [h, Nat.mul_assoc, ← Nat.pow_add, show X - E + E = X by omega]
      exact Nat.eq_of_mul_eq_mul_right (Nat.two_pow_pos _) this
    have hmq : m = (N * 2 ^ (X - E - (L - 52))) * 2 ^ (L - 52) := by
      rw [Nat.mul_assoc, ← Nat.pow_add, show X - E - (L - 52) + (L - 52) = X - E by omega]
      exact hme
    obtain ⟨q, hq⟩ : ∃ q, q = N * 2 ^ (X - E - (L - 52)) := ⟨_, rfl⟩
    rw [← hq] at hmq
    have hq0 : 0 < q := by rw [hq]; exact Nat.mul_pos hN (Nat.two_pow_pos _)
    refine ⟨q, ?_, ?_, ?_, ?_⟩
    · rw [show 52 - L = 0 by omega, Nat.shiftLeft_zero, hmq]
      exact cut_exact s q (L - 52) hq0
    · apply Nat.le_of_not_lt
      intro hlt
      have h1 : q * 2 ^ (L - 52) < 2 ^ 52 * 2 ^ (L - 52) := Nat.mul_lt_mul_of_pos_right hlt (Nat.two_pow_pos _)
      rw [← hmq, ← Nat.pow_add, show 52 + (L - 52) = L by omega] at h1
      exact absurd hlo (Nat.not_le_of_lt h1)
    · apply Nat.lt_of_not_le
      intro hle
      have h1 : 2 ^ 53 * 2 ^ (L - 52) ≤ q * 2 ^ (L - 52) := Nat.mul_le_mul_right _ hle
      rw [← hmq, ← Nat.pow_add, show 53 + (L - 52) = L + 1 by omega] at h1
      exact absurd hhi (Nat.not_lt_of_le h1)
    · rw [hmq, Nat.mul_assoc, Nat.mul_assoc, ← Nat.pow_add, ← Nat.pow_add, show L - 52 + (E + 52) = E + L by omega]
theorem read_word (s : Bool) (p K : Nat) (hp : p ≤ 2000) (h1 : 4503599627370496 ≤ K) (h2 : K < 9007199254740992) : double.read (double.word s (p * 4503599627370496 + K)) = .number s K ((p : Int) - 1074) := by
  obtain ⟨R, hR⟩ : ∃ R, R = p * 4503599627370496 + K := ⟨_, rfl⟩
  rw [← hR]
  have hRlt : R < 9218868437227405312 := by omega
  have e4 : 4503599627370496 + R % 4503599627370496 = K := by omega
  have e5 : R / 4503599627370496 - 1 = p := by omega
  have e6 : ¬ R < 4503599627370496 := by omega
  cases s with
  | false =>
    have a1 : R / 9223372036854775808 % 2 = 0 := by omega
    have a2 : R % 9223372036854775808 = R := by omega
    simp only [Format.read, Format.word, d_sw, d_bin, d_inf, d_least, Bool.false_eq_true, if_false, a1, a2, if_neg e6, if_pos hRlt, e4, e5]
    first | rfl | (congr 1; omega)
  | true =>
    have a1 : (9223372036854775808 + R) / 9223372036854775808 % 2 = 1 := by omega
    have a2 : (9223372036854775808 + R) % 9223372036854775808 = R := by omega
    simp only [Format.read, Format.word, d_sw, d_bin, d_inf, d_least, if_true, a1, a2, if_neg e6, if_pos hRlt, e4, e5]
    first | rfl | (congr 1; omega)
theorem write_whole (s : Bool) (m E X : Nat) (n : Int) (h : m * 2 ^ E = n.natAbs * 2 ^ X) (hs : 0 < m → (s = true ↔ n < 0)) (hn : n.natAbs < 2 ^ 53) : IsF (double.write (.number s m ((E : Int) - X))) n := by
  rcases Nat.eq_zero_or_pos m with hm | hm
  · subst hm
    have hn0 : n.natAbs = 0 := by
      rw [Nat.zero_mul] at h
      rcases Nat.mul_eq_zero.1 h.symm with h0 | h0
      · exact h0
      · exact absurd h0 (Nat.ne_of_gt (Nat.two_pow_pos _))
    refine ⟨s, 0, 0, 1074, ?_, by simp [hn0], fun h => absurd h (Nat.lt_irrefl 0)⟩
    simp only [Format.write, Format.nearest]
    rw [if_pos trivial]
    simp only [Format.read, Format.word, d_sw, d_bin, d_least]
    cases s <;> simp
  · obtain ⟨L, hL⟩ : ∃ L, m.log2 = L := ⟨_, rfl⟩
    have hlo : 2 ^ L ≤ m := by rw [← hL]; exact Nat.log2_self_le (Nat.ne_of_gt hm)
    have hhi : m < 2 ^ (L + 1) := by rw [← hL]; exact Nat.lt_log2_self
    have hn1 : 1 ≤ n.natAbs := by
      rcases Nat.eq_zero_or_pos n.natAbs with h0 | h0
      · rw [h0, Nat.zero_mul] at h
        rcases Nat.mul_eq_zero.1 h with h1 | h1
        · omega
        · exact absurd h1 (Nat.ne_of_gt (Nat.two_pow_pos _))
      · exact h0
    obtain ⟨b1, b2⟩ := log_bounds m E X n.natAbs L h hn1 hn hlo hhi
    obtain ⟨K, hK, hK1, hK2, hKE⟩ := kept s m E X n.natAbs L h hn1 hlo hhi b1 b2
    obtain ⟨p, hp⟩ : ∃ p : Nat, p = E + L + 1022 - X := ⟨_, rfl⟩
    have hw : double.write (.number s m ((E : Int) - X)) = double.word s (p * 4503599627370496 + K) := by
      simp only [Format.write, Format.nearest]
      rw [if_neg (Nat.ne_of_gt hm), hL, d_least, d_bin, d_inf, d_frac]
      have hlast : max ((E : Int) - X + (L : Int) - 52) (-1074) = (E : Int) + L - X - 52 := by omega
      have g1 : ((E : Int) - X - ((E : Int) + L - X - 52)).toNat = 52 - L := by omega
      have g2 : (((E : Int) + L - X - 52) - ((E : Int) - X)).toNat = L - 52 := by omega
      have g3 : ((E : Int) + L - X - 52 - -1074).toNat = p := by omega
      rw [hlast, g1, g2, g3, hK]
      congr 1
      have k2 : K < 9007199254740992 := by simpa using hK2
      exact Nat.min_eq_left (by omega)
    refine ⟨s, K, p, 1074, ?_, ?_, fun _ => hs hm⟩
    · rw [hw]
      exact read_word s p K (by omega) (by simpa using hK1) (by simpa using hK2)
    · have e7 : p + (X + 52) = E + L + 1074 := by omega
      have e8 : K * 2 ^ (E + L) * 2 ^ 1074 = n.natAbs * 2 ^ X * 2 ^ 52 * 2 ^ 1074 := by rw [hKE, h]
      rw [Nat.mul_assoc, ← Nat.pow_add, ← e7, Nat.pow_add, ← Nat.mul_assoc] at e8
      have e9 : n.natAbs * 2 ^ X * 2 ^ 52 * 2 ^ 1074 = n.natAbs * 2 ^ 1074 * 2 ^ (X + 52) := by rw [Nat.mul_assoc n.natAbs, ← Nat.pow_add, Nat.mul_right_comm]
      rw [e9] at e8
      exact Nat.eq_of_mul_eq_mul_right (Nat.two_pow_pos _) e8

/-! ### Arithmetic -/
theorem signed_eq (s : Bool) (m E X k : Nat) (n : Int) (h : m * 2 ^ E = n.natAbs * 2 ^ X) (hs : 0 < m → (s = true ↔ n < 0)) : signed s m k * 2 ^ E = n * 2 ^ (X + k) := by
  have h1 : ((m * 2 ^ E : Nat) : Int) = ((n.natAbs * 2 ^ X : Nat) : Int) := by rw [h]
  rw [Int.natCast_mul, Int.natCast_mul, Int.natCast_pow, Int.natCast_pow] at h1
  have h2 : (((2 : Nat) : Int)) = 2 := rfl
  rw [h2] at h1
  rcases Nat.eq_zero_or_pos m with hm | hm
  · subst hm
    have hn : n = 0 := by
      have : (n.natAbs : Int) * 2 ^ X = 0 := by rw [← h1]; simp
      rcases Int.mul_eq_zero.1 this with h0 | h0
      · omega
      · exact absurd h0 (by exact Int.ne_of_gt (Int.pow_pos (by decide)))
    subst hn
    cases s <;> simp [signed]
  · have hst := hs hm
    have hsh : ((m <<< k : Nat) : Int) = (m : Int) * 2 ^ k := by rw [Nat.shiftLeft_eq, Int.natCast_mul, Int.natCast_pow]; rfl
    cases s with
    | true =>
      have hneg : n < 0 := hst.1 rfl
      have hab : (n.natAbs : Int) = -n := by omega
      rw [hab] at h1
      simp only [signed, if_true]
      rw [hsh, Int.pow_add]
      have : (m : Int) * 2 ^ k * 2 ^ E = -n * 2 ^ X * 2 ^ k := by rw [Int.mul_right_comm, h1]
      rw [Int.neg_mul, this, Int.neg_mul, Int.neg_mul, Int.neg_neg, Int.mul_assoc]
    | false =>
      have hpos : ¬ n < 0 := fun hh => by have := hst.2 hh; cases this
      have hab : (n.natAbs : Int) = n := by omega
      rw [hab] at h1
      simp only [signed, Bool.false_eq_true, if_false]
      rw [hsh, Int.pow_add, Int.mul_right_comm, h1, Int.mul_assoc]
theorem natAbs_pow (a : Int) (k : Nat) : (a * 2 ^ k).natAbs = a.natAbs * 2 ^ k := by rw [Int.natAbs_mul, Int.natAbs_pow]; rfl
theorem sum_whole {d d' : Datum} {x y : Int} (ha : IsD d x) (hb : IsD d' y) (hn : (x + y).natAbs < 2 ^ 53) : ∃ r, (d.sum d').map double.write = some r ∧ IsF r (x + y) := by
  obtain ⟨s, m, E, X, hra, h1, h2⟩ := ha
  obtain ⟨t, n, F, Y, hrb, h3, h4⟩ := hb
  obtain ⟨B, hB⟩ : ∃ B : Nat, (B : Int) = min ((E : Int) - X) ((F : Int) - Y) + X + Y := ⟨(min ((E : Int) - X) ((F : Int) - Y) + X + Y).toNat, by omega⟩
  obtain ⟨u, hu⟩ : ∃ u : Nat, u = (((E : Int) - X) - min ((E : Int) - X) ((F : Int) - Y)).toNat := ⟨_, rfl⟩
  obtain ⟨v, hv⟩ : ∃ v : Nat, v = (((F : Int) - Y) - min ((E : Int) - X) ((F : Int) - Y)).toNat := ⟨_, rfl⟩
  have eu : E + Y = B + u := by omega
  have ev : F + X = B + v := by omega
  have q1 := signed_eq s m E X u x h1 h2
  have q2 := signed_eq t n F Y v y h3 h4
  obtain ⟨tot, ht⟩ : ∃ tot, tot = signed s m u + signed t n v := ⟨_, rfl⟩
  have q3 : signed s m u * 2 ^ B = x * 2 ^ (X + Y) := by
    have : signed s m u * 2 ^ E * 2 ^ Y = x * 2 ^ (X + u) * 2 ^ Y := by rw [q1]
    rw [Int.mul_assoc, ← Int.pow_add, eu, Int.pow_add, ← Int.mul_assoc, Int.mul_assoc x, ← Int.pow_add, show X + u + Y = X + Y + u by omega, Int.pow_add, ← Int.mul_assoc] at this
    exact Int.eq_of_mul_eq_mul_right (Int.ne_of_gt (Int.pow_pos (by decide))) this
  have q4 : signed t n v * 2 ^ B = y * 2 ^ (X + Y) := by
    have : signed t n v * 2 ^ F * 2 ^ X = y * 2 ^ (Y + v) * 2 ^ X := by rw [q2]
    rw [Int.mul_assoc, ← Int.pow_add, ev, Int.pow_add, ← Int.mul_assoc, Int.mul_assoc y, ← Int.pow_add, show Y + v + X = X + Y + v by omega, Int.pow_add, ← Int.mul_assoc] at this
    exact Int.eq_of_mul_eq_mul_right (Int.ne_of_gt (Int.pow_pos (by decide))) this
  have q5 : tot * 2 ^ B = (x + y) * 2 ^ (X + Y) := by rw [ht, Int.add_mul, q3, q4, Int.add_mul]
  have q6 : tot.natAbs * 2 ^ B = (x + y).natAbs * 2 ^ (X + Y) := by rw [← natAbs_pow, ← natAbs_pow, q5]
  have hbase : min ((E : Int) - X) ((F : Int) - Y) = (B : Int) - ((X + Y : Nat) : Int) := by omega
  refine ⟨_, ?_, write_whole (if tot = 0 then s && t else decide (tot < 0)) tot.natAbs B (X + Y) (x + y) q6 ?_ hn⟩
  · subst hra hrb
    simp only [Datum.sum, Option.map_some]
    rw [← hu, ← hv, ← ht, hbase]
  · intro hpos
    have h0 : tot ≠ 0 := by omega
    rw [if_neg h0, decide_eq_true_eq]
    have hp : (0 : Int) < 2 ^ B := Int.pow_pos (by decide)
    have hp' : (0 : Int) < 2 ^ (X + Y) := Int.pow_pos (by decide)
    constructor
    · intro hlt
      have : tot * 2 ^ B < 0 := Int.mul_neg_of_neg_of_pos hlt hp
      rw [q5] at this
      apply Int.lt_of_not_ge
      intro hge
      have := Int.mul_nonneg hge (Int.le_of_lt hp')
      omega
    · intro hlt
      have : (x + y) * 2 ^ (X + Y) < 0 := Int.mul_neg_of_neg_of_pos hlt hp'
      rw [← q5] at this
      apply Int.lt_of_not_ge
      intro hge
      have := Int.mul_nonneg hge (Int.le_of_lt hp)
      omega
theorem IsD.neg {d : Datum} {x : Int} (h : IsD d x) : IsD d.opposite (-x) := by
  obtain ⟨s, m, E, X, rfl, h1, h2⟩ := h
  refine ⟨!s, m, E, X, rfl, by rw [Int.natAbs_neg]; exact h1, fun hm => ?_⟩
  have h3 := h2 hm
  have hx : x ≠ 0 := fun e => by
    subst e
    rw [Int.natAbs_zero, Nat.zero_mul] at h1
    rcases Nat.mul_eq_zero.1 h1 with h0 | h0
    · omega
    · exact absurd h0 (Nat.ne_of_gt (Nat.two_pow_pos _))
  cases s with
  | true =>
    have := h3.1 rfl
    simp; omega
  | false =>
    have : ¬ x < 0 := fun hh => by have := h3.2 hh; cases this
    simp; omega
theorem add_whole {a b : Nat} {x y : Int} (ha : IsF a x) (hb : IsF b y) (hn : (x + y).natAbs < 2 ^ 53) : ∃ r, double.add a b = some r ∧ IsF r (x + y) := sum_whole ha hb hn
theorem sub_whole {a b : Nat} {x y : Int} (ha : IsF a x) (hb : IsF b y) (hn : (x - y).natAbs < 2 ^ 53) : ∃ r, double.sub a b = some r ∧ IsF r (x - y) := by
  rw [Int.sub_eq_add_neg] at hn ⊢
  exact sum_whole ha (IsD.neg hb) hn
theorem mul_whole {a b : Nat} {x y : Int} (ha : IsF a x) (hb : IsF b y) (hn : (x * y).natAbs < 2 ^ 53) : ∃ r, double.mul a b = some r ∧ IsF r (x * y) := by
  obtain ⟨s, m, E, X, hra, h1, h2⟩ := ha
  obtain ⟨t, n, F, Y, hrb, h3, h4⟩ := hb
  have q : (m * n) * 2 ^ (E + F) = (x * y).natAbs * 2 ^ (X + Y) := by
    rw [Nat.pow_add, Nat.pow_add, Int.natAbs_mul]
    have : m * 2 ^ E * (n * 2 ^ F) = x.natAbs * 2 ^ X * (y.natAbs * 2 ^ Y) := by rw [h1, h3]
    rw [Nat.mul_mul_mul_comm, this, Nat.mul_mul_mul_comm]
  have hplace : ((E : Int) - X) + ((F : Int) - Y) = ((E + F : Nat) : Int) - ((X + Y : Nat) : Int) := by omega
  refine ⟨_, ?_, write_whole (s ^^ t) (m * n) (E + F) (X + Y) (x * y) q ?_ hn⟩
  · simp only [Format.mul, hra, hrb, Datum.product, Option.map_some]
    rw [hplace]
  · intro hpos
    have hm : 0 < m := Nat.pos_of_mul_pos_right hpos
    have hn' : 0 < n := Nat.pos_of_mul_pos_left hpos
    have g1 := h2 hm
    have g2 := h4 hn'
    have hx : x ≠ 0 := fun e => by
      subst e
      rw [Int.natAbs_zero, Nat.zero_mul] at h1
      rcases Nat.mul_eq_zero.1 h1 with h0 | h0
      · omega
      · exact absurd h0 (Nat.ne_of_gt (Nat.two_pow_pos _))
    have hy : y ≠ 0 := fun e => by
      subst e
      rw [Int.natAbs_zero, Nat.zero_mul] at h3
      rcases Nat.mul_eq_zero.1 h3 with h0 | h0
      · omega
      · exact absurd h0 (Nat.ne_of_gt (Nat.two_pow_pos _))
    cases s with
    | true =>
      have hx' := g1.1 rfl
      cases t with
      | true =>
        have hy' := g2.1 rfl
        have := Int.mul_pos_of_neg_of_neg hx' hy'
        simp; omega
      | false =>
        have hy' : ¬ y < 0 := fun hh => by have := g2.2 hh; cases this
        have := Int.mul_neg_of_neg_of_pos hx' (show 0 < y by omega)
        simp; omega
    | false =>
      have hx' : ¬ x < 0 := fun hh => by have := g1.2 hh; cases this
      cases t with
      | true =>
        have hy' := g2.1 rfl
        have := Int.mul_neg_of_pos_of_neg (show 0 < x by omega) hy'
        simp; omega
      | false =>
        have hy' : ¬ y < 0 := fun hh => by have := g2.2 hh; cases this
        have := Int.mul_pos (show 0 < x by omega) (show 0 < y by omega)
        simp; omega
theorem ofInt_whole (n : Int) (hn : n.natAbs < 2 ^ 53) : IsF (double.write (.number (decide (n < 0)) n.natAbs 0)) n := by
  have := write_whole (decide (n < 0)) n.natAbs 0 0 n rfl (fun _ => by simp) hn
  exact this
theorem compare_whole {d d' : Datum} {x y : Int} (ha : IsD d x) (hb : IsD d' y) : d.order d' = some (compare x y) := by
  obtain ⟨s, m, E, X, rfl, h1, h2⟩ := ha
  obtain ⟨t, n, F, Y, rfl, h3, h4⟩ := hb
  obtain ⟨B, hB⟩ : ∃ B : Nat, (B : Int) = min ((E : Int) - X) ((F : Int) - Y) + X + Y := ⟨(min ((E : Int) - X) ((F : Int) - Y) + X + Y).toNat, by omega⟩
  obtain ⟨u, hu⟩ : ∃ u : Nat, u = (((E : Int) - X) - min ((E : Int) - X) ((F : Int) - Y)).toNat := ⟨_, rfl⟩
  obtain ⟨v, hv⟩ : ∃ v : Nat, v = (((F : Int) - Y) - min ((E : Int) - X) ((F : Int) - Y)).toNat := ⟨_, rfl⟩
  have eu : E + Y = B + u := by omega
  have ev : F + X = B + v := by omega
  have q1 := signed_eq s m E X u x h1 h2
  have q2 := signed_eq t n F Y v y h3 h4
  have q3 : signed s m u * 2 ^ B = x * 2 ^ (X + Y) := by
    have : signed s m u * 2 ^ E * 2 ^ Y = x * 2 ^ (X + u) * 2 ^ Y := by rw [q1]
    rw [Int.mul_assoc, ← Int.pow_add, eu, Int.pow_add, ← Int.mul_assoc, Int.mul_assoc x, ← Int.pow_add, show X + u + Y = X + Y + u by omega, Int.pow_add, ← Int.mul_assoc] at this
    exact Int.eq_of_mul_eq_mul_right (Int.ne_of_gt (Int.pow_pos (by decide))) this
  have q4 : signed t n v * 2 ^ B = y * 2 ^ (X + Y) := by
    have : signed t n v * 2 ^ F * 2 ^ X = y * 2 ^ (Y + v) * 2 ^ X := by rw [q2]
    rw [Int.mul_assoc, ← Int.pow_add, ev, Int.pow_add, ← Int.mul_assoc, Int.mul_assoc y, ← Int.pow_add, show Y + v + X = X + Y + v by omega, Int.pow_add, ← Int.mul_assoc] at this
    exact Int.eq_of_mul_eq_mul_right (Int.ne_of_gt (Int.pow_pos (by decide))) this
  have hp : (0 : Int) < 2 ^ B := Int.pow_pos (by decide)
  have hp' : (0 : Int) < 2 ^ (X + Y) := Int.pow_pos (by decide)
  have hlt : ∀ (a b c d p q : Int), 0 < p → 0 < q → a * p = c * q → b * p = d * q → c < d → a < b := fun a b c d p q hp hq e1 e2 h => by
    have h1 : c * q < d * q := Int.mul_lt_mul_of_pos_right h hq
    rw [← e1, ← e2] at h1
    exact Int.lt_of_mul_lt_mul_right h1 (Int.le_of_lt hp)
  simp only [Datum.order]
  rw [← hu, ← hv]
  congr 1
  rcases Int.lt_trichotomy x y with h | h | h
  · rw [Int.compare_eq_lt.2 h, Int.compare_eq_lt.2 (hlt _ _ _ _ _ _ hp hp' q3 q4 h)]
  · subst h
    have : signed s m u = signed t n v := Int.eq_of_mul_eq_mul_right (Int.ne_of_gt hp) (q3.trans q4.symm)
    rw [this, Int.compare_eq_eq.2 rfl, Int.compare_eq_eq.2 rfl]
  · rw [Int.compare_eq_gt.2 h, Int.compare_eq_gt.2 (hlt _ _ _ _ _ _ hp hp' q4 q3 h)]
theorem cutz0 (neg : Bool) (n : Nat) : Toward.zero.cut neg n 0 = n := by
  simp [Toward.cut, Nat.mod_one]
theorem cutz_exact (neg : Bool) (q d : Nat) : Toward.zero.cut neg (q * 2 ^ d) d = q := by
  have hp : 0 < 2 ^ d := Nat.two_pow_pos d
  rcases Nat.eq_zero_or_pos q with hq | hq
  · subst hq
    simp [Toward.cut]
  · have hlog : d ≤ (q * 2 ^ d).log2 + 2 := by
      have : d ≤ (q * 2 ^ d).log2 := by
        rw [Nat.le_log2 (by exact Nat.ne_of_gt (Nat.mul_pos hq hp))]
        exact Nat.le_mul_of_pos_left _ hq
      omega
    have hmin : min d ((q * 2 ^ d).log2 + 2) = d := Nat.min_eq_left hlog
    unfold Toward.cut
    rw [hmin]
    simp only [Nat.shiftLeft_eq, Nat.one_mul, Nat.mul_div_cancel _ hp]
    rfl
theorem signed0 (s : Bool) (m : Nat) (n : Int) (h : m = n.natAbs) (hs : 0 < m → (s = true ↔ n < 0)) : signed s m 0 = n := by
  have h1 := signed_eq s m 0 0 0 n (by rw [h]) hs
  simpa using h1
theorem toInt_whole {d : Datum} {n : Int} (h : IsD d n) : d.toInt .zero = some n := by
  obtain ⟨s, m, E, X, rfl, h1, h2⟩ := h
  simp only [Datum.toInt, Datum.integral]
  by_cases hc : X ≤ E
  · have g1 : ((E : Int) - X).toNat = E - X := by omega
    have g2 : (-((E : Int) - X)).toNat = 0 := by omega
    rw [g1, g2, cutz0, Nat.shiftLeft_eq]
    have hm : m * 2 ^ (E - X) = n.natAbs := by
      have : m * 2 ^ (E - X) * 2 ^ X = n.natAbs * 2 ^ X := by rw [Nat.mul_assoc, ← Nat.pow_add, show E - X + X = E by omega, h1]
      exact Nat.eq_of_mul_eq_mul_right (Nat.two_pow_pos _) this
    rw [signed0 s _ n hm (fun hp => h2 (Nat.pos_of_mul_pos_right hp))]
  · have g1 : ((E : Int) - X).toNat = 0 := by omega
    have g2 : (-((E : Int) - X)).toNat = X - E := by omega
    have hm : m = n.natAbs * 2 ^ (X - E) := by
      have : m * 2 ^ E = n.natAbs * 2 ^ (X - E) * 2 ^ E := by rw [Nat.mul_assoc, ← Nat.pow_add, show X - E + E = X by omega, h1]
      exact Nat.eq_of_mul_eq_mul_right (Nat.two_pow_pos _) this
    rw [g1, g2, Nat.shiftLeft_zero]
    have hc2 : Toward.zero.cut s m (X - E) = n.natAbs := by rw [hm]; exact cutz_exact s _ _
    rw [hc2, signed0 s _ n rfl (fun hp => h2 (by rw [hm]; exact Nat.mul_pos hp (Nat.two_pow_pos _)))]
end Go.Proofs.YtbbohojekmmggaaG
