import Derived.Laws.ComplexArith
namespace Go.Proofs.Ytaombjljahpncaa
open Ieee

/-- The sign as a number. -/
def sg (s : Bool) : Int := if s then -1 else 1

/-- A datum that stands for the whole number n. -/
def V (d : Datum) (n : Int) : Prop := ∃ (s : Bool) (m : Nat) (e : Int), d = .number s m e ∧ ∃ B : Nat, 0 ≤ e + B ∧ sg s * m * (2 : Int) ^ (e + B).toNat = n * (2 : Int) ^ B

theorem V_up {s : Bool} {m : Nat} {e n : Int} {B : Nat} (h0 : 0 ≤ e + B) (h : sg s * m * (2 : Int) ^ (e + B).toNat = n * (2 : Int) ^ B) (C : Nat) :
    sg s * m * (2 : Int) ^ (e + (B + C : Nat)).toNat = n * (2 : Int) ^ (B + C) := by
  have e1 : (e + (B + C : Nat)).toNat = (e + B).toNat + C := by omega
  rw [e1, Int.pow_add, Int.pow_add, ← Int.mul_assoc, h, Int.mul_assoc]

theorem signed_eq (s : Bool) (m k : Nat) : signed s m k = sg s * m * (2 : Int) ^ k := by
  unfold signed sg
  cases s <;> simp [Nat.shiftLeft_eq, Int.neg_mul]

theorem V_sum {a b : Datum} {x y : Int} (ha : V a x) (hb : V b y) : ∃ d, a.sum b = some d ∧ V d (x + y) := by
  obtain ⟨s, m, i, rfl, A, hA0, hA⟩ := ha
  obtain ⟨t, n, j, rfl, B, hB0, hB⟩ := hb
  refine ⟨_, rfl, _, _, _, rfl, A + B, ?_, ?_⟩
  · omega
  · have h1 := V_up hA0 hA B
    have h2 := V_up hB0 hB A
    rw [Nat.add_comm B A] at h2
    have e1 : (i + (A + B : Nat)).toNat = (i - min i j).toNat + (min i j + (A + B : Nat)).toNat := by omega
    have e2 : (j + (A + B : Nat)).toNat = (j - min i j).toNat + (min i j + (A + B : Nat)).toNat := by omega
    rw [e1, Int.pow_add, ← Int.mul_assoc] at h1
    rw [e2, Int.pow_add, ← Int.mul_assoc] at h2
    rw [signed_eq, signed_eq, Int.add_mul, ← h1, ← h2, ← Int.add_mul]
    congr 1
    generalize sg s * m * (2 : Int) ^ (i - min i j).toNat + sg t * n * (2 : Int) ^ (j - min i j).toNat = T
    by_cases hT : T = 0
    · subst hT; simp
    · rw [if_neg hT]
      unfold sg
      by_cases hn : T < 0
      · simp [hn]; omega
      · simp [hn]; omega

theorem V_neg {a : Datum} {x : Int} (ha : V a x) : V a.opposite (-x) := by
  obtain ⟨s, m, i, rfl, A, hA0, hA⟩ := ha
  refine ⟨_, _, _, rfl, A, hA0, ?_⟩
  have : sg (!s) = - sg s := by cases s <;> rfl
  rw [this, Int.neg_mul, Int.neg_mul, hA, Int.neg_mul]

theorem sg_mul (s t : Bool) : sg (s ^^ t) = sg s * sg t := by cases s <;> cases t <;> rfl

theorem V_mul {a b : Datum} {x y : Int} (ha : V a x) (hb : V b y) : ∃ d, a.product b = some d ∧ V d (x * y) := by
  obtain ⟨s, m, i, rfl, A, hA0, hA⟩ := ha
  obtain ⟨t, n, j, rfl, B, hB0, hB⟩ := hb
  refine ⟨_, rfl, _, _, _, rfl, A + B, by omega, ?_⟩
  have e1 : (i + j + (A + B : Nat)).toNat = (i + A).toNat + (j + B).toNat := by omega
  rw [e1, sg_mul, Int.pow_add, Int.pow_add, Int.natCast_mul]
  have : sg s * sg t * (↑m * ↑n) * (2 ^ (i + ↑A).toNat * 2 ^ (j + ↑B).toNat) = (sg s * ↑m * 2 ^ (i + ↑A).toNat) * (sg t * ↑n * 2 ^ (j + ↑B).toNat) := by
    simp only [Int.mul_assoc, Int.mul_left_comm]
  rw [this, hA, hB]
  simp only [Int.mul_assoc, Int.mul_left_comm]

theorem V_int (n : Int) : V (.number (n < 0) n.natAbs 0) n := by
  refine ⟨_, _, _, rfl, 0, by omega, ?_⟩
  unfold sg
  by_cases h : n < 0
  · simp [h]; omega
  · simp [h]; omega

/-- The magnitude of a datum that stands for a whole number. -/
theorem V_mag {s : Bool} {m : Nat} {e n : Int} {B : Nat} (h : sg s * m * (2 : Int) ^ (e + B).toNat = n * (2 : Int) ^ B) :
    m * 2 ^ (e + B).toNat = n.natAbs * 2 ^ B := by
  have := congrArg Int.natAbs h
  simpa [Int.natAbs_mul, Int.natAbs_pow, sg, apply_ite Int.natAbs] using this

theorem log2_mul_pow (m k : Nat) (h : m ≠ 0) : (m * 2 ^ k).log2 = m.log2 + k := by
  have h1 := Nat.log2_self_le h
  have h2 := Nat.lt_log2_self (n := m)
  refine (Nat.log2_eq_iff (Nat.mul_ne_zero h (Nat.pos_iff_ne_zero.1 (Nat.two_pow_pos k)))).2 ⟨?_, ?_⟩
  · rw [Nat.pow_add]; exact Nat.mul_le_mul_right _ h1
  · rw [show m.log2 + k + 1 = (m.log2 + 1) + k from by omega, Nat.pow_add]
    exact Nat.mul_lt_mul_of_pos_right h2 (Nat.two_pow_pos k)


theorem dbl_lp : double.leastPlace = -1074 := by simp [Format.leastPlace, double]
theorem dbl_bin : double.binade = 2 ^ 52 := rfl
theorem dbl_inf : double.infRung = 2047 * 2 ^ 52 := by simp [Format.infRung, double, Format.binade]
theorem dbl_sw : double.signWeight = 2 ^ 63 := rfl

theorem word_neg (s : Bool) (r : Nat) (h : r < 2 ^ 63) : (double.word s r / double.signWeight % 2 == 1) = s := by
  unfold Format.word
  rw [dbl_sw]
  cases s
  · have : r / 2 ^ 63 = 0 := Nat.div_eq_of_lt h
    simp only [Bool.false_eq_true, if_false, this]
    rfl
  · have : (2 ^ 63 + r) / 2 ^ 63 = 1 := by omega
    simp only [if_true, this]
    rfl
theorem word_rung (s : Bool) (r : Nat) (h : r < 2 ^ 63) : double.word s r % double.signWeight = r := by
  unfold Format.word
  rw [dbl_sw]
  cases s
  · simp only [Bool.false_eq_true, if_false]; exact Nat.mod_eq_of_lt h
  · simp only [if_true]; omega
theorem read_zero (s : Bool) : double.read (double.word s 0) = .number s 0 (-1074) := by
  unfold Format.read
  simp only [word_neg s 0 (by omega), word_rung s 0 (by omega), dbl_lp]
  rw [dbl_bin, if_pos (by omega)]
theorem min_rung (K q : Nat) (hK : K < 53) (hhi : q < 2 ^ 53) : min ((K + 1022) * 2 ^ 52 + q) (2047 * 2 ^ 52) = (K + 1022) * 2 ^ 52 + q := Nat.min_eq_left (by omega)
theorem read_norm (s : Bool) (K q : Nat) (hK : K < 53) (hlo : 2 ^ 52 ≤ q) (hhi : q < 2 ^ 53) :
    double.read (double.word s ((K + 1022) * 2 ^ 52 + q)) = .number s q ((K : Int) - 52) := by
  have hr : (K + 1022) * 2 ^ 52 + q < 2 ^ 63 := by omega
  unfold Format.read
  simp only [word_neg s _ hr, word_rung s _ hr, dbl_lp]
  rw [dbl_bin, dbl_inf, if_neg (by omega), if_pos (by omega)]
  have h1 : 2 ^ 52 + ((K + 1022) * 2 ^ 52 + q) % 2 ^ 52 = q := by omega
  have h2 : (-1074 : Int) + ((((K + 1022) * 2 ^ 52 + q) / 2 ^ 52 - 1 : Nat) : Int) = (K : Int) - 52 := by omega
  rw [h1, h2]

/-- Cutting off what is nought. -/
theorem cut_exact (neg : Bool) (q k : Nat) : Toward.even.cut neg (q * 2 ^ k) k = q := by
  by_cases hq : q = 0
  · subst hq
    unfold Toward.cut
    simp
  unfold Toward.cut
  have hl : min k ((q * 2 ^ k).log2 + 2) = k := by rw [log2_mul_pow q k hq]; omega
  simp only [hl, Nat.one_shiftLeft]
  have h1 : q * 2 ^ k % 2 ^ k = 0 := Nat.mul_mod_left _ _
  have h2 : q * 2 ^ k / 2 ^ k = q := Nat.mul_div_cancel _ (Nat.two_pow_pos k)
  rw [h1, h2]
  have h3 : ¬ (2 ^ k < 2 * 0) := by omega
  simp [h3]

/-- The word of a whole number below 2^53 stands for it. -/
theorem read_nearest {s : Bool} {m : Nat} {e n : Int} {B : Nat} (h0 : 0 ≤ e + B) (h : sg s * m * (2 : Int) ^ (e + B).toNat = n * (2 : Int) ^ B) (hn : n.natAbs < 2 ^ 53) :
    V (double.read (double.nearest s m e)) n := by
  by_cases hm : m = 0
  · subst hm
    have hn0 : n = 0 := by
      have := Int.pow_pos (m := B) (show (0 : Int) < 2 by omega)
      simp only [Int.natCast_zero, Int.mul_zero, Int.zero_mul] at h
      rcases Int.mul_eq_zero.1 h.symm with h | h <;> omega
    subst hn0
    unfold Format.nearest
    rw [if_pos rfl, read_zero]
    exact ⟨s, 0, _, rfl, 1074, by omega, by rw [Int.natCast_zero, Int.mul_zero, Int.zero_mul, Int.zero_mul]⟩
  have hM := V_mag h
  have hM0 : n.natAbs ≠ 0 := by
    intro hz
    rw [hz, Nat.zero_mul] at hM
    exact hm (by rcases Nat.mul_eq_zero.1 hM with h | h; exact h; exact absurd h (Nat.pos_iff_ne_zero.1 (Nat.two_pow_pos _)))
  have hlog : m.log2 + (e + B).toNat = n.natAbs.log2 + B := by rw [← log2_mul_pow m _ hm, ← log2_mul_pow _ _ hM0, hM]
  have hK : n.natAbs.log2 < 53 := (Nat.log2_lt hM0).2 hn
  generalize hKe : n.natAbs.log2 = K at *
  generalize hLe : m.log2 = L at *
  have he : e = (K : Int) - L := by omega
  have hkept : ∃ q, q = n.natAbs * 2 ^ (52 - K) := ⟨_, rfl⟩
  obtain ⟨q, hq⟩ := hkept
  have hcut : Toward.even.cut s (m <<< (e - ((K : Int) - 52)).toNat) ((K : Int) - 52 - e).toNat = q := by
    by_cases hL : L ≤ 52
    · have e1 : ((K : Int) - 52 - e).toNat = 0 := by omega
      have e2 : (e - ((K : Int) - 52)).toNat = 52 - L := by omega
      rw [e1, e2, Nat.shiftLeft_eq]
      have h3 := cut_exact s (m * 2 ^ (52 - L)) 0
      rw [Nat.pow_zero, Nat.mul_one] at h3
      rw [h3, hq]
      by_cases hKL : L ≤ K
      · have h4 : (e + B).toNat = (K - L) + B := by omega
        rw [h4, Nat.pow_add, ← Nat.mul_assoc] at hM
        have h5 := Nat.eq_of_mul_eq_mul_right (Nat.two_pow_pos B) hM
        rw [← h5, Nat.mul_assoc, ← Nat.pow_add]
        congr 2; omega
      · have h4 : B = (L - K) + (e + B).toNat := by omega
        rw [h4, Nat.pow_add, ← Nat.mul_assoc] at hM
        have h6 : (e + ((L - K + (e + (B : Int)).toNat : Nat) : Int)).toNat = (e + B).toNat := by omega
        rw [h6] at hM
        have h5 := Nat.eq_of_mul_eq_mul_right (Nat.two_pow_pos _) hM
        rw [h5, Nat.mul_assoc, ← Nat.pow_add]
        congr 2; omega
    · have e2 : (e - ((K : Int) - 52)).toNat = 0 := by omega
      have e1 : ((K : Int) - 52 - e).toNat = L - 52 := by omega
      rw [e1, e2, Nat.shiftLeft_zero]
      have h4 : B = (L - K) + (e + B).toNat := by omega
      rw [h4, Nat.pow_add, ← Nat.mul_assoc] at hM
      have h6 : (e + ((L - K + (e + (B : Int)).toNat : Nat) : Int)).toNat = (e + B).toNat := by omega
      rw [h6] at hM
      have h5 := Nat.eq_of_mul_eq_mul_right (Nat.two_pow_pos _) hM
      have h7 : m = q * 2 ^ (L - 52) := by
        rw [h5, hq, Nat.mul_assoc, ← Nat.pow_add]
        congr 2; omega
      rw [h7]
      exact cut_exact s q (L - 52)
  have hlo : 2 ^ 52 ≤ q := by
    have := Nat.log2_self_le hM0
    rw [hKe] at this
    calc 2 ^ 52 = 2 ^ K * 2 ^ (52 - K) := by rw [← Nat.pow_add]; congr 1; omega
      _ ≤ _ := by rw [hq]; exact Nat.mul_le_mul_right _ this
  have hhi : q < 2 ^ 53 := by
    have := Nat.lt_log2_self (n := n.natAbs)
    rw [hKe] at this
    calc q < 2 ^ (K + 1) * 2 ^ (52 - K) := by rw [hq]; exact Nat.mul_lt_mul_of_pos_right this (Nat.two_pow_pos _)
      _ = _ := by rw [← Nat.pow_add]; congr 1; omega
  have hw : double.nearest s m e = double.word s ((K + 1022) * 2 ^ 52 + q) := by
    unfold Format.nearest
    rw [if_neg hm]
    have hlp := dbl_lp
    have hfb : (double.fractionBits : Int) = 52 := rfl
    have hlast : max (e + ((Nat.log2 m : Nat) : Int) - (double.fractionBits : Int)) double.leastPlace = (K : Int) - 52 := by rw [hlp, hfb, hLe]; omega
    simp only [hlast, hcut]
    have h1 : ((K : Int) - 52 - double.leastPlace).toNat = K + 1022 := by rw [hlp]; omega
    rw [h1]
    rw [dbl_bin, dbl_inf, min_rung K q hK hhi]
  rw [hw]
  have hread := read_norm s K q hK hlo hhi
  rw [hread]
  refine ⟨s, q, _, rfl, 52, by omega, ?_⟩
  have h1 : ((K : Int) - 52 + (52 : Nat)).toNat = K := by omega
  rw [h1]
  have hs : sg s * n.natAbs = n := by
    have hpos := Int.pow_pos (m := B) (show (0 : Int) < 2 by omega)
    have hz : sg s * (n.natAbs * (2 : Int) ^ B) = n * 2 ^ B := by
      have h9 : ((m * 2 ^ (e + B).toNat : Nat) : Int) = ((n.natAbs * 2 ^ B : Nat) : Int) := by rw [hM]
      push_cast at h9
      rw [← Int.mul_assoc] 
      rw [Int.mul_assoc, ← h, Int.mul_assoc]
      congr 1
      simpa using h9.symm
    rw [← Int.mul_assoc] at hz
    exact Int.eq_of_mul_eq_mul_right (by omega) hz
  rw [hq]
  rw [Int.natCast_mul, Int.natCast_pow, show ((2 : Nat) : Int) = 2 from rfl, Int.mul_assoc, Int.mul_assoc, ← Int.pow_add, show 52 - K + K = 52 from by omega, ← Int.mul_assoc, hs]

theorem V_write {d : Datum} {n : Int} (h : V d n) (hn : n.natAbs < 2 ^ 53) : V (double.read (double.write d)) n := by
  obtain ⟨s, m, e, rfl, B, h0, h⟩ := h
  exact read_nearest h0 h hn

/-- A float64's word that stands for the whole number n. -/
def FW (b : Nat) (n : Int) : Prop := V (double.read b) n

theorem FW_int {n : Int} (hn : n.natAbs < 2 ^ 53) : FW (floatOfInt .f64 n) n := V_write (V_int n) hn

theorem FW_add {a b : Nat} {x y : Int} (ha : FW a x) (hb : FW b y) (hn : (x + y).natAbs < 2 ^ 53) : ∃ r, floatBits .add .f64 a b = some r ∧ FW r (x + y) := by
  obtain ⟨d, hd, hv⟩ := V_sum ha hb
  exact ⟨double.write d, congrArg (Option.map double.write) hd, V_write hv hn⟩
theorem FW_sub {a b : Nat} {x y : Int} (ha : FW a x) (hb : FW b y) (hn : (x - y).natAbs < 2 ^ 53) : ∃ r, floatBits .sub .f64 a b = some r ∧ FW r (x - y) := by
  obtain ⟨d, hd, hv⟩ := V_sum ha (V_neg hb)
  rw [← Int.sub_eq_add_neg] at hv
  exact ⟨double.write d, congrArg (Option.map double.write) hd, V_write hv hn⟩
theorem FW_mul {a b : Nat} {x y : Int} (ha : FW a x) (hb : FW b y) (hn : (x * y).natAbs < 2 ^ 53) : ∃ r, floatBits .mul .f64 a b = some r ∧ FW r (x * y) := by
  obtain ⟨d, hd, hv⟩ := V_mul ha hb
  exact ⟨double.write d, congrArg (Option.map double.write) hd, V_write hv hn⟩

/-- Two parts. -/
def CW (re im : Nat) (x y : Int) : Prop := FW re x ∧ FW im y

theorem CW_add {a b c d : Nat} {x y u v : Int} (h1 : CW a b x y) (h2 : CW c d u v) (hr : (x + u).natAbs < 2 ^ 53) (hi : (y + v).natAbs < 2 ^ 53) :
    ∃ re im, cSumBits .add .f64 a b c d = some (re, im) ∧ CW re im (x + u) (y + v) := by
  obtain ⟨re, e1, f1⟩ := FW_add h1.1 h2.1 hr
  obtain ⟨im, e2, f2⟩ := FW_add h1.2 h2.2 hi
  exact ⟨re, im, by simp [cSumBits, e1, e2], f1, f2⟩

theorem CW_mul {a b c d : Nat} {x y u v : Int} (h1 : CW a b x y) (h2 : CW c d u v) (b1 : (x * u).natAbs < 2 ^ 53) (b2 : (y * v).natAbs < 2 ^ 53)
    (b3 : (x * v).natAbs < 2 ^ 53) (b4 : (y * u).natAbs < 2 ^ 53) (hr : (x * u - y * v).natAbs < 2 ^ 53) (hi : (x * v + y * u).natAbs < 2 ^ 53) :
    ∃ re im, cMulBits a b c d = some (re, im) ∧ CW re im (x * u - y * v) (x * v + y * u) := by
  obtain ⟨ac, e1, f1⟩ := FW_mul h1.1 h2.1 b1
  obtain ⟨bd, e2, f2⟩ := FW_mul h1.2 h2.2 b2
  obtain ⟨re, e3, f3⟩ := FW_sub f1 f2 hr
  obtain ⟨ad, e4, f4⟩ := FW_mul h1.1 h2.2 b3
  obtain ⟨bc, e5, f5⟩ := FW_mul h1.2 h2.1 b4
  obtain ⟨im, e6, f6⟩ := FW_add f4 f5 hi
  exact ⟨re, im, by simp [cMulBits, e1, e2, e3, e4, e5, e6], f3, f6⟩

/-- How two whole numbers stand. -/
theorem FW_order {a b : Nat} {x y : Int} (ha : FW a x) (hb : FW b y) : double.order a b = some (compare x y) := by
  obtain ⟨s, m, i, hA', A, hA0, hA⟩ := ha
  obtain ⟨t, n, j, hB', B, hB0, hB⟩ := hb
  unfold Format.order
  rw [hA', hB']
  simp only [Datum.order]
  have h1 := V_up hA0 hA B
  have h2 := V_up hB0 hB A
  rw [Nat.add_comm B A] at h2
  have e1 : (i + (A + B : Nat)).toNat = (i - min i j).toNat + (min i j + (A + B : Nat)).toNat := by omega
  have e2 : (j + (A + B : Nat)).toNat = (j - min i j).toNat + (min i j + (A + B : Nat)).toNat := by omega
  rw [e1, Int.pow_add, ← Int.mul_assoc, ← signed_eq] at h1
  rw [e2, Int.pow_add, ← Int.mul_assoc, ← signed_eq] at h2
  generalize signed s m (i - min i j).toNat = S at *
  generalize signed t n (j - min i j).toNat = T at *
  have hp : (0 : Int) < 2 ^ (min i j + (A + B : Nat)).toNat := Int.pow_pos (by omega)
  have hq : (0 : Int) < 2 ^ (A + B) := Int.pow_pos (by omega)
  generalize (2 : Int) ^ (min i j + (A + B : Nat)).toNat = p at *
  generalize (2 : Int) ^ (A + B) = q at *
  congr 1
  rcases Int.lt_trichotomy x y with h | h | h
  · have hlt : S < T := by
      have : x * q < y * q := Int.mul_lt_mul_of_pos_right h hq
      rw [← h1, ← h2] at this
      exact Int.lt_of_mul_lt_mul_right this (by omega)
    show compareOfLessAndEq S T = compareOfLessAndEq x y
    unfold compareOfLessAndEq
    rw [if_pos hlt, if_pos h]
  · have heq : S = T := by
      rw [h, ← h2] at h1
      exact Int.eq_of_mul_eq_mul_right (by omega) h1
    rw [heq, h]; simp
  · have hlt : T < S := by
      have : y * q < x * q := Int.mul_lt_mul_of_pos_right h hq
      rw [← h1, ← h2] at this
      exact Int.lt_of_mul_lt_mul_right this (by omega)
    show compareOfLessAndEq S T = compareOfLessAndEq x y
    unfold compareOfLessAndEq
    rw [if_neg (by omega), if_neg (by omega), if_neg (by omega), if_neg (by omega)]

/-- As an int. -/
theorem FW_toInt {a : Nat} {x : Int} (ha : FW a x) : (double.read a).toInt .zero = some x := by
  obtain ⟨s, m, e, hA', B, h0, h⟩ := ha
  rw [hA']
  simp only [Datum.toInt, Datum.integral]
  rw [signed_eq]
  congr 1
  by_cases he : 0 ≤ e
  · have e1 : (-e).toNat = 0 := by omega
    have e2 : (e + B).toNat = e.toNat + B := by omega
    have hpos : (0 : Int) < 2 ^ B := Int.pow_pos (by omega)
    have h3 : Toward.zero.cut s (m <<< e.toNat) 0 = m <<< e.toNat := by
      unfold Toward.cut; simp
    rw [e1, h3, Nat.shiftLeft_eq]
    rw [e2, Int.pow_add, ← Int.mul_assoc] at h
    have := Int.eq_of_mul_eq_mul_right (by omega) h
    rw [← this]; simp [Int.mul_assoc]
  · have e1 : e.toNat = 0 := by omega
    have hM := V_mag h
    have hB' : B = (-e).toNat + (e + B).toNat := by omega
    have hpos : (0 : Int) < 2 ^ (e + B).toNat := Int.pow_pos (by omega)
    have hm : m = x.natAbs * 2 ^ (-e).toNat := by
      rw [hB', Nat.pow_add, ← Nat.mul_assoc] at hM
      have h6 : (e + (((-e).toNat + (e + (B : Int)).toNat : Nat) : Int)).toNat = (e + B).toNat := by omega
      rw [h6] at hM
      exact Nat.eq_of_mul_eq_mul_right (Nat.two_pow_pos _) hM
    have hs : sg s * x.natAbs = x := by
      rw [hB', Int.pow_add, ← Int.mul_assoc] at h
      have h6 : (e + (((-e).toNat + (e + (B : Int)).toNat : Nat) : Int)).toNat = (e + B).toNat := by omega
      rw [h6] at h
      have h7 := Int.eq_of_mul_eq_mul_right (by omega) h
      rw [hm, Int.natCast_mul, Int.natCast_pow, show ((2 : Nat) : Int) = 2 from rfl, ← Int.mul_assoc] at h7
      have hp2 : (0 : Int) < 2 ^ (-e).toNat := Int.pow_pos (by omega)
      exact Int.eq_of_mul_eq_mul_right (by omega) h7
    have hcut : Toward.zero.cut s (m <<< e.toNat) (-e).toNat = x.natAbs := by
      rw [e1, Nat.shiftLeft_zero, hm]
      by_cases hz : x.natAbs = 0
      · rw [hz]; unfold Toward.cut; simp
      unfold Toward.cut
      have hl : min (-e).toNat ((x.natAbs * 2 ^ (-e).toNat).log2 + 2) = (-e).toNat := by rw [log2_mul_pow _ _ hz]; omega
      simp only [hl, Nat.one_shiftLeft, Nat.mul_div_cancel _ (Nat.two_pow_pos _)]
      rfl
    rw [hcut, Int.pow_zero, Int.mul_one, hs]

theorem FW_toIntVal {a : Nat} {x : Int} (ha : FW a x) (h1 : -9223372036854775808 ≤ x) (h2 : x ≤ 9223372036854775807) : floatToIntVal .f64 a .i64 = some x := by
  have h : (FloatKind.f64.decode a).toInt .zero = some x := FW_toInt ha
  unfold floatToIntVal
  rw [h]
  exact if_pos ⟨h1, h2⟩

end Go.Proofs.Ytaombjljahpncaa
