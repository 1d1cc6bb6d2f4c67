import Derived.Test.YtaombjljahpncaaProg
import Derived.Test.YtaombjljahpncaaFl
import Derived.Test.YtaombjljahpncaaBk
import Derived.WalkKit
import Derived.WalkSpells
import Derived.WalkLawsBesides
import Derived.KernelRfl
set_option linter.unusedVariables false
set_option linter.unusedSimpArgs false
namespace Go.Proofs.Ytaombjljahpncaa
open Go.RowKit


def sml (x : Int) : Int := min (max x (-1048576)) 1048576
theorem sml_bd (x : Int) : -1048576 ≤ sml x ∧ sml x ≤ 1048576 := by unfold sml; omega

set_option maxHeartbeats 400000 in
theorem small_calls (x : Int) (w : World) :
    Calls Try.prog 56 #[.int .i64 x, .int .i64 1048576] w fun e w' => e = .returned (.int .i64 (sml x)) ∧ w' = w := by
  go_enter Try.func56, Try.ntmps56
  go_wp2
  all_goals
    go_ret
    exact ⟨ret_int (by unfold sml; omega), rfl⟩

theorem order_self {b : Nat} {x : Int} (hb : FW b x) : FloatKind.f64.format.order b b = some .eq := by
  have h := FW_order hb hb
  have : compare x x = .eq := by simp
  rw [this] at h
  exact h

set_option maxHeartbeats 400000 in
theorem isNaN_calls (b : Nat) (x : Int) (hb : FW b x) (w : World) :
    Calls Try.prog 63 #[.float .f64 b] w fun e w' => e = .returned (.bool false) ∧ w' = w := by
  have h := order_self hb
  go_enter Try.func63, Try.ntmps63
  go_wp2
  go_ret
  exact ⟨rfl, rfl⟩

set_option maxHeartbeats 400000 in
theorem Of_calls (a b : Int) (w : World) :
    Calls Try.prog 40 #[.int .i64 a, .int .i64 b] w fun e w' => e = .returned (.complex .f64 (floatOfInt .f64 (sml a)) (floatOfInt .f64 (sml b))) ∧ w' = w := by
  go_enter Try.func40, Try.ntmps40
  go_wp2_with (go_at_call 56; refine (small_calls _ _).mono ?_; rintro e w' ⟨rfl, rfl⟩)
  go_ret
  exact ⟨rfl, rfl⟩

def cl (x : Int) : Int := min (max x (-1073741824)) 1073741824

theorem FW_part : FW 4742290407621132288 1073741824 := ⟨false, 4503599627370496, -22, by decide +kernel, 22, by decide, by decide +kernel⟩
theorem FW_mpart : FW 13965662444475908096 (-1073741824) := ⟨true, 4503599627370496, -22, by decide +kernel, 22, by decide, by decide +kernel⟩

theorem ge_some {a b : Nat} {x y : Int} (ha : FW a x) (hb : FW b y) : (FloatKind.f64.format.order a b == some .gt || FloatKind.f64.format.order a b == some .eq) = decide (y ≤ x) := by
  have h := FW_order ha hb
  have h' : FloatKind.f64.format.order a b = some (compare x y) := h
  rw [h']
  show (some (compareOfLessAndEq x y) == some .gt || some (compareOfLessAndEq x y) == some .eq) = decide (y ≤ x)
  unfold compareOfLessAndEq
  rcases Int.lt_trichotomy x y with h | h | h
  · rw [if_pos h, decide_eq_false (by omega)]; rfl
  · subst h; simp
  · rw [if_neg (by omega), if_neg (by omega), decide_eq_true (by omega)]; rfl
theorem le_some {a b : Nat} {x y : Int} (ha : FW a x) (hb : FW b y) : (FloatKind.f64.format.order a b == some .lt || FloatKind.f64.format.order a b == some .eq) = decide (x ≤ y) := by
  have h := FW_order ha hb
  have h' : FloatKind.f64.format.order a b = some (compare x y) := h
  rw [h']
  show (some (compareOfLessAndEq x y) == some .lt || some (compareOfLessAndEq x y) == some .eq) = decide (x ≤ y)
  unfold compareOfLessAndEq
  rcases Int.lt_trichotomy x y with h | h | h
  · rw [if_pos h, decide_eq_true (by omega)]; rfl
  · subst h; simp
  · rw [if_neg (by omega), if_neg (by omega), decide_eq_false (by omega)]; rfl

set_option maxHeartbeats 400000 in
theorem whole_calls (b : Nat) (x : Int) (hb : FW b x) (w : World) :
    Calls Try.prog 54 #[.float .f64 b] w fun e w' => e = .returned (.int .i64 (cl x)) ∧ w' = w := by
  have h1 := ge_some hb FW_part
  have h2 := le_some hb FW_mpart
  by_cases c1 : 1073741824 ≤ x
  · rw [decide_eq_true c1] at h1
    clear h2
    go_enter Try.func54, Try.ntmps54
    go_wp2_with (go_at_call 63; refine (isNaN_calls _ _ hb _).mono ?_; rintro e w' ⟨rfl, rfl⟩)
    go_ret
    exact ⟨ret_int (by unfold cl; omega), rfl⟩
  · rw [decide_eq_false c1] at h1
    by_cases c2 : x ≤ -1073741824
    · rw [decide_eq_true c2] at h2
      go_enter Try.func54, Try.ntmps54
      go_wp2_with (go_at_call 63; refine (isNaN_calls _ _ hb _).mono ?_; rintro e w' ⟨rfl, rfl⟩)
      go_ret
      exact ⟨ret_int (by unfold cl; omega), rfl⟩
    · rw [decide_eq_false c2] at h2
      have h3 := fun (w : World) => run_convert_float_int (P := Try.prog) w 78 3 .f64 .i64 b x (by kernel_rfl) (by kernel_rfl) (FW_toIntVal hb (by omega) (by omega))
      go_enter Try.func54, Try.ntmps54
      go_wp2_with (go_at_call 63; refine (isNaN_calls _ _ hb _).mono ?_; rintro e w' ⟨rfl, rfl⟩)
      go_ret
      exact ⟨ret_int (by unfold cl; omega), rfl⟩

set_option maxHeartbeats 400000 in
theorem Parts_calls (a b : Nat) (x y : Int) (h : CW a b x y) (w : World) :
    Calls Try.prog 38 #[.complex .f64 a b] w fun e w' => e = .returned (.tuple #[.int .i64 (cl x), .int .i64 (cl y)]) ∧ w' = w := by
  go_enter Try.func38, Try.ntmps38
  go_wp2_with fail
  refine (whole_calls _ _ h.1 _).mono ?_
  rintro e w' ⟨rfl, rfl⟩
  go_wp2_with fail
  refine (whole_calls _ _ h.2 _).mono ?_
  rintro e w' ⟨rfl, rfl⟩
  go_wp2_with fail
  go_ret2
  exact ⟨rfl, rfl⟩

def qre (n : Int) : Int := if n % 4 = 0 then 1 else if n % 4 = 2 then -1 else 0
def qim (n : Int) : Int := if n % 4 = 1 then 1 else if n % 4 = 3 then -1 else 0

theorem FW_one : FW 4607182418800017408 1 := ⟨false, 4503599627370496, -52, by decide +kernel, 52, by decide, by decide +kernel⟩
theorem FW_mone : FW 13830554455654793216 (-1) := ⟨true, 4503599627370496, -52, by decide +kernel, 52, by decide, by decide +kernel⟩
theorem FW_zero : FW 0 0 := ⟨false, 0, -1074, by decide +kernel, 1074, by decide, by rw [Int.natCast_zero, Int.mul_zero, Int.zero_mul, Int.zero_mul]⟩

theorem and3 (n : Int) : bits .and .i64 n 3 = n % 4 := by
  have h : ((BitVec.ofInt 64 n &&& BitVec.ofInt 64 3).toNat : Int) = n % 4 := by
    have h1 : (BitVec.ofInt 64 n &&& BitVec.ofInt 64 3).toNat = (BitVec.ofInt 64 n).toNat % 4 := by
      rw [BitVec.toNat_and, show (BitVec.ofInt 64 3).toNat = 2 ^ 2 - 1 from by decide, Nat.and_two_pow_sub_one_eq_mod]
    rw [h1, BitVec.toNat_ofInt]
    omega
  show IntKind.i64.wrap ((BitVec.ofInt 64 n &&& BitVec.ofInt 64 3).toNat : Int) = n % 4
  rw [h, IntKind.wrap_i64]
  omega

def RetC (x y : Int) (w : World) (e : Ending) (w' : World) : Prop := ∃ a b, e = .returned (.complex .f64 a b) ∧ CW a b x y ∧ w' = w

@[go_sem] theorem idxC0 (x0 x1 x2 x3 : Value) (w : World) : (Instr.index 89 (.agg #[x0, x1, x2, x3]) (.int .i64 0)).run Try.prog w = .ok x0 w := by kernel_rfl
@[go_sem] theorem idxC1 (x0 x1 x2 x3 : Value) (w : World) : (Instr.index 89 (.agg #[x0, x1, x2, x3]) (.int .i64 1)).run Try.prog w = .ok x1 w := by kernel_rfl
@[go_sem] theorem idxC2 (x0 x1 x2 x3 : Value) (w : World) : (Instr.index 89 (.agg #[x0, x1, x2, x3]) (.int .i64 2)).run Try.prog w = .ok x2 w := by kernel_rfl
@[go_sem] theorem idxC3 (x0 x1 x2 x3 : Value) (w : World) : (Instr.index 89 (.agg #[x0, x1, x2, x3]) (.int .i64 3)).run Try.prog w = .ok x3 w := by kernel_rfl

def qwr (n : Int) : Nat := if n % 4 = 0 then 4607182418800017408 else if n % 4 = 2 then 13830554455654793216 else 0
def qwi (n : Int) : Nat := if n % 4 = 1 then 4607182418800017408 else if n % 4 = 3 then 13830554455654793216 else 0
theorem qw_CW (n : Int) : CW (qwr n) (qwi n) (qre n) (qim n) := by
  have h4 : n % 4 = 0 ∨ n % 4 = 1 ∨ n % 4 = 2 ∨ n % 4 = 3 := by omega
  unfold qwr qwi qre qim
  rcases h4 with h | h | h | h <;> rw [h] <;> simp
  · exact ⟨FW_one, FW_zero⟩
  · exact ⟨FW_zero, FW_one⟩
  · exact ⟨FW_mone, FW_zero⟩
  · exact ⟨FW_zero, FW_mone⟩

set_option maxHeartbeats 400000 in
theorem quarter_calls (n : Int) (w : World) :
    Calls Try.prog 55 #[.int .i64 n] w fun e w' => e = .returned (.complex .f64 (qwr n) (qwi n)) ∧ w' = w := by
  have hb := and3 n
  have h4 : n % 4 = 0 ∨ n % 4 = 1 ∨ n % 4 = 2 ∨ n % 4 = 3 := by omega
  rcases h4 with h | h | h | h
  all_goals
    obtain ⟨r, i, hr, hi⟩ : ∃ r i, r = qwr n ∧ i = qwi n := ⟨_, _, rfl, rfl⟩
    rw [← hr, ← hi]
    unfold qwr at hr
    unfold qwi at hi
    rw [h] at hb hr hi
    clear h
    have Hr := hid hr
    have Hi := hid hi
    clear hr hi
    go_enter Try.func55, Try.ntmps55
    go_wp2
    go_ret
    have hr := Hr.out
    have hi := Hi.out
    simp at hr hi
    subst hr
    subst hi
    exact ⟨rfl, rfl⟩

theorem q_cases (n : Int) : (qre n = 1 ∧ qim n = 0) ∨ (qre n = 0 ∧ qim n = 1) ∨ (qre n = -1 ∧ qim n = 0) ∨ (qre n = 0 ∧ qim n = -1) := by
  unfold qre qim
  omega

theorem Turn_bits {a b : Nat} {x y : Int} (n : Int) (h : CW a b x y) (hx : x.natAbs < 2 ^ 51) (hy : y.natAbs < 2 ^ 51) :
    ∃ re im, cMulBits a b (qwr n) (qwi n) = some (re, im) ∧ CW re im (x * qre n - y * qim n) (x * qim n + y * qre n) := by
  apply CW_mul h (qw_CW n)
  all_goals
    rcases q_cases n with ⟨h1, h2⟩ | ⟨h1, h2⟩ | ⟨h1, h2⟩ | ⟨h1, h2⟩ <;> simp only [h1, h2, Int.mul_zero, Int.mul_one, Int.mul_neg] <;> omega

set_option maxHeartbeats 400000 in
theorem Turn_at (a b re im : Nat) (n : Int) (hm : cMulBits a b (qwr n) (qwi n) = some (re, im)) (w : World) :
    Calls Try.prog 39 #[.complex .f64 a b, .int .i64 n] w fun e w' => e = .returned (.complex .f64 re im) ∧ w' = w := by
  have HM := hid hm
  clear hm
  go_enter Try.func39, Try.ntmps39
  go_wp2_with fail
  refine (quarter_calls _ _).mono ?_
  rintro e w' ⟨rfl, rfl⟩
  have hrun := fun (w : World) => run_complex_mul (P := Try.prog) w 51 a b (qwr n) (qwi n) re im HM.out
  go_wp2_with fail
  go_ret
  exact ⟨rfl, rfl⟩

theorem Turn_calls (a b : Nat) (x y n : Int) (h : CW a b x y) (hx : x.natAbs < 2 ^ 51) (hy : y.natAbs < 2 ^ 51) (w : World) :
    Calls Try.prog 39 #[.complex .f64 a b, .int .i64 n] w (RetC (x * qre n - y * qim n) (x * qim n + y * qre n) w) := by
  obtain ⟨re, im, hm, hc⟩ := Turn_bits n h hx hy
  exact (Turn_at a b re im n hm w).mono fun e w' ⟨he, hw⟩ => ⟨re, im, he, hc, hw⟩

/-- A slice of ints that can be read. -/
def RdI (w : World) (a : Option Addr) (xs : List Int) : Prop := xs = [] ∨ ∃ b off, a = some ⟨b, off, none⟩ ∧ ∀ j, j < xs.length → w.cell? ⟨b, off + j, none⟩ = some (.int .i64 (xs.getD j 0))

def bsum (q : Int → Int) (k : Int) (xs : List Int) : Nat → Int
  | 0 => 0
  | i + 1 => bsum q k xs i + sml (xs.getD i 0) * q (-(k % 4) * ((i : Int) % 4))

theorem bsum_bd (q : Int → Int) (hq : ∀ n, q n = 1 ∨ q n = 0 ∨ q n = -1) (k : Int) (xs : List Int) (i : Nat) : (bsum q k xs i).natAbs ≤ i * 1048576 := by
  induction i with
  | zero => simp [bsum]
  | succ i ih =>
    have h1 := sml_bd (xs.getD i 0)
    simp only [bsum]
    rcases hq (-(k % 4) * ((i : Int) % 4)) with h | h | h <;> rw [h] <;> omega
theorem qre_3 (n : Int) : qre n = 1 ∨ qre n = 0 ∨ qre n = -1 := by unfold qre; omega
theorem qim_3 (n : Int) : qim n = 1 ∨ qim n = 0 ∨ qim n = -1 := by unfold qim; omega

theorem sml_nat (x : Int) : (sml x).natAbs < 2 ^ 53 := by have := sml_bd x; omega

set_option maxHeartbeats 1000000 in
theorem Bin_calls (a : Option Addr) (xs : List Int) (cap : Nat) (k : Int) (w : World) (hr : RdI w a xs) (hc : xs.length ≤ cap) (hm : cap ≤ 9223372036854775807) :
    Calls Try.prog 33 #[.slice a xs.length cap, .int .i64 k] w (RetC (bsum qre k xs (min xs.length 1000)) (bsum qim k xs (min xs.length 1000)) w) := by
  have hz : CW 0 0 0 0 := ⟨FW_zero, FW_zero⟩
  rcases hr with rfl | ⟨b, off, rfl, hcell⟩
  · go_enter Try.func33, Try.ntmps33
    go_wp2_with fail
    refine wp_loop_rounds 1 ?_
    rw [rounds_succ]
    go_wp2_with fail
    go_ret
    exact ⟨_, _, rfl, hz, rfl⟩
  · obtain ⟨m, hmm⟩ : ∃ m, m = min xs.length 1000 := ⟨_, rfl⟩
    rw [← hmm]
    have hm1 : m ≤ xs.length := by omega
    have hm2 : m ≤ 1000 := by omega
    have hml : xs.length ≤ m ∨ 1000 ≤ m := by omega
    have hmx : max (1000 : Int) 0 = 1000 := by decide
    have HM := hid hmm
    have HZ := hid hz
    have HC := hid hcell
    clear hz hcell
    by_cases hL : (xs.length : Int) ≤ 1000
    all_goals
      go_enter Try.func33, Try.ntmps33
      go_wp2_with fail
      clear hmx
      try rw [show (1000 : Nat) = m from by omega]
      try rw [show (1000 : Int) = (m : Int) from by omega]
      clear hmm
      go_loop [5, 14] (fun s i => ∃ (j a b : Nat), j ≤ m ∧ i = .int .i64 j ∧ s = .complex .f64 a b ∧ CW a b (bsum qre k xs j) (bsum qim k xs j)) (fun _ i => m - (intOf i).toNat)
      case atStart => exact ⟨0, 0, 0, Nat.zero_le _, rfl, rfl, HZ.out⟩
      case round =>
        obtain ⟨j, a, b, hj, rfl, rfl, hcw⟩ := hrel
        have hmm := HM.out
        by_cases hlt : j < m
        · obtain ⟨z, hz⟩ : ∃ z, z = xs.getD j 0 := ⟨_, rfl⟩
          have hcj := HC.out j (by omega)
          rw [← hz] at hcj
          have HZJ := hid hz
          clear hz
          have hjl : j < xs.length := by omega
          have e1 := and3 k
          have e2 := and3 (j : Int)
          have HCW := hid hcw
          have hk0 : 0 ≤ k % 4 := by omega
          have hk1 : k % 4 < 4 := by omega
          have hj0 : 0 ≤ (j : Int) % 4 := by omega
          have hj1 : (j : Int) % 4 < 4 := by omega
          clear hcw hmm
          go_wp2_with fail
          refine (Of_calls _ _ _).mono ?_
          rintro e w' ⟨rfl, rfl⟩
          go_wp2_with fail
          have hp : wrap64 (-(k % 4) * ((j : Int) % 4)) = -(k % 4) * ((j : Int) % 4) := by
            unfold wrap64
            have : k % 4 = 0 ∨ k % 4 = 1 ∨ k % 4 = 2 ∨ k % 4 = 3 := by omega
            rcases this with h | h | h | h <;> rw [h] <;> omega
          refine (Turn_calls _ _ (sml z) (sml 0) _ ⟨FW_int (sml_nat _), FW_int (sml_nat _)⟩ (by have := sml_bd z; omega) (by decide) _).mono ?_
          rintro e w' ⟨c, d, rfl, hcd, rfl⟩
          have b1 := bsum_bd qre qre_3 k xs j
          have b2 := bsum_bd qim qim_3 k xs j
          have hs : ∃ re im, cSumBits .add .f64 a b c d = some (re, im) ∧ CW re im (bsum qre k xs (j + 1)) (bsum qim k xs (j + 1)) := by
            have h0 : sml 0 = 0 := rfl
            have hg := HZJ.out.symm
            rw [h0, hp] at hcd
            simp only [Int.zero_mul, Int.sub_zero, Int.add_zero] at hcd
            simp only [bsum, hg]
            have := sml_bd z
            apply CW_add HCW.out hcd
            · rcases qre_3 (-(k % 4) * ((j : Int) % 4)) with h | h | h <;> rw [h] <;> omega
            · rcases qim_3 (-(k % 4) * ((j : Int) % 4)) with h | h | h <;> rw [h] <;> omega
          obtain ⟨re, im, hs, hcs⟩ := hs
          have hrun := fun (w : World) => run_complex_sum (P := Try.prog) w .add (.inl rfl) 51 .f64 a b c d re im hs
          have HS := hid hcs
          clear hs hcs hcd b1 b2 hp e1 e2 hcj HCW
          go_wp2_with fail
          go_round
          case rel => exact ⟨j + 1, re, im, by omega, by go_num, rfl, HS.out⟩
          case measure => simp [intOf]; omega
        · clear hmm
          go_wp2_with fail
          go_ret
          obtain rfl : j = m := by omega
          exact ⟨_, _, rfl, hcw, rfl⟩

end Go.Proofs.Ytaombjljahpncaa
