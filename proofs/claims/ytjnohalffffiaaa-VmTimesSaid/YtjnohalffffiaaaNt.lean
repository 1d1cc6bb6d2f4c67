/- Bytes: what is put is got. -/
import Derived.Test.YtjnohalffffiaaaNd
set_option linter.unusedVariables false
set_option linter.unusedSimpArgs false
namespace Go.Proofs.Ytjnohalffffiaaa
open Go.RowKit

theorem getB_congr (s t : ByteArray) (i n : Nat) (h : ∀ j, i ≤ j → j < i + n → byt s j = byt t j) : getB s i n = getB t i n := by
  induction n with
  | zero => rfl
  | succ n ih =>
    rw [getB, getB, ih (fun j h1 h2 => h j h1 (by omega)), h (i + n) (by omega) (by omega)]
theorem getB_putB (s : ByteArray) (i n : Nat) (v : Int) (h : i + n ≤ s.size) : getB (putB s i n v) i n = v % 256 ^ n := by
  have key : ∀ m, m ≤ n → getB (putB s i n v) i m = v / 256 ^ (n - m) % 256 ^ m := by
    intro m
    induction m with
    | zero => intro _; simp [getB, Int.emod_one]
    | succ m ih =>
      intro hm
      rw [getB, ih (by omega), byt_putB _ _ _ _ _ h, if_pos (by omega), show i + n - 1 - (i + m) = n - (m + 1) by omega, show n - m = (n - (m + 1)) + 1 by omega]
      generalize n - (m + 1) = q
      rw [Int.pow_succ, ← Int.ediv_ediv_of_nonneg (Int.pow_nonneg (by decide))]
      generalize v / 256 ^ q = x
      have hp : (256 : Int) ^ (m + 1) = 256 ^ m * 256 := Int.pow_succ _ _
      have hpos : (0 : Int) < 256 ^ m := Int.pow_pos (by decide)
      rw [hp]
      generalize (256 : Int) ^ m = P at *
      have e1 := Int.emod_add_mul_ediv x 256
      have e2 := Int.emod_add_mul_ediv (x / 256) P
      have r1 := Int.emod_nonneg x (show (256 : Int) ≠ 0 by decide)
      have r2 := Int.emod_lt_of_pos x (show (0 : Int) < 256 by decide)
      have r3 := Int.emod_nonneg (x / 256) (show P ≠ 0 by omega)
      have r4 := Int.emod_lt_of_pos (x / 256) hpos
      have e3 : x = (x / 256 % P * 256 + x % 256) + P * 256 * (x / 256 / P) := by
        have : P * 256 * (x / 256 / P) = 256 * (P * (x / 256 / P)) := by rw [Int.mul_comm P 256, Int.mul_assoc]
        rw [this]; omega
      conv => rhs; rw [e3]
      rw [Int.add_mul_emod_self_left]
      refine (Int.emod_eq_of_lt (by omega) ?_).symm
      have : x / 256 % P * 256 ≤ (P - 1) * 256 := Int.mul_le_mul_of_nonneg_right (by omega) (by decide)
      rw [Int.sub_mul] at this
      omega
  have := key n (Nat.le_refl _)
  rw [this]
  simp
theorem get_put_other (s : ByteArray) (i n j m : Nat) (v : Int) (h : i + n ≤ s.size) (hd : j + m ≤ i ∨ i + n ≤ j) : getB (putB s i n v) j m = getB s j m := by
  refine getB_congr _ _ _ _ fun q h1 h2 => ?_
  rw [byt_putB _ _ _ _ _ h, if_neg (by omega)]

theorem wrapk_mod (k v : Int) (hk : 1 ≤ k ∧ k ≤ 7) : wrapk k (wrapk k v % 256 ^ (ksize k).toNat) = wrapk k v := by
  obtain rfl | rfl | rfl | rfl | rfl | rfl | rfl : k = 1 ∨ k = 2 ∨ k = 3 ∨ k = 4 ∨ k = 5 ∨ k = 6 ∨ k = 7 := by omega
  · show wrapk 1 (wrapk 1 v % 256) = wrapk 1 v
    unfold wrapk
    rw [if_pos rfl]
    by_cases h : v = 0
    · rw [if_pos h]; rfl
    · rw [if_neg h]; rfl
  · show IntKind.i8.wrap (IntKind.i8.wrap v % 256) = IntKind.i8.wrap v
    rw [i8_w, i8_w]; omega
  · show IntKind.i16.wrap (IntKind.i16.wrap v % 65536) = IntKind.i16.wrap v
    rw [i16_w, i16_w]; omega
  · show IntKind.i32.wrap (IntKind.i32.wrap v % 4294967296) = IntKind.i32.wrap v
    rw [i32_w, i32_w]; omega
  · show IntKind.u16.wrap (IntKind.u16.wrap v % 65536) = IntKind.u16.wrap v
    rw [u16_w, u16_w]; omega
  · show IntKind.u16.wrap (IntKind.u16.wrap v % 65536) = IntKind.u16.wrap v
    rw [u16_w, u16_w]; omega
  · show IntKind.u32.wrap (IntKind.u32.wrap v % 4294967296) = IntKind.u32.wrap v
    rw [u32_w, u32_w]; omega
theorem ksize_ok {k : Int} (h : 0 < ksize k) : 1 ≤ k ∧ k ≤ 7 := by
  unfold ksize at h
  repeat' split at h
  all_goals omega
/-- What is put is got. -/
theorem get_put (s : ByteArray) (at_ k v : Int) (hk : 0 < ksize k) (h0 : 0 ≤ at_) (h : at_ + ksize k ≤ s.size) : getk (putk s at_ k v) at_ k = wrapk k v := by
  unfold getk putk
  rw [getB_putB _ _ _ _ (by omega), wrapk_mod k v (ksize_ok hk)]
theorem get_put_ne (s : ByteArray) (at_ k v at2 k2 : Int) (hk : 0 < ksize k) (h0 : 0 ≤ at_) (h : at_ + ksize k ≤ s.size) (h02 : 0 ≤ at2) (hk2 : 0 < ksize k2) (hd : at2 + ksize k2 ≤ at_ ∨ at_ + ksize k ≤ at2) : getk (putk s at_ k v) at2 k2 = getk s at2 k2 := by
  unfold getk putk
  rw [get_put_other _ _ _ _ _ _ (by omega) (by omega)]
end Go.Proofs.Ytjnohalffffiaaa
