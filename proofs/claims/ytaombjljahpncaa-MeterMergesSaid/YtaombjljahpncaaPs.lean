import Derived.Test.YtaombjljahpncaaPr
set_option linter.unusedVariables false
set_option linter.unusedSimpArgs false
namespace Go.Proofs.Ytaombjljahpncaa
open Go.RowKit

def bsm (q : Int → Int) (k : Int) (xs : List Int) : Int := bsum q k xs (min xs.length 1000)
def pick3 (one two : Int) : Int := if one = 0 ∧ two = 0 then 0 else if one < two then 2 else 1
def strong (xs : List Int) : Int := pick3 (pw (bsm qre 1 xs) (bsm qim 1 xs)) (pw (bsm qre 2 xs) (bsm qim 2 xs))

set_option maxHeartbeats 1000000 in
theorem Strongest_calls (a : Option Addr) (xs : List Int) (cap : Nat) (w : World) (hr : RdI w a xs) (hc : xs.length ≤ cap) (hm : cap ≤ 9223372036854775807) :
    Calls Try.prog 28 #[.slice a xs.length cap] w fun e w' => e = .returned (.int .i64 (strong xs)) ∧ w' = w := by
  have HR := hid hr
  clear hr
  go_enter Try.func28, Try.ntmps28
  go_wp2_with fail
  refine (Bin_calls _ _ _ _ _ HR.out hc hm).mono ?_
  rintro e w' ⟨c1, d1, rfl, h1, rfl⟩
  have H1 := hid h1
  clear h1
  go_wp2_with fail
  refine (Power_calls _ _ _ _ H1.out _).mono ?_
  rintro e w' ⟨rfl, rfl⟩
  generalize hone : pw (bsum qre 1 xs (min xs.length 1000)) (bsum qim 1 xs (min xs.length 1000)) = one
  have HONE := hid hone
  clear hone
  go_wp2_with fail
  refine (Bin_calls _ _ _ _ _ HR.out hc hm).mono ?_
  rintro e w' ⟨c2, d2, rfl, h2, rfl⟩
  have H2 := hid h2
  clear h2
  go_wp2_with fail
  refine (Power_calls _ _ _ _ H2.out _).mono ?_
  rintro e w' ⟨rfl, rfl⟩
  generalize htwo : pw (bsum qre 2 xs (min xs.length 1000)) (bsum qim 2 xs (min xs.length 1000)) = two
  have HTWO := hid htwo
  clear htwo
  have HS : Hid (strong xs = pick3 one two) := by
    show strong xs = pick3 one two
    unfold strong bsm
    rw [HONE.out, HTWO.out]
  by_cases c1 : one = 0
  · by_cases c2 : two = 0
    · subst c1 c2
      go_wp2_with fail
      go_ret
      exact ⟨ret_int (by rw [HS.out]; simp [pick3]), rfl⟩
    · subst c1
      have b2 : (two == 0) = false := beq_eq_false_iff_ne.2 c2
      by_cases c3 : 0 < two
      all_goals
        go_wp2_with fail
        go_ret
        exact ⟨ret_int (by rw [HS.out]; simp [pick3, c2, c3]), rfl⟩
  · have b1 : (one == 0) = false := beq_eq_false_iff_ne.2 c1
    by_cases c3 : one < two
    all_goals
      go_wp2_with fail
      go_ret
      exact ⟨ret_int (by rw [HS.out]; simp [pick3, c1, c3]), rfl⟩

theorem bsm_bd (q : Int → Int) (h3 : ∀ n, q n = 1 ∨ q n = 0 ∨ q n = -1) (k : Int) (xs : List Int) : (bsm q k xs).natAbs ≤ 1048576000 := by
  unfold bsm
  have := bsum_bd q h3 k xs (min xs.length 1000)
  omega
theorem cl_id {x : Int} (h : x.natAbs ≤ 1073741824) : cl x = x := by unfold cl; omega
theorem pw_id {x y : Int} (h : x.natAbs ≤ 1073741824) (h' : y.natAbs ≤ 1073741824) : pw x y = x * x + y * y := by unfold pw; rw [cl_id h, cl_id h']
theorem pw_bsm (k : Int) (xs : List Int) : pw (bsm qre k xs) (bsm qim k xs) = bsm qre k xs * bsm qre k xs + bsm qim k xs * bsm qim k xs := by
  have h1 := bsm_bd qre qre_3 k xs
  have h2 := bsm_bd qim qim_3 k xs
  exact pw_id (by omega) (by omega)

theorem RdI.below {w w1 : World} {a : Option Addr} {xs : List Int} (h : RdI w a xs) (hb : Below w.heap.size w w1) : RdI w1 a xs := by
  rcases h with h | ⟨b, off, rfl, h⟩
  · exact .inl h
  · refine .inr ⟨b, off, rfl, fun j hj => ?_⟩
    rw [hb.cell (World.block_lt_of_cell? w _ (h j hj)), h j hj]

set_option maxHeartbeats 1000000 in
theorem rStrongest_calls (a : Option Addr) (xs : List Int) (cap : Nat) (w : World) (hr : RdI w a xs) (hc : xs.length ≤ cap) (hm : cap ≤ 9223372036854775807) :
    Calls Try.prog 31 #[.slice a xs.length cap] w fun e w' => e = .returned (.int .i64 (strong xs)) ∧ Below w.heap.size w w' := by
  have HR := hid hr
  clear hr
  have q1 := bsm_bd qre qre_3 1 xs
  have q2 := bsm_bd qim qim_3 1 xs
  have q3 := bsm_bd qre qre_3 2 xs
  have q4 := bsm_bd qim qim_3 2 xs
  go_enter Try.func31, Try.ntmps31
  go_wp2_with fail
  refine (rBin_calls _ _ _ _ _ HR.out hc hm).mono ?_
  rintro e w1 ⟨rfl, hb1⟩
  have HB1 := hid hb1
  have HR1 := hid (HR.out.below hb1)
  clear hb1
  go_wp2_with fail
  refine (rPower_calls _ _ (by unfold bsm at *; omega) (by unfold bsm at *; omega) _).mono ?_
  rintro e w2 ⟨rfl, hb2⟩
  have hone : pw (bsm qre 1 xs) (bsm qim 1 xs) = bsum qre 1 xs (min xs.length 1000) * bsum qre 1 xs (min xs.length 1000) + bsum qim 1 xs (min xs.length 1000) * bsum qim 1 xs (min xs.length 1000) := pw_bsm 1 xs
  rw [← hone]
  clear hone
  generalize hone : pw (bsm qre 1 xs) (bsm qim 1 xs) = one
  have HB2 := hid (below_trans HB1.out hb2)
  have HR2 := hid (HR1.out.below hb2)
  have HONE := hid hone
  clear hone hb2
  go_wp2_with fail
  refine (rBin_calls _ _ _ _ _ HR2.out hc hm).mono ?_
  rintro e w3 ⟨rfl, hb3⟩
  have HB3 := hid (below_trans HB2.out hb3)
  clear hb3
  go_wp2_with fail
  refine (rPower_calls _ _ (by unfold bsm at *; omega) (by unfold bsm at *; omega) _).mono ?_
  rintro e w4 ⟨rfl, hb4⟩
  have htwo : pw (bsm qre 2 xs) (bsm qim 2 xs) = bsum qre 2 xs (min xs.length 1000) * bsum qre 2 xs (min xs.length 1000) + bsum qim 2 xs (min xs.length 1000) * bsum qim 2 xs (min xs.length 1000) := pw_bsm 2 xs
  rw [← htwo]
  clear htwo
  generalize htwo : pw (bsm qre 2 xs) (bsm qim 2 xs) = two
  have HB4 := hid (below_trans HB3.out hb4)
  have HTWO := hid htwo
  clear htwo hb4
  have HS : Hid (strong xs = pick3 one two) := by
    show strong xs = pick3 one two
    unfold strong
    rw [HONE.out, HTWO.out]
  by_cases c1 : one = 0
  · by_cases c2 : two = 0
    · subst c1 c2
      go_wp2_with fail
      go_ret
      exact ⟨ret_int (by rw [HS.out]; simp [pick3]), HB4.out⟩
    · subst c1
      have b2 : (two == 0) = false := beq_eq_false_iff_ne.2 c2
      by_cases c3 : 0 < two
      all_goals
        go_wp2_with fail
        go_ret
        exact ⟨ret_int (by rw [HS.out]; simp [pick3, c2, c3]), HB4.out⟩
  · have b1 : (one == 0) = false := beq_eq_false_iff_ne.2 c1
    by_cases c3 : one < two
    all_goals
      go_wp2_with fail
      go_ret
      exact ⟨ret_int (by rw [HS.out]; simp [pick3, c1, c3]), HB4.out⟩

end Go.Proofs.Ytaombjljahpncaa
