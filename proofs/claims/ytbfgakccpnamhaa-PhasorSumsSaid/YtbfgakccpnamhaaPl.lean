import Derived.Test.YtbfgakccpnamhaaPb
import Derived.Deep.RegionHeld3
set_option linter.unusedVariables false
set_option linter.unusedSimpArgs false
namespace Go.Proofs.Ytbfgakccpnamhaa
open Go.RowKit

set_option maxHeartbeats 400000 in
theorem is_calls (a b : Nat) (x y : Int) (h : CW a b x y) (hx : x.natAbs ≤ 1073741824) (hy : y.natAbs ≤ 1073741824) (w : World) :
    Calls Try.prog 11 #[.complex .f64 a b, .agg #[.int .i64 x, .int .i64 y]] w fun e w' => e = .returned (.bool true) ∧ Below w.heap.size w w' := by
  have h1 := cl_id hx
  have h2 := cl_id hy
  have H := hid h
  clear h
  go_enter Try.func11, Try.ntmps11
  go_wp2_with fail
  refine (Parts_calls _ _ _ _ H.out _).mono ?_
  rintro e w' ⟨rfl, rfl⟩
  rw [h1, h2]
  clear h1 h2
  go_wp2_with fail
  go_ret
  exact ⟨rfl, (Below.refl _ _).alloc (Nat.le_refl _) _⟩

set_option maxHeartbeats 400000 in
theorem awake_calls (w : World) :
    Calls Try.prog 7 #[] w fun e w' => e = .returned (.bool true) ∧ Below w.heap.size w w' := by
  go_enter Try.func7, Try.ntmps7
  go_wp2_with fail
  refine (Of_calls _ _ _).mono ?_
  rintro e w' ⟨rfl, rfl⟩
  go_wp2_with fail
  refine (Turn_calls _ _ (sml 3) (sml 5) _ ⟨FW_int (sml_nat _), FW_int (sml_nat _)⟩ (by decide) (by decide) _).mono ?_
  rintro e w' ⟨c1, d1, rfl, h1, rfl⟩
  have H1 := hid h1
  clear h1
  go_wp2_with fail
  refine (Parts_calls _ _ (-5) 3 H1.out _).mono ?_
  rintro e w' ⟨rfl, rfl⟩
  rw [show cl (-5) = -5 from rfl, show cl 3 = 3 from rfl]
  go_wp2_with fail
  refine (Bin_calls _ [5, 1, 5, 1] 4 _ _ (.inr ⟨_, 0, rfl, fun j hj => ?_⟩) (by decide) (by decide)).mono ?_
  · have hj4 : j = 0 ∨ j = 1 ∨ j = 2 ∨ j = 3 := by simp at hj; omega
    rcases hj4 with rfl | rfl | rfl | rfl <;> exact (Blk.new _ _ _).cell _ _ rfl
  rintro e w' ⟨c2, d2, rfl, h2, rfl⟩
  have H2 := hid h2
  clear h2
  go_wp2_with fail
  refine (Parts_calls _ _ 8 0 H2.out _).mono ?_
  rintro e w' ⟨rfl, rfl⟩
  rw [show cl 8 = 8 from rfl, show cl 0 = 0 from rfl]
  go_wp2_with fail
  refine (Of_calls _ _ _).mono ?_
  rintro e w' ⟨rfl, rfl⟩
  go_wp2_with fail
  refine (Power_calls _ _ (sml 3) (sml 4) ⟨FW_int (sml_nat _), FW_int (sml_nat _)⟩ _).mono ?_
  rintro e w' ⟨rfl, rfl⟩
  rw [show pw (sml 3) (sml 4) = 25 from rfl]
  go_wp2_with fail
  go_ret
  exact ⟨rfl, (Below.refl _ _).alloc (Nat.le_refl _) _⟩

theorem keep4 {w1 w2 : World} {p q r s : Addr} {x y u v : Value} (h : w1.cell? p = some x ∧ w1.cell? q = some y ∧ w1.cell? r = some u ∧ w1.cell? s = some v) (hb : Below w1.heap.size w1 w2) :
    w2.cell? p = some x ∧ w2.cell? q = some y ∧ w2.cell? r = some u ∧ w2.cell? s = some v := by
  obtain ⟨h1, h2, h3, h4⟩ := h
  rw [hb.cell (World.block_lt_of_cell? _ _ h1), hb.cell (World.block_lt_of_cell? _ _ h2), hb.cell (World.block_lt_of_cell? _ _ h3), hb.cell (World.block_lt_of_cell? _ _ h4)]
  exact ⟨h1, h2, h3, h4⟩

theorem keep4b {w w1 w2 : World} {p q r s : Addr} {x y u v : Value} (h : w1.cell? p = some x ∧ w1.cell? q = some y ∧ w1.cell? r = some u ∧ w1.cell? s = some v ∧ Below w.heap.size w w1) (hb : Below w1.heap.size w1 w2) :
    w2.cell? p = some x ∧ w2.cell? q = some y ∧ w2.cell? r = some u ∧ w2.cell? s = some v ∧ Below w.heap.size w w2 := by
  obtain ⟨h1, h2, h3, h4, h5⟩ := h
  obtain ⟨k1, k2, k3, k4⟩ := keep4 ⟨h1, h2, h3, h4⟩ hb
  exact ⟨k1, k2, k3, k4, below_trans h5 hb⟩

set_option maxHeartbeats 4000000 in
theorem PhasorTurns_calls (a b n : Int) (w : World) :
    Calls Try.prog 3 #[.int .i64 a, .int .i64 b, .int .i64 n] w fun e w' => e = .returned (.bool true) ∧ Below w.heap.size w w' := by
  have ba := sml_bd a
  have bb := sml_bd b
  go_enter Try.func3, Try.ntmps3
  go_wp2_with fail
  refine (awake_calls _).mono ?_
  rintro e w1 ⟨rfl, hb1⟩
  have HB1 := hid hb1
  clear hb1
  go_wp2_with fail
  refine (rSmall_calls _ _).mono ?_
  rintro e w' ⟨rfl, rfl⟩
  go_wp2_with fail
  refine (rSmall_calls _ _).mono ?_
  rintro e w' ⟨rfl, rfl⟩
  go_wp2_with fail
  refine (Of_calls _ _ _).mono ?_
  rintro e w' ⟨rfl, rfl⟩
  go_wp2_with fail
  refine (rTurn_calls (sml a) (sml b) _ (by omega) (by omega) _).mono ?_
  rintro e w2 ⟨rfl, hb2⟩
  go_wp2_with fail
  obtain ⟨re, im, hm, hc⟩ := Turn_bits (x := sml a) (y := sml b) n ⟨FW_int (sml_nat _), FW_int (sml_nat _)⟩ (by omega) (by omega)
  have hX : (sml a * qre n - sml b * qim n).natAbs ≤ 1048576 ∧ (sml a * qim n + sml b * qre n).natAbs ≤ 1048576 := by
    rcases q_cases n with ⟨h1, h2⟩ | ⟨h1, h2⟩ | ⟨h1, h2⟩ | ⟨h1, h2⟩ <;> simp only [h1, h2, Int.mul_zero, Int.mul_one, Int.mul_neg] <;> omega
  have hP1 : pw (sml a) (sml b) = sml a * sml a + sml b * sml b := pw_id (by omega) (by omega)
  have hP2 : pw (sml a * qre n - sml b * qim n) (sml a * qim n + sml b * qre n) = sml a * sml a + sml b * sml b := by
    rw [pw_id (by omega) (by omega)]
    rcases q_cases n with ⟨h1, h2⟩ | ⟨h1, h2⟩ | ⟨h1, h2⟩ | ⟨h1, h2⟩ <;> simp only [h1, h2, Int.mul_zero, Int.mul_one, Int.mul_neg, Int.neg_mul, Int.neg_neg, Int.sub_zero, Int.zero_sub, Int.add_zero, Int.zero_add] <;> omega
  have HC := hid hc
  have HM := hid hm
  have cc0 := (Blk.new w2 #[Value.int IntKind.i64 (sml a * qre n - sml b * qim n), Value.int IntKind.i64 (sml a * qim n + sml b * qre n)] 25).cell 0 _ rfl
  have cc1 := (Blk.new w2 #[Value.int IntKind.i64 (sml a * qre n - sml b * qim n), Value.int IntKind.i64 (sml a * qim n + sml b * qre n)] 25).cell 1 _ rfl
  have hbk := ((Blk.new w' #[Value.int IntKind.i64 (sml a), Value.int IntKind.i64 (sml b)] 25).below hb2).alloc (.cells #[Value.int IntKind.i64 (sml a * qre n - sml b * qim n), Value.int IntKind.i64 (sml a * qim n + sml b * qre n)] 25)
  have dd0 := hbk.cell 0 _ rfl
  have dd1 := hbk.cell 1 _ rfl
  have hbw : Below w.heap.size w (w2.alloc (.cells #[Value.int IntKind.i64 (sml a * qre n - sml b * qim n), Value.int IntKind.i64 (sml a * qim n + sml b * qre n)] 25)) := by
    refine ((HB1.out.alloc HB1.out.size _).trans (hb2.mono ?_)).alloc ?_ _
    · have := HB1.out.size; simp; omega
    · have := HB1.out.size; have := hb2.size; simp at this; omega
  clear hc hm hbk hb2
  obtain ⟨PP, hPP⟩ : ∃ PP, PP = sml a * sml a + sml b * sml b := ⟨_, rfl⟩
  rw [← hPP] at hP1 hP2
  have pc1 : ∀ w, Calls Try.prog 13 #[.complex .f64 (floatOfInt .f64 (sml a)) (floatOfInt .f64 (sml b))] w fun e w' => e = .returned (.int .i64 PP) ∧ w' = w := fun w => by
    rw [← hP1]; exact Power_calls _ _ _ _ ⟨FW_int (sml_nat _), FW_int (sml_nat _)⟩ w
  have pc2 : ∀ w, Calls Try.prog 13 #[.complex .f64 re im] w fun e w' => e = .returned (.int .i64 PP) ∧ w' = w := fun w => by
    rw [← hP2]; exact Power_calls _ _ _ _ HC.out w
  have pc3 : ∀ w, Calls Try.prog 14 #[.agg #[.int .i64 (sml a), .int .i64 (sml b)]] w fun e w' => e = .returned (.int .i64 PP) ∧ Below w.heap.size w w' := fun w => by
    rw [hPP]; exact rPower_calls _ _ (by omega) (by omega) w
  have pi1 : ∀ w, Calls Try.prog 11 #[.complex .f64 (floatOfInt .f64 (sml a)) (floatOfInt .f64 (sml b)), .agg #[.int .i64 (sml a), .int .i64 (sml b)]] w fun e w' => e = .returned (.bool true) ∧ Below w.heap.size w w' :=
    fun w => is_calls _ _ _ _ ⟨FW_int (sml_nat _), FW_int (sml_nat _)⟩ (by omega) (by omega) w
  have pi2 : ∀ w, Calls Try.prog 11 #[.complex .f64 re im, .agg #[.int .i64 (sml a * qre n - sml b * qim n), .int .i64 (sml a * qim n + sml b * qre n)]] w fun e w' => e = .returned (.bool true) ∧ Below w.heap.size w w' :=
    fun w => is_calls _ _ _ _ HC.out (by omega) (by omega) w
  have pt : ∀ w, Calls Try.prog 12 #[.complex .f64 (floatOfInt .f64 (sml a)) (floatOfInt .f64 (sml b)), .int .i64 n] w fun e w' => e = .returned (.complex .f64 re im) ∧ w' = w := fun w => Turn_at _ _ _ _ _ HM.out w
  have PC1 := hid pc1
  have PC2 := hid pc2
  have PC3 := hid pc3
  have PI1 := hid pi1
  have PI2 := hid pi2
  have PT := hid pt
  clear pc1 pc2 pc3 pi1 pi2 pt hP1 hP2 hPP hX ba bb
  generalize w2.alloc (.cells #[Value.int IntKind.i64 (sml a * qre n - sml b * qim n), Value.int IntKind.i64 (sml a * qim n + sml b * qre n)] 25) = W at *
  generalize sml a * qre n - sml b * qim n = X at *
  generalize sml a * qim n + sml b * qre n = Y at *
  generalize floatOfInt .f64 (sml a) = fa at *
  generalize floatOfInt .f64 (sml b) = fb at *
  generalize sml a = sa at *
  generalize sml b = sb at *
  generalize w'.heap.size = p1 at *
  generalize w2.heap.size = p2 at *
  go_region_held3 (fun w' => w'.cell? ⟨p1, 0, none⟩ = some (.int .i64 sa) ∧ w'.cell? ⟨p1, 1, none⟩ = some (.int .i64 sb) ∧ w'.cell? ⟨p2, 0, none⟩ = some (.int .i64 X) ∧ w'.cell? ⟨p2, 1, none⟩ = some (.int .i64 Y) ∧ Below w.heap.size w w')
    (first | (exact ⟨dd0, dd1, cc0, cc1, hbw.drew⟩) | (exact keep4b (by assumption) (by assumption)) | go_keep)
    (first
      | (go_at_call 11; (with_reducible refine (PI1.out _).mono ?_); rintro e w' ⟨rfl, hb⟩)
      | (go_at_call 11; (with_reducible refine (PI2.out _).mono ?_); rintro e w' ⟨rfl, hb⟩)
      | (go_at_call 13; (with_reducible refine (PC1.out _).mono ?_); rintro e w' ⟨rfl, rfl⟩)
      | (go_at_call 13; (with_reducible refine (PC2.out _).mono ?_); rintro e w' ⟨rfl, rfl⟩)
      | (go_at_call 14; (with_reducible refine (PC3.out _).mono ?_); rintro e w' ⟨rfl, hb⟩)
      | (go_at_call 12; (with_reducible refine (PT.out _).mono ?_); rintro e w' ⟨rfl, rfl⟩))
  go_wp2_with fail
  go_ret
  exact ⟨rfl, (‹_ ∧ _ ∧ _ ∧ _ ∧ Below w.heap.size w _›).2.2.2.2⟩

end Go.Proofs.Ytbfgakccpnamhaa
