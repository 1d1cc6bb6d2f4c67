import Derived.Test.YtbfgakccpnamhaaPl
set_option linter.unusedVariables false
set_option linter.unusedSimpArgs false
namespace Go.Proofs.Ytbfgakccpnamhaa
open Go.RowKit

/-- The four bins of four samples, written out. -/
theorem bsm4 (a b c d : Int) :
    (bsm qre 0 [a, b, c, d] = sml a + sml b + sml c + sml d ∧ bsm qim 0 [a, b, c, d] = 0) ∧
    (bsm qre 1 [a, b, c, d] = sml a - sml c ∧ bsm qim 1 [a, b, c, d] = sml d - sml b) ∧
    (bsm qre 2 [a, b, c, d] = sml a - sml b + sml c - sml d ∧ bsm qim 2 [a, b, c, d] = 0) ∧
    (bsm qre 3 [a, b, c, d] = sml a - sml c ∧ bsm qim 3 [a, b, c, d] = sml b - sml d) := by
  have h4 : min [a, b, c, d].length 1000 = 4 := rfl
  simp only [bsm, h4]
  simp [bsum, qre, qim]
  omega

def XX (a b c d : Int) (i : Nat) : Int := bsm qre i [a, b, c, d]
def YY (a b c d : Int) (i : Nat) : Int := bsm qim i [a, b, c, d]
def at4 (a b c d : Int) (i : Nat) : Int := [a, b, c, d].getD i 0

theorem bk4 (a b c d : Int) (i : Nat) (hi : i < 4) : bk (XX a b c d) (YY a b c d) i = sml (at4 a b c d i) := by
  obtain ⟨⟨h1, h2⟩, ⟨h3, h4⟩, ⟨h5, h6⟩, ⟨h7, h8⟩⟩ := bsm4 a b c d
  have b1 := sml_bd a
  have b2 := sml_bd b
  have b3 := sml_bd c
  have b4 := sml_bd d
  have key : bkre (XX a b c d) (YY a b c d) i 4 = 4 * sml (at4 a b c d i) := by
    have : i = 0 ∨ i = 1 ∨ i = 2 ∨ i = 3 := by omega
    rcases this with rfl | rfl | rfl | rfl <;> simp [bkre, XX, YY, h1, h2, h3, h4, h5, h6, h7, h8, qre, qim, at4] <;> omega
  unfold bk
  rw [key]
  have hb := sml_bd (at4 a b c d i)
  rw [cl_id (by omega)]
  exact Int.mul_tdiv_cancel_left _ (by omega)

theorem sq_sum (a b c d : Int) :
    4 * (0 + sml a * sml a + sml b * sml b + sml c * sml c + sml d * sml d) =
      0 + pw (XX a b c d 0) (YY a b c d 0) + pw (XX a b c d 1) (YY a b c d 1) + pw (XX a b c d 2) (YY a b c d 2) + pw (XX a b c d 3) (YY a b c d 3) := by
  obtain ⟨⟨h1, h2⟩, ⟨h3, h4⟩, ⟨h5, h6⟩, ⟨h7, h8⟩⟩ := bsm4 a b c d
  have b1 := sml_bd a
  have b2 := sml_bd b
  have b3 := sml_bd c
  have b4 := sml_bd d
  simp only [XX, YY]
  rw [show ((0 : Nat) : Int) = 0 from rfl, show ((1 : Nat) : Int) = 1 from rfl, show ((2 : Nat) : Int) = 2 from rfl, show ((3 : Nat) : Int) = 3 from rfl, h1, h2, h3, h4, h5, h6, h7, h8]
  rw [pw_id (by omega) (by omega), pw_id (by omega) (by omega), pw_id (by omega) (by omega), pw_id (by omega) (by omega)]
  generalize sml a = x at *
  generalize sml b = y at *
  generalize sml c = z at *
  generalize sml d = t at *
  simp only [Int.add_mul, Int.mul_add, Int.sub_mul, Int.mul_sub, Int.mul_comm y x, Int.mul_comm z x, Int.mul_comm t x, Int.mul_comm z y, Int.mul_comm t y, Int.mul_comm t z]
  omega

def sqs (f : Nat → Int) : Nat → Int
  | 0 => 0
  | i + 1 => sqs f i + f i
theorem sqs_bd (f : Nat → Int) (M : Nat) (h : ∀ i, i < 4 → 0 ≤ f i ∧ f i ≤ M) (i : Nat) (hi : i ≤ 4) : 0 ≤ sqs f i ∧ sqs f i ≤ i * M := by
  induction i with
  | zero => simp [sqs]
  | succ i ih =>
    have := ih (by omega)
    have := h i (by omega)
    simp only [sqs]
    rw [show ((i + 1 : Nat) : Int) * M = i * M + M from by rw [Int.natCast_add, Int.add_mul]; simp]
    omega

theorem run_idxI4 (x0 x1 x2 x3 : Value) (j : Nat) (hj : j < 4) (w : World) : (Instr.index 42 (.agg #[x0, x1, x2, x3]) (.int .i64 j)).run Try.prog w = .ok (#[x0, x1, x2, x3].getD j undef) w := by
  have : j = 0 ∨ j = 1 ∨ j = 2 ∨ j = 3 := by omega
  rcases this with rfl | rfl | rfl | rfl
  · exact idxI0 ..
  · exact idxI1 ..
  · exact idxI2 ..
  · exact idxI3 ..

set_option maxHeartbeats 4000000 in
theorem PhasorBack_calls (a b c d : Int) (w : World) :
    Calls Try.prog 6 #[.agg #[.int .i64 a, .int .i64 b, .int .i64 c, .int .i64 d]] w fun e w' => e = .returned (.bool true) ∧ Below w.heap.size w w' := by
  have HB4 := hid (bk4 a b c d)
  have HSQ := hid (sq_sum a b c d)
  have hb0 := Blk.new w #[.int .i64 a, .int .i64 b, .int .i64 c, .int .i64 d] 42
  have hw0 := (Below.refl w.heap.size w).alloc (Nat.le_refl _) (.cells #[.int .i64 a, .int .i64 b, .int .i64 c, .int .i64 d] 42)
  have HB0 := hid hb0
  have HW0 := hid hw0
  clear hb0 hw0
  go_enter Try.func6, Try.ntmps6
  go_wp2_with fail
  refine (awake_calls _).mono ?_
  rintro e w1 ⟨rfl, hb1⟩
  have hblk := HB0.out.below hb1
  have HBW := hid (HW0.out.trans (hb1.mono (by simp)))
  have hrd : RdI w1 (some ⟨w.heap.size, 0, none⟩) [a, b, c, d] := by
    refine .inr ⟨_, _, rfl, fun j hj => ?_⟩
    have hj4 : j = 0 ∨ j = 1 ∨ j = 2 ∨ j = 3 := by simp at hj; omega
    rcases hj4 with rfl | rfl | rfl | rfl <;> exact hblk.cell _ _ rfl
  have HRD := hid hrd
  have HBLK := hid hblk
  clear hb1 hrd hblk
  go_wp2_with fail
  refine (Bins_calls _ [a, b, c, d] 4 _ HRD.out (by simp) (by simp)).mono ?_
  rintro e w2 ⟨A, B, rfl, hbs, hb2⟩
  have hblk := HBLK.out.below hb2
  have HB2 := hid (below_trans HBW.out hb2)
  have HBS := hid hbs
  have HBLK2 := hid hblk
  have hsz : w.heap.size < w2.heap.size := hblk.lt
  clear hb2 hbs hblk
  unfold cpx
  go_wp2_with fail
  have hbX : ∀ i : Nat, i < 4 → (XX a b c d i).natAbs ≤ 1073741824 ∧ (YY a b c d i).natAbs ≤ 1073741824 := fun i _ => by
    have h1 := bsm_bd qre qre_3 i [a, b, c, d]
    have h2 := bsm_bd qim qim_3 i [a, b, c, d]
    unfold XX YY
    omega
  refine (Back_calls A B (XX a b c d) (YY a b c d) (fun i hi => HBS.out i hi) hbX _).mono ?_
  rintro e w3 ⟨rfl, hb3⟩
  have e0 := HB4.out 0 (by omega)
  have e1 := HB4.out 1 (by omega)
  have e2 := HB4.out 2 (by omega)
  have e3 := HB4.out 3 (by omega)
  rw [e0, e1, e2, e3]
  clear e0 e1 e2 e3
  have hx0 := Blk.new w2 #[.complex .f64 (A 0) (B 0), .complex .f64 (A 1) (B 1), .complex .f64 (A 2) (B 2), .complex .f64 (A 3) (B 3)] 39
  have hx1 := hx0.below hb3
  have hl1 := (HBLK2.out.alloc (.cells #[.complex .f64 (A 0) (B 0), .complex .f64 (A 1) (B 1), .complex .f64 (A 2) (B 2), .complex .f64 (A 3) (B 3)] 39)).below hb3
  have HB3 := hid ((HB2.out.alloc (by omega) (.cells #[.complex .f64 (A 0) (B 0), .complex .f64 (A 1) (B 1), .complex .f64 (A 2) (B 2), .complex .f64 (A 3) (B 3)] 39)).trans (hb3.mono (by simp; omega)))
  have HX1 := hid hx1
  have HL1 := hid hl1
  clear hx0 hx1 hl1 hb3 hbX
  generalize w2.heap.size = p2 at *
  go_wp2_with fail
  go_loopw [4, 5, 14] (fun s p i wr => ∃ j : Nat, j ≤ 4 ∧ i = .int .i64 j ∧ s = .int .i64 (sqs (fun i => sml (at4 a b c d i) * sml (at4 a b c d i)) j) ∧ p = .int .i64 (sqs (fun i => pw (XX a b c d i) (YY a b c d i)) j) ∧ wr = w3) (fun _ _ i _ => 4 - (intOf i).toNat)
  case atStart => exact ⟨0, by omega, rfl, rfl, rfl, rfl⟩
  case round =>
    obtain ⟨j, hj, rfl, rfl, rfl, rfl⟩ := hrel
    have hq1 : ∀ i, i < 4 → 0 ≤ sml (at4 a b c d i) * sml (at4 a b c d i) ∧ sml (at4 a b c d i) * sml (at4 a b c d i) ≤ (1099511627776 : Nat) := fun i _ => by
      have hb := sml_bd (at4 a b c d i)
      have := sq_bd (x := sml (at4 a b c d i)) (M := 1048576) (by omega)
      exact ⟨this.1, by omega⟩
    have hq2 : ∀ i, i < 4 → 0 ≤ pw (XX a b c d i) (YY a b c d i) ∧ pw (XX a b c d i) (YY a b c d i) ≤ (2199023255552000000 : Nat) := fun i _ => by
      have k1 := bsm_bd qre qre_3 i [a, b, c, d]
      have k2 := bsm_bd qim qim_3 i [a, b, c, d]
      rw [show pw (XX a b c d i) (YY a b c d i) = XX a b c d i * XX a b c d i + YY a b c d i * YY a b c d i from pw_bsm i [a, b, c, d]]
      have h1 := sq_bd (x := XX a b c d i) (M := 1048576000) k1
      have h2 := sq_bd (x := YY a b c d i) (M := 1048576000) k2
      omega
    have q1 := sqs_bd _ _ hq1 j hj
    have q2 := sqs_bd _ _ hq2 j hj
    by_cases hlt : j < 4
    · have hj4 : j = 0 ∨ j = 1 ∨ j = 2 ∨ j = 3 := by omega
      have hcl := HL1.out.cell j (.int .i64 (at4 a b c d j)) (by rcases hj4 with rfl | rfl | rfl | rfl <;> rfl)
      have hcx := HX1.out.cell j (.complex .f64 (A j) (B j)) (by rcases hj4 with rfl | rfl | rfl | rfl <;> rfl)
      have hix := fun (w : World) => (run_idxI4 (.int .i64 (sml (at4 a b c d 0))) (.int .i64 (sml (at4 a b c d 1))) (.int .i64 (sml (at4 a b c d 2))) (.int .i64 (sml (at4 a b c d 3))) j hlt w).trans (by rw [get4 (fun i => .int .i64 (sml (at4 a b c d i))) j hlt])
      have r1 := hq1 j hlt
      have r2 := hq2 j hlt
      have hs1 : sqs (fun i => sml (at4 a b c d i) * sml (at4 a b c d i)) (j + 1) = sqs (fun i => sml (at4 a b c d i) * sml (at4 a b c d i)) j + sml (at4 a b c d j) * sml (at4 a b c d j) := rfl
      have hs2 : sqs (fun i => pw (XX a b c d i) (YY a b c d i)) (j + 1) = sqs (fun i => pw (XX a b c d i) (YY a b c d i)) j + pw (XX a b c d j) (YY a b c d j) := rfl
      have HS1 := hid hs1
      have HS2 := hid hs2
      have HP := hid (fun w => Power_calls (A j) (B j) (XX a b c d j) (YY a b c d j) (HBS.out j hlt) w)
      obtain ⟨q11, q12⟩ := q1
      obtain ⟨q21, q22⟩ := q2
      obtain ⟨r11, r12⟩ := r1
      obtain ⟨r21, r22⟩ := r2
      have q12' : sqs (fun i => sml (at4 a b c d i) * sml (at4 a b c d i)) j ≤ 4398046511104 := by omega
      have q22' : sqs (fun i => pw (XX a b c d i) (YY a b c d i)) j ≤ 6597069766656000000 := by omega
      have r12' : sml (at4 a b c d j) * sml (at4 a b c d j) ≤ 1099511627776 := by omega
      have r22' : pw (XX a b c d j) (YY a b c d j) ≤ 2199023255552000000 := by omega
      clear hs1 hs2 hq1 hq2 hj4 q12 q22 r12 r22
      generalize sqs (fun i => sml (at4 a b c d i) * sml (at4 a b c d i)) j = S1 at *
      generalize sqs (fun i => pw (XX a b c d i) (YY a b c d i)) j = S2 at *
      generalize pw (XX a b c d j) (YY a b c d j) = P at *
      go_wp2_with fail
      refine (rSmall_calls _ _).mono ?_
      rintro e w' ⟨rfl, rfl⟩
      clear hix
      generalize sml (at4 a b c d j) = sj at *
      go_wp2_with fail
      refine (HP.out _).mono ?_
      rintro e w' ⟨rfl, rfl⟩
      go_wp2_with fail
      exact ⟨⟨j + 1, by omega, by go_num, by rw [HS1.out], by rw [HS2.out], trivial⟩, by simp [intOf]; omega⟩
    · obtain rfl : j = 4 := by omega
      have HE : Hid (4 * sqs (fun i => sml (at4 a b c d i) * sml (at4 a b c d i)) 4 = sqs (fun i => pw (XX a b c d i) (YY a b c d i)) 4) := HSQ.out
      obtain ⟨q11, q12⟩ := q1
      obtain ⟨q21, q22⟩ := q2
      clear hq1 hq2
      generalize sqs (fun i => sml (at4 a b c d i) * sml (at4 a b c d i)) 4 = S1 at *
      generalize sqs (fun i => pw (XX a b c d i) (YY a b c d i)) 4 = S2 at *
      have HE2 : (4 * S1 == S2) = true := beq_iff_eq.2 HE.out
      have q12' : S1 ≤ 4398046511104 := by omega
      clear q12 q22
      go_wp2_with fail
      go_ret
      exact ⟨rfl, HB3.out⟩

end Go.Proofs.Ytbfgakccpnamhaa
