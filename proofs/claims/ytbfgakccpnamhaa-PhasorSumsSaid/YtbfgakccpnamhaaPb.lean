import Derived.Test.YtbfgakccpnamhaaPs
set_option linter.unusedVariables false
set_option linter.unusedSimpArgs false
namespace Go.Proofs.Ytbfgakccpnamhaa
open Go.RowKit

/-- Four cells that are filled from the head on. -/
def four (c z : Nat → Value) (j : Nat) : Array Value := #[if 0 < j then c 0 else z 0, if 1 < j then c 1 else z 1, if 2 < j then c 2 else z 2, if 3 < j then c 3 else z 3]
theorem four_set (c c' z : Nat → Value) (j : Nat) (hj : j < 4) (v : Value) (h : ∀ i, i < j → c' i = c i) (hv : c' j = v) : (four c z j).setIfInBounds j v = four c' z (j + 1) := by
  have : j = 0 ∨ j = 1 ∨ j = 2 ∨ j = 3 := by omega
  rcases this with rfl | rfl | rfl | rfl
  · simp [four, hv]
  · simp [four, hv, h 0]
  · simp [four, hv, h 0, h 1]
  · simp [four, hv, h 0, h 1, h 2]
theorem four_at (c z : Nat → Value) (j i : Nat) (hi : i < 4) : ∃ v, (four c z j)[i]? = some v := ⟨(four c z j)[i]'(by simpa [four] using hi), by simp [four, hi]⟩

def cpx (A B : Nat → Nat) (i : Nat) : Value := .complex .f64 (A i) (B i)
def Bs (xs : List Int) (A B : Nat → Nat) (n : Nat) : Prop := ∀ i : Nat, i < n → CW (A i) (B i) (bsm qre i xs) (bsm qim i xs)

def RetB (xs : List Int) (w : World) (e : Ending) (w' : World) : Prop := ∃ A B : Nat → Nat, e = .returned (.agg #[cpx A B 0, cpx A B 1, cpx A B 2, cpx A B 3]) ∧ Bs xs A B 4 ∧ Below w.heap.size w w'

set_option maxHeartbeats 1000000 in
theorem Bins_calls (a : Option Addr) (xs : List Int) (cap : Nat) (w : World) (hr : RdI w a xs) (hc : xs.length ≤ cap) (hm : cap ≤ 9223372036854775807) :
    Calls Try.prog 19 #[.slice a xs.length cap] w (RetB xs w) := by
  have HR := hid hr
  clear hr
  go_enter Try.func19, Try.ntmps19
  go_wp2_with fail
  go_loopw [5] (fun v wr => ∃ (j : Nat) (A B : Nat → Nat), j ≤ 4 ∧ v = .int .i64 j ∧ Below w.heap.size w wr ∧ Bs xs A B j ∧ Blk wr w.heap.size (four (fun _ => .complex .f64 0 0) (fun _ => .complex .f64 0 0) 0) 39 ∧ Blk wr (w.heap.size + 1) (four (cpx A B) (fun _ => .complex .f64 0 0) j) 39) (fun v _ => 4 - (intOf v).toNat)
  case atStart =>
    refine ⟨0, fun _ => 0, fun _ => 0, by omega, rfl, ((Below.refl _ _).alloc (Nat.le_refl _) _).alloc (by simp) _, fun i hi => by omega, (Blk.new _ _ _).alloc _, ?_⟩
    have := Blk.new (w.alloc (Obj.cells #[Value.complex .f64 0 0, Value.complex .f64 0 0, Value.complex .f64 0 0, Value.complex .f64 0 0] 39)) #[Value.complex .f64 0 0, Value.complex .f64 0 0, Value.complex .f64 0 0, Value.complex .f64 0 0] 39
    simpa [four] using this
  case round =>
    obtain ⟨j, A, B, hj, rfl, hbel, hbs, hb0, hb1⟩ := hrel
    have HBEL := hid hbel
    have HBS := hid hbs
    have HB0 := hid hb0
    have HB1 := hid hb1
    by_cases hlt : j < 4
    · obtain ⟨v, hv⟩ := four_at (cpx A B) (fun _ => .complex .f64 0 0) j j hlt
      have hcj := hb1.cell j _ hv
      have hfj := hb1.free j
      have HR2 := hid (HR.out.below hbel)
      clear hbel hbs hb0 hb1 hv
      go_wp2_with fail
      refine (Bin_calls _ _ _ _ _ HR2.out hc hm).mono ?_
      rintro e w' ⟨c1, d1, rfl, h1, rfl⟩
      have H1 := hid h1
      clear h1
      go_wp2_with fail
      refine ⟨⟨j + 1, fun i => if i = j then c1 else A i, fun i => if i = j then d1 else B i, by omega, by go_num, HBEL.out.setCell (by simp) _, fun i hi => ?_, HB0.out.other (by simp) _, ?_⟩, by simp [intOf]; omega⟩
      · by_cases hij : i = j
        · subst hij; simpa [bsm] using H1.out
        · simpa [hij] using HBS.out i (by omega)
      · have := HB1.out.set j (.complex .f64 c1 d1)
        rw [four_set _ (cpx (fun i => if i = j then c1 else A i) (fun i => if i = j then d1 else B i)) _ j hlt _ (fun i hi => by simp [cpx, show i ≠ j by omega]) (by simp [cpx])] at this
        simpa using this
    · obtain rfl : j = 4 := by omega
      have c0 := hb1.cell 0 (.complex .f64 (A 0) (B 0)) rfl
      have c1 := hb1.cell 1 (.complex .f64 (A 1) (B 1)) rfl
      have c2 := hb1.cell 2 (.complex .f64 (A 2) (B 2)) rfl
      have c3 := hb1.cell 3 (.complex .f64 (A 3) (B 3)) rfl
      have e0 := hb0.cell 0 (.complex .f64 0 0) rfl
      have e1 := hb0.cell 1 (.complex .f64 0 0) rfl
      have e2 := hb0.cell 2 (.complex .f64 0 0) rfl
      have e3 := hb0.cell 3 (.complex .f64 0 0) rfl
      have f0 := hb0.free 0
      have f1 := hb0.free 1
      have f2 := hb0.free 2
      have f3 := hb0.free 3
      clear hbel hbs hb0 hb1
      go_wp2_with fail
      refine bodyPost_ret (v := .agg #[cpx A B 0, cpx A B 1, cpx A B 2, cpx A B 3]) (by simp [results, Try.results19, go_sem, e0, e1, e2, e3, cpx]) rfl ⟨A, B, rfl, HBS.out, ?_⟩
      exact (((HBEL.out.setCell (by simp) _).setCell (by simp) _).setCell (by simp) _).setCell (by simp) _

/-- What Back sums: the bins turned. -/
def bkre (X Y : Nat → Int) (n : Int) : Nat → Int
  | 0 => 0
  | k + 1 => bkre X Y n k + (X k * qre ((k : Int) * n) - Y k * qim ((k : Int) * n))
def bkim (X Y : Nat → Int) (n : Int) : Nat → Int
  | 0 => 0
  | k + 1 => bkim X Y n k + (X k * qim ((k : Int) * n) + Y k * qre ((k : Int) * n))
theorem bk_bd (X Y : Nat → Int) (n : Int) (M : Nat) (k : Nat) (h : ∀ i, i < k → (X i).natAbs ≤ M ∧ (Y i).natAbs ≤ M) : (bkre X Y n k).natAbs ≤ k * M ∧ (bkim X Y n k).natAbs ≤ k * M := by
  induction k with
  | zero => simp [bkre, bkim]
  | succ k ih =>
    have ih := ih (fun i hi => h i (by omega))
    have hk := h k (by omega)
    simp only [bkre, bkim]
    rw [Nat.add_mul, Nat.one_mul]
    rcases q_cases ((k : Int) * n) with ⟨h1, h2⟩ | ⟨h1, h2⟩ | ⟨h1, h2⟩ | ⟨h1, h2⟩ <;> rw [h1, h2] <;> omega

def ints (o : Nat → Int) (i : Nat) : Value := .int .i64 (o i)
def bk (X Y : Nat → Int) (i : Nat) : Int := (cl (bkre X Y i 4)).tdiv 4

theorem run_idx4 (x0 x1 x2 x3 : Value) (j : Nat) (hj : j < 4) (w : World) : (Instr.index 39 (.agg #[x0, x1, x2, x3]) (.int .i64 j)).run Try.prog w = .ok (#[x0, x1, x2, x3].getD j undef) w := by
  have : j = 0 ∨ j = 1 ∨ j = 2 ∨ j = 3 := by omega
  rcases this with rfl | rfl | rfl | rfl
  · exact idxC0 ..
  · exact idxC1 ..
  · exact idxC2 ..
  · exact idxC3 ..
theorem get4 (f : Nat → Value) (j : Nat) (hj : j < 4) : (#[f 0, f 1, f 2, f 3] : Array Value).getD j undef = f j := by
  have : j = 0 ∨ j = 1 ∨ j = 2 ∨ j = 3 := by omega
  rcases this with rfl | rfl | rfl | rfl <;> rfl

set_option maxHeartbeats 2000000 in
theorem Back_calls (A B : Nat → Nat) (X Y : Nat → Int) (h : ∀ i, i < 4 → CW (A i) (B i) (X i) (Y i)) (hb : ∀ i, i < 4 → (X i).natAbs ≤ 1073741824 ∧ (Y i).natAbs ≤ 1073741824) (w : World) :
    Calls Try.prog 20 #[.agg #[.complex .f64 (A 0) (B 0), .complex .f64 (A 1) (B 1), .complex .f64 (A 2) (B 2), .complex .f64 (A 3) (B 3)]] w
      fun e w' => e = .returned (.agg #[.int .i64 (bk X Y 0), .int .i64 (bk X Y 1), .int .i64 (bk X Y 2), .int .i64 (bk X Y 3)]) ∧ Below w.heap.size w w' := by
  have H := hid h
  have HB := hid hb
  clear h hb
  go_enter Try.func20, Try.ntmps20
  go_wp2_with fail
  go_loopw [10] (fun v wr => ∃ (n : Nat), n ≤ 4 ∧ v = .int .i64 n ∧ Below w.heap.size w wr ∧ Blk wr w.heap.size #[.complex .f64 (A 0) (B 0), .complex .f64 (A 1) (B 1), .complex .f64 (A 2) (B 2), .complex .f64 (A 3) (B 3)] 39
    ∧ Blk wr (w.heap.size + 1) #[.int .i64 0, .int .i64 0, .int .i64 0, .int .i64 0] 42 ∧ Blk wr (w.heap.size + 2) (four (ints (bk X Y)) (fun _ => .int .i64 0) n) 42) (fun v _ => 4 - (intOf v).toNat)
  case atStart =>
    refine ⟨0, by omega, rfl, (((Below.refl _ _).alloc (Nat.le_refl _) _).alloc (by simp) _).alloc (by simp; omega) _, ((Blk.new _ _ _).alloc _).alloc _, ?_, ?_⟩
    · have := (Blk.new (w.alloc (.cells #[.complex .f64 (A 0) (B 0), .complex .f64 (A 1) (B 1), .complex .f64 (A 2) (B 2), .complex .f64 (A 3) (B 3)] 39)) #[.int .i64 0, .int .i64 0, .int .i64 0, .int .i64 0] 42).alloc (.cells #[.int .i64 0, .int .i64 0, .int .i64 0, .int .i64 0] 42)
      simpa using this
    · have := Blk.new ((w.alloc (.cells #[.complex .f64 (A 0) (B 0), .complex .f64 (A 1) (B 1), .complex .f64 (A 2) (B 2), .complex .f64 (A 3) (B 3)] 39)).alloc (.cells #[.int .i64 0, .int .i64 0, .int .i64 0, .int .i64 0] 42)) #[.int .i64 0, .int .i64 0, .int .i64 0, .int .i64 0] 42
      simpa [four] using this
  case round =>
    obtain ⟨n, hn, rfl, hbel, hb0, hb1, hb2⟩ := hrel
    have HBEL := hid hbel
    have HB0 := hid hb0
    have HB1 := hid hb1
    have HB2 := hid hb2
    by_cases hlt : n < 4
    · have c0 := hb0.cell 0 (.complex .f64 (A 0) (B 0)) rfl
      have c1 := hb0.cell 1 (.complex .f64 (A 1) (B 1)) rfl
      have c2 := hb0.cell 2 (.complex .f64 (A 2) (B 2)) rfl
      have c3 := hb0.cell 3 (.complex .f64 (A 3) (B 3)) rfl
      obtain ⟨v, hv⟩ := four_at (ints (bk X Y)) (fun _ => .int .i64 0) n n hlt
      have hcj := hb2.cell n _ hv
      have hfj := hb2.free n
      have hd : decide ((n : Int) < 4) = true := by simp; omega
      clear hbel hb0 hb1 hb2 hv
      go_wp2_with fail
      obtain ⟨wo, rfl⟩ : ∃ wo : World, wo = wr := ⟨_, rfl⟩
      go_loop [5, 14] (fun s i => ∃ (k a b : Nat), k ≤ 4 ∧ i = .int .i64 k ∧ s = .complex .f64 a b ∧ CW a b (bkre X Y n k) (bkim X Y n k)) (fun _ i => 4 - (intOf i).toNat)
      case atStart => exact ⟨0, 0, 0, by omega, rfl, rfl, FW_zero, FW_zero⟩
      case round =>
        obtain ⟨k, a, b, hk, rfl, rfl, hcw⟩ := hrel
        have HCW := hid hcw
        clear hcw
        by_cases hkl : k < 4
        · have hix := fun (w : World) => (run_idx4 (.complex .f64 (A 0) (B 0)) (.complex .f64 (A 1) (B 1)) (.complex .f64 (A 2) (B 2)) (.complex .f64 (A 3) (B 3)) k hkl w).trans (by rw [get4 (fun i => .complex .f64 (A i) (B i)) k hkl])
          have hkn : 0 ≤ (k : Int) * n ∧ (k : Int) * n ≤ 9 := by
            have : k = 0 ∨ k = 1 ∨ k = 2 ∨ k = 3 := by omega
            rcases this with rfl | rfl | rfl | rfl <;> omega
          obtain ⟨hk1, hk2⟩ := hkn
          go_wp2_with fail
          have hXY := HB.out k hkl
          refine (Turn_calls _ _ (X k) (Y k) _ (H.out k hkl) (by omega) (by omega) _).mono ?_
          rintro e w' ⟨c, d, rfl, hcd, rfl⟩
          have hbb := bk_bd X Y n 1073741824 k (fun i hi => HB.out i (by omega))
          have hbs := bk_bd X Y n 1073741824 (k + 1) (fun i hi => HB.out i (by omega))
          have hs : ∃ re im, cSumBits .add .f64 a b c d = some (re, im) ∧ CW re im (bkre X Y n (k + 1)) (bkim X Y n (k + 1)) := CW_add HCW.out hcd (by show (bkre X Y n (k + 1)).natAbs < _; omega) (by show (bkim X Y n (k + 1)).natAbs < _; omega)
          obtain ⟨re, im, hs, hcs⟩ := hs
          have hrun := fun (w : World) => run_complex_sum (P := Try.prog) w .add (.inl rfl) 26 .f64 a b c d re im hs
          have HS := hid hcs
          clear hs hcs hcd hbb hbs hXY hix
          go_wp2_with fail
          exact ⟨⟨k + 1, re, im, by omega, by go_num, rfl, HS.out⟩, by simp [intOf]; omega⟩
        · obtain rfl : k = 4 := by omega
          go_wp2_with fail
          refine (Parts_calls _ _ _ _ HCW.out _).mono ?_
          rintro e w' ⟨rfl, rfl⟩
          have hcb := cl_bd (bkre X Y n 4)
          obtain ⟨hc1, hc2⟩ : -1073741824 ≤ cl (bkre X Y n 4) ∧ cl (bkre X Y n 4) ≤ 1073741824 := by omega
          clear hcb
          go_wp2_with fail
          refine ⟨⟨n + 1, by omega, by go_num, HBEL.out.setCell (by simp; omega) _, HB0.out.other (by simp; omega) _, HB1.out.other (by simp) _, ?_⟩, by simp [intOf]; omega⟩
          have := HB2.out.set n (.int .i64 (bk X Y n))
          rw [four_set _ (ints (bk X Y)) _ n hlt (.int .i64 (bk X Y n)) (fun i hi => rfl) rfl] at this
          exact this
    · obtain rfl : n = 4 := by omega
      have c0 := hb2.cell 0 (.int .i64 (bk X Y 0)) rfl
      have c1 := hb2.cell 1 (.int .i64 (bk X Y 1)) rfl
      have c2 := hb2.cell 2 (.int .i64 (bk X Y 2)) rfl
      have c3 := hb2.cell 3 (.int .i64 (bk X Y 3)) rfl
      have e0 := hb1.cell 0 (.int .i64 0) rfl
      have e1 := hb1.cell 1 (.int .i64 0) rfl
      have e2 := hb1.cell 2 (.int .i64 0) rfl
      have e3 := hb1.cell 3 (.int .i64 0) rfl
      have f0 := hb1.free 0
      have f1 := hb1.free 1
      have f2 := hb1.free 2
      have f3 := hb1.free 3
      clear hbel hb0 hb1 hb2
      go_wp2_with fail
      refine bodyPost_ret (v := .agg #[.int .i64 (bk X Y 0), .int .i64 (bk X Y 1), .int .i64 (bk X Y 2), .int .i64 (bk X Y 3)]) (by simp [results, Try.results20, go_sem, e0, e1, e2, e3]) rfl ⟨rfl, ?_⟩
      exact (((HBEL.out.setCell (by simp) _).setCell (by simp) _).setCell (by simp) _).setCell (by simp) _

end Go.Proofs.Ytbfgakccpnamhaa
