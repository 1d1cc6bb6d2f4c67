import Derived.Test.YtaombjljahpncaaPw
set_option linter.unusedVariables false
set_option linter.unusedSimpArgs false
namespace Go.Proofs.Ytaombjljahpncaa
open Go.RowKit

def rotA (A B : Int) : Nat → Int
  | 0 => A
  | i + 1 => - rotA B (-A) i
def rot (A B : Int) : Nat → Int × Int
  | 0 => (A, B)
  | i + 1 => (-(rot A B i).2, (rot A B i).1)
theorem tmod4 (n : Int) : n.tmod 4 % 4 = n % 4 ∧ -4 < n.tmod 4 ∧ n.tmod 4 < 4 := by
  have h1 := Int.tmod_def n 4
  have h2 := Int.tmod_lt_of_pos n (show (0 : Int) < 4 by omega)
  have h3 := Int.lt_tmod_of_pos n (show (0 : Int) < 4 by omega)
  omega
theorem rot_bd (A B : Int) (M : Nat) (hA : A.natAbs ≤ M) (hB : B.natAbs ≤ M) (i : Nat) : (rot A B i).1.natAbs ≤ M ∧ (rot A B i).2.natAbs ≤ M := by
  induction i with
  | zero => exact ⟨hA, hB⟩
  | succ i ih => exact ⟨by simp only [rot]; omega, ih.1⟩
theorem rot_q (A B n : Int) (r : Nat) (h : (r : Int) = n % 4) : rot A B r = (A * qre n - B * qim n, A * qim n + B * qre n) := by
  have : r = 0 ∨ r = 1 ∨ r = 2 ∨ r = 3 := by omega
  unfold qre qim
  rw [← h]
  rcases this with rfl | rfl | rfl | rfl <;> simp [rot]

def RetZ (A B : Int) (w : World) (e : Ending) (w' : World) : Prop := e = .returned (.agg #[.int .i64 A, .int .i64 B]) ∧ Below w.heap.size w w'

set_option maxHeartbeats 1000000 in
theorem rTurn_calls (A B n : Int) (hA : A.natAbs ≤ 2 ^ 60) (hB : B.natAbs ≤ 2 ^ 60) (w : World) :
    Calls Try.prog 52 #[.agg #[.int .i64 A, .int .i64 B], .int .i64 n] w (RetZ (A * qre n - B * qim n) (A * qim n + B * qre n) w) := by
  have HR := hid (rot_q A B n)
  have HA := hid hA
  have HB := hid hB
  clear hA hB
  go_enter Try.func52, Try.ntmps52
  go_wp2_with fail
  have ht := tmod4 n
  generalize n.tmod 4 = r0 at *
  go_loop [1] (fun v => ∃ r : Int, v = .int .i64 r ∧ r % 4 = n % 4 ∧ -4 < r ∧ r < 4) (fun v => (4 - intOf v).toNat)
  case atStart => exact ⟨r0, rfl, ht.1, ht.2.1, ht.2.2⟩
  case round =>
    obtain ⟨r, rfl, hr1, hr2, hr3⟩ := hrel
    by_cases hlt : r < 0
    · go_wp2_with fail
      go_round
      case rel => exact ⟨r + 4, rfl, by omega, by omega, by omega⟩
      case measure => simp [intOf]; omega
    · obtain ⟨q, rfl⟩ : ∃ q : Nat, r = (q : Int) := ⟨r.toNat, by omega⟩
      have HQ := hid (show (q : Int) = n % 4 by omega)
      clear hr1 ht
      go_wp2_with fail
      go_loopw [5] (fun v wr => ∃ i : Nat, v = .int .i64 i ∧ i ≤ q ∧ wr = (w.alloc (.cells #[.int .i64 (rot A B i).1, .int .i64 (rot A B i).2] 58)).alloc (.cells #[.int .i64 0, .int .i64 0] 58)) (fun v _ => q - (intOf v).toNat)
      case atStart => exact ⟨0, rfl, Nat.zero_le _, rfl⟩
      case round =>
        obtain ⟨i, rfl, hi, rfl⟩ := hrel
        by_cases hlt : i < q
        · have hb := rot_bd A B (2 ^ 60) HA.out HB.out i
          have hb1 : -1152921504606846976 ≤ (rot A B i).2 := by omega
          have hb2 : (rot A B i).2 ≤ 1152921504606846976 := by omega
          have hrs : rot A B (i + 1) = (-(rot A B i).2, (rot A B i).1) := rfl
          have HRS := hid hrs
          clear hb hrs
          generalize (rot A B i).1 = x at *
          generalize (rot A B i).2 = y at *
          go_wp2_with fail
          exact ⟨⟨i + 1, by go_num, by omega, by rw [HRS.out]⟩, by simp [intOf]; omega⟩
        · have hiq : i = q := by omega
          have HIQ := hid hiq
          clear hiq
          have HX := hid (HR.out q HQ.out)
          go_wp2_with fail
          refine bodyPost_ret (v := .agg #[.int .i64 (rot A B i).1, .int .i64 (rot A B i).2]) (by simp [results, Try.results52, go_sem]) rfl ⟨?_, ((Below.refl _ _).alloc (Nat.le_refl _) _).alloc (by simp) _⟩
          rw [HIQ.out, HX.out]

set_option maxHeartbeats 400000 in
theorem rSmall_calls (x : Int) (w : World) :
    Calls Try.prog 53 #[.int .i64 x] w fun e w' => e = .returned (.int .i64 (sml x)) ∧ w' = w := by
  go_enter Try.func53, Try.ntmps53
  go_wp2
  all_goals
    go_ret
    exact ⟨ret_int (by unfold sml; omega), rfl⟩

theorem sq_bd {x : Int} {M : Nat} (h : x.natAbs ≤ M) : 0 ≤ x * x ∧ x * x ≤ M * M := by
  have : x * x = (x.natAbs * x.natAbs : Nat) := by rw [Int.natCast_mul]; exact (Int.natAbs_mul_self' x).symm
  rw [this]
  exact ⟨by omega, by exact_mod_cast Nat.mul_le_mul h h⟩

set_option maxHeartbeats 400000 in
theorem rPower_calls (A B : Int) (hA : A.natAbs ≤ 1073741824) (hB : B.natAbs ≤ 1073741824) (w : World) :
    Calls Try.prog 36 #[.agg #[.int .i64 A, .int .i64 B]] w fun e w' => e = .returned (.int .i64 (A * A + B * B)) ∧ Below w.heap.size w w' := by
  have h1 := sq_bd hA
  have h2 := sq_bd hB
  obtain ⟨h3, h4⟩ := h1
  obtain ⟨h5, h6⟩ := h2
  go_enter Try.func36, Try.ntmps36
  go_wp2_with fail
  go_ret
  exact ⟨rfl, (Below.refl _ _).alloc (Nat.le_refl _) _⟩

def pw (x y : Int) : Int := cl x * cl x + cl y * cl y
theorem cl_bd (x : Int) : (cl x).natAbs ≤ 1073741824 := by unfold cl; omega

set_option maxHeartbeats 400000 in
theorem Power_calls (a b : Nat) (x y : Int) (h : CW a b x y) (w : World) :
    Calls Try.prog 32 #[.complex .f64 a b] w fun e w' => e = .returned (.int .i64 (pw x y)) ∧ w' = w := by
  obtain ⟨h3, h4⟩ := sq_bd (cl_bd x)
  obtain ⟨h5, h6⟩ := sq_bd (cl_bd y)
  go_enter Try.func32, Try.ntmps32
  go_wp2_with fail
  refine (Parts_calls _ _ _ _ h _).mono ?_
  rintro e w' ⟨rfl, rfl⟩
  go_wp2_with fail
  go_ret
  exact ⟨rfl, rfl⟩

theorem q_mod (k : Int) (j : Nat) (q : Int → Int) (hq : ∀ n m : Int, n % 4 = m % 4 → q n = q m) : q (-(k.tmod 4) * ((j : Int) % 4)) = q (-(k % 4) * ((j : Int) % 4)) := by
  apply hq
  have h1 := (tmod4 k).1
  have h2 := (tmod4 k).2
  have : (j : Int) % 4 = 0 ∨ (j : Int) % 4 = 1 ∨ (j : Int) % 4 = 2 ∨ (j : Int) % 4 = 3 := by omega
  rcases this with h | h | h | h <;> rw [h] <;> omega
theorem qre_mod (n m : Int) (h : n % 4 = m % 4) : qre n = qre m := by unfold qre; rw [h]
theorem qim_mod (n m : Int) (h : n % 4 = m % 4) : qim n = qim m := by unfold qim; rw [h]

theorem wrap_id {x : Int} (h : -9223372036854775808 ≤ x) (h' : x ≤ 9223372036854775807) : wrap64 x = x := by unfold wrap64; omega

theorem bstep (q : Int → Int) (h3 : ∀ n, q n = 1 ∨ q n = 0 ∨ q n = -1) (hq : ∀ n m : Int, n % 4 = m % 4 → q n = q m) (k : Int) (xs : List Int) (j : Nat) (hj : j < 1000) (z : Int) (hz : z = xs.getD j 0) :
    wrap64 (bsum q k xs j + sml z * q (wrap64 (wrap64 (-k.tmod 4) * ((j : Int) % 4)))) = bsum q k xs (j + 1) := by
  have ht := tmod4 k
  rw [wrap_id (x := -k.tmod 4) (by omega) (by omega)]
  have hj4 : (j : Int) % 4 = 0 ∨ (j : Int) % 4 = 1 ∨ (j : Int) % 4 = 2 ∨ (j : Int) % 4 = 3 := by omega
  rw [wrap_id (x := -k.tmod 4 * ((j : Int) % 4)) (by rcases hj4 with h | h | h | h <;> rw [h] <;> omega) (by rcases hj4 with h | h | h | h <;> rw [h] <;> omega)]
  rw [q_mod k j q hq]
  have hb := bsum_bd q h3 k xs j
  have hs := sml_bd z
  simp only [bsum, ← hz]
  rcases h3 (-(k % 4) * ((j : Int) % 4)) with h | h | h <;> rw [h] <;> apply wrap_id <;> omega

set_option maxRecDepth 10000 in
set_option maxHeartbeats 1000000 in
theorem rBin_calls (a : Option Addr) (xs : List Int) (cap : Nat) (k : Int) (w : World) (hr : RdI w a xs) (hc : xs.length ≤ cap) (hm : cap ≤ 9223372036854775807) :
    Calls Try.prog 37 #[.slice a xs.length cap, .int .i64 k] w (RetZ (bsum qre k xs (min xs.length 1000)) (bsum qim k xs (min xs.length 1000)) w) := by
  obtain ⟨m, hmm⟩ : ∃ m, m = min xs.length 1000 := ⟨_, rfl⟩
  rw [← hmm]
  have hm1 : m ≤ xs.length := by omega
  have hm2 : m ≤ 1000 := by omega
  have hml : xs.length ≤ m ∨ 1000 ≤ m := by omega
  have HR := hid hr
  clear hr hmm
  go_enter Try.func37, Try.ntmps37
  go_wp2_with fail
  go_loopw [6] (fun v wr => ∃ j : Nat, j ≤ m ∧ v = .int .i64 j ∧ Below w.heap.size w wr ∧ Blk wr w.heap.size #[.int .i64 0, .int .i64 0] 58 ∧ Blk wr (w.heap.size + 1) #[.int .i64 (bsum qre k xs j), .int .i64 (bsum qim k xs j)] 58) (fun v _ => m - (intOf v).toNat)
  case atStart =>
    refine ⟨0, Nat.zero_le _, rfl, ((Below.refl _ _).alloc (Nat.le_refl _) _).alloc (by simp) _, (Blk.new _ _ _).alloc _, ?_⟩
    have := Blk.new (w.alloc (Obj.cells #[Value.int IntKind.i64 0, Value.int IntKind.i64 0] 58)) #[Value.int IntKind.i64 0, Value.int IntKind.i64 0] 58
    simpa [bsum] using this
  case round =>
    obtain ⟨j, hj, rfl, hbel, hb0, hb1⟩ := hrel
    by_cases hlt : j < m
    · have hjl : j < xs.length := by omega
      obtain ⟨z, hz⟩ : ∃ z, z = xs.getD j 0 := ⟨_, rfl⟩
      have hcj : ∃ b off, a = some ⟨b, off, none⟩ ∧ wr.cell? ⟨b, off + j, none⟩ = some (.int .i64 z) := by
        rcases HR.out with h | ⟨b, off, rfl, h⟩
        · subst h; simp at hjl
        · refine ⟨b, off, rfl, ?_⟩
          have h' := h j hjl
          rw [hz, hbel.cell (World.block_lt_of_cell? w _ h'), h']
      obtain ⟨b, off, hae, hcj⟩ := hcj
      rw [hae]
      have HZJ := hid hz
      have HB0 := hid hb0
      have HB1 := hid hb1
      have hc0 := hb1.cell 0 _ rfl
      have hc1 := hb1.cell 1 _ rfl
      have hf0 := hb1.free 0
      have hf1 := hb1.free 1
      have HBEL := hid hbel
      clear hz hb0 hb1 hbel hae
      have hd1 : decide ((j : Int) < (xs.length : Int)) = true := by simp; omega
      have hd2 : decide ((j : Int) < 1000) = true := by simp; omega
      go_wp2_with fail
      refine (rSmall_calls _ _).mono ?_
      rintro e w' ⟨rfl, rfl⟩
      go_wp2_with fail
      refine (rTurn_calls (sml z) 0 _ (by have := sml_bd z; omega) (by omega) _).mono ?_
      rintro e w1 ⟨rfl, hb1⟩
      obtain ⟨hcl, hfr⟩ := bcell hb1
      have hsz := hb1.size
      have hlt1 := HB1.out.lt
      have hlt0 : w.heap.size < w1.heap.size := by omega
      have hlt2 : w.heap.size + 1 < w1.heap.size := by omega
      have HB11 := hid (HB1.out.below hb1)
      have HB10 := hid (HB0.out.below hb1)
      have HBEL1 := hid (HBEL.out.trans (hb1.mono (by omega)))
      clear hb1
      have HE1 := hid (bstep qre qre_3 qre_mod k xs j (by omega) z HZJ.out)
      have HE2 := hid (bstep qim qim_3 qim_mod k xs j (by omega) z HZJ.out)
      go_wp2_with fail
      have e1 := HE1.out
      have e2 := HE2.out
      rw [e1, e2]
      refine ⟨⟨j + 1, by omega, by go_num, ?_, ?_, ?_⟩, by simp [intOf]; omega⟩
      · exact ((HBEL1.out.setCell (by simp) _).setCell (by simp) _).alloc (by simp [World.setCell]; omega) _
      · exact ((HB10.out.other (by simp) _).other (by simp) _).alloc _
      · exact ((HB11.out.set 0 _).set 1 _).alloc _
    · have HB0 := hid hb0
      have HB1 := hid hb1
      have hc0 := hb1.cell 0 _ rfl
      have hc1 := hb1.cell 1 _ rfl
      have hf0 := hb0.free 0
      have hf1 := hb0.free 1
      have hc2 := hb0.cell 0 _ rfl
      have hc3 := hb0.cell 1 _ rfl
      have HBEL := hid hbel
      obtain rfl : j = m := by omega
      clear hb0 hb1 hbel
      by_cases hl : (j : Int) < (xs.length : Int)
      all_goals
        go_wp2_with fail
        refine bodyPost_ret (v := .agg #[.int .i64 (bsum qre k xs j), .int .i64 (bsum qim k xs j)]) (by simp [results, Try.results37, go_sem, hc0, hc1, hc2, hc3, hf0, hf1]) rfl ⟨rfl, ?_⟩
        exact (HBEL.out.setCell (by simp) _).setCell (by simp) _

end Go.Proofs.Ytaombjljahpncaa
