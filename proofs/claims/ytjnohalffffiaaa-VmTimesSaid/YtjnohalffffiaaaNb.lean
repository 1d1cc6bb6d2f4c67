/- iec: operations on values. -/
import Derived.Test.YtjnohalffffiaaaNa
set_option linter.unusedVariables false
set_option linter.unusedSimpArgs false
namespace Go.Proofs.Ytjnohalffffiaaa
open Go.RowKit

theorem yes_calls (b : Bool) (w : World) : Calls Try.prog 108 #[.bool b] w fun e w' => e = .returned (.int .i64 (yesI b)) ∧ w' = w := by
  cases b
  all_goals
    go_enter Try.func108, Try.ntmps108
    go_wp2_with fail
    go_ret
    exact ⟨rfl, rfl⟩

theorem quotient_calls (a b : Int) (w : World) : Calls Try.prog 107 #[.int .i64 a, .int .i64 b] w fun e w' => e = .returned (.tuple #[.int .i64 (quoI a b), .int .i64 (remI a b)]) ∧ Below w.heap.size w w' := by
  by_cases h : b = 0
  · subst h
    rw [show quoI a 0 = 0 from rfl, show remI a 0 = 0 from rfl]
    go_enter Try.func107, Try.ntmps107
    go_wp2_with fail
    go_ret2
    exact ⟨rfl, Below.refl _ _⟩
  · have hb : (b == 0) = false := by simpa using h
    rw [show quoI a b = wrap64 (Int.tdiv a b) from by unfold quoI; rw [if_neg h], show remI a b = Int.tmod a b from by unfold remI; rw [if_neg h]]
    go_enter Try.func107, Try.ntmps107
    go_wp2_with fail
    go_region
    all_goals
      go_wp2_with fail
      go_ret2
      exact ⟨rfl, (Below.refl _ _).drew⟩

def RetI (v : Int) (w : World) (e : Ending) (w' : World) : Prop := e = .returned (.int .i64 v) ∧ Below w.heap.size w w'
theorem bel_call {w w1 w2 : World} (h : Below w.heap.size w w1) (k : Below w1.heap.size w1 w2) : Below w.heap.size w w2 := below_trans h k

theorem raw_7 (a b : Int) (w : World) : Calls Try.prog 104 #[.int .i64 7, .int .i64 a, .int .i64 b] w (RetI (bits .and .i64 a b) w) := by
  go_enter Try.func104, Try.ntmps104
  go_wp2_with fail
  refine (quotient_calls a b _).mono ?_
  rintro e w1 ⟨rfl, hb⟩
  have HB := hid hb
  clear hb
  go_wp2_with fail
  go_ret
  exact ⟨rfl, HB.out⟩

theorem raw_8 (a b : Int) (w : World) : Calls Try.prog 104 #[.int .i64 8, .int .i64 a, .int .i64 b] w (RetI (bits .or .i64 a b) w) := by
  go_enter Try.func104, Try.ntmps104
  go_wp2_with fail
  refine (quotient_calls a b _).mono ?_
  rintro e w1 ⟨rfl, hb⟩
  have HB := hid hb
  clear hb
  go_wp2_with fail
  go_ret
  exact ⟨rfl, HB.out⟩

theorem raw_9 (a b : Int) (w : World) : Calls Try.prog 104 #[.int .i64 9, .int .i64 a, .int .i64 b] w (RetI (bits .xor .i64 a b) w) := by
  go_enter Try.func104, Try.ntmps104
  go_wp2_with fail
  refine (quotient_calls a b _).mono ?_
  rintro e w1 ⟨rfl, hb⟩
  have HB := hid hb
  clear hb
  go_wp2_with fail
  go_ret
  exact ⟨rfl, HB.out⟩

theorem raw_14 (a b : Int) (w : World) : Calls Try.prog 104 #[.int .i64 14, .int .i64 a, .int .i64 b] w (RetI (wrap64 (a + b)) w) := by
  go_enter Try.func104, Try.ntmps104
  go_wp2_with fail
  refine (quotient_calls a b _).mono ?_
  rintro e w1 ⟨rfl, hb⟩
  have HB := hid hb
  clear hb
  go_wp2_with fail
  go_ret
  exact ⟨rfl, HB.out⟩

theorem raw_15 (a b : Int) (w : World) : Calls Try.prog 104 #[.int .i64 15, .int .i64 a, .int .i64 b] w (RetI (wrap64 (a - b)) w) := by
  go_enter Try.func104, Try.ntmps104
  go_wp2_with fail
  refine (quotient_calls a b _).mono ?_
  rintro e w1 ⟨rfl, hb⟩
  have HB := hid hb
  clear hb
  go_wp2_with fail
  go_ret
  exact ⟨rfl, HB.out⟩

theorem raw_16 (a b : Int) (w : World) : Calls Try.prog 104 #[.int .i64 16, .int .i64 a, .int .i64 b] w (RetI (wrap64 (a * b)) w) := by
  go_enter Try.func104, Try.ntmps104
  go_wp2_with fail
  refine (quotient_calls a b _).mono ?_
  rintro e w1 ⟨rfl, hb⟩
  have HB := hid hb
  clear hb
  go_wp2_with fail
  go_ret
  exact ⟨rfl, HB.out⟩

theorem raw_17 (a b : Int) (w : World) : Calls Try.prog 104 #[.int .i64 17, .int .i64 a, .int .i64 b] w (RetI (quoI a b) w) := by
  go_enter Try.func104, Try.ntmps104
  go_wp2_with fail
  refine (quotient_calls a b _).mono ?_
  rintro e w1 ⟨rfl, hb⟩
  have HB := hid hb
  clear hb
  go_wp2_with fail
  go_ret
  exact ⟨rfl, HB.out⟩

theorem raw_18 (a b : Int) (w : World) : Calls Try.prog 104 #[.int .i64 18, .int .i64 a, .int .i64 b] w (RetI (remI a b) w) := by
  go_enter Try.func104, Try.ntmps104
  go_wp2_with fail
  refine (quotient_calls a b _).mono ?_
  rintro e w1 ⟨rfl, hb⟩
  have HB := hid hb
  clear hb
  go_wp2_with fail
  go_ret
  exact ⟨rfl, HB.out⟩

theorem raw_19 (a b : Int) (w : World) : Calls Try.prog 104 #[.int .i64 19, .int .i64 a, .int .i64 b] w (RetI (yesI (decide (b < a))) w) := by
  go_enter Try.func104, Try.ntmps104
  go_wp2_with fail
  refine (quotient_calls a b _).mono ?_
  rintro e w1 ⟨rfl, hb⟩
  have HB := hid hb
  clear hb
  go_wp2_with fail
  refine (yes_calls _ _).mono ?_
  rintro e w2 ⟨rfl, rfl⟩
  go_wp2_with fail
  go_ret
  exact ⟨rfl, HB.out⟩

theorem raw_20 (a b : Int) (w : World) : Calls Try.prog 104 #[.int .i64 20, .int .i64 a, .int .i64 b] w (RetI (yesI (decide (b ≤ a))) w) := by
  go_enter Try.func104, Try.ntmps104
  go_wp2_with fail
  refine (quotient_calls a b _).mono ?_
  rintro e w1 ⟨rfl, hb⟩
  have HB := hid hb
  clear hb
  go_wp2_with fail
  refine (yes_calls _ _).mono ?_
  rintro e w2 ⟨rfl, rfl⟩
  go_wp2_with fail
  go_ret
  exact ⟨rfl, HB.out⟩

theorem raw_21 (a b : Int) (w : World) : Calls Try.prog 104 #[.int .i64 21, .int .i64 a, .int .i64 b] w (RetI (yesI (a == b)) w) := by
  go_enter Try.func104, Try.ntmps104
  go_wp2_with fail
  refine (quotient_calls a b _).mono ?_
  rintro e w1 ⟨rfl, hb⟩
  have HB := hid hb
  clear hb
  go_wp2_with fail
  refine (yes_calls _ _).mono ?_
  rintro e w2 ⟨rfl, rfl⟩
  go_wp2_with fail
  go_ret
  exact ⟨rfl, HB.out⟩

theorem raw_22 (a b : Int) (w : World) : Calls Try.prog 104 #[.int .i64 22, .int .i64 a, .int .i64 b] w (RetI (yesI (a != b)) w) := by
  go_enter Try.func104, Try.ntmps104
  go_wp2_with fail
  refine (quotient_calls a b _).mono ?_
  rintro e w1 ⟨rfl, hb⟩
  have HB := hid hb
  clear hb
  go_wp2_with fail
  refine (yes_calls _ _).mono ?_
  rintro e w2 ⟨rfl, rfl⟩
  go_wp2_with fail
  go_ret
  exact ⟨rfl, HB.out⟩

theorem raw_23 (a b : Int) (w : World) : Calls Try.prog 104 #[.int .i64 23, .int .i64 a, .int .i64 b] w (RetI (yesI (decide (a ≤ b))) w) := by
  go_enter Try.func104, Try.ntmps104
  go_wp2_with fail
  refine (quotient_calls a b _).mono ?_
  rintro e w1 ⟨rfl, hb⟩
  have HB := hid hb
  clear hb
  go_wp2_with fail
  refine (yes_calls _ _).mono ?_
  rintro e w2 ⟨rfl, rfl⟩
  go_wp2_with fail
  go_ret
  exact ⟨rfl, HB.out⟩

theorem raw_else (op a b : Int) (h : 24 ≤ op) (w : World) : Calls Try.prog 104 #[.int .i64 op, .int .i64 a, .int .i64 b] w (RetI (yesI (decide (a < b))) w) := by
  have h7 : (op == 7) = false := by simp; omega
  have h8 : (op == 8) = false := by simp; omega
  have h9 : (op == 9) = false := by simp; omega
  have h14 : (op == 14) = false := by simp; omega
  have h15 : (op == 15) = false := by simp; omega
  have h16 : (op == 16) = false := by simp; omega
  have h17 : (op == 17) = false := by simp; omega
  have h18 : (op == 18) = false := by simp; omega
  have h19 : (op == 19) = false := by simp; omega
  have h20 : (op == 20) = false := by simp; omega
  have h21 : (op == 21) = false := by simp; omega
  have h22 : (op == 22) = false := by simp; omega
  have h23 : (op == 23) = false := by simp; omega
  clear h
  go_enter Try.func104, Try.ntmps104
  go_wp2_with fail
  refine (quotient_calls a b _).mono ?_
  rintro e w1 ⟨rfl, hb⟩
  have HB := hid hb
  clear hb
  go_wp2_with fail
  refine (yes_calls _ _).mono ?_
  rintro e w2 ⟨rfl, rfl⟩
  go_wp2_with fail
  go_ret
  exact ⟨rfl, HB.out⟩

theorem raw_calls (op a b : Int) (h : (7 ≤ op ∧ op ≤ 9) ∨ 14 ≤ op) (w : World) : Calls Try.prog 104 #[.int .i64 op, .int .i64 a, .int .i64 b] w (RetI (rawk op a b) w) := by
  by_cases h24 : 24 ≤ op
  · have e : rawk op a b = yesI (decide (a < b)) := by
      unfold rawk
      repeat rw [if_neg (by omega)]
    rw [e]
    exact raw_else op a b h24 w
  · obtain rfl | rfl | rfl | rfl | rfl | rfl | rfl | rfl | rfl | rfl | rfl | rfl | rfl : op = 7 ∨ op = 8 ∨ op = 9 ∨ op = 14 ∨ op = 15 ∨ op = 16 ∨ op = 17 ∨ op = 18 ∨ op = 19 ∨ op = 20 ∨ op = 21 ∨ op = 22 ∨ op = 23 := by omega
    · exact raw_7 a b w
    · exact raw_8 a b w
    · exact raw_9 a b w
    · exact raw_14 a b w
    · exact raw_15 a b w
    · exact raw_16 a b w
    · exact raw_17 a b w
    · exact raw_18 a b w
    · exact raw_19 a b w
    · exact raw_20 a b w
    · exact raw_21 a b w
    · exact raw_22 a b w
    · exact raw_23 a b w

theorem Not_calls (k v : Int) (w : World) : Calls Try.prog 54 #[.int .i64 k, .int .i64 v] w (RetI (notk k v) w) := by
  cases hm : may 13 k with
  | false =>
    rw [show notk k v = 0 from by unfold notk; rw [if_pos (.inl hm)]]
    have HM := hid hm
    clear hm
    go_enter Try.func54, Try.ntmps54
    go_wp2_with fail
    refine (May_calls _ _ _).mono ?_
    rintro e w1 ⟨rfl, hb⟩
    have HB := hid hb
    clear hb
    rw [HM.out]
    go_wp2_with fail
    go_ret
    exact ⟨rfl, HB.out⟩
  | true =>
    cases hi : isk k v with
    | false =>
      rw [show notk k v = 0 from by unfold notk; rw [if_pos (.inr hi)]]
      have HM := hid hm
      have HI := hid hi
      clear hm hi
      go_enter Try.func54, Try.ntmps54
      go_wp2_with fail
      refine (May_calls _ _ _).mono ?_
      rintro e w1 ⟨rfl, hb⟩
      have HB := hid hb
      clear hb
      rw [HM.out]
      go_wp2_with fail
      refine (Is_calls _ _ _).mono ?_
      rintro e w2 ⟨rfl, hb⟩
      have HB2 := hid (below_trans HB.out hb)
      clear hb
      rw [HI.out]
      go_wp2_with fail
      go_ret
      exact ⟨rfl, HB2.out⟩
    | true =>
      by_cases hk : k = 1
      · subst hk
        have hv : v = 0 ∨ v = 1 := by
          simp [isk, kok, wrapk] at hi
          by_cases h0 : v = 0
          · exact .inl h0
          · rw [if_neg h0] at hi; omega
        rw [show notk 1 v = 1 - v from by unfold notk; rw [hm, hi]; rfl]
        have HM := hid hm
        have HI := hid hi
        clear hm hi
        obtain rfl | rfl := hv
        all_goals
          go_enter Try.func54, Try.ntmps54
          go_wp2_with fail
          refine (May_calls _ _ _).mono ?_
          rintro e w1 ⟨rfl, hb⟩
          have HB := hid hb
          clear hb
          rw [HM.out]
          go_wp2_with fail
          refine (Is_calls _ _ _).mono ?_
          rintro e w2 ⟨rfl, hb⟩
          have HB2 := hid (below_trans HB.out hb)
          clear hb
          rw [HI.out]
          go_wp2_with fail
          go_ret
          exact ⟨rfl, HB2.out⟩
      · rw [show notk k v = wrapk k (bits .xor .i64 (-1) v) from by unfold notk; rw [if_neg (by simp [hm, hi]), if_neg hk]]
        have hk1 : (k == 1) = false := by simpa using hk
        have HM := hid hm
        have HI := hid hi
        clear hm hi hk
        go_enter Try.func54, Try.ntmps54
        go_wp2_with fail
        refine (May_calls _ _ _).mono ?_
        rintro e w1 ⟨rfl, hb⟩
        have HB := hid hb
        clear hb
        rw [HM.out]
        go_wp2_with fail
        refine (Is_calls _ _ _).mono ?_
        rintro e w2 ⟨rfl, hb⟩
        have HB2 := hid (below_trans HB.out hb)
        clear hb
        rw [HI.out]
        go_wp2_with fail
        refine (Wrap_calls _ _ _).mono ?_
        rintro e w3 ⟨rfl, hb⟩
        have HB3 := hid (below_trans HB2.out hb)
        clear hb
        go_wp2_with fail
        go_ret
        exact ⟨rfl, HB3.out⟩

theorem may_op {op k : Int} (h : may op k = true) : 7 ≤ op ∧ op ≤ 24 := by
  unfold may at h
  split at h
  · split at h
    · omega
    · split at h
      · omega
      · simpa using (of_decide_eq_true h : 19 ≤ op ∧ op ≤ 24).1 |> fun h' => ⟨by omega, (of_decide_eq_true h).2⟩
  · cases h

def RetD (x y : Int) (w : World) (e : Ending) (w' : World) : Prop := e = .returned (.tuple #[.int .i64 x, .int .i64 y]) ∧ Below w.heap.size w w'

theorem Do_13 (k a b : Int) (w : World) : Calls Try.prog 91 #[.int .i64 13, .int .i64 k, .int .i64 a, .int .i64 b] w (RetD 0 6 w) := by
  go_enter Try.func91, Try.ntmps91
  go_wp2_with fail
  go_ret2
  exact ⟨rfl, Below.refl _ _⟩

theorem Do_type (op k a b : Int) (h13 : (op == 13) = false) (hm : may op k = false) (w : World) : Calls Try.prog 91 #[.int .i64 op, .int .i64 k, .int .i64 a, .int .i64 b] w (RetD 0 6 w) := by
  have HM := hid hm
  clear hm
  go_enter Try.func91, Try.ntmps91
  go_wp2_with fail
  refine (May_calls _ _ _).mono ?_
  rintro e w1 ⟨rfl, hb⟩
  have HB := hid hb
  clear hb
  rw [HM.out]
  go_wp2_with fail
  go_ret2
  exact ⟨rfl, HB.out⟩

theorem Do_arg1 (op k a b : Int) (h13 : (op == 13) = false) (hm : may op k = true) (ha : isk k a = false) (w : World) : Calls Try.prog 91 #[.int .i64 op, .int .i64 k, .int .i64 a, .int .i64 b] w (RetD 0 1 w) := by
  have HM := hid hm
  have HA := hid ha
  clear hm ha
  go_enter Try.func91, Try.ntmps91
  go_wp2_with fail
  refine (May_calls _ _ _).mono ?_
  rintro e w1 ⟨rfl, hb⟩
  have HB := hid hb
  clear hb
  rw [HM.out]
  go_wp2_with fail
  refine (Is_calls _ _ _).mono ?_
  rintro e w2 ⟨rfl, hb⟩
  have HB2 := hid (below_trans HB.out hb)
  clear hb
  rw [HA.out]
  go_wp2_with fail
  go_ret2
  exact ⟨rfl, HB2.out⟩

theorem Do_arg2 (op k a b : Int) (h13 : (op == 13) = false) (hm : may op k = true) (ha : isk k a = true) (hz : isk k b = false) (w : World) : Calls Try.prog 91 #[.int .i64 op, .int .i64 k, .int .i64 a, .int .i64 b] w (RetD 0 1 w) := by
  have HM := hid hm
  have HA := hid ha
  have HZ := hid hz
  clear hm ha hz
  go_enter Try.func91, Try.ntmps91
  go_wp2_with fail
  refine (May_calls _ _ _).mono ?_
  rintro e w1 ⟨rfl, hb⟩
  have HB := hid hb
  clear hb
  rw [HM.out]
  go_wp2_with fail
  refine (Is_calls _ _ _).mono ?_
  rintro e w2 ⟨rfl, hb⟩
  have HB2 := hid (below_trans HB.out hb)
  clear hb
  rw [HA.out]
  go_wp2_with fail
  refine (Is_calls _ _ _).mono ?_
  rintro e w3 ⟨rfl, hb⟩
  have HB3 := hid (below_trans HB2.out hb)
  clear hb
  rw [HZ.out]
  go_wp2_with fail
  go_ret2
  exact ⟨rfl, HB3.out⟩

theorem Do_neg (op k a b : Int) (h13 : (op == 13) = false) (hm : may op k = true) (ha : isk k a = true) (hz : isk k b = true) (h10 : 10 ≤ op) (h12 : op ≤ 12) (w : World) : Calls Try.prog 91 #[.int .i64 op, .int .i64 k, .int .i64 a, .int .i64 b] w (RetD (wrapk k (rawk (op - 3) a (notk k b))) 0 w) := by
  have HM := hid hm
  have HA := hid ha
  have HZ := hid hz
  clear hm ha hz
  obtain rfl | rfl | rfl : op = 10 ∨ op = 11 ∨ op = 12 := by omega
  all_goals
    go_enter Try.func91, Try.ntmps91
    go_wp2_with fail
    refine (May_calls _ _ _).mono ?_
    rintro e w1 ⟨rfl, hb⟩
    have HB := hid hb
    clear hb
    rw [HM.out]
    go_wp2_with fail
    refine (Is_calls _ _ _).mono ?_
    rintro e w2 ⟨rfl, hb⟩
    have HB2 := hid (below_trans HB.out hb)
    clear hb
    rw [HA.out]
    go_wp2_with fail
    refine (Is_calls _ _ _).mono ?_
    rintro e w3 ⟨rfl, hb⟩
    have HB3 := hid (below_trans HB2.out hb)
    clear hb
    rw [HZ.out]
    go_wp2_with fail
    refine (Not_calls _ _ _).mono ?_
    rintro e w4 ⟨rfl, hb⟩
    have HB4 := hid (below_trans HB3.out hb)
    clear hb
    go_wp2_with fail
    refine (raw_calls _ _ _ (by omega) _).mono ?_
    rintro e w5 ⟨rfl, hb⟩
    have HB5 := hid (below_trans HB4.out hb)
    clear hb
    go_wp2_with fail
    refine (Wrap_calls _ _ _).mono ?_
    rintro e w6 ⟨rfl, hb⟩
    have HB6 := hid (below_trans HB5.out hb)
    clear hb
    go_wp2_with fail
    go_ret2
    exact ⟨rfl, HB6.out⟩

theorem Do_wrap (op k a b : Int) (h13 : (op == 13) = false) (hm : may op k = true) (ha : isk k a = true) (hz : isk k b = true) (h7 : op < 10 ∨ 12 < op) (h19 : op < 19) (w : World) : Calls Try.prog 91 #[.int .i64 op, .int .i64 k, .int .i64 a, .int .i64 b] w (RetD (wrapk k (rawk op a b)) 0 w) := by
  have hop := may_op hm
  have hr : (7 ≤ op ∧ op ≤ 9) ∨ 14 ≤ op := by simp at h13; omega
  have HM := hid hm
  have HA := hid ha
  have HZ := hid hz
  have HR := hid hr
  clear hm ha hz hop hr
  have h1 : decide (19 ≤ op) = false := by simp; omega
  rcases h7 with h7 | h7
  all_goals
    go_enter Try.func91, Try.ntmps91
    go_wp2_with fail
    refine (May_calls _ _ _).mono ?_
    rintro e w1 ⟨rfl, hb⟩
    have HB := hid hb
    clear hb
    rw [HM.out]
    go_wp2_with fail
    refine (Is_calls _ _ _).mono ?_
    rintro e w2 ⟨rfl, hb⟩
    have HB2 := hid (below_trans HB.out hb)
    clear hb
    rw [HA.out]
    go_wp2_with fail
    refine (Is_calls _ _ _).mono ?_
    rintro e w3 ⟨rfl, hb⟩
    have HB3 := hid (below_trans HB2.out hb)
    clear hb
    rw [HZ.out]
    go_wp2_with fail
    refine (raw_calls _ _ _ HR.out _).mono ?_
    rintro e w5 ⟨rfl, hb⟩
    have HB5 := hid (below_trans HB3.out hb)
    clear hb
    go_wp2_with fail
    refine (Wrap_calls _ _ _).mono ?_
    rintro e w6 ⟨rfl, hb⟩
    have HB6 := hid (below_trans HB5.out hb)
    clear hb
    go_wp2_with fail
    go_ret2
    exact ⟨rfl, HB6.out⟩

theorem Do_cmp (op k a b : Int) (h13 : (op == 13) = false) (hm : may op k = true) (ha : isk k a = true) (hz : isk k b = true) (h19 : 19 ≤ op) (w : World) : Calls Try.prog 91 #[.int .i64 op, .int .i64 k, .int .i64 a, .int .i64 b] w (RetD (rawk op a b) 0 w) := by
  have HM := hid hm
  have HA := hid ha
  have HZ := hid hz
  clear hm ha hz
  have h12 : 12 < op := by omega
  have h10 : 10 ≤ op := by omega
  go_enter Try.func91, Try.ntmps91
  go_wp2_with fail
  refine (May_calls _ _ _).mono ?_
  rintro e w1 ⟨rfl, hb⟩
  have HB := hid hb
  clear hb
  rw [HM.out]
  go_wp2_with fail
  refine (Is_calls _ _ _).mono ?_
  rintro e w2 ⟨rfl, hb⟩
  have HB2 := hid (below_trans HB.out hb)
  clear hb
  rw [HA.out]
  go_wp2_with fail
  refine (Is_calls _ _ _).mono ?_
  rintro e w3 ⟨rfl, hb⟩
  have HB3 := hid (below_trans HB2.out hb)
  clear hb
  rw [HZ.out]
  go_wp2_with fail
  refine (raw_calls _ _ _ (by omega) _).mono ?_
  rintro e w5 ⟨rfl, hb⟩
  have HB5 := hid (below_trans HB3.out hb)
  clear hb
  go_wp2_with fail
  go_ret2
  exact ⟨rfl, HB5.out⟩

theorem Do_calls (op k a b : Int) (w : World) : Calls Try.prog 91 #[.int .i64 op, .int .i64 k, .int .i64 a, .int .i64 b] w (RetD (dok op k a b).1 (dok op k a b).2 w) := by
  by_cases h13 : op = 13
  · subst h13
    rw [show dok 13 k a b = (0, 6) from by unfold dok; rw [if_pos (.inl rfl)]]
    exact Do_13 k a b w
  have e13 : (op == 13) = false := by simpa using h13
  cases hm : may op k with
  | false =>
    rw [show dok op k a b = (0, 6) from by unfold dok; rw [if_pos (.inr hm)]]
    exact Do_type op k a b e13 hm w
  | true =>
    have n1 : ¬ (op = 13 ∨ may op k = false) := by simp [h13, hm]
    cases ha : isk k a with
    | false =>
      rw [show dok op k a b = (0, 1) from by unfold dok; rw [if_neg n1, if_pos (.inl ha)]]
      exact Do_arg1 op k a b e13 hm ha w
    | true =>
      cases hz : isk k b with
      | false =>
        rw [show dok op k a b = (0, 1) from by unfold dok; rw [if_neg n1, if_pos (.inr hz)]]
        exact Do_arg2 op k a b e13 hm ha hz w
      | true =>
        have n2 : ¬ (isk k a = false ∨ isk k b = false) := by simp [ha, hz]
        by_cases hn : 10 ≤ op ∧ op ≤ 12
        · rw [show dok op k a b = (wrapk k (rawk (op - 3) a (notk k b)), 0) from by unfold dok; rw [if_neg n1, if_neg n2, if_pos (by simp [negop, hn.1, hn.2])]]
          exact Do_neg op k a b e13 hm ha hz hn.1 hn.2 w
        · have n3 : ¬ (negop op = true) := by simp [negop]; omega
          by_cases h19 : op < 19
          · rw [show dok op k a b = (wrapk k (rawk op a b), 0) from by unfold dok; rw [if_neg n1, if_neg n2, if_neg n3, if_pos h19]]
            exact Do_wrap op k a b e13 hm ha hz (by omega) h19 w
          · rw [show dok op k a b = (rawk op a b, 0) from by unfold dok; rw [if_neg n1, if_neg n2, if_neg n3, if_neg h19]]
            exact Do_cmp op k a b e13 hm ha hz (by omega) w

theorem there_calls (n at_ k : Int) (h1 : 0 < ksize k) (h2 : 0 ≤ at_) (h3 : at_ + ksize k ≤ n) (hn : n ≤ 64) (w : World) : Calls Try.prog 102 #[.int .i64 n, .int .i64 at_, .int .i64 k] w fun e w' => e = .returned (.bool true) ∧ Below w.heap.size w w' := by
  have e1 : IntKind.i64.wrap (n - at_) = n - at_ := by rw [IntKind.wrap_i64]; omega
  go_enter Try.func102, Try.ntmps102
  go_wp2_with fail
  refine (Size_calls _ _).mono ?_
  rintro e w1 ⟨rfl, hb⟩
  have HB := hid hb
  clear hb
  have h4 : at_ ≤ n := by omega
  have h5 : ksize k ≤ n - at_ := by omega
  go_wp2_with fail
  go_ret
  exact ⟨rfl, HB.out⟩
end Go.Proofs.Ytjnohalffffiaaa
