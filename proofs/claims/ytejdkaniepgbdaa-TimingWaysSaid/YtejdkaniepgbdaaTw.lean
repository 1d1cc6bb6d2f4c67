/- TimingWays: awake, same. -/
import Derived.Test.YtejdkaniepgbdaaTv
set_option linter.unusedVariables false
set_option linter.unusedSimpArgs false
namespace Go.Proofs.Ytejdkaniepgbdaa
open Go.RowKit

set_option maxHeartbeats 1000000 in
theorem same_calls (a b : Option Addr) (xs : List Int) (cap cap' : Nat) (w : World) (hr : RdI w a xs) (hr' : RdI w b xs) (hl : xs.length ≤ 1000) :
    Calls Try.prog 9 #[.slice a xs.length cap, .slice b xs.length cap'] w fun e w' => e = .returned (.bool true) ∧ Below w.heap.size w w' := by
  have HR := hid hr
  have HR' := hid hr'
  clear hr hr'
  go_enter Try.func9, Try.ntmps9
  go_wp2_with fail
  go_loopw [13] (fun i wr => ∃ (j n : Nat), j ≤ xs.length ∧ i = .int .i64 j ∧ wr = w.drewN n) (fun i _ => xs.length - (intOf i).toNat)
  case atStart => exact ⟨0, 0, Nat.zero_le _, rfl, rfl⟩
  case round =>
    obtain ⟨j, n, hj, rfl, rfl⟩ := hrel
    by_cases hlt : j < xs.length
    · obtain ⟨b1, o1, h1, hc1⟩ := HR.out.cell j hlt
      obtain ⟨b2, o2, h2, hc2⟩ := HR'.out.cell j hlt
      have HX := hid h1
      have HY := hid h2
      subst h1 h2
      generalize xs.getD j 0 = z at *
      have i1 : (0 : Int) ≤ (j : Int) := Int.natCast_nonneg _
      have i2 : (j : Int) < (xs.length : Int) := by omega
      go_wp2_with fail
      go_quiet (fail)
      go_wp2_with fail
      exact ⟨⟨j + 1, n + nq, by omega, by go_num, rfl⟩, by simp [intOf]; omega⟩
    · obtain rfl : j = xs.length := by omega
      go_wp2_with fail
      go_ret
      exact ⟨rfl, bel_drewN (Below.refl _ _) _⟩

/-- awake's program. -/
def AW : List Ins := [⟨1, 1, 0, 0, 0⟩, ⟨26, 0, 0, 3, 0⟩, ⟨13, 0, 0, 0, 0⟩, ⟨3, 1, 2, 0, 0⟩]
theorem aw_runs : runsb AW = true := by kernel_rfl
theorem aw_a : farG AW false 0 = 3 := by kernel_rfl
theorem aw_b : farG AW true 0 = 4 := by kernel_rfl
theorem aw_n : wayN AW = 2 := by kernel_rfl
theorem runsb_tab {l : List Ins} (h : runsb l = true) : ∃ A, allI l = .tab A := by
  unfold runsb at h
  cases hA : allI l with
  | err e p => rw [hA] at h; cases h
  | tab A => exact ⟨A, rfl⟩
theorem runsb_ok {l : List Ins} (h : runsb l = true) : ∃ A, Ok l A := by
  obtain ⟨A, hA⟩ := runsb_tab h
  exact ⟨A, allI_ok hA⟩
def AWC : Array Value := #[.int .i64 1, .int .i64 1, .int .i64 0, .int .i64 0, .int .i64 0, .int .i64 26, .int .i64 0, .int .i64 0, .int .i64 3, .int .i64 0, .int .i64 13, .int .i64 0, .int .i64 0, .int .i64 0, .int .i64 0, .int .i64 3, .int .i64 1, .int .i64 2, .int .i64 0, .int .i64 0]
theorem aw_rd {w : World} {b : Nat} {t : TypeId} (h : Blk w b AWC t) : RdIns w (some ⟨b, 0, none⟩) AW := by
  refine .inr ⟨b, 0, rfl, fun j hj => ?_⟩
  have : j = 0 ∨ j = 1 ∨ j = 2 ∨ j = 3 := by simp [AW] at hj; omega
  rcases this with rfl | rfl | rfl | rfl
  all_goals exact ⟨h.cell _ _ rfl, h.cell _ _ rfl, h.cell _ _ rfl, h.cell _ _ rfl, h.cell _ _ rfl⟩

set_option maxHeartbeats 1000000 in
theorem awake_calls (w : World) : Calls Try.prog 5 #[] w fun e w' => e = .returned (.bool true) ∧ Below w.heap.size w w' := by
  obtain ⟨A, hok⟩ := runsb_ok aw_runs
  have PS := hid (fun (W : World) (b : Nat) (h : RdIns W (some ⟨b, 0, none⟩) AW) => Spans_calls _ AW 4 W h (Nat.le_refl _) (by omega) aw_runs hok.len hok.pos)
  have PW := hid (fun (W : World) (b : Nat) (h : RdIns W (some ⟨b, 0, none⟩) AW) => Ways_calls _ AW 4 W h (Nat.le_refl _) (by omega) aw_runs hok.len hok.pos)
  rw [aw_a, aw_b] at PS
  rw [aw_n] at PW
  have hlen : AW.length = 4 := rfl
  rw [hlen] at PS PW
  clear hok hlen
  go_enter Try.func5, Try.ntmps5
  go_wp2_with fail
  have hblk : Blk (w.alloc (.cells AWC 48)) w.heap.size AWC 48 := Blk.new _ _ _
  have hrd := aw_rd hblk
  refine (PS.out _ _ hrd).mono ?_
  rintro e w1 ⟨rfl, hb1⟩
  have HR1 := hid (hrd.below hb1)
  have HB1 := hid (below_trans (bel_a1 w _) hb1)
  clear hb1 hblk hrd
  go_wp2_with fail
  refine (PW.out _ _ HR1.out).mono ?_
  rintro e w2 ⟨rfl, hb2⟩
  have HB2 := hid (below_trans HB1.out hb2)
  clear hb2
  go_wp2_with fail
  go_ret
  exact ⟨rfl, HB2.out⟩
end Go.Proofs.Ytejdkaniepgbdaa
