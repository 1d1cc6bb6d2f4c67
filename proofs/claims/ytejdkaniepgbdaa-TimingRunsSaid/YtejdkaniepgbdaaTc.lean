/- timing: slices.Repeat of one int. -/
import Derived.Test.YtejdkaniepgbdaaTb
import Derived.Laws.CopyOwn
import Derived.Deep.RegionLaw
import Derived.Deep.OwnRows
set_option linter.unusedVariables false
set_option linter.unusedSimpArgs false
namespace Go.Proofs.Ytejdkaniepgbdaa
open Go.RowKit

theorem mul1 (N : Nat) (hN : N ≤ 100001) (w : World) : Calls Try.prog 34 #[.int .u64 1, .int .u64 N] w fun e w' => e = .returned (.tuple #[.int .u64 0, .int .u64 N]) ∧ w' = w := by
  have h := Try.bits_Mul 1 N (by omega) (by omega) w
  have e1 : 1 * N / 18446744073709551616 = 0 := Nat.div_eq_of_lt (by omega)
  have e2 : 1 * N % 18446744073709551616 = N := by rw [Nat.one_mul]; exact Nat.mod_eq_of_lt (by omega)
  rw [e1, e2] at h
  exact h
def zs0 (n : Nat) : Array Value := madeCells #[.int .i64 0] n
theorem zs0_eq (n : Nat) : zs0 n = (List.replicate n (Value.int .i64 0)).toArray := by
  apply Array.ext_getElem?
  intro j
  by_cases h : j < n
  · rw [Array.getElem?_eq_getElem (by simp [zs0, madeCells]; exact h)]
    simp [zs0, madeCells, Nat.mod_one, h]
  · rw [Array.getElem?_eq_none (by simp [zs0, madeCells]; omega)]
    simp [h]
theorem run_mkI (n : Nat) (hn : n ≤ 100001) (w : World) : (Instr.makeSlice 28 (.int .i64 (n : Int)) (.int .i64 (n : Int))).run Try.prog w = .ok (.slice (some ⟨w.heap.size, 0, none⟩) n n) (w.alloc (.cells (zs0 n) 3)) :=
  run_make_row' (P := Try.prog) 28 3 (.int .i64 0) 8 Try.underlying28 infoInt rfl .i64 .i64 n (by omega) (by omega) w

/-- k times e, then 0. -/
def fillL (e : Int) (N k : Nat) : List Value := List.replicate k (.int .i64 e) ++ List.replicate (N - k) (.int .i64 0)
theorem fillL_len (e : Int) (N k : Nat) (h : k ≤ N) : (fillL e N k).length = N := by simp [fillL]; omega
theorem fillL_splice (e : Int) (N k m : Nat) (h : k + m ≤ N) : splice (fillL e N k) k (List.replicate m (.int .i64 e)) = fillL e N (k + m) := by
  apply List.ext_getElem?
  intro j
  unfold splice fillL
  simp [List.getElem?_append, List.getElem?_take, List.getElem?_drop, List.getElem?_replicate]
  repeat' split
  all_goals first | rfl | omega
theorem fillL_zero (e : Int) (N : Nat) : fillL e N 0 = List.replicate N (.int .i64 0) := by simp [fillL]
theorem fillL_full (e : Int) (N : Nat) : fillL e N N = List.replicate N (.int .i64 e) := by simp [fillL]
theorem fillL_cell {w : World} {T N k : Nat} {e : Int} (h : Blk w T (fillL e N k).toArray 3) (j : Nat) (hj : j < k) : w.cell? ⟨T, j, none⟩ = some (.int .i64 e) := by
  refine h.cell j _ ?_
  simp [fillL, List.getElem?_append, hj]

def RetR (e : Int) (N : Nat) (w : World) (en : Ending) (w' : World) : Prop :=
  ∃ T, en = .returned (.slice (some ⟨T, 0, none⟩) N N) ∧ Blk w' T (List.replicate N (Value.int .i64 e)).toArray 3 ∧ w.heap.size ≤ T ∧ Below w.heap.size w w'

set_option maxRecDepth 10000 in
set_option maxHeartbeats 1000000 in
theorem Repeat_calls (b : Nat) (e : Int) (N : Nat) (w : World) (hb : Blk w b #[.int .i64 e] 3) (hN : 1 ≤ N) (hN2 : N ≤ 100001) :
    Calls Try.prog 28 #[.slice (some ⟨b, 0, none⟩) 1 1, .int .i64 N] w (RetR e N w) := by
  have hmk := run_mkI N hN2
  have HB := hid hb
  have hbl := hb.lt
  clear hb
  go_enter Try.func28, Try.ntmps28
  go_wp2_with fail
  refine (mul1 N hN2 _).mono ?_
  rintro en w' ⟨rfl, rfl⟩
  have hblk : Blk (w'.alloc (.cells (zs0 N) 3)) w'.heap.size (fillL e N 0).toArray 3 := by rw [fillL_zero, ← zs0_eq]; exact Blk.new _ _ _
  have hcb : (w'.alloc (.cells (zs0 N) 3)).cell? ⟨b, 0, none⟩ = some (.int .i64 e) := (HB.out.alloc _).cell 0 _ rfl
  have HBK := hid hblk
  have HBE := hid (bel_a1 w' (.cells (zs0 N) 3))
  have hmin : ([Value.int .i64 e] : List Value).length = Nat.min 1 N := by simp [Nat.min_def, hN]
  clear hblk
  go_wp2_with (refine wpList_copy_splice rfl (.tmp 31) (.tmp 32) 28 28 rfl 3 Try.underlying28 (by kernel_rfl) _ _ _ _ _ _ rfl rfl w'.heap.size 0 (fillL e N 0) 3 (by exact HBK.out) [.int .i64 e] hmin (fun _ => ⟨rfl, _, rfl, fun j v hj => by (rcases j with _ | j; (simp at hj; subst hj; exact hcb); simp at hj)⟩) (by rw [fillL_len _ _ _ (Nat.zero_le _)]; simpa using hN) (by intro v hv; simp at hv; subst hv; rfl) w'.heap.size w' HBE.out (Nat.le_refl _) ?_)
  intro w4 hg4 hb4
  have hblk4 : Blk w4 w'.heap.size (fillL e N 1).toArray 3 := by
    have := hg4.out
    rwa [show splice (fillL e N 0) 0 [Value.int .i64 e] = fillL e N 1 from fillL_splice e N 0 1 (by omega)] at this
  have HB4 := hid hb4
  have HK4 := hid hblk4
  clear hg4 hb4 hblk4 HBK HBE hmin hcb HB hmk
  obtain ⟨T, hT⟩ : ∃ T, w'.heap.size = T := ⟨_, rfl⟩
  have HT := hid hT
  have hTl : w'.heap.size ≤ T := by omega
  rw [hT] at HB4 HK4 ⊢
  clear hT
  go_wp2_with fail
  go_loopw [8] (fun v wr => ∃ k : Nat, 1 ≤ k ∧ k ≤ N ∧ v = .int .i64 k ∧ Blk wr T (fillL e N k).toArray 3 ∧ Below T w' wr) (fun v _ => N - (intOf v).toNat)
  case atStart => exact ⟨1, Nat.le_refl _, hN, rfl, HK4.out, HB4.out⟩
  case round =>
    obtain ⟨k, hk1, hk, rfl, hblk, hbel⟩ := hrel
    have HBL := hid hblk
    have HBE := hid hbel
    by_cases hlt : k < N
    · have hd : decide ((k : Int) < (N : Int)) = true := by simp; omega
      have i1 : (0 : Int) ≤ (k : Int) := Int.natCast_nonneg _
      have i2 : (k : Int) ≤ (N : Int) := by omega
      obtain ⟨m, hm⟩ : ∃ m, Nat.min k (N - k) = m := ⟨_, rfl⟩
      obtain ⟨hm1, hm2, hm3⟩ : m ≤ k ∧ k + m ≤ N ∧ 1 ≤ m := by
        have hmm : m = if k ≤ N - k then k else N - k := by rw [← hm]; rfl
        split at hmm <;> omega
      have hms : IntKind.i64.wrap ((k : Int) + (m : Int)) = (k : Int) + (m : Int) := by rw [IntKind.wrap_i64]; omega
      have HM := hid hm
      have HMS := hid hms
      clear hblk hbel hm hms
      go_wp2_with fail
      go_region_law (refine step_copy_splice (by rfl) _ _ 28 28 (by rfl) 3 Try.underlying28 (by kernel_rfl) (some ⟨T, k, none⟩) (some ⟨T, 0, none⟩) (N - k) (N - k) k N (by first | (simp [Act.eval, Act.put]; done) | (simp [Act.eval, Act.put]; omega)) (by simp [Act.eval, Act.put]) T k (fillL e N k) 3 (by exact HBL.out) (List.replicate m (.int .i64 e)) (by simp; exact HM.out.symm) (fun _ => ⟨rfl, _, rfl, fun j v hj => by (have hj1 : j < m := (by have := (List.getElem?_eq_some_iff.1 hj).1; simpa using this); rw [List.getElem?_replicate, if_pos hj1] at hj; injection hj with hj; subst hj; rw [add_pl, Nat.zero_add]; exact fillL_cell HBL.out j (by omega))⟩) (by rw [fillL_len _ _ _ (by omega)]; simpa using hm2) (by (intro v hv; rw [List.eq_of_mem_replicate hv]; rfl)) T w' (by exact HBE.out.drew) (Nat.le_refl _) ?_; intro w5 hg5 hb5)
      have hblk5 : Blk w5 T (fillL e N (k + m)).toArray 3 := by
        have := hg5.out
        rwa [fillL_splice e N k m hm2] at this
      have HB5 := hid hb5
      have HK5 := hid hblk5
      have hms := HMS.out
      clear hg5 hb5 hblk5 HBL HBE
      go_wp2_with fail
      go_roundw
      case rel => exact ⟨k + m, by omega, hm2, by first | go_num | simp [goInt], HK5.out, HB5.out⟩
      case measure => simp [intOf]; omega
    · obtain rfl : k = N := by omega
      have hd : decide ((k : Int) < (k : Int)) = false := by simp
      clear hblk hbel
      go_wp2_with fail
      go_ret
      refine ⟨T, rfl, ?_, hTl, ?_⟩
      · rw [← fillL_full]; exact HBL.out
      · rw [HT.out]; exact HBE.out
end Go.Proofs.Ytejdkaniepgbdaa
