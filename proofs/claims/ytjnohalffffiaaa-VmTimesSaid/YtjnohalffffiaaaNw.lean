/- vm.Run of a program that may run; of none; comparisons of scans and images. -/
import Derived.Test.YtjnohalffffiaaaNs
import Derived.Test.YtjnohalffffiaaaNv
import Derived.Test.YtjnohalffffiaaaWEqStruct
set_option linter.unusedVariables false
set_option linter.unusedSimpArgs false
namespace Go.Proofs.Ytjnohalffffiaaa
open Go.RowKit

theorem Run_calls (pb : Nat) (a : Option Addr) (l : List Ins) (cap : Nat) (I Q M R : ByteArray) (P : Int) (w : World) (hc : w.cell? ⟨pb, 0, none⟩ = some (.slice a l.length cap)) (hr : RdIns w a l) (A : Nat → Option St) (hA : allI l = .tab A) :
    Calls Try.prog 11 #[.pointer (some ⟨pb, 0, none⟩), .agg #[.string I, .string Q, .string M, .string R], .int .i64 P] w (RetRun I (runv l I Q M R P) w) := by
  have ht := allI_tok hA
  have hn := ht.len
  exact run_main pb a l cap I Q M R P w hc hr (InvT A) (safe_of ht _) (safe_start ht _) (by omega)

theorem chk_tab {l : List Ins} (h : (chkI l).1 = 0) : ∃ A, allI l = .tab A := by
  cases hA : allI l with
  | err e p =>
    unfold chkI at h
    rw [hA] at h
    exact absurd h (nr_allI hA)
  | tab A => exact ⟨A, rfl⟩

/-- Straight on. -/
theorem VS.runs_on (p : Int) (l : List Ins) (j : Nat) (S : VS) (h : j < l.length) (hj : jumpsb l[j] = false) (ht : retb l[j] = false) : VS.runs p l j S = VS.runs p l (j + 1) (S.tick.step p l[j]) := by
  rw [VS.runs_step p l j S h]
  have e1 : S.tick.next l.length j l[j] = j + 1 := by unfold VS.next; rw [hj, ht]; rfl
  have e2 : S.tick.after p l[j] = S.tick.step p l[j] := by unfold VS.after; rw [hj, ht]; rfl
  rw [e1, e2]

open Go.Proofs.YtjnohalffffiaaaW.PrintWords in
theorem eqScan (d : Nat) (w : World) (x0 y0 x1 y1 x2 y2 x3 y3 : Int) :
    (Op.equalIn (d + 2) 32 (.agg #[.int .i64 x0, .int .i64 x1, .int .i64 x2, .int .i64 x3]) (.agg #[.int .i64 y0, .int .i64 y1, .int .i64 y2, .int .i64 y3])).run Try.prog w = .ok (x0 == y0 && (x1 == y1 && (x2 == y2 && (x3 == y3)))) w := by
  refine eqA_of Try.underlying32 (by kernel_rfl) ?_
  refine eqf_cons (by rfl) (by go_simp; rfl) (by go_simp; rfl) (by go_simp) ?_
  refine eqf_cons (by rfl) (by go_simp; rfl) (by go_simp; rfl) (by go_simp) ?_
  refine eqf_cons (by rfl) (by go_simp; rfl) (by go_simp; rfl) (by go_simp) ?_
  exact eqf_last (by rfl) (by go_simp; rfl) (by go_simp; rfl) (by go_simp)
@[go_sem] theorem eqScanK (w : World) (x0 y0 x1 y1 x2 y2 x3 y3 : Int) :
    (Op.equalIn 10000 32 (.agg #[.int .i64 x0, .int .i64 x1, .int .i64 x2, .int .i64 x3]) (.agg #[.int .i64 y0, .int .i64 y1, .int .i64 y2, .int .i64 y3])).run Try.prog w = .ok (x0 == y0 && (x1 == y1 && (x2 == y2 && (x3 == y3)))) w := eqScan 9998 w x0 y0 x1 y1 x2 y2 x3 y3
open Go.Proofs.YtjnohalffffiaaaW.PrintWords in
theorem eqImg (d : Nat) (w : World) (x0 y0 x1 y1 x2 y2 x3 y3 : ByteArray) :
    (Op.equalIn (d + 2) 24 (.agg #[.string x0, .string x1, .string x2, .string x3]) (.agg #[.string y0, .string y1, .string y2, .string y3])).run Try.prog w = .ok (x0.toList == y0.toList && (x1.toList == y1.toList && (x2.toList == y2.toList && (x3.toList == y3.toList)))) w := by
  refine eqA_of Try.underlying24 (by kernel_rfl) ?_
  refine eqf_cons (by rfl) (by go_simp; rfl) (by go_simp; rfl) (by go_simp) ?_
  refine eqf_cons (by rfl) (by go_simp; rfl) (by go_simp; rfl) (by go_simp) ?_
  refine eqf_cons (by rfl) (by go_simp; rfl) (by go_simp; rfl) (by go_simp) ?_
  exact eqf_last (by rfl) (by go_simp; rfl) (by go_simp; rfl) (by go_simp)
@[go_sem] theorem eqImgK (w : World) (x0 y0 x1 y1 x2 y2 x3 y3 : ByteArray) :
    (Op.equalIn 10000 24 (.agg #[.string x0, .string x1, .string x2, .string x3]) (.agg #[.string y0, .string y1, .string y2, .string y3])).run Try.prog w = .ok (x0.toList == y0.toList && (x1.toList == y1.toList && (x2.toList == y2.toList && (x3.toList == y3.toList)))) w := eqImg 9998 w x0 y0 x1 y1 x2 y2 x3 y3
end Go.Proofs.Ytjnohalffffiaaa
