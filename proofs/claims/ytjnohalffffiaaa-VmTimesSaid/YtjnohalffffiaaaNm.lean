/- vm: step, operations on the result. -/
import Derived.Test.YtjnohalffffiaaaNk
set_option linter.unusedVariables false
set_option linter.unusedSimpArgs false
namespace Go.Proofs.Ytjnohalffffiaaa
open Go.RowKit

set_option maxRecDepth 10000 in
set_option maxHeartbeats 4000000 in
theorem step_do (base rb : Nat) (p : Int) (S : VS) (op kind area at_ n : Int) (w : World) (h : VmAt w base rb p S) (hi : opdOk ⟨op, kind, area, at_, n⟩) (ho : 7 ≤ op ∧ op ≤ 24 ∧ op ≠ 13) (hz : 0 ≤ S.zero ∧ S.zero ≤ 1000000) :
    Calls Try.prog 33 #[.pointer (some ⟨rb, 0, none⟩), .agg #[.int .i64 op, .int .i64 kind, .int .i64 area, .int .i64 at_, .int .i64 n]] w (RetV base rb p (S.does op S.kind S.n (S.opd ⟨op, kind, area, at_, n⟩)) w) := by
  have g1 : (op == 1) = false := by simp; omega
  have g2 : (op == 2) = false := by simp; omega
  have g3 : (op == 3) = false := by simp; omega
  have g4 : (op == 4) = false := by simp; omega
  have g5 : (op == 5) = false := by simp; omega
  have g6 : (op == 6) = false := by simp; omega
  have g13 : (op == 13) = false := by simp; omega
  have g31 : (op == 31) = false := by simp; omega
  have g32 : (op == 32) = false := by simp; omega
  have g33 : (op == 33) = false := by simp; omega
  have g34 : (op == 34) = false := by simp; omega
  have g35 : (op == 35) = false := by simp; omega
  have g36 : (op == 36) = false := by simp; omega
  have HI := hid hi
  have HZ2 := hid hz
  clear ho
  have hB := h.base
  have hl := h.lt
  obtain ⟨_, _, v, c5, c6, c7, c8, c9, c12, hop, hfr⟩ := h.open
  have HV0 := hid h
  clear h c7 c8 c9 c12 hop hfr hi hz
  go_enter Try.func33, Try.ntmps33
  go_wp2_with fail
  obtain ⟨B0, B1, HB, HZ⟩ := new2 w #[.int .i64 op, .int .i64 kind, .int .i64 area, .int .i64 at_, .int .i64 n] #[.int .i64 S.kind, .int .i64 S.n] 48 65
  have HV := hid (HV0.out.below HB)
  have HK := hid (Kp.of HB hB)
  generalize ((w.alloc (.cells #[.int .i64 op, .int .i64 kind, .int .i64 area, .int .i64 at_, .int .i64 n] 48)).alloc (.cells #[.int .i64 S.kind, .int .i64 S.n] 65)) = W at *
  clear HZ HB HV0 c5 c6
  obtain ⟨_, hl2, v2, c5, c6, c7, c8, c9, c12, hop, hfr⟩ := HV.out.open
  have f5 := hfr 5
  have f6 := hfr 6
  clear c7 c8 c9 c12 hop hfr
  have d0 := B0.cell 0 _ rfl
  have d1 := B0.cell 1 _ rfl
  have d2 := B0.cell 2 _ rfl
  have d3 := B0.cell 3 _ rfl
  have d4 := B0.cell 4 _ rfl
  have e0 := B1.cell 0 _ rfl
  have e1 := B1.cell 1 _ rfl
  have BV := hid B1
  have BDI := hid B0
  clear B0 B1
  have BD := BDI
  go_region_held3 (fun w' => w'.cell? ⟨w.heap.size, 0, none⟩ = some (.int .i64 op) ∧ w'.cell? ⟨w.heap.size, 1, none⟩ = some (.int .i64 kind) ∧ w'.cell? ⟨w.heap.size, 2, none⟩ = some (.int .i64 area) ∧ w'.cell? ⟨w.heap.size, 3, none⟩ = some (.int .i64 at_) ∧ w'.cell? ⟨w.heap.size, 4, none⟩ = some (.int .i64 n) ∧ w'.cell? ⟨w.heap.size + 1, 0, none⟩ = some (.int .i64 S.kind) ∧ w'.cell? ⟨w.heap.size + 1, 1, none⟩ = some (.int .i64 S.n))
    (first | (exact keepC5 (by assumption) (by assumption)) | (exact keepC7 (by assumption) (by assumption)) | assumption | (exact keepC5s (R := rb) (keepC5s (R := rb) (by assumption) _ (by dsimp only; omega) (by dsimp only; omega) (by dsimp only; omega) (by dsimp only; omega) (by dsimp only; omega)) _ (by dsimp only; omega) (by dsimp only; omega) (by dsimp only; omega) (by dsimp only; omega) (by dsimp only; omega)) | (exact keepC5s (R := rb) (by assumption) _ (by dsimp only; omega) (by dsimp only; omega) (by dsimp only; omega) (by dsimp only; omega) (by dsimp only; omega)) | (exact keepC7s (R := rb) (keepC7s (R := rb) (by assumption) _ (by dsimp only; omega) (by dsimp only; omega) (by dsimp only; omega) (by dsimp only; omega) (by dsimp only; omega) (by dsimp only; omega) (by dsimp only; omega)) _ (by dsimp only; omega) (by dsimp only; omega) (by dsimp only; omega) (by dsimp only; omega) (by dsimp only; omega) (by dsimp only; omega) (by dsimp only; omega)) | (exact keepC7s (R := rb) (by assumption) _ (by dsimp only; omega) (by dsimp only; omega) (by dsimp only; omega) (by dsimp only; omega) (by dsimp only; omega) (by dsimp only; omega) (by dsimp only; omega)) | go_keep)
    (first
      | (go_at_call 53; (refine (operand_calls base rb p S ⟨op, kind, area, at_, n⟩ _ (by exact HV.out) HI.out).mono ?_); rintro e w2 ⟨rfl, hb2⟩; have HV := hid (VmAt.below (by exact HV.out) hb2); have HK := hid (Kp.bel (by first | exact HK.out | exact HK.out.drew) hb2 hB); obtain ⟨_, hl3, v3, c5, c6, c7, c8, c9, c12, hop, hfr⟩ := HV.out.open; have f5 := hfr 5; have f6 := hfr 6; clear c7 c8 c9 c12 hop hfr; have BD := hid (Blk.below (by exact BD.out) hb2); have BV := hid (Blk.below (by exact BV.out) hb2))
      | (go_at_call 57; (refine (do_calls base rb p S op S.kind S.n (S.opd ⟨op, kind, area, at_, n⟩) _ (by exact HV.out) HZ2.out.1 HZ2.out.2).mono ?_); rintro e w2 ⟨rfl, hv, hk⟩; have HV := hid hv; have HK := hid (Kp.trans (by first | exact HK.out | exact HK.out.drew) hk); have q1 := hk.2 _ _ _ (by exact BD.out) (by decide) (by decide); have q2 := hk.2 _ _ _ (by exact BV.out) (by decide) (by decide); have hh : w2.cell? ⟨w.heap.size, 0, none⟩ = some (.int .i64 op) ∧ w2.cell? ⟨w.heap.size, 1, none⟩ = some (.int .i64 kind) ∧ w2.cell? ⟨w.heap.size, 2, none⟩ = some (.int .i64 area) ∧ w2.cell? ⟨w.heap.size, 3, none⟩ = some (.int .i64 at_) ∧ w2.cell? ⟨w.heap.size, 4, none⟩ = some (.int .i64 n) ∧ w2.cell? ⟨w.heap.size + 1, 0, none⟩ = some (.int .i64 S.kind) ∧ w2.cell? ⟨w.heap.size + 1, 1, none⟩ = some (.int .i64 S.n) := ⟨q1.cell 0 _ rfl, q1.cell 1 _ rfl, q1.cell 2 _ rfl, q1.cell 3 _ rfl, q1.cell 4 _ rfl, q2.cell 0 _ rfl, q2.cell 1 _ rfl⟩))
  all_goals
    go_wp2_with fail
    go_end0
    exact ⟨rfl, HV.out, by first | exact HK.out | exact HK.out.drew⟩

end Go.Proofs.Ytjnohalffffiaaa
