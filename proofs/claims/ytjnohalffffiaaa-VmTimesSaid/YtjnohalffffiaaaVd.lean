/- verify: behind an instruction (the rest). -/
import Derived.Test.YtjnohalffffiaaaVe
import Derived.Deep.DrawnRows
set_option linter.unusedVariables false
set_option linter.unusedSimpArgs false
namespace Go.Proofs.Ytjnohalffffiaaa
open Go.RowKit

set_option maxRecDepth 10000 in
set_option maxHeartbeats 4000000 in
theorem beh_1 (k kind area at_ n : Int) (a : Option Addr) (m c : Nat) (bs : List (Int × Int)) (w : World) (hv : BrR w (.slice a m c) bs) :
    Calls Try.prog 49 #[.agg #[.int .i64 k, .slice a m c], .agg #[.int .i64 1, .int .i64 kind, .int .i64 area, .int .i64 at_, .int .i64 n]] w (RetA 0 kind bs w) := by
  have HV := hid hv
  have HRA := hid (show RetA 0 kind bs w = fun e w' => ∃ v, e = .returned (.tuple #[.agg #[.int .i64 kind, v], .int .i64 0]) ∧ BrR w' v bs ∧ Below w.heap.size w w' from rfl)
  clear hv
  go_enter Try.func49, Try.ntmps49
  go_wp2_with fail
  obtain ⟨B0, B1, B2, HB, HZ⟩ := new3 w #[.int .i64 k, .slice a m c] #[.int .i64 1, .int .i64 kind, .int .i64 area, .int .i64 at_, .int .i64 n] #[.int .i64 0, .slice none 0 0] 105 48 105
  generalize (((w.alloc (.cells #[.int .i64 k, .slice a m c] 105)).alloc (.cells #[.int .i64 1, .int .i64 kind, .int .i64 area, .int .i64 at_, .int .i64 n] 48)).alloc (.cells #[.int .i64 0, .slice none 0 0] 105)) = W at *
  refine (with_calls _ _ _ _ _ _).mono ?_
  rintro e w2 ⟨rfl, hb2⟩
  have q := Blk.below B2 hb2
  have r0 := q.cell 0 _ rfl
  have r1 := q.cell 1 _ rfl
  have f0 := q.free 0
  have f1 := q.free 1
  have hq : w.heap.size + 1 + 1 < w2.heap.size := q.lt
  have HX := hid (below_trans HB hb2)
  clear hb2 B0 B1 B2 HZ q
  go_wp2_with fail
  refine bodyPost_ret (v := .tuple #[.agg #[.int .i64 kind, .slice a m c], .int .i64 0]) (by simp [results, Try.results49, go_sem, r0, r1, f0, f1]) rfl ?_
  rw [HRA.out]
  exact ⟨_, rfl, HV.out.below (bel_set (bel_set HX.out (by omega) _ _) (by omega) _ _), bel_set (bel_set HX.out (by omega) _ _) (by omega) _ _⟩

set_option maxRecDepth 10000 in
set_option maxHeartbeats 4000000 in
theorem beh_4a (k kind area at_ n : Int) (a : Option Addr) (m c : Nat) (bs : List (Int × Int)) (w : World) (hv : BrR w (.slice a m c) bs) (hk : (k == kind) = true) :
    Calls Try.prog 49 #[.agg #[.int .i64 k, .slice a m c], .agg #[.int .i64 4, .int .i64 kind, .int .i64 area, .int .i64 at_, .int .i64 n]] w (RetA (mustI (may 13 kind)) (k) bs w) := by
  have HV := hid hv
  have HRA := hid (show RetA (mustI (may 13 kind)) (k) bs w = fun e w' => ∃ v, e = .returned (.tuple #[.agg #[.int .i64 (k), v], .int .i64 (mustI (may 13 kind))]) ∧ BrR w' v bs ∧ Below w.heap.size w w' from rfl)
  clear hv
  go_enter Try.func49, Try.ntmps49
  go_wp2_with fail
  obtain ⟨B0, B1, B2, HB, HZ⟩ := new3 w #[.int .i64 k, .slice a m c] #[.int .i64 4, .int .i64 kind, .int .i64 area, .int .i64 at_, .int .i64 n] #[.int .i64 0, .slice none 0 0] 105 48 105
  generalize (((w.alloc (.cells #[.int .i64 k, .slice a m c] 105)).alloc (.cells #[.int .i64 4, .int .i64 kind, .int .i64 area, .int .i64 at_, .int .i64 n] 48)).alloc (.cells #[.int .i64 0, .slice none 0 0] 105)) = W at *
  have a0 := B0.cell 0 _ rfl
  have a1 := B0.cell 1 _ rfl
  have i0 := B1.cell 0 _ rfl
  have i1 := B1.cell 1 _ rfl
  have q := B2
  have r0 := B2.cell 0 _ rfl
  have r1 := B2.cell 1 _ rfl
  have f0 := B2.free 0
  have f1 := B2.free 1
  have hq : w.heap.size + 1 + 1 < W.heap.size := B2.lt
  clear B0 B1 B2 HZ
  go_region_held3 (fun w' => w'.cell? ⟨w.heap.size, 0, none⟩ = some (.int .i64 k) ∧ w'.cell? ⟨w.heap.size, 1, none⟩ = some (.slice a m c) ∧ w'.cell? ⟨w.heap.size + 1, 0, none⟩ = some (.int .i64 4) ∧ w'.cell? ⟨w.heap.size + 1, 1, none⟩ = some (.int .i64 kind) ∧ Below w.heap.size w w')
    (first | (exact ⟨a0, a1, i0, i1, HB.drew⟩) | (exact keep5 (by assumption) (by assumption)) | assumption | (exact keep5s (by assumption) _ _ (by omega) (by dsimp only; omega) (by dsimp only; omega) (by dsimp only; omega) (by dsimp only; omega)) | (exact keep5d (by assumption) _ _ (by omega) (by dsimp only; omega) (by dsimp only; omega) (by dsimp only; omega) (by dsimp only; omega)) | go_keep)
    (first
      | (go_at_call 80; (with_reducible refine (must_calls _ _).mono ?_); rintro e w2 ⟨rfl, rfl⟩)
      | (go_at_call 85; (with_reducible refine (made_calls _ _ _).mono ?_); rintro e w2 ⟨rfl, rfl⟩)
      | (go_at_call 79; (with_reducible refine (with_calls _ _ _ _ _ _).mono ?_); rintro e w2 ⟨rfl, hb2⟩; have q := Blk.below (by exact q) hb2; have r0 := q.cell 0 _ rfl; have r1 := q.cell 1 _ rfl; have f0 := q.free 0; have f1 := q.free 1; have hq := q.lt)
      | (go_at_call 81; (with_reducible refine (logic_calls _ _).mono ?_); rintro e w2 ⟨rfl, hb2⟩; have q := Blk.below (by exact q) hb2; have r0 := q.cell 0 _ rfl; have r1 := q.cell 1 _ rfl; have f0 := q.free 0; have f1 := q.free 1; have hq := q.lt)
      | (go_at_call 86; (with_reducible refine (May_calls _ _ _).mono ?_); rintro e w2 ⟨rfl, hb2⟩; have q := Blk.below (by exact q) hb2; have r0 := q.cell 0 _ rfl; have r1 := q.cell 1 _ rfl; have f0 := q.free 0; have f1 := q.free 1; have hq := q.lt))
  all_goals
    have HX := hid (‹_ ∧ _ ∧ _ ∧ _ ∧ Below w.heap.size w _›).2.2.2.2
    go_wp2_with fail
    refine bodyPost_ret (v := .tuple #[.agg #[.int .i64 (k), .slice a m c], .int .i64 (mustI (may 13 kind))]) (by simp [results, Try.results49, go_sem, r0, r1, f0, f1]) rfl ?_
    rw [HRA.out]
    exact ⟨_, rfl, HV.out.below HX.out, HX.out⟩

set_option maxRecDepth 10000 in
set_option maxHeartbeats 4000000 in
theorem beh_5a (k kind area at_ n : Int) (a : Option Addr) (m c : Nat) (bs : List (Int × Int)) (w : World) (hv : BrR w (.slice a m c) bs) (hk : (k == 1) = true) :
    Calls Try.prog 49 #[.agg #[.int .i64 k, .slice a m c], .agg #[.int .i64 5, .int .i64 kind, .int .i64 area, .int .i64 at_, .int .i64 n]] w (RetA (mustI (kind == 1)) (k) bs w) := by
  have HV := hid hv
  have HRA := hid (show RetA (mustI (kind == 1)) (k) bs w = fun e w' => ∃ v, e = .returned (.tuple #[.agg #[.int .i64 (k), v], .int .i64 (mustI (kind == 1))]) ∧ BrR w' v bs ∧ Below w.heap.size w w' from rfl)
  clear hv
  go_enter Try.func49, Try.ntmps49
  go_wp2_with fail
  obtain ⟨B0, B1, B2, HB, HZ⟩ := new3 w #[.int .i64 k, .slice a m c] #[.int .i64 5, .int .i64 kind, .int .i64 area, .int .i64 at_, .int .i64 n] #[.int .i64 0, .slice none 0 0] 105 48 105
  generalize (((w.alloc (.cells #[.int .i64 k, .slice a m c] 105)).alloc (.cells #[.int .i64 5, .int .i64 kind, .int .i64 area, .int .i64 at_, .int .i64 n] 48)).alloc (.cells #[.int .i64 0, .slice none 0 0] 105)) = W at *
  have a0 := B0.cell 0 _ rfl
  have a1 := B0.cell 1 _ rfl
  have i0 := B1.cell 0 _ rfl
  have i1 := B1.cell 1 _ rfl
  have q := B2
  have r0 := B2.cell 0 _ rfl
  have r1 := B2.cell 1 _ rfl
  have f0 := B2.free 0
  have f1 := B2.free 1
  have hq : w.heap.size + 1 + 1 < W.heap.size := B2.lt
  clear B0 B1 B2 HZ
  go_region_held3 (fun w' => w'.cell? ⟨w.heap.size, 0, none⟩ = some (.int .i64 k) ∧ w'.cell? ⟨w.heap.size, 1, none⟩ = some (.slice a m c) ∧ w'.cell? ⟨w.heap.size + 1, 0, none⟩ = some (.int .i64 5) ∧ w'.cell? ⟨w.heap.size + 1, 1, none⟩ = some (.int .i64 kind) ∧ Below w.heap.size w w')
    (first | (exact ⟨a0, a1, i0, i1, HB.drew⟩) | (exact keep5 (by assumption) (by assumption)) | assumption | (exact keep5s (by assumption) _ _ (by omega) (by dsimp only; omega) (by dsimp only; omega) (by dsimp only; omega) (by dsimp only; omega)) | (exact keep5d (by assumption) _ _ (by omega) (by dsimp only; omega) (by dsimp only; omega) (by dsimp only; omega) (by dsimp only; omega)) | go_keep)
    (first
      | (go_at_call 80; (with_reducible refine (must_calls _ _).mono ?_); rintro e w2 ⟨rfl, rfl⟩)
      | (go_at_call 85; (with_reducible refine (made_calls _ _ _).mono ?_); rintro e w2 ⟨rfl, rfl⟩)
      | (go_at_call 79; (with_reducible refine (with_calls _ _ _ _ _ _).mono ?_); rintro e w2 ⟨rfl, hb2⟩; have q := Blk.below (by exact q) hb2; have r0 := q.cell 0 _ rfl; have r1 := q.cell 1 _ rfl; have f0 := q.free 0; have f1 := q.free 1; have hq := q.lt)
      | (go_at_call 81; (with_reducible refine (logic_calls _ _).mono ?_); rintro e w2 ⟨rfl, hb2⟩; have q := Blk.below (by exact q) hb2; have r0 := q.cell 0 _ rfl; have r1 := q.cell 1 _ rfl; have f0 := q.free 0; have f1 := q.free 1; have hq := q.lt)
      | (go_at_call 86; (with_reducible refine (May_calls _ _ _).mono ?_); rintro e w2 ⟨rfl, hb2⟩; have q := Blk.below (by exact q) hb2; have r0 := q.cell 0 _ rfl; have r1 := q.cell 1 _ rfl; have f0 := q.free 0; have f1 := q.free 1; have hq := q.lt))
  all_goals
    have HX := hid (‹_ ∧ _ ∧ _ ∧ _ ∧ Below w.heap.size w _›).2.2.2.2
    go_wp2_with fail
    refine bodyPost_ret (v := .tuple #[.agg #[.int .i64 (k), .slice a m c], .int .i64 (mustI (kind == 1))]) (by simp [results, Try.results49, go_sem, r0, r1, f0, f1]) rfl ?_
    rw [HRA.out]
    exact ⟨_, rfl, HV.out.below HX.out, HX.out⟩

set_option maxRecDepth 10000 in
set_option maxHeartbeats 4000000 in
theorem beh_6a (k kind area at_ n : Int) (a : Option Addr) (m c : Nat) (bs : List (Int × Int)) (w : World) (hv : BrR w (.slice a m c) bs) (hk : (k == 1) = true) :
    Calls Try.prog 49 #[.agg #[.int .i64 k, .slice a m c], .agg #[.int .i64 6, .int .i64 kind, .int .i64 area, .int .i64 at_, .int .i64 n]] w (RetA (mustI (kind == 1)) (k) bs w) := by
  have HV := hid hv
  have HRA := hid (show RetA (mustI (kind == 1)) (k) bs w = fun e w' => ∃ v, e = .returned (.tuple #[.agg #[.int .i64 (k), v], .int .i64 (mustI (kind == 1))]) ∧ BrR w' v bs ∧ Below w.heap.size w w' from rfl)
  clear hv
  go_enter Try.func49, Try.ntmps49
  go_wp2_with fail
  obtain ⟨B0, B1, B2, HB, HZ⟩ := new3 w #[.int .i64 k, .slice a m c] #[.int .i64 6, .int .i64 kind, .int .i64 area, .int .i64 at_, .int .i64 n] #[.int .i64 0, .slice none 0 0] 105 48 105
  generalize (((w.alloc (.cells #[.int .i64 k, .slice a m c] 105)).alloc (.cells #[.int .i64 6, .int .i64 kind, .int .i64 area, .int .i64 at_, .int .i64 n] 48)).alloc (.cells #[.int .i64 0, .slice none 0 0] 105)) = W at *
  have a0 := B0.cell 0 _ rfl
  have a1 := B0.cell 1 _ rfl
  have i0 := B1.cell 0 _ rfl
  have i1 := B1.cell 1 _ rfl
  have q := B2
  have r0 := B2.cell 0 _ rfl
  have r1 := B2.cell 1 _ rfl
  have f0 := B2.free 0
  have f1 := B2.free 1
  have hq : w.heap.size + 1 + 1 < W.heap.size := B2.lt
  clear B0 B1 B2 HZ
  go_region_held3 (fun w' => w'.cell? ⟨w.heap.size, 0, none⟩ = some (.int .i64 k) ∧ w'.cell? ⟨w.heap.size, 1, none⟩ = some (.slice a m c) ∧ w'.cell? ⟨w.heap.size + 1, 0, none⟩ = some (.int .i64 6) ∧ w'.cell? ⟨w.heap.size + 1, 1, none⟩ = some (.int .i64 kind) ∧ Below w.heap.size w w')
    (first | (exact ⟨a0, a1, i0, i1, HB.drew⟩) | (exact keep5 (by assumption) (by assumption)) | assumption | (exact keep5s (by assumption) _ _ (by omega) (by dsimp only; omega) (by dsimp only; omega) (by dsimp only; omega) (by dsimp only; omega)) | (exact keep5d (by assumption) _ _ (by omega) (by dsimp only; omega) (by dsimp only; omega) (by dsimp only; omega) (by dsimp only; omega)) | go_keep)
    (first
      | (go_at_call 80; (with_reducible refine (must_calls _ _).mono ?_); rintro e w2 ⟨rfl, rfl⟩)
      | (go_at_call 85; (with_reducible refine (made_calls _ _ _).mono ?_); rintro e w2 ⟨rfl, rfl⟩)
      | (go_at_call 79; (with_reducible refine (with_calls _ _ _ _ _ _).mono ?_); rintro e w2 ⟨rfl, hb2⟩; have q := Blk.below (by exact q) hb2; have r0 := q.cell 0 _ rfl; have r1 := q.cell 1 _ rfl; have f0 := q.free 0; have f1 := q.free 1; have hq := q.lt)
      | (go_at_call 81; (with_reducible refine (logic_calls _ _).mono ?_); rintro e w2 ⟨rfl, hb2⟩; have q := Blk.below (by exact q) hb2; have r0 := q.cell 0 _ rfl; have r1 := q.cell 1 _ rfl; have f0 := q.free 0; have f1 := q.free 1; have hq := q.lt)
      | (go_at_call 86; (with_reducible refine (May_calls _ _ _).mono ?_); rintro e w2 ⟨rfl, hb2⟩; have q := Blk.below (by exact q) hb2; have r0 := q.cell 0 _ rfl; have r1 := q.cell 1 _ rfl; have f0 := q.free 0; have f1 := q.free 1; have hq := q.lt))
  all_goals
    have HX := hid (‹_ ∧ _ ∧ _ ∧ _ ∧ Below w.heap.size w _›).2.2.2.2
    go_wp2_with fail
    refine bodyPost_ret (v := .tuple #[.agg #[.int .i64 (k), .slice a m c], .int .i64 (mustI (kind == 1))]) (by simp [results, Try.results49, go_sem, r0, r1, f0, f1]) rfl ?_
    rw [HRA.out]
    exact ⟨_, rfl, HV.out.below HX.out, HX.out⟩

set_option maxRecDepth 10000 in
set_option maxHeartbeats 4000000 in
theorem beh_oa (op : Int) (k kind area at_ n : Int) (a : Option Addr) (m c : Nat) (bs : List (Int × Int)) (w : World) (hv : BrR w (.slice a m c) bs) (hk : (k == kind) = true) (hop : op ≠ 1 ∧ op ≠ 2 ∧ op ≠ 3 ∧ op ≠ 4 ∧ op ≠ 5 ∧ op ≠ 6 ∧ op ≠ 13 ∧ op ≠ 25 ∧ op ≠ 26 ∧ op ≠ 27 ∧ op ≠ 34 ∧ op ≠ 35 ∧ op ≠ 36 ∧ op ≠ 28 ∧ op ≠ 29 ∧ op ≠ 30 ∧ op ≠ 31 ∧ op ≠ 32 ∧ op ≠ 33) :
    Calls Try.prog 49 #[.agg #[.int .i64 k, .slice a m c], .agg #[.int .i64 op, .int .i64 kind, .int .i64 area, .int .i64 at_, .int .i64 n]] w (RetA (mustI (may op kind)) (madeI op kind) bs w) := by
  have HV := hid hv
  have HRA := hid (show RetA (mustI (may op kind)) (madeI op kind) bs w = fun e w' => ∃ v, e = .returned (.tuple #[.agg #[.int .i64 (madeI op kind), v], .int .i64 (mustI (may op kind))]) ∧ BrR w' v bs ∧ Below w.heap.size w w' from rfl)
  clear hv
  have n1 : (op == 1) = false := by simp; omega
  have n2 : (op == 2) = false := by simp; omega
  have n3 : (op == 3) = false := by simp; omega
  have n4 : (op == 4) = false := by simp; omega
  have n5 : (op == 5) = false := by simp; omega
  have n6 : (op == 6) = false := by simp; omega
  have n13 : (op == 13) = false := by simp; omega
  have n25 : (op == 25) = false := by simp; omega
  have n26 : (op == 26) = false := by simp; omega
  have n27 : (op == 27) = false := by simp; omega
  have n34 : (op == 34) = false := by simp; omega
  have n35 : (op == 35) = false := by simp; omega
  have n36 : (op == 36) = false := by simp; omega
  have n28 : (op == 28) = false := by simp; omega
  have n29 : (op == 29) = false := by simp; omega
  have n30 : (op == 30) = false := by simp; omega
  have n31 : (op == 31) = false := by simp; omega
  have n32 : (op == 32) = false := by simp; omega
  have n33 : (op == 33) = false := by simp; omega
  clear hop
  go_enter Try.func49, Try.ntmps49
  go_wp2_with fail
  obtain ⟨B0, B1, B2, HB, HZ⟩ := new3 w #[.int .i64 k, .slice a m c] #[.int .i64 op, .int .i64 kind, .int .i64 area, .int .i64 at_, .int .i64 n] #[.int .i64 0, .slice none 0 0] 105 48 105
  generalize (((w.alloc (.cells #[.int .i64 k, .slice a m c] 105)).alloc (.cells #[.int .i64 op, .int .i64 kind, .int .i64 area, .int .i64 at_, .int .i64 n] 48)).alloc (.cells #[.int .i64 0, .slice none 0 0] 105)) = W at *
  have a0 := B0.cell 0 _ rfl
  have a1 := B0.cell 1 _ rfl
  have i0 := B1.cell 0 _ rfl
  have i1 := B1.cell 1 _ rfl
  have q := B2
  have r0 := B2.cell 0 _ rfl
  have r1 := B2.cell 1 _ rfl
  have f0 := B2.free 0
  have f1 := B2.free 1
  have hq : w.heap.size + 1 + 1 < W.heap.size := B2.lt
  clear B0 B1 B2 HZ
  go_region_held3 (fun w' => w'.cell? ⟨w.heap.size, 0, none⟩ = some (.int .i64 k) ∧ w'.cell? ⟨w.heap.size, 1, none⟩ = some (.slice a m c) ∧ w'.cell? ⟨w.heap.size + 1, 0, none⟩ = some (.int .i64 op) ∧ w'.cell? ⟨w.heap.size + 1, 1, none⟩ = some (.int .i64 kind) ∧ Below w.heap.size w w')
    (first | (exact ⟨a0, a1, i0, i1, HB.drew⟩) | (exact keep5 (by assumption) (by assumption)) | assumption | (exact keep5s (by assumption) _ _ (by omega) (by dsimp only; omega) (by dsimp only; omega) (by dsimp only; omega) (by dsimp only; omega)) | (exact keep5d (by assumption) _ _ (by omega) (by dsimp only; omega) (by dsimp only; omega) (by dsimp only; omega) (by dsimp only; omega)) | go_keep)
    (first
      | (go_at_call 80; (with_reducible refine (must_calls _ _).mono ?_); rintro e w2 ⟨rfl, rfl⟩)
      | (go_at_call 85; (with_reducible refine (made_calls _ _ _).mono ?_); rintro e w2 ⟨rfl, rfl⟩)
      | (go_at_call 79; (with_reducible refine (with_calls _ _ _ _ _ _).mono ?_); rintro e w2 ⟨rfl, hb2⟩; have q := Blk.below (by exact q) hb2; have r0 := q.cell 0 _ rfl; have r1 := q.cell 1 _ rfl; have f0 := q.free 0; have f1 := q.free 1; have hq := q.lt)
      | (go_at_call 81; (with_reducible refine (logic_calls _ _).mono ?_); rintro e w2 ⟨rfl, hb2⟩; have q := Blk.below (by exact q) hb2; have r0 := q.cell 0 _ rfl; have r1 := q.cell 1 _ rfl; have f0 := q.free 0; have f1 := q.free 1; have hq := q.lt)
      | (go_at_call 86; (with_reducible refine (May_calls _ _ _).mono ?_); rintro e w2 ⟨rfl, hb2⟩; have q := Blk.below (by exact q) hb2; have r0 := q.cell 0 _ rfl; have r1 := q.cell 1 _ rfl; have f0 := q.free 0; have f1 := q.free 1; have hq := q.lt))
  all_goals
    have HX := hid (‹_ ∧ _ ∧ _ ∧ _ ∧ Below w.heap.size w _›).2.2.2.2
    go_wp2_with fail
    refine bodyPost_ret (v := .tuple #[.agg #[.int .i64 (madeI op kind), .slice a m c], .int .i64 (mustI (may op kind))]) (by simp [results, Try.results49, go_sem, r0, r1, f0, f1]) rfl ?_
    rw [HRA.out]
    exact ⟨_, rfl, HV.out.below HX.out, HX.out⟩

/-- What is behind an instruction: the error, the kind, the brackets. -/
def behI (k : Int) (bs : List (Int × Int)) (i : Ins) : Int × Int × List (Int × Int) :=
  if i.op = 1 then (0, i.kind, bs) else if i.op = 2 then (mustI (may 13 i.kind), i.kind, bs) else if i.op = 3 then (mustI (k == i.kind), k, bs)
  else if i.op = 4 then (mustI (k == i.kind && may 13 i.kind), k, bs) else if i.op = 5 ∨ i.op = 6 then (mustI (k == 1 && i.kind == 1), k, bs)
  else if i.op = 13 then (mustI (may 13 k), k, bs) else if i.op = 25 then (0, k, bs) else if i.op = 26 ∨ i.op = 27 ∨ i.op = 34 ∨ i.op = 35 ∨ i.op = 36 then (mustI (k == 1), k, bs)
  else if i.op = 28 ∨ i.op = 29 ∨ i.op = 30 then (retI k bs.length i.op, k, bs) else if i.op = 31 then (mustI (k != 0), i.kind, bs)
  else if i.op = 32 then pushI k i.at_ bs else if i.op = 33 then popI k bs else (mustI (k == i.kind && may i.op i.kind), madeI i.op i.kind, bs)

theorem behind_calls (i : Ins) (k : Int) (v : Value) (bs : List (Int × Int)) (w : World) (hv : BrR w v bs) (hn : bs.length ≤ 8) :
    Calls Try.prog 49 #[.agg #[.int .i64 k, v], i.val] w (RetA (behI k bs i).1 (behI k bs i).2.1 (behI k bs i).2.2 w) := by
  obtain ⟨op, kind, area, at_, n⟩ := i
  obtain ⟨a, c, rfl, -⟩ := hv.form
  unfold behI Ins.val
  dsimp only
  by_cases h1 : op = 1
  · subst h1; rw [if_pos rfl]; exact beh_1 k kind area at_ n a _ c bs w hv
  rw [if_neg h1]
  by_cases h2 : op = 2
  · subst h2; rw [if_pos rfl]; exact beh_2 k kind area at_ n a _ c bs w hv
  rw [if_neg h2]
  by_cases h3 : op = 3
  · subst h3; rw [if_pos rfl]; exact beh_3 k kind area at_ n a _ c bs w hv
  rw [if_neg h3]
  by_cases h4 : op = 4
  · subst h4
    rw [if_pos rfl]
    cases hk : (k == kind) with
    | true => exact beh_4a k kind area at_ n a _ c bs w hv hk
    | false => exact beh_4b k kind area at_ n a _ c bs w hv hk
  rw [if_neg h4]
  by_cases h5 : op = 5 ∨ op = 6
  · rw [if_pos h5]
    rcases h5 with rfl | rfl
    · cases hk : (k == 1) with
      | true => exact beh_5a k kind area at_ n a _ c bs w hv hk
      | false => exact beh_5b k kind area at_ n a _ c bs w hv hk
    · cases hk : (k == 1) with
      | true => exact beh_6a k kind area at_ n a _ c bs w hv hk
      | false => exact beh_6b k kind area at_ n a _ c bs w hv hk
  rw [if_neg h5]
  by_cases h13 : op = 13
  · subst h13; rw [if_pos rfl]; exact beh_13 k kind area at_ n a _ c bs w hv
  rw [if_neg h13]
  by_cases h25 : op = 25
  · subst h25; rw [if_pos rfl]; exact beh_25 k kind area at_ n a _ c bs w hv
  rw [if_neg h25]
  by_cases h26 : op = 26 ∨ op = 27 ∨ op = 34 ∨ op = 35 ∨ op = 36
  · rw [if_pos h26]
    rcases h26 with rfl | rfl | rfl | rfl | rfl
    · exact beh_26 k kind area at_ n a _ c bs w hv
    · exact beh_27 k kind area at_ n a _ c bs w hv
    · exact beh_34 k kind area at_ n a _ c bs w hv
    · exact beh_35 k kind area at_ n a _ c bs w hv
    · exact beh_36 k kind area at_ n a _ c bs w hv
  rw [if_neg h26]
  by_cases h28 : op = 28 ∨ op = 29 ∨ op = 30
  · rw [if_pos h28]
    rcases h28 with rfl | rfl | rfl
    · exact beh_28 k kind area at_ n a _ c bs w hv
    · exact beh_29 k kind area at_ n a _ c bs w hv
    · exact beh_30 k kind area at_ n a _ c bs w hv
  rw [if_neg h28]
  by_cases h31 : op = 31
  · subst h31; rw [if_pos rfl]; exact beh_31 k kind area at_ n a _ c bs w hv
  rw [if_neg h31]
  by_cases h32 : op = 32
  · subst h32; rw [if_pos rfl]; exact beh_32 k kind area at_ n a _ c bs w hv hn
  rw [if_neg h32]
  by_cases h33 : op = 33
  · subst h33; rw [if_pos rfl]; exact beh_33 k kind area at_ n a _ c bs w hv hn
  rw [if_neg h33]
  cases hk : (k == kind) with
  | true => exact beh_oa op k kind area at_ n a _ c bs w hv hk (by omega)
  | false => exact beh_ob op k kind area at_ n a _ c bs w hv hk (by omega)
end Go.Proofs.Ytjnohalffffiaaa
