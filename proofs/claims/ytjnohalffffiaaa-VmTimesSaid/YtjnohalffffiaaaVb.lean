/- verify: behind an instruction (first half). -/
import Derived.Test.YtjnohalffffiaaaVa
import Derived.Deep.DrawnRows
set_option linter.unusedVariables false
set_option linter.unusedSimpArgs false
namespace Go.Proofs.Ytjnohalffffiaaa
open Go.RowKit

theorem keep5 {w0 w1 w2 : World} {p q r s : Addr} {x y z u : Value} (h : w1.cell? p = some x ∧ w1.cell? q = some y ∧ w1.cell? r = some z ∧ w1.cell? s = some u ∧ Below w0.heap.size w0 w1) (hb : Below w1.heap.size w1 w2) :
    w2.cell? p = some x ∧ w2.cell? q = some y ∧ w2.cell? r = some z ∧ w2.cell? s = some u ∧ Below w0.heap.size w0 w2 := by
  obtain ⟨h1, h2, h3, h4, h5⟩ := h
  rw [hb.cell (World.block_lt_of_cell? _ _ h1), hb.cell (World.block_lt_of_cell? _ _ h2), hb.cell (World.block_lt_of_cell? _ _ h3), hb.cell (World.block_lt_of_cell? _ _ h4)]
  exact ⟨h1, h2, h3, h4, below_trans h5 hb⟩
theorem cell_set_far (w : World) (R o : Nat) (v : Value) (p : Addr) (h : p.block ≠ R) : (w.setCell ⟨R, o, none⟩ v).cell? p = w.cell? p :=
  World.cell?_of_block (Below.heap_setCell w ⟨R, o, none⟩ v p.block h)
theorem keep5s {w0 w1 : World} {p q r s : Addr} {x y z u : Value} (h : w1.cell? p = some x ∧ w1.cell? q = some y ∧ w1.cell? r = some z ∧ w1.cell? s = some u ∧ Below w0.heap.size w0 w1) {R : Nat} (a b : Value) (hR : w0.heap.size ≤ R)
    (n1 : p.block ≠ R) (n2 : q.block ≠ R) (n3 : r.block ≠ R) (n4 : s.block ≠ R) :
    ((w1.setCell ⟨R, 0, none⟩ a).setCell ⟨R, 1, none⟩ b).cell? p = some x ∧ ((w1.setCell ⟨R, 0, none⟩ a).setCell ⟨R, 1, none⟩ b).cell? q = some y ∧ ((w1.setCell ⟨R, 0, none⟩ a).setCell ⟨R, 1, none⟩ b).cell? r = some z ∧
    ((w1.setCell ⟨R, 0, none⟩ a).setCell ⟨R, 1, none⟩ b).cell? s = some u ∧ Below w0.heap.size w0 ((w1.setCell ⟨R, 0, none⟩ a).setCell ⟨R, 1, none⟩ b) := by
  obtain ⟨h1, h2, h3, h4, h5⟩ := h
  rw [cell_set_far _ _ _ _ _ n1, cell_set_far _ _ _ _ _ n1, cell_set_far _ _ _ _ _ n2, cell_set_far _ _ _ _ _ n2, cell_set_far _ _ _ _ _ n3, cell_set_far _ _ _ _ _ n3, cell_set_far _ _ _ _ _ n4, cell_set_far _ _ _ _ _ n4]
  exact ⟨h1, h2, h3, h4, bel_set (bel_set h5 hR _ _) hR _ _⟩
theorem keep5d {w0 w1 : World} {p q r s : Addr} {x y z u : Value} (h : w1.drew.cell? p = some x ∧ w1.drew.cell? q = some y ∧ w1.drew.cell? r = some z ∧ w1.drew.cell? s = some u ∧ Below w0.heap.size w0 w1.drew) {R : Nat} (a b : Value) (hR : w0.heap.size ≤ R)
    (n1 : p.block ≠ R) (n2 : q.block ≠ R) (n3 : r.block ≠ R) (n4 : s.block ≠ R) :
    (((w1.setCell ⟨R, 0, none⟩ a).setCell ⟨R, 1, none⟩ b).drew).cell? p = some x ∧ (((w1.setCell ⟨R, 0, none⟩ a).setCell ⟨R, 1, none⟩ b).drew).cell? q = some y ∧ (((w1.setCell ⟨R, 0, none⟩ a).setCell ⟨R, 1, none⟩ b).drew).cell? r = some z ∧
    (((w1.setCell ⟨R, 0, none⟩ a).setCell ⟨R, 1, none⟩ b).drew).cell? s = some u ∧ Below w0.heap.size w0 (((w1.setCell ⟨R, 0, none⟩ a).setCell ⟨R, 1, none⟩ b).drew) := by
  have := keep5s h a b hR n1 n2 n3 n4
  rw [World.setCell_drew, World.setCell_drew] at this
  exact this

set_option maxRecDepth 10000 in
set_option maxHeartbeats 4000000 in
theorem beh_2 (k kind area at_ n : Int) (a : Option Addr) (m c : Nat) (bs : List (Int × Int)) (w : World) (hv : BrR w (.slice a m c) bs) :
    Calls Try.prog 49 #[.agg #[.int .i64 k, .slice a m c], .agg #[.int .i64 2, .int .i64 kind, .int .i64 area, .int .i64 at_, .int .i64 n]] w (RetA (mustI (may 13 kind)) (kind) bs w) := by
  have HV := hid hv
  have HRA := hid (show RetA (mustI (may 13 kind)) (kind) bs w = fun e w' => ∃ v, e = .returned (.tuple #[.agg #[.int .i64 (kind), v], .int .i64 (mustI (may 13 kind))]) ∧ BrR w' v bs ∧ Below w.heap.size w w' from rfl)
  clear hv
  go_enter Try.func49, Try.ntmps49
  go_wp2_with fail
  obtain ⟨B0, B1, B2, HB, HZ⟩ := new3 w #[.int .i64 k, .slice a m c] #[.int .i64 2, .int .i64 kind, .int .i64 area, .int .i64 at_, .int .i64 n] #[.int .i64 0, .slice none 0 0] 105 48 105
  generalize (((w.alloc (.cells #[.int .i64 k, .slice a m c] 105)).alloc (.cells #[.int .i64 2, .int .i64 kind, .int .i64 area, .int .i64 at_, .int .i64 n] 48)).alloc (.cells #[.int .i64 0, .slice none 0 0] 105)) = W at *
  have a0 := B0.cell 0 _ rfl
  have a1 := B0.cell 1 _ rfl
  have i0 := B1.cell 0 _ rfl
  have i1 := B1.cell 1 _ rfl
  have q := B2
  have r0 := B2.cell 0 _ rfl
  have r1 := B2.cell 1 _ rfl
  have f0 := B2.free 0
  have f1 := B2.free 1
  have hq : w.heap.size + 1 + 1 < W.heap.size := B2.lt
  clear B0 B1 B2 HZ
  go_region_held3 (fun w' => w'.cell? ⟨w.heap.size, 0, none⟩ = some (.int .i64 k) ∧ w'.cell? ⟨w.heap.size, 1, none⟩ = some (.slice a m c) ∧ w'.cell? ⟨w.heap.size + 1, 0, none⟩ = some (.int .i64 2) ∧ w'.cell? ⟨w.heap.size + 1, 1, none⟩ = some (.int .i64 kind) ∧ Below w.heap.size w w')
    (first | (exact ⟨a0, a1, i0, i1, HB.drew⟩) | (exact keep5 (by assumption) (by assumption)) | assumption | (exact keep5s (by assumption) _ _ (by omega) (by dsimp only; omega) (by dsimp only; omega) (by dsimp only; omega) (by dsimp only; omega)) | (exact keep5d (by assumption) _ _ (by omega) (by dsimp only; omega) (by dsimp only; omega) (by dsimp only; omega) (by dsimp only; omega)) | go_keep)
    (first
      | (go_at_call 80; (with_reducible refine (must_calls _ _).mono ?_); rintro e w2 ⟨rfl, rfl⟩)
      | (go_at_call 85; (with_reducible refine (made_calls _ _ _).mono ?_); rintro e w2 ⟨rfl, rfl⟩)
      | (go_at_call 79; (with_reducible refine (with_calls _ _ _ _ _ _).mono ?_); rintro e w2 ⟨rfl, hb2⟩; have q := Blk.below (by exact q) hb2; have r0 := q.cell 0 _ rfl; have r1 := q.cell 1 _ rfl; have f0 := q.free 0; have f1 := q.free 1; have hq := q.lt)
      | (go_at_call 81; (with_reducible refine (logic_calls _ _).mono ?_); rintro e w2 ⟨rfl, hb2⟩; have q := Blk.below (by exact q) hb2; have r0 := q.cell 0 _ rfl; have r1 := q.cell 1 _ rfl; have f0 := q.free 0; have f1 := q.free 1; have hq := q.lt)
      | (go_at_call 86; (with_reducible refine (May_calls _ _ _).mono ?_); rintro e w2 ⟨rfl, hb2⟩; have q := Blk.below (by exact q) hb2; have r0 := q.cell 0 _ rfl; have r1 := q.cell 1 _ rfl; have f0 := q.free 0; have f1 := q.free 1; have hq := q.lt))
  all_goals
    have HX := hid (‹_ ∧ _ ∧ _ ∧ _ ∧ Below w.heap.size w _›).2.2.2.2
    go_wp2_with fail
    refine bodyPost_ret (v := .tuple #[.agg #[.int .i64 (kind), .slice a m c], .int .i64 (mustI (may 13 kind))]) (by simp [results, Try.results49, go_sem, r0, r1, f0, f1]) rfl ?_
    rw [HRA.out]
    exact ⟨_, rfl, HV.out.below HX.out, HX.out⟩

set_option maxRecDepth 10000 in
set_option maxHeartbeats 4000000 in
theorem beh_3 (k kind area at_ n : Int) (a : Option Addr) (m c : Nat) (bs : List (Int × Int)) (w : World) (hv : BrR w (.slice a m c) bs) :
    Calls Try.prog 49 #[.agg #[.int .i64 k, .slice a m c], .agg #[.int .i64 3, .int .i64 kind, .int .i64 area, .int .i64 at_, .int .i64 n]] w (RetA (mustI (k == kind)) (k) bs w) := by
  have HV := hid hv
  have HRA := hid (show RetA (mustI (k == kind)) (k) bs w = fun e w' => ∃ v, e = .returned (.tuple #[.agg #[.int .i64 (k), v], .int .i64 (mustI (k == kind))]) ∧ BrR w' v bs ∧ Below w.heap.size w w' from rfl)
  clear hv
  go_enter Try.func49, Try.ntmps49
  go_wp2_with fail
  obtain ⟨B0, B1, B2, HB, HZ⟩ := new3 w #[.int .i64 k, .slice a m c] #[.int .i64 3, .int .i64 kind, .int .i64 area, .int .i64 at_, .int .i64 n] #[.int .i64 0, .slice none 0 0] 105 48 105
  generalize (((w.alloc (.cells #[.int .i64 k, .slice a m c] 105)).alloc (.cells #[.int .i64 3, .int .i64 kind, .int .i64 area, .int .i64 at_, .int .i64 n] 48)).alloc (.cells #[.int .i64 0, .slice none 0 0] 105)) = W at *
  have a0 := B0.cell 0 _ rfl
  have a1 := B0.cell 1 _ rfl
  have i0 := B1.cell 0 _ rfl
  have i1 := B1.cell 1 _ rfl
  have q := B2
  have r0 := B2.cell 0 _ rfl
  have r1 := B2.cell 1 _ rfl
  have f0 := B2.free 0
  have f1 := B2.free 1
  have hq : w.heap.size + 1 + 1 < W.heap.size := B2.lt
  clear B0 B1 B2 HZ
  go_region_held3 (fun w' => w'.cell? ⟨w.heap.size, 0, none⟩ = some (.int .i64 k) ∧ w'.cell? ⟨w.heap.size, 1, none⟩ = some (.slice a m c) ∧ w'.cell? ⟨w.heap.size + 1, 0, none⟩ = some (.int .i64 3) ∧ w'.cell? ⟨w.heap.size + 1, 1, none⟩ = some (.int .i64 kind) ∧ Below w.heap.size w w')
    (first | (exact ⟨a0, a1, i0, i1, HB.drew⟩) | (exact keep5 (by assumption) (by assumption)) | assumption | (exact keep5s (by assumption) _ _ (by omega) (by dsimp only; omega) (by dsimp only; omega) (by dsimp only; omega) (by dsimp only; omega)) | (exact keep5d (by assumption) _ _ (by omega) (by dsimp only; omega) (by dsimp only; omega) (by dsimp only; omega) (by dsimp only; omega)) | go_keep)
    (first
      | (go_at_call 80; (with_reducible refine (must_calls _ _).mono ?_); rintro e w2 ⟨rfl, rfl⟩)
      | (go_at_call 85; (with_reducible refine (made_calls _ _ _).mono ?_); rintro e w2 ⟨rfl, rfl⟩)
      | (go_at_call 79; (with_reducible refine (with_calls _ _ _ _ _ _).mono ?_); rintro e w2 ⟨rfl, hb2⟩; have q := Blk.below (by exact q) hb2; have r0 := q.cell 0 _ rfl; have r1 := q.cell 1 _ rfl; have f0 := q.free 0; have f1 := q.free 1; have hq := q.lt)
      | (go_at_call 81; (with_reducible refine (logic_calls _ _).mono ?_); rintro e w2 ⟨rfl, hb2⟩; have q := Blk.below (by exact q) hb2; have r0 := q.cell 0 _ rfl; have r1 := q.cell 1 _ rfl; have f0 := q.free 0; have f1 := q.free 1; have hq := q.lt)
      | (go_at_call 86; (with_reducible refine (May_calls _ _ _).mono ?_); rintro e w2 ⟨rfl, hb2⟩; have q := Blk.below (by exact q) hb2; have r0 := q.cell 0 _ rfl; have r1 := q.cell 1 _ rfl; have f0 := q.free 0; have f1 := q.free 1; have hq := q.lt))
  all_goals
    have HX := hid (‹_ ∧ _ ∧ _ ∧ _ ∧ Below w.heap.size w _›).2.2.2.2
    go_wp2_with fail
    refine bodyPost_ret (v := .tuple #[.agg #[.int .i64 (k), .slice a m c], .int .i64 (mustI (k == kind))]) (by simp [results, Try.results49, go_sem, r0, r1, f0, f1]) rfl ?_
    rw [HRA.out]
    exact ⟨_, rfl, HV.out.below HX.out, HX.out⟩

set_option maxRecDepth 10000 in
set_option maxHeartbeats 4000000 in
theorem beh_26 (k kind area at_ n : Int) (a : Option Addr) (m c : Nat) (bs : List (Int × Int)) (w : World) (hv : BrR w (.slice a m c) bs) :
    Calls Try.prog 49 #[.agg #[.int .i64 k, .slice a m c], .agg #[.int .i64 26, .int .i64 kind, .int .i64 area, .int .i64 at_, .int .i64 n]] w (RetA (mustI (k == 1)) (k) bs w) := by
  have HV := hid hv
  have HRA := hid (show RetA (mustI (k == 1)) (k) bs w = fun e w' => ∃ v, e = .returned (.tuple #[.agg #[.int .i64 (k), v], .int .i64 (mustI (k == 1))]) ∧ BrR w' v bs ∧ Below w.heap.size w w' from rfl)
  clear hv
  go_enter Try.func49, Try.ntmps49
  go_wp2_with fail
  obtain ⟨B0, B1, B2, HB, HZ⟩ := new3 w #[.int .i64 k, .slice a m c] #[.int .i64 26, .int .i64 kind, .int .i64 area, .int .i64 at_, .int .i64 n] #[.int .i64 0, .slice none 0 0] 105 48 105
  generalize (((w.alloc (.cells #[.int .i64 k, .slice a m c] 105)).alloc (.cells #[.int .i64 26, .int .i64 kind, .int .i64 area, .int .i64 at_, .int .i64 n] 48)).alloc (.cells #[.int .i64 0, .slice none 0 0] 105)) = W at *
  have a0 := B0.cell 0 _ rfl
  have a1 := B0.cell 1 _ rfl
  have i0 := B1.cell 0 _ rfl
  have i1 := B1.cell 1 _ rfl
  have q := B2
  have r0 := B2.cell 0 _ rfl
  have r1 := B2.cell 1 _ rfl
  have f0 := B2.free 0
  have f1 := B2.free 1
  have hq : w.heap.size + 1 + 1 < W.heap.size := B2.lt
  clear B0 B1 B2 HZ
  go_region_held3 (fun w' => w'.cell? ⟨w.heap.size, 0, none⟩ = some (.int .i64 k) ∧ w'.cell? ⟨w.heap.size, 1, none⟩ = some (.slice a m c) ∧ w'.cell? ⟨w.heap.size + 1, 0, none⟩ = some (.int .i64 26) ∧ w'.cell? ⟨w.heap.size + 1, 1, none⟩ = some (.int .i64 kind) ∧ Below w.heap.size w w')
    (first | (exact ⟨a0, a1, i0, i1, HB.drew⟩) | (exact keep5 (by assumption) (by assumption)) | assumption | (exact keep5s (by assumption) _ _ (by omega) (by dsimp only; omega) (by dsimp only; omega) (by dsimp only; omega) (by dsimp only; omega)) | (exact keep5d (by assumption) _ _ (by omega) (by dsimp only; omega) (by dsimp only; omega) (by dsimp only; omega) (by dsimp only; omega)) | go_keep)
    (first
      | (go_at_call 80; (with_reducible refine (must_calls _ _).mono ?_); rintro e w2 ⟨rfl, rfl⟩)
      | (go_at_call 85; (with_reducible refine (made_calls _ _ _).mono ?_); rintro e w2 ⟨rfl, rfl⟩)
      | (go_at_call 79; (with_reducible refine (with_calls _ _ _ _ _ _).mono ?_); rintro e w2 ⟨rfl, hb2⟩; have q := Blk.below (by exact q) hb2; have r0 := q.cell 0 _ rfl; have r1 := q.cell 1 _ rfl; have f0 := q.free 0; have f1 := q.free 1; have hq := q.lt)
      | (go_at_call 81; (with_reducible refine (logic_calls _ _).mono ?_); rintro e w2 ⟨rfl, hb2⟩; have q := Blk.below (by exact q) hb2; have r0 := q.cell 0 _ rfl; have r1 := q.cell 1 _ rfl; have f0 := q.free 0; have f1 := q.free 1; have hq := q.lt)
      | (go_at_call 86; (with_reducible refine (May_calls _ _ _).mono ?_); rintro e w2 ⟨rfl, hb2⟩; have q := Blk.below (by exact q) hb2; have r0 := q.cell 0 _ rfl; have r1 := q.cell 1 _ rfl; have f0 := q.free 0; have f1 := q.free 1; have hq := q.lt))
  all_goals
    have HX := hid (‹_ ∧ _ ∧ _ ∧ _ ∧ Below w.heap.size w _›).2.2.2.2
    go_wp2_with fail
    refine bodyPost_ret (v := .tuple #[.agg #[.int .i64 (k), .slice a m c], .int .i64 (mustI (k == 1))]) (by simp [results, Try.results49, go_sem, r0, r1, f0, f1]) rfl ?_
    rw [HRA.out]
    exact ⟨_, rfl, HV.out.below HX.out, HX.out⟩

set_option maxRecDepth 10000 in
set_option maxHeartbeats 4000000 in
theorem beh_27 (k kind area at_ n : Int) (a : Option Addr) (m c : Nat) (bs : List (Int × Int)) (w : World) (hv : BrR w (.slice a m c) bs) :
    Calls Try.prog 49 #[.agg #[.int .i64 k, .slice a m c], .agg #[.int .i64 27, .int .i64 kind, .int .i64 area, .int .i64 at_, .int .i64 n]] w (RetA (mustI (k == 1)) (k) bs w) := by
  have HV := hid hv
  have HRA := hid (show RetA (mustI (k == 1)) (k) bs w = fun e w' => ∃ v, e = .returned (.tuple #[.agg #[.int .i64 (k), v], .int .i64 (mustI (k == 1))]) ∧ BrR w' v bs ∧ Below w.heap.size w w' from rfl)
  clear hv
  go_enter Try.func49, Try.ntmps49
  go_wp2_with fail
  obtain ⟨B0, B1, B2, HB, HZ⟩ := new3 w #[.int .i64 k, .slice a m c] #[.int .i64 27, .int .i64 kind, .int .i64 area, .int .i64 at_, .int .i64 n] #[.int .i64 0, .slice none 0 0] 105 48 105
  generalize (((w.alloc (.cells #[.int .i64 k, .slice a m c] 105)).alloc (.cells #[.int .i64 27, .int .i64 kind, .int .i64 area, .int .i64 at_, .int .i64 n] 48)).alloc (.cells #[.int .i64 0, .slice none 0 0] 105)) = W at *
  have a0 := B0.cell 0 _ rfl
  have a1 := B0.cell 1 _ rfl
  have i0 := B1.cell 0 _ rfl
  have i1 := B1.cell 1 _ rfl
  have q := B2
  have r0 := B2.cell 0 _ rfl
  have r1 := B2.cell 1 _ rfl
  have f0 := B2.free 0
  have f1 := B2.free 1
  have hq : w.heap.size + 1 + 1 < W.heap.size := B2.lt
  clear B0 B1 B2 HZ
  go_region_held3 (fun w' => w'.cell? ⟨w.heap.size, 0, none⟩ = some (.int .i64 k) ∧ w'.cell? ⟨w.heap.size, 1, none⟩ = some (.slice a m c) ∧ w'.cell? ⟨w.heap.size + 1, 0, none⟩ = some (.int .i64 27) ∧ w'.cell? ⟨w.heap.size + 1, 1, none⟩ = some (.int .i64 kind) ∧ Below w.heap.size w w')
    (first | (exact ⟨a0, a1, i0, i1, HB.drew⟩) | (exact keep5 (by assumption) (by assumption)) | assumption | (exact keep5s (by assumption) _ _ (by omega) (by dsimp only; omega) (by dsimp only; omega) (by dsimp only; omega) (by dsimp only; omega)) | (exact keep5d (by assumption) _ _ (by omega) (by dsimp only; omega) (by dsimp only; omega) (by dsimp only; omega) (by dsimp only; omega)) | go_keep)
    (first
      | (go_at_call 80; (with_reducible refine (must_calls _ _).mono ?_); rintro e w2 ⟨rfl, rfl⟩)
      | (go_at_call 85; (with_reducible refine (made_calls _ _ _).mono ?_); rintro e w2 ⟨rfl, rfl⟩)
      | (go_at_call 79; (with_reducible refine (with_calls _ _ _ _ _ _).mono ?_); rintro e w2 ⟨rfl, hb2⟩; have q := Blk.below (by exact q) hb2; have r0 := q.cell 0 _ rfl; have r1 := q.cell 1 _ rfl; have f0 := q.free 0; have f1 := q.free 1; have hq := q.lt)
      | (go_at_call 81; (with_reducible refine (logic_calls _ _).mono ?_); rintro e w2 ⟨rfl, hb2⟩; have q := Blk.below (by exact q) hb2; have r0 := q.cell 0 _ rfl; have r1 := q.cell 1 _ rfl; have f0 := q.free 0; have f1 := q.free 1; have hq := q.lt)
      | (go_at_call 86; (with_reducible refine (May_calls _ _ _).mono ?_); rintro e w2 ⟨rfl, hb2⟩; have q := Blk.below (by exact q) hb2; have r0 := q.cell 0 _ rfl; have r1 := q.cell 1 _ rfl; have f0 := q.free 0; have f1 := q.free 1; have hq := q.lt))
  all_goals
    have HX := hid (‹_ ∧ _ ∧ _ ∧ _ ∧ Below w.heap.size w _›).2.2.2.2
    go_wp2_with fail
    refine bodyPost_ret (v := .tuple #[.agg #[.int .i64 (k), .slice a m c], .int .i64 (mustI (k == 1))]) (by simp [results, Try.results49, go_sem, r0, r1, f0, f1]) rfl ?_
    rw [HRA.out]
    exact ⟨_, rfl, HV.out.below HX.out, HX.out⟩

set_option maxRecDepth 10000 in
set_option maxHeartbeats 4000000 in
theorem beh_34 (k kind area at_ n : Int) (a : Option Addr) (m c : Nat) (bs : List (Int × Int)) (w : World) (hv : BrR w (.slice a m c) bs) :
    Calls Try.prog 49 #[.agg #[.int .i64 k, .slice a m c], .agg #[.int .i64 34, .int .i64 kind, .int .i64 area, .int .i64 at_, .int .i64 n]] w (RetA (mustI (k == 1)) (k) bs w) := by
  have HV := hid hv
  have HRA := hid (show RetA (mustI (k == 1)) (k) bs w = fun e w' => ∃ v, e = .returned (.tuple #[.agg #[.int .i64 (k), v], .int .i64 (mustI (k == 1))]) ∧ BrR w' v bs ∧ Below w.heap.size w w' from rfl)
  clear hv
  go_enter Try.func49, Try.ntmps49
  go_wp2_with fail
  obtain ⟨B0, B1, B2, HB, HZ⟩ := new3 w #[.int .i64 k, .slice a m c] #[.int .i64 34, .int .i64 kind, .int .i64 area, .int .i64 at_, .int .i64 n] #[.int .i64 0, .slice none 0 0] 105 48 105
  generalize (((w.alloc (.cells #[.int .i64 k, .slice a m c] 105)).alloc (.cells #[.int .i64 34, .int .i64 kind, .int .i64 area, .int .i64 at_, .int .i64 n] 48)).alloc (.cells #[.int .i64 0, .slice none 0 0] 105)) = W at *
  have a0 := B0.cell 0 _ rfl
  have a1 := B0.cell 1 _ rfl
  have i0 := B1.cell 0 _ rfl
  have i1 := B1.cell 1 _ rfl
  have q := B2
  have r0 := B2.cell 0 _ rfl
  have r1 := B2.cell 1 _ rfl
  have f0 := B2.free 0
  have f1 := B2.free 1
  have hq : w.heap.size + 1 + 1 < W.heap.size := B2.lt
  clear B0 B1 B2 HZ
  go_region_held3 (fun w' => w'.cell? ⟨w.heap.size, 0, none⟩ = some (.int .i64 k) ∧ w'.cell? ⟨w.heap.size, 1, none⟩ = some (.slice a m c) ∧ w'.cell? ⟨w.heap.size + 1, 0, none⟩ = some (.int .i64 34) ∧ w'.cell? ⟨w.heap.size + 1, 1, none⟩ = some (.int .i64 kind) ∧ Below w.heap.size w w')
    (first | (exact ⟨a0, a1, i0, i1, HB.drew⟩) | (exact keep5 (by assumption) (by assumption)) | assumption | (exact keep5s (by assumption) _ _ (by omega) (by dsimp only; omega) (by dsimp only; omega) (by dsimp only; omega) (by dsimp only; omega)) | (exact keep5d (by assumption) _ _ (by omega) (by dsimp only; omega) (by dsimp only; omega) (by dsimp only; omega) (by dsimp only; omega)) | go_keep)
    (first
      | (go_at_call 80; (with_reducible refine (must_calls _ _).mono ?_); rintro e w2 ⟨rfl, rfl⟩)
      | (go_at_call 85; (with_reducible refine (made_calls _ _ _).mono ?_); rintro e w2 ⟨rfl, rfl⟩)
      | (go_at_call 79; (with_reducible refine (with_calls _ _ _ _ _ _).mono ?_); rintro e w2 ⟨rfl, hb2⟩; have q := Blk.below (by exact q) hb2; have r0 := q.cell 0 _ rfl; have r1 := q.cell 1 _ rfl; have f0 := q.free 0; have f1 := q.free 1; have hq := q.lt)
      | (go_at_call 81; (with_reducible refine (logic_calls _ _).mono ?_); rintro e w2 ⟨rfl, hb2⟩; have q := Blk.below (by exact q) hb2; have r0 := q.cell 0 _ rfl; have r1 := q.cell 1 _ rfl; have f0 := q.free 0; have f1 := q.free 1; have hq := q.lt)
      | (go_at_call 86; (with_reducible refine (May_calls _ _ _).mono ?_); rintro e w2 ⟨rfl, hb2⟩; have q := Blk.below (by exact q) hb2; have r0 := q.cell 0 _ rfl; have r1 := q.cell 1 _ rfl; have f0 := q.free 0; have f1 := q.free 1; have hq := q.lt))
  all_goals
    have HX := hid (‹_ ∧ _ ∧ _ ∧ _ ∧ Below w.heap.size w _›).2.2.2.2
    go_wp2_with fail
    refine bodyPost_ret (v := .tuple #[.agg #[.int .i64 (k), .slice a m c], .int .i64 (mustI (k == 1))]) (by simp [results, Try.results49, go_sem, r0, r1, f0, f1]) rfl ?_
    rw [HRA.out]
    exact ⟨_, rfl, HV.out.below HX.out, HX.out⟩

set_option maxRecDepth 10000 in
set_option maxHeartbeats 4000000 in
theorem beh_35 (k kind area at_ n : Int) (a : Option Addr) (m c : Nat) (bs : List (Int × Int)) (w : World) (hv : BrR w (.slice a m c) bs) :
    Calls Try.prog 49 #[.agg #[.int .i64 k, .slice a m c], .agg #[.int .i64 35, .int .i64 kind, .int .i64 area, .int .i64 at_, .int .i64 n]] w (RetA (mustI (k == 1)) (k) bs w) := by
  have HV := hid hv
  have HRA := hid (show RetA (mustI (k == 1)) (k) bs w = fun e w' => ∃ v, e = .returned (.tuple #[.agg #[.int .i64 (k), v], .int .i64 (mustI (k == 1))]) ∧ BrR w' v bs ∧ Below w.heap.size w w' from rfl)
  clear hv
  go_enter Try.func49, Try.ntmps49
  go_wp2_with fail
  obtain ⟨B0, B1, B2, HB, HZ⟩ := new3 w #[.int .i64 k, .slice a m c] #[.int .i64 35, .int .i64 kind, .int .i64 area, .int .i64 at_, .int .i64 n] #[.int .i64 0, .slice none 0 0] 105 48 105
  generalize (((w.alloc (.cells #[.int .i64 k, .slice a m c] 105)).alloc (.cells #[.int .i64 35, .int .i64 kind, .int .i64 area, .int .i64 at_, .int .i64 n] 48)).alloc (.cells #[.int .i64 0, .slice none 0 0] 105)) = W at *
  have a0 := B0.cell 0 _ rfl
  have a1 := B0.cell 1 _ rfl
  have i0 := B1.cell 0 _ rfl
  have i1 := B1.cell 1 _ rfl
  have q := B2
  have r0 := B2.cell 0 _ rfl
  have r1 := B2.cell 1 _ rfl
  have f0 := B2.free 0
  have f1 := B2.free 1
  have hq : w.heap.size + 1 + 1 < W.heap.size := B2.lt
  clear B0 B1 B2 HZ
  go_region_held3 (fun w' => w'.cell? ⟨w.heap.size, 0, none⟩ = some (.int .i64 k) ∧ w'.cell? ⟨w.heap.size, 1, none⟩ = some (.slice a m c) ∧ w'.cell? ⟨w.heap.size + 1, 0, none⟩ = some (.int .i64 35) ∧ w'.cell? ⟨w.heap.size + 1, 1, none⟩ = some (.int .i64 kind) ∧ Below w.heap.size w w')
    (first | (exact ⟨a0, a1, i0, i1, HB.drew⟩) | (exact keep5 (by assumption) (by assumption)) | assumption | (exact keep5s (by assumption) _ _ (by omega) (by dsimp only; omega) (by dsimp only; omega) (by dsimp only; omega) (by dsimp only; omega)) | (exact keep5d (by assumption) _ _ (by omega) (by dsimp only; omega) (by dsimp only; omega) (by dsimp only; omega) (by dsimp only; omega)) | go_keep)
    (first
      | (go_at_call 80; (with_reducible refine (must_calls _ _).mono ?_); rintro e w2 ⟨rfl, rfl⟩)
      | (go_at_call 85; (with_reducible refine (made_calls _ _ _).mono ?_); rintro e w2 ⟨rfl, rfl⟩)
      | (go_at_call 79; (with_reducible refine (with_calls _ _ _ _ _ _).mono ?_); rintro e w2 ⟨rfl, hb2⟩; have q := Blk.below (by exact q) hb2; have r0 := q.cell 0 _ rfl; have r1 := q.cell 1 _ rfl; have f0 := q.free 0; have f1 := q.free 1; have hq := q.lt)
      | (go_at_call 81; (with_reducible refine (logic_calls _ _).mono ?_); rintro e w2 ⟨rfl, hb2⟩; have q := Blk.below (by exact q) hb2; have r0 := q.cell 0 _ rfl; have r1 := q.cell 1 _ rfl; have f0 := q.free 0; have f1 := q.free 1; have hq := q.lt)
      | (go_at_call 86; (with_reducible refine (May_calls _ _ _).mono ?_); rintro e w2 ⟨rfl, hb2⟩; have q := Blk.below (by exact q) hb2; have r0 := q.cell 0 _ rfl; have r1 := q.cell 1 _ rfl; have f0 := q.free 0; have f1 := q.free 1; have hq := q.lt))
  all_goals
    have HX := hid (‹_ ∧ _ ∧ _ ∧ _ ∧ Below w.heap.size w _›).2.2.2.2
    go_wp2_with fail
    refine bodyPost_ret (v := .tuple #[.agg #[.int .i64 (k), .slice a m c], .int .i64 (mustI (k == 1))]) (by simp [results, Try.results49, go_sem, r0, r1, f0, f1]) rfl ?_
    rw [HRA.out]
    exact ⟨_, rfl, HV.out.below HX.out, HX.out⟩

set_option maxRecDepth 10000 in
set_option maxHeartbeats 4000000 in
theorem beh_36 (k kind area at_ n : Int) (a : Option Addr) (m c : Nat) (bs : List (Int × Int)) (w : World) (hv : BrR w (.slice a m c) bs) :
    Calls Try.prog 49 #[.agg #[.int .i64 k, .slice a m c], .agg #[.int .i64 36, .int .i64 kind, .int .i64 area, .int .i64 at_, .int .i64 n]] w (RetA (mustI (k == 1)) (k) bs w) := by
  have HV := hid hv
  have HRA := hid (show RetA (mustI (k == 1)) (k) bs w = fun e w' => ∃ v, e = .returned (.tuple #[.agg #[.int .i64 (k), v], .int .i64 (mustI (k == 1))]) ∧ BrR w' v bs ∧ Below w.heap.size w w' from rfl)
  clear hv
  go_enter Try.func49, Try.ntmps49
  go_wp2_with fail
  obtain ⟨B0, B1, B2, HB, HZ⟩ := new3 w #[.int .i64 k, .slice a m c] #[.int .i64 36, .int .i64 kind, .int .i64 area, .int .i64 at_, .int .i64 n] #[.int .i64 0, .slice none 0 0] 105 48 105
  generalize (((w.alloc (.cells #[.int .i64 k, .slice a m c] 105)).alloc (.cells #[.int .i64 36, .int .i64 kind, .int .i64 area, .int .i64 at_, .int .i64 n] 48)).alloc (.cells #[.int .i64 0, .slice none 0 0] 105)) = W at *
  have a0 := B0.cell 0 _ rfl
  have a1 := B0.cell 1 _ rfl
  have i0 := B1.cell 0 _ rfl
  have i1 := B1.cell 1 _ rfl
  have q := B2
  have r0 := B2.cell 0 _ rfl
  have r1 := B2.cell 1 _ rfl
  have f0 := B2.free 0
  have f1 := B2.free 1
  have hq : w.heap.size + 1 + 1 < W.heap.size := B2.lt
  clear B0 B1 B2 HZ
  go_region_held3 (fun w' => w'.cell? ⟨w.heap.size, 0, none⟩ = some (.int .i64 k) ∧ w'.cell? ⟨w.heap.size, 1, none⟩ = some (.slice a m c) ∧ w'.cell? ⟨w.heap.size + 1, 0, none⟩ = some (.int .i64 36) ∧ w'.cell? ⟨w.heap.size + 1, 1, none⟩ = some (.int .i64 kind) ∧ Below w.heap.size w w')
    (first | (exact ⟨a0, a1, i0, i1, HB.drew⟩) | (exact keep5 (by assumption) (by assumption)) | assumption | (exact keep5s (by assumption) _ _ (by omega) (by dsimp only; omega) (by dsimp only; omega) (by dsimp only; omega) (by dsimp only; omega)) | (exact keep5d (by assumption) _ _ (by omega) (by dsimp only; omega) (by dsimp only; omega) (by dsimp only; omega) (by dsimp only; omega)) | go_keep)
    (first
      | (go_at_call 80; (with_reducible refine (must_calls _ _).mono ?_); rintro e w2 ⟨rfl, rfl⟩)
      | (go_at_call 85; (with_reducible refine (made_calls _ _ _).mono ?_); rintro e w2 ⟨rfl, rfl⟩)
      | (go_at_call 79; (with_reducible refine (with_calls _ _ _ _ _ _).mono ?_); rintro e w2 ⟨rfl, hb2⟩; have q := Blk.below (by exact q) hb2; have r0 := q.cell 0 _ rfl; have r1 := q.cell 1 _ rfl; have f0 := q.free 0; have f1 := q.free 1; have hq := q.lt)
      | (go_at_call 81; (with_reducible refine (logic_calls _ _).mono ?_); rintro e w2 ⟨rfl, hb2⟩; have q := Blk.below (by exact q) hb2; have r0 := q.cell 0 _ rfl; have r1 := q.cell 1 _ rfl; have f0 := q.free 0; have f1 := q.free 1; have hq := q.lt)
      | (go_at_call 86; (with_reducible refine (May_calls _ _ _).mono ?_); rintro e w2 ⟨rfl, hb2⟩; have q := Blk.below (by exact q) hb2; have r0 := q.cell 0 _ rfl; have r1 := q.cell 1 _ rfl; have f0 := q.free 0; have f1 := q.free 1; have hq := q.lt))
  all_goals
    have HX := hid (‹_ ∧ _ ∧ _ ∧ _ ∧ Below w.heap.size w _›).2.2.2.2
    go_wp2_with fail
    refine bodyPost_ret (v := .tuple #[.agg #[.int .i64 (k), .slice a m c], .int .i64 (mustI (k == 1))]) (by simp [results, Try.results49, go_sem, r0, r1, f0, f1]) rfl ?_
    rw [HRA.out]
    exact ⟨_, rfl, HV.out.below HX.out, HX.out⟩

set_option maxRecDepth 10000 in
set_option maxHeartbeats 4000000 in
theorem beh_13 (k kind area at_ n : Int) (a : Option Addr) (m c : Nat) (bs : List (Int × Int)) (w : World) (hv : BrR w (.slice a m c) bs) :
    Calls Try.prog 49 #[.agg #[.int .i64 k, .slice a m c], .agg #[.int .i64 13, .int .i64 kind, .int .i64 area, .int .i64 at_, .int .i64 n]] w (RetA (mustI (may 13 k)) (k) bs w) := by
  have HV := hid hv
  have HRA := hid (show RetA (mustI (may 13 k)) (k) bs w = fun e w' => ∃ v, e = .returned (.tuple #[.agg #[.int .i64 (k), v], .int .i64 (mustI (may 13 k))]) ∧ BrR w' v bs ∧ Below w.heap.size w w' from rfl)
  clear hv
  go_enter Try.func49, Try.ntmps49
  go_wp2_with fail
  obtain ⟨B0, B1, B2, HB, HZ⟩ := new3 w #[.int .i64 k, .slice a m c] #[.int .i64 13, .int .i64 kind, .int .i64 area, .int .i64 at_, .int .i64 n] #[.int .i64 0, .slice none 0 0] 105 48 105
  generalize (((w.alloc (.cells #[.int .i64 k, .slice a m c] 105)).alloc (.cells #[.int .i64 13, .int .i64 kind, .int .i64 area, .int .i64 at_, .int .i64 n] 48)).alloc (.cells #[.int .i64 0, .slice none 0 0] 105)) = W at *
  have a0 := B0.cell 0 _ rfl
  have a1 := B0.cell 1 _ rfl
  have i0 := B1.cell 0 _ rfl
  have i1 := B1.cell 1 _ rfl
  have q := B2
  have r0 := B2.cell 0 _ rfl
  have r1 := B2.cell 1 _ rfl
  have f0 := B2.free 0
  have f1 := B2.free 1
  have hq : w.heap.size + 1 + 1 < W.heap.size := B2.lt
  clear B0 B1 B2 HZ
  go_region_held3 (fun w' => w'.cell? ⟨w.heap.size, 0, none⟩ = some (.int .i64 k) ∧ w'.cell? ⟨w.heap.size, 1, none⟩ = some (.slice a m c) ∧ w'.cell? ⟨w.heap.size + 1, 0, none⟩ = some (.int .i64 13) ∧ w'.cell? ⟨w.heap.size + 1, 1, none⟩ = some (.int .i64 kind) ∧ Below w.heap.size w w')
    (first | (exact ⟨a0, a1, i0, i1, HB.drew⟩) | (exact keep5 (by assumption) (by assumption)) | assumption | (exact keep5s (by assumption) _ _ (by omega) (by dsimp only; omega) (by dsimp only; omega) (by dsimp only; omega) (by dsimp only; omega)) | (exact keep5d (by assumption) _ _ (by omega) (by dsimp only; omega) (by dsimp only; omega) (by dsimp only; omega) (by dsimp only; omega)) | go_keep)
    (first
      | (go_at_call 80; (with_reducible refine (must_calls _ _).mono ?_); rintro e w2 ⟨rfl, rfl⟩)
      | (go_at_call 85; (with_reducible refine (made_calls _ _ _).mono ?_); rintro e w2 ⟨rfl, rfl⟩)
      | (go_at_call 79; (with_reducible refine (with_calls _ _ _ _ _ _).mono ?_); rintro e w2 ⟨rfl, hb2⟩; have q := Blk.below (by exact q) hb2; have r0 := q.cell 0 _ rfl; have r1 := q.cell 1 _ rfl; have f0 := q.free 0; have f1 := q.free 1; have hq := q.lt)
      | (go_at_call 81; (with_reducible refine (logic_calls _ _).mono ?_); rintro e w2 ⟨rfl, hb2⟩; have q := Blk.below (by exact q) hb2; have r0 := q.cell 0 _ rfl; have r1 := q.cell 1 _ rfl; have f0 := q.free 0; have f1 := q.free 1; have hq := q.lt)
      | (go_at_call 86; (with_reducible refine (May_calls _ _ _).mono ?_); rintro e w2 ⟨rfl, hb2⟩; have q := Blk.below (by exact q) hb2; have r0 := q.cell 0 _ rfl; have r1 := q.cell 1 _ rfl; have f0 := q.free 0; have f1 := q.free 1; have hq := q.lt))
  all_goals
    have HX := hid (‹_ ∧ _ ∧ _ ∧ _ ∧ Below w.heap.size w _›).2.2.2.2
    go_wp2_with fail
    refine bodyPost_ret (v := .tuple #[.agg #[.int .i64 (k), .slice a m c], .int .i64 (mustI (may 13 k))]) (by simp [results, Try.results49, go_sem, r0, r1, f0, f1]) rfl ?_
    rw [HRA.out]
    exact ⟨_, rfl, HV.out.below HX.out, HX.out⟩

set_option maxRecDepth 10000 in
set_option maxHeartbeats 4000000 in
theorem beh_31 (k kind area at_ n : Int) (a : Option Addr) (m c : Nat) (bs : List (Int × Int)) (w : World) (hv : BrR w (.slice a m c) bs) :
    Calls Try.prog 49 #[.agg #[.int .i64 k, .slice a m c], .agg #[.int .i64 31, .int .i64 kind, .int .i64 area, .int .i64 at_, .int .i64 n]] w (RetA (mustI (k != 0)) (kind) bs w) := by
  have HV := hid hv
  have HRA := hid (show RetA (mustI (k != 0)) (kind) bs w = fun e w' => ∃ v, e = .returned (.tuple #[.agg #[.int .i64 (kind), v], .int .i64 (mustI (k != 0))]) ∧ BrR w' v bs ∧ Below w.heap.size w w' from rfl)
  clear hv
  go_enter Try.func49, Try.ntmps49
  go_wp2_with fail
  obtain ⟨B0, B1, B2, HB, HZ⟩ := new3 w #[.int .i64 k, .slice a m c] #[.int .i64 31, .int .i64 kind, .int .i64 area, .int .i64 at_, .int .i64 n] #[.int .i64 0, .slice none 0 0] 105 48 105
  generalize (((w.alloc (.cells #[.int .i64 k, .slice a m c] 105)).alloc (.cells #[.int .i64 31, .int .i64 kind, .int .i64 area, .int .i64 at_, .int .i64 n] 48)).alloc (.cells #[.int .i64 0, .slice none 0 0] 105)) = W at *
  have a0 := B0.cell 0 _ rfl
  have a1 := B0.cell 1 _ rfl
  have i0 := B1.cell 0 _ rfl
  have i1 := B1.cell 1 _ rfl
  have q := B2
  have r0 := B2.cell 0 _ rfl
  have r1 := B2.cell 1 _ rfl
  have f0 := B2.free 0
  have f1 := B2.free 1
  have hq : w.heap.size + 1 + 1 < W.heap.size := B2.lt
  clear B0 B1 B2 HZ
  go_region_held3 (fun w' => w'.cell? ⟨w.heap.size, 0, none⟩ = some (.int .i64 k) ∧ w'.cell? ⟨w.heap.size, 1, none⟩ = some (.slice a m c) ∧ w'.cell? ⟨w.heap.size + 1, 0, none⟩ = some (.int .i64 31) ∧ w'.cell? ⟨w.heap.size + 1, 1, none⟩ = some (.int .i64 kind) ∧ Below w.heap.size w w')
    (first | (exact ⟨a0, a1, i0, i1, HB.drew⟩) | (exact keep5 (by assumption) (by assumption)) | assumption | (exact keep5s (by assumption) _ _ (by omega) (by dsimp only; omega) (by dsimp only; omega) (by dsimp only; omega) (by dsimp only; omega)) | (exact keep5d (by assumption) _ _ (by omega) (by dsimp only; omega) (by dsimp only; omega) (by dsimp only; omega) (by dsimp only; omega)) | go_keep)
    (first
      | (go_at_call 80; (with_reducible refine (must_calls _ _).mono ?_); rintro e w2 ⟨rfl, rfl⟩)
      | (go_at_call 85; (with_reducible refine (made_calls _ _ _).mono ?_); rintro e w2 ⟨rfl, rfl⟩)
      | (go_at_call 79; (with_reducible refine (with_calls _ _ _ _ _ _).mono ?_); rintro e w2 ⟨rfl, hb2⟩; have q := Blk.below (by exact q) hb2; have r0 := q.cell 0 _ rfl; have r1 := q.cell 1 _ rfl; have f0 := q.free 0; have f1 := q.free 1; have hq := q.lt)
      | (go_at_call 81; (with_reducible refine (logic_calls _ _).mono ?_); rintro e w2 ⟨rfl, hb2⟩; have q := Blk.below (by exact q) hb2; have r0 := q.cell 0 _ rfl; have r1 := q.cell 1 _ rfl; have f0 := q.free 0; have f1 := q.free 1; have hq := q.lt)
      | (go_at_call 86; (with_reducible refine (May_calls _ _ _).mono ?_); rintro e w2 ⟨rfl, hb2⟩; have q := Blk.below (by exact q) hb2; have r0 := q.cell 0 _ rfl; have r1 := q.cell 1 _ rfl; have f0 := q.free 0; have f1 := q.free 1; have hq := q.lt))
  all_goals
    have HX := hid (‹_ ∧ _ ∧ _ ∧ _ ∧ Below w.heap.size w _›).2.2.2.2
    go_wp2_with fail
    refine bodyPost_ret (v := .tuple #[.agg #[.int .i64 (kind), .slice a m c], .int .i64 (mustI (k != 0))]) (by simp [results, Try.results49, go_sem, r0, r1, f0, f1]) rfl ?_
    rw [HRA.out]
    exact ⟨_, rfl, HV.out.below HX.out, HX.out⟩

set_option maxRecDepth 10000 in
set_option maxHeartbeats 4000000 in
theorem beh_25 (k kind area at_ n : Int) (a : Option Addr) (m c : Nat) (bs : List (Int × Int)) (w : World) (hv : BrR w (.slice a m c) bs) :
    Calls Try.prog 49 #[.agg #[.int .i64 k, .slice a m c], .agg #[.int .i64 25, .int .i64 kind, .int .i64 area, .int .i64 at_, .int .i64 n]] w (RetA (0) (k) bs w) := by
  have HV := hid hv
  have HRA := hid (show RetA (0) (k) bs w = fun e w' => ∃ v, e = .returned (.tuple #[.agg #[.int .i64 (k), v], .int .i64 (0)]) ∧ BrR w' v bs ∧ Below w.heap.size w w' from rfl)
  clear hv
  go_enter Try.func49, Try.ntmps49
  go_wp2_with fail
  refine bodyPost_ret (v := .tuple #[.agg #[.int .i64 (k), .slice a m c], .int .i64 (0)]) (by simp [results, Try.results49, go_sem]) rfl ?_
  rw [HRA.out]
  exact ⟨_, rfl, HV.out.below (bel_a3 _ _ _ _), bel_a3 _ _ _ _⟩
end Go.Proofs.Ytjnohalffffiaaa
