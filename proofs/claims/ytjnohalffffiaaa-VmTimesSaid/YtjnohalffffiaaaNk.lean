/- vm: step. -/
import Derived.Test.YtjnohalffffiaaaNj
set_option linter.unusedVariables false
set_option linter.unusedSimpArgs false
namespace Go.Proofs.Ytjnohalffffiaaa
open Go.RowKit

theorem Kp.drew {base : Nat} {w w' : World} (h : Kp base w w') : Kp base w w'.drew := ⟨h.1.drew, h.2⟩
theorem Kp.alloc {base : Nat} {w w' : World} (h : Kp base w w') (hB : base ≤ w.heap.size) (o : Obj) : Kp base w (w'.alloc o) := h.bel (bel_a1 w' o) hB

theorem keepC5 {w1 w2 : World} {p0 p1 p2 p3 p4 : Addr} {x0 x1 x2 x3 x4 : Value} (h : w1.cell? p0 = some x0 ∧ w1.cell? p1 = some x1 ∧ w1.cell? p2 = some x2 ∧ w1.cell? p3 = some x3 ∧ w1.cell? p4 = some x4) (hb : Below w1.heap.size w1 w2) : w2.cell? p0 = some x0 ∧ w2.cell? p1 = some x1 ∧ w2.cell? p2 = some x2 ∧ w2.cell? p3 = some x3 ∧ w2.cell? p4 = some x4 := by
  obtain ⟨h0, h1, h2, h3, h4⟩ := h
  exact ⟨(hb.cell (World.block_lt_of_cell? _ _ h0)).trans h0, (hb.cell (World.block_lt_of_cell? _ _ h1)).trans h1, (hb.cell (World.block_lt_of_cell? _ _ h2)).trans h2, (hb.cell (World.block_lt_of_cell? _ _ h3)).trans h3, (hb.cell (World.block_lt_of_cell? _ _ h4)).trans h4⟩
theorem keepC7 {w1 w2 : World} {p0 p1 p2 p3 p4 p5 p6 : Addr} {x0 x1 x2 x3 x4 x5 x6 : Value} (h : w1.cell? p0 = some x0 ∧ w1.cell? p1 = some x1 ∧ w1.cell? p2 = some x2 ∧ w1.cell? p3 = some x3 ∧ w1.cell? p4 = some x4 ∧ w1.cell? p5 = some x5 ∧ w1.cell? p6 = some x6) (hb : Below w1.heap.size w1 w2) : w2.cell? p0 = some x0 ∧ w2.cell? p1 = some x1 ∧ w2.cell? p2 = some x2 ∧ w2.cell? p3 = some x3 ∧ w2.cell? p4 = some x4 ∧ w2.cell? p5 = some x5 ∧ w2.cell? p6 = some x6 := by
  obtain ⟨h0, h1, h2, h3, h4, h5, h6⟩ := h
  exact ⟨(hb.cell (World.block_lt_of_cell? _ _ h0)).trans h0, (hb.cell (World.block_lt_of_cell? _ _ h1)).trans h1, (hb.cell (World.block_lt_of_cell? _ _ h2)).trans h2, (hb.cell (World.block_lt_of_cell? _ _ h3)).trans h3, (hb.cell (World.block_lt_of_cell? _ _ h4)).trans h4, (hb.cell (World.block_lt_of_cell? _ _ h5)).trans h5, (hb.cell (World.block_lt_of_cell? _ _ h6)).trans h6⟩

theorem World.cell?_setCell_block (w : World) (a p : Addr) (v : Value) (h : p.block ≠ a.block) : (w.setCell a v).cell? p = w.cell? p := World.cell?_setCell_other _ _ _ _ (fun e => h (by rw [e]))
theorem keepC5s {w1 : World} {p0 p1 p2 p3 p4 : Addr} {x0 x1 x2 x3 x4 : Value} (h : w1.cell? p0 = some x0 ∧ w1.cell? p1 = some x1 ∧ w1.cell? p2 = some x2 ∧ w1.cell? p3 = some x3 ∧ w1.cell? p4 = some x4) {R o : Nat} (a : Value) (n0 : p0.block ≠ R) (n1 : p1.block ≠ R) (n2 : p2.block ≠ R) (n3 : p3.block ≠ R) (n4 : p4.block ≠ R) : (w1.setCell ⟨R, o, none⟩ a).cell? p0 = some x0 ∧ (w1.setCell ⟨R, o, none⟩ a).cell? p1 = some x1 ∧ (w1.setCell ⟨R, o, none⟩ a).cell? p2 = some x2 ∧ (w1.setCell ⟨R, o, none⟩ a).cell? p3 = some x3 ∧ (w1.setCell ⟨R, o, none⟩ a).cell? p4 = some x4 := by
  obtain ⟨h0, h1, h2, h3, h4⟩ := h
  exact ⟨(World.cell?_setCell_block _ _ _ _ n0).trans h0, (World.cell?_setCell_block _ _ _ _ n1).trans h1, (World.cell?_setCell_block _ _ _ _ n2).trans h2, (World.cell?_setCell_block _ _ _ _ n3).trans h3, (World.cell?_setCell_block _ _ _ _ n4).trans h4⟩
theorem keepC7s {w1 : World} {p0 p1 p2 p3 p4 p5 p6 : Addr} {x0 x1 x2 x3 x4 x5 x6 : Value} (h : w1.cell? p0 = some x0 ∧ w1.cell? p1 = some x1 ∧ w1.cell? p2 = some x2 ∧ w1.cell? p3 = some x3 ∧ w1.cell? p4 = some x4 ∧ w1.cell? p5 = some x5 ∧ w1.cell? p6 = some x6) {R o : Nat} (a : Value) (n0 : p0.block ≠ R) (n1 : p1.block ≠ R) (n2 : p2.block ≠ R) (n3 : p3.block ≠ R) (n4 : p4.block ≠ R) (n5 : p5.block ≠ R) (n6 : p6.block ≠ R) : (w1.setCell ⟨R, o, none⟩ a).cell? p0 = some x0 ∧ (w1.setCell ⟨R, o, none⟩ a).cell? p1 = some x1 ∧ (w1.setCell ⟨R, o, none⟩ a).cell? p2 = some x2 ∧ (w1.setCell ⟨R, o, none⟩ a).cell? p3 = some x3 ∧ (w1.setCell ⟨R, o, none⟩ a).cell? p4 = some x4 ∧ (w1.setCell ⟨R, o, none⟩ a).cell? p5 = some x5 ∧ (w1.setCell ⟨R, o, none⟩ a).cell? p6 = some x6 := by
  obtain ⟨h0, h1, h2, h3, h4, h5, h6⟩ := h
  exact ⟨(World.cell?_setCell_block _ _ _ _ n0).trans h0, (World.cell?_setCell_block _ _ _ _ n1).trans h1, (World.cell?_setCell_block _ _ _ _ n2).trans h2, (World.cell?_setCell_block _ _ _ _ n3).trans h3, (World.cell?_setCell_block _ _ _ _ n4).trans h4, (World.cell?_setCell_block _ _ _ _ n5).trans h5, (World.cell?_setCell_block _ _ _ _ n6).trans h6⟩

set_option maxRecDepth 10000 in
set_option maxHeartbeats 4000000 in
theorem step_1 (base rb : Nat) (p : Int) (S : VS) (kind area at_ n : Int) (w : World) (h : VmAt w base rb p S) (hi : opdOk ⟨1, kind, area, at_, n⟩) :
    Calls Try.prog 33 #[.pointer (some ⟨rb, 0, none⟩), .agg #[.int .i64 1, .int .i64 kind, .int .i64 area, .int .i64 at_, .int .i64 n]] w (RetV base rb p ({ S with kind := kind, n := S.opd ⟨1, kind, area, at_, n⟩ }) w) := by
  have HI := hid hi
  have hB := h.base
  have hl := h.lt
  obtain ⟨_, _, v, c5, c6, c7, c8, c9, c12, hop, hfr⟩ := h.open
  have HV0 := hid h
  clear h c7 c8 c9 c12 hop hfr hi
  go_enter Try.func33, Try.ntmps33
  go_wp2_with fail
  obtain ⟨B0, B1, HB, HZ⟩ := new2 w #[.int .i64 1, .int .i64 kind, .int .i64 area, .int .i64 at_, .int .i64 n] #[.int .i64 S.kind, .int .i64 S.n] 48 65
  have HV := hid (HV0.out.below HB)
  have HK := hid (Kp.of HB hB)
  generalize ((w.alloc (.cells #[.int .i64 1, .int .i64 kind, .int .i64 area, .int .i64 at_, .int .i64 n] 48)).alloc (.cells #[.int .i64 S.kind, .int .i64 S.n] 65)) = W at *
  clear HZ HB HV0 c5 c6
  obtain ⟨_, hl2, v2, c5, c6, c7, c8, c9, c12, hop, hfr⟩ := HV.out.open
  have f5 := hfr 5
  have f6 := hfr 6
  clear c7 c8 c9 c12 hop hfr
  have d0 := B0.cell 0 _ rfl
  have d1 := B0.cell 1 _ rfl
  have d2 := B0.cell 2 _ rfl
  have d3 := B0.cell 3 _ rfl
  have d4 := B0.cell 4 _ rfl
  have e0 := B1.cell 0 _ rfl
  have e1 := B1.cell 1 _ rfl
  have BV := hid B1
  have BDI := hid B0
  clear B0 B1
  go_region_held3 (fun w' => w'.cell? ⟨w.heap.size, 0, none⟩ = some (.int .i64 1) ∧ w'.cell? ⟨w.heap.size, 1, none⟩ = some (.int .i64 kind) ∧ w'.cell? ⟨w.heap.size, 2, none⟩ = some (.int .i64 area) ∧ w'.cell? ⟨w.heap.size, 3, none⟩ = some (.int .i64 at_) ∧ w'.cell? ⟨w.heap.size, 4, none⟩ = some (.int .i64 n))
    (first | (exact keepC5 (by assumption) (by assumption)) | (exact keepC7 (by assumption) (by assumption)) | assumption | (exact keepC5s (R := rb) (keepC5s (R := rb) (by assumption) _ (by dsimp only; omega) (by dsimp only; omega) (by dsimp only; omega) (by dsimp only; omega) (by dsimp only; omega)) _ (by dsimp only; omega) (by dsimp only; omega) (by dsimp only; omega) (by dsimp only; omega) (by dsimp only; omega)) | (exact keepC5s (R := rb) (by assumption) _ (by dsimp only; omega) (by dsimp only; omega) (by dsimp only; omega) (by dsimp only; omega) (by dsimp only; omega)) | (exact keepC7s (R := rb) (keepC7s (R := rb) (by assumption) _ (by dsimp only; omega) (by dsimp only; omega) (by dsimp only; omega) (by dsimp only; omega) (by dsimp only; omega) (by dsimp only; omega) (by dsimp only; omega)) _ (by dsimp only; omega) (by dsimp only; omega) (by dsimp only; omega) (by dsimp only; omega) (by dsimp only; omega) (by dsimp only; omega) (by dsimp only; omega)) | (exact keepC7s (R := rb) (by assumption) _ (by dsimp only; omega) (by dsimp only; omega) (by dsimp only; omega) (by dsimp only; omega) (by dsimp only; omega) (by dsimp only; omega) (by dsimp only; omega)) | go_keep)
    (first
      | (go_at_call 53; (refine (operand_calls base rb p S ⟨1, kind, area, at_, n⟩ _ (by exact HV.out) HI.out).mono ?_); rintro e w2 ⟨rfl, hb2⟩; have HV := hid (VmAt.below (by exact HV.out) hb2); have HK := hid (Kp.bel (by first | exact HK.out | exact HK.out.drew) hb2 hB); obtain ⟨_, hl3, v3, c5, c6, c7, c8, c9, c12, hop, hfr⟩ := HV.out.open; have f5 := hfr 5; have f6 := hfr 6; clear c7 c8 c9 c12 hop hfr))
  all_goals
    go_wp2_with fail
    go_end0
    exact ⟨rfl, HV.out.res _ _, Kp.trans (by first | exact HK.out | exact HK.out.drew) ((HV.out.kp 5 _).trans ((HV.out.res1 _).kp 6 _))⟩

set_option maxRecDepth 10000 in
set_option maxHeartbeats 4000000 in
theorem step_2 (base rb : Nat) (p : Int) (S : VS) (kind area at_ n : Int) (w : World) (h : VmAt w base rb p S) (hi : opdOk ⟨2, kind, area, at_, n⟩) :
    Calls Try.prog 33 #[.pointer (some ⟨rb, 0, none⟩), .agg #[.int .i64 2, .int .i64 kind, .int .i64 area, .int .i64 at_, .int .i64 n]] w (RetV base rb p ({ S with kind := kind, n := notk kind (S.opd ⟨2, kind, area, at_, n⟩) }) w) := by
  have HI := hid hi
  have hB := h.base
  have hl := h.lt
  obtain ⟨_, _, v, c5, c6, c7, c8, c9, c12, hop, hfr⟩ := h.open
  have HV0 := hid h
  clear h c7 c8 c9 c12 hop hfr hi
  go_enter Try.func33, Try.ntmps33
  go_wp2_with fail
  obtain ⟨B0, B1, HB, HZ⟩ := new2 w #[.int .i64 2, .int .i64 kind, .int .i64 area, .int .i64 at_, .int .i64 n] #[.int .i64 S.kind, .int .i64 S.n] 48 65
  have HV := hid (HV0.out.below HB)
  have HK := hid (Kp.of HB hB)
  generalize ((w.alloc (.cells #[.int .i64 2, .int .i64 kind, .int .i64 area, .int .i64 at_, .int .i64 n] 48)).alloc (.cells #[.int .i64 S.kind, .int .i64 S.n] 65)) = W at *
  clear HZ HB HV0 c5 c6
  obtain ⟨_, hl2, v2, c5, c6, c7, c8, c9, c12, hop, hfr⟩ := HV.out.open
  have f5 := hfr 5
  have f6 := hfr 6
  clear c7 c8 c9 c12 hop hfr
  have d0 := B0.cell 0 _ rfl
  have d1 := B0.cell 1 _ rfl
  have d2 := B0.cell 2 _ rfl
  have d3 := B0.cell 3 _ rfl
  have d4 := B0.cell 4 _ rfl
  have e0 := B1.cell 0 _ rfl
  have e1 := B1.cell 1 _ rfl
  have BV := hid B1
  have BDI := hid B0
  clear B0 B1
  go_region_held3 (fun w' => w'.cell? ⟨w.heap.size, 0, none⟩ = some (.int .i64 2) ∧ w'.cell? ⟨w.heap.size, 1, none⟩ = some (.int .i64 kind) ∧ w'.cell? ⟨w.heap.size, 2, none⟩ = some (.int .i64 area) ∧ w'.cell? ⟨w.heap.size, 3, none⟩ = some (.int .i64 at_) ∧ w'.cell? ⟨w.heap.size, 4, none⟩ = some (.int .i64 n))
    (first | (exact keepC5 (by assumption) (by assumption)) | (exact keepC7 (by assumption) (by assumption)) | assumption | (exact keepC5s (R := rb) (keepC5s (R := rb) (by assumption) _ (by dsimp only; omega) (by dsimp only; omega) (by dsimp only; omega) (by dsimp only; omega) (by dsimp only; omega)) _ (by dsimp only; omega) (by dsimp only; omega) (by dsimp only; omega) (by dsimp only; omega) (by dsimp only; omega)) | (exact keepC5s (R := rb) (by assumption) _ (by dsimp only; omega) (by dsimp only; omega) (by dsimp only; omega) (by dsimp only; omega) (by dsimp only; omega)) | (exact keepC7s (R := rb) (keepC7s (R := rb) (by assumption) _ (by dsimp only; omega) (by dsimp only; omega) (by dsimp only; omega) (by dsimp only; omega) (by dsimp only; omega) (by dsimp only; omega) (by dsimp only; omega)) _ (by dsimp only; omega) (by dsimp only; omega) (by dsimp only; omega) (by dsimp only; omega) (by dsimp only; omega) (by dsimp only; omega) (by dsimp only; omega)) | (exact keepC7s (R := rb) (by assumption) _ (by dsimp only; omega) (by dsimp only; omega) (by dsimp only; omega) (by dsimp only; omega) (by dsimp only; omega) (by dsimp only; omega) (by dsimp only; omega)) | go_keep)
    (first
      | (go_at_call 53; (refine (operand_calls base rb p S ⟨2, kind, area, at_, n⟩ _ (by exact HV.out) HI.out).mono ?_); rintro e w2 ⟨rfl, hb2⟩; have HV := hid (VmAt.below (by exact HV.out) hb2); have HK := hid (Kp.bel (by first | exact HK.out | exact HK.out.drew) hb2 hB); obtain ⟨_, hl3, v3, c5, c6, c7, c8, c9, c12, hop, hfr⟩ := HV.out.open; have f5 := hfr 5; have f6 := hfr 6; clear c7 c8 c9 c12 hop hfr)
      | (go_at_call 54; (refine (Not_calls _ _ _).mono ?_); rintro e w2 ⟨rfl, hb2⟩; have HV := hid (VmAt.below (by exact HV.out) hb2); have HK := hid (Kp.bel (by first | exact HK.out | exact HK.out.drew) hb2 hB); obtain ⟨_, hl3, v3, c5, c6, c7, c8, c9, c12, hop, hfr⟩ := HV.out.open; have f5 := hfr 5; have f6 := hfr 6; clear c7 c8 c9 c12 hop hfr))
  all_goals
    go_wp2_with fail
    go_end0
    exact ⟨rfl, HV.out.res _ _, Kp.trans (by first | exact HK.out | exact HK.out.drew) ((HV.out.kp 5 _).trans ((HV.out.res1 _).kp 6 _))⟩

set_option maxRecDepth 10000 in
set_option maxHeartbeats 4000000 in
theorem step_31 (base rb : Nat) (p : Int) (S : VS) (kind area at_ n : Int) (w : World) (h : VmAt w base rb p S)  :
    Calls Try.prog 33 #[.pointer (some ⟨rb, 0, none⟩), .agg #[.int .i64 31, .int .i64 kind, .int .i64 area, .int .i64 at_, .int .i64 n]] w (RetV base rb p ({ S with kind := kind, n := wrapk kind S.n }) w) := by
  have hB := h.base
  have hl := h.lt
  obtain ⟨_, _, v, c5, c6, c7, c8, c9, c12, hop, hfr⟩ := h.open
  have HV0 := hid h
  clear h c7 c8 c9 c12 hop hfr
  go_enter Try.func33, Try.ntmps33
  go_wp2_with fail
  obtain ⟨B0, B1, HB, HZ⟩ := new2 w #[.int .i64 31, .int .i64 kind, .int .i64 area, .int .i64 at_, .int .i64 n] #[.int .i64 S.kind, .int .i64 S.n] 48 65
  have HV := hid (HV0.out.below HB)
  have HK := hid (Kp.of HB hB)
  generalize ((w.alloc (.cells #[.int .i64 31, .int .i64 kind, .int .i64 area, .int .i64 at_, .int .i64 n] 48)).alloc (.cells #[.int .i64 S.kind, .int .i64 S.n] 65)) = W at *
  clear HZ HB HV0 c5 c6
  obtain ⟨_, hl2, v2, c5, c6, c7, c8, c9, c12, hop, hfr⟩ := HV.out.open
  have f5 := hfr 5
  have f6 := hfr 6
  clear c7 c8 c9 c12 hop hfr
  have d0 := B0.cell 0 _ rfl
  have d1 := B0.cell 1 _ rfl
  have d2 := B0.cell 2 _ rfl
  have d3 := B0.cell 3 _ rfl
  have d4 := B0.cell 4 _ rfl
  have e0 := B1.cell 0 _ rfl
  have e1 := B1.cell 1 _ rfl
  have BV := hid B1
  have BDI := hid B0
  clear B0 B1
  go_region_held3 (fun w' => w'.cell? ⟨w.heap.size, 0, none⟩ = some (.int .i64 31) ∧ w'.cell? ⟨w.heap.size, 1, none⟩ = some (.int .i64 kind) ∧ w'.cell? ⟨w.heap.size, 2, none⟩ = some (.int .i64 area) ∧ w'.cell? ⟨w.heap.size, 3, none⟩ = some (.int .i64 at_) ∧ w'.cell? ⟨w.heap.size, 4, none⟩ = some (.int .i64 n) ∧ w'.cell? ⟨w.heap.size + 1, 0, none⟩ = some (.int .i64 S.kind) ∧ w'.cell? ⟨w.heap.size + 1, 1, none⟩ = some (.int .i64 S.n))
    (first | (exact keepC5 (by assumption) (by assumption)) | (exact keepC7 (by assumption) (by assumption)) | assumption | (exact keepC5s (R := rb) (keepC5s (R := rb) (by assumption) _ (by dsimp only; omega) (by dsimp only; omega) (by dsimp only; omega) (by dsimp only; omega) (by dsimp only; omega)) _ (by dsimp only; omega) (by dsimp only; omega) (by dsimp only; omega) (by dsimp only; omega) (by dsimp only; omega)) | (exact keepC5s (R := rb) (by assumption) _ (by dsimp only; omega) (by dsimp only; omega) (by dsimp only; omega) (by dsimp only; omega) (by dsimp only; omega)) | (exact keepC7s (R := rb) (keepC7s (R := rb) (by assumption) _ (by dsimp only; omega) (by dsimp only; omega) (by dsimp only; omega) (by dsimp only; omega) (by dsimp only; omega) (by dsimp only; omega) (by dsimp only; omega)) _ (by dsimp only; omega) (by dsimp only; omega) (by dsimp only; omega) (by dsimp only; omega) (by dsimp only; omega) (by dsimp only; omega) (by dsimp only; omega)) | (exact keepC7s (R := rb) (by assumption) _ (by dsimp only; omega) (by dsimp only; omega) (by dsimp only; omega) (by dsimp only; omega) (by dsimp only; omega) (by dsimp only; omega) (by dsimp only; omega)) | go_keep)
    (first
      | (go_at_call 56; (refine (Wrap_calls _ _ _).mono ?_); rintro e w2 ⟨rfl, hb2⟩; have HV := hid (VmAt.below (by exact HV.out) hb2); have HK := hid (Kp.bel (by first | exact HK.out | exact HK.out.drew) hb2 hB); obtain ⟨_, hl3, v3, c5, c6, c7, c8, c9, c12, hop, hfr⟩ := HV.out.open; have f5 := hfr 5; have f6 := hfr 6; clear c7 c8 c9 c12 hop hfr))
  all_goals
    go_wp2_with fail
    go_end0
    exact ⟨rfl, HV.out.res _ _, Kp.trans (by first | exact HK.out | exact HK.out.drew) ((HV.out.kp 5 _).trans ((HV.out.res1 _).kp 6 _))⟩

end Go.Proofs.Ytjnohalffffiaaa
