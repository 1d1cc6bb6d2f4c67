/- vm: step, those that write. -/
import Derived.Test.YtjnohalffffiaaaNk
set_option linter.unusedVariables false
set_option linter.unusedSimpArgs false
namespace Go.Proofs.Ytjnohalffffiaaa
open Go.RowKit

set_option maxRecDepth 10000 in
set_option maxHeartbeats 4000000 in
theorem step_3 (base rb : Nat) (p : Int) (S : VS) (kind area at_ n : Int) (w : World) (h : VmAt w base rb p S) (ha1 : 1 ≤ area) (ha4 : area ≤ 4) (h1 : 0 < ksize kind) (h2 : 0 ≤ at_) (h3 : at_ + ksize kind ≤ 64) :
    Calls Try.prog 33 #[.pointer (some ⟨rb, 0, none⟩), .agg #[.int .i64 3, .int .i64 kind, .int .i64 area, .int .i64 at_, .int .i64 n]] w (RetV base rb p (S.put area at_ kind S.n) w) := by
  have HA := hid (And.intro ha1 ha4)
  have H3 := hid (And.intro h1 (And.intro h2 h3))
  have hB := h.base
  have hl := h.lt
  obtain ⟨_, _, v, c5, c6, c7, c8, c9, c12, hop, hfr⟩ := h.open
  have HV0 := hid h
  clear h c7 c8 c9 c12 hop hfr ha1 ha4 h1 h2 h3
  go_enter Try.func33, Try.ntmps33
  go_wp2_with fail
  obtain ⟨B0, B1, HB, HZ⟩ := new2 w #[.int .i64 3, .int .i64 kind, .int .i64 area, .int .i64 at_, .int .i64 n] #[.int .i64 S.kind, .int .i64 S.n] 48 65
  have HV := hid (HV0.out.below HB)
  have HK := hid (Kp.of HB hB)
  generalize ((w.alloc (.cells #[.int .i64 3, .int .i64 kind, .int .i64 area, .int .i64 at_, .int .i64 n] 48)).alloc (.cells #[.int .i64 S.kind, .int .i64 S.n] 65)) = W at *
  clear HZ HB HV0 c5 c6
  obtain ⟨_, hl2, v2, c5, c6, c7, c8, c9, c12, hop, hfr⟩ := HV.out.open
  have f5 := hfr 5
  have f6 := hfr 6
  clear c7 c8 c9 c12 hop hfr
  have d0 := B0.cell 0 _ rfl
  have d1 := B0.cell 1 _ rfl
  have d2 := B0.cell 2 _ rfl
  have d3 := B0.cell 3 _ rfl
  have d4 := B0.cell 4 _ rfl
  have e0 := B1.cell 0 _ rfl
  have e1 := B1.cell 1 _ rfl
  have BV := hid B1
  have BDI := hid B0
  clear B0 B1
  refine (put_calls base rb p S area at_ kind S.n _ HV.out HA.out.1 HA.out.2 H3.out.1 H3.out.2.1 H3.out.2.2).mono ?_
  rintro e w2 ⟨rfl, hv, hk⟩
  have HX := hid hv
  have HK2 := hid (HK.out.trans hk)
  clear hv hk c5 c6 f5 f6 d0 d1 d2 d3 d4 e0 e1
  go_wp2_with fail
  go_end0
  exact ⟨rfl, HX.out, HK2.out⟩

set_option maxRecDepth 10000 in
set_option maxHeartbeats 4000000 in
theorem step_4 (base rb : Nat) (p : Int) (S : VS) (kind area at_ n : Int) (w : World) (h : VmAt w base rb p S) (ha1 : 1 ≤ area) (ha4 : area ≤ 4) (h1 : 0 < ksize kind) (h2 : 0 ≤ at_) (h3 : at_ + ksize kind ≤ 64) :
    Calls Try.prog 33 #[.pointer (some ⟨rb, 0, none⟩), .agg #[.int .i64 4, .int .i64 kind, .int .i64 area, .int .i64 at_, .int .i64 n]] w (RetV base rb p (S.put area at_ kind (notk kind S.n)) w) := by
  have HA := hid (And.intro ha1 ha4)
  have H3 := hid (And.intro h1 (And.intro h2 h3))
  have hB := h.base
  have hl := h.lt
  obtain ⟨_, _, v, c5, c6, c7, c8, c9, c12, hop, hfr⟩ := h.open
  have HV0 := hid h
  clear h c7 c8 c9 c12 hop hfr ha1 ha4 h1 h2 h3
  go_enter Try.func33, Try.ntmps33
  go_wp2_with fail
  obtain ⟨B0, B1, HB, HZ⟩ := new2 w #[.int .i64 4, .int .i64 kind, .int .i64 area, .int .i64 at_, .int .i64 n] #[.int .i64 S.kind, .int .i64 S.n] 48 65
  have HV := hid (HV0.out.below HB)
  have HK := hid (Kp.of HB hB)
  generalize ((w.alloc (.cells #[.int .i64 4, .int .i64 kind, .int .i64 area, .int .i64 at_, .int .i64 n] 48)).alloc (.cells #[.int .i64 S.kind, .int .i64 S.n] 65)) = W at *
  clear HZ HB HV0 c5 c6
  obtain ⟨_, hl2, v2, c5, c6, c7, c8, c9, c12, hop, hfr⟩ := HV.out.open
  have f5 := hfr 5
  have f6 := hfr 6
  clear c7 c8 c9 c12 hop hfr
  have d0 := B0.cell 0 _ rfl
  have d1 := B0.cell 1 _ rfl
  have d2 := B0.cell 2 _ rfl
  have d3 := B0.cell 3 _ rfl
  have d4 := B0.cell 4 _ rfl
  have e0 := B1.cell 0 _ rfl
  have e1 := B1.cell 1 _ rfl
  have BV := hid B1
  have BDI := hid B0
  clear B0 B1
  have BD : Hid (Blk W w.heap.size #[.int .i64 4, .int .i64 kind, .int .i64 area, .int .i64 at_, .int .i64 n] 48) := BDI
  go_region_held3 (fun w' => w'.cell? ⟨w.heap.size, 0, none⟩ = some (.int .i64 4) ∧ w'.cell? ⟨w.heap.size, 1, none⟩ = some (.int .i64 kind) ∧ w'.cell? ⟨w.heap.size, 2, none⟩ = some (.int .i64 area) ∧ w'.cell? ⟨w.heap.size, 3, none⟩ = some (.int .i64 at_) ∧ w'.cell? ⟨w.heap.size, 4, none⟩ = some (.int .i64 n) ∧ w'.cell? ⟨w.heap.size + 1, 0, none⟩ = some (.int .i64 S.kind) ∧ w'.cell? ⟨w.heap.size + 1, 1, none⟩ = some (.int .i64 S.n))
    (first | (exact keepC5 (by assumption) (by assumption)) | (exact keepC7 (by assumption) (by assumption)) | assumption | (exact keepC5s (R := rb) (keepC5s (R := rb) (by assumption) _ (by dsimp only; omega) (by dsimp only; omega) (by dsimp only; omega) (by dsimp only; omega) (by dsimp only; omega)) _ (by dsimp only; omega) (by dsimp only; omega) (by dsimp only; omega) (by dsimp only; omega) (by dsimp only; omega)) | (exact keepC5s (R := rb) (by assumption) _ (by dsimp only; omega) (by dsimp only; omega) (by dsimp only; omega) (by dsimp only; omega) (by dsimp only; omega)) | (exact keepC7s (R := rb) (keepC7s (R := rb) (by assumption) _ (by dsimp only; omega) (by dsimp only; omega) (by dsimp only; omega) (by dsimp only; omega) (by dsimp only; omega) (by dsimp only; omega) (by dsimp only; omega)) _ (by dsimp only; omega) (by dsimp only; omega) (by dsimp only; omega) (by dsimp only; omega) (by dsimp only; omega) (by dsimp only; omega) (by dsimp only; omega)) | (exact keepC7s (R := rb) (by assumption) _ (by dsimp only; omega) (by dsimp only; omega) (by dsimp only; omega) (by dsimp only; omega) (by dsimp only; omega) (by dsimp only; omega) (by dsimp only; omega)) | go_keep)
    (first
      | (go_at_call 54; (refine (Not_calls _ _ _).mono ?_); rintro e w2 ⟨rfl, hb2⟩; have HV := hid (VmAt.below (by exact HV.out) hb2); have HK := hid (Kp.bel (by first | exact HK.out | exact HK.out.drew) hb2 hB); obtain ⟨_, hl3, v3, c5, c6, c7, c8, c9, c12, hop, hfr⟩ := HV.out.open; have f5 := hfr 5; have f6 := hfr 6; clear c7 c8 c9 c12 hop hfr; have BD := hid (Blk.below (by exact BD.out) hb2); have BV := hid (Blk.below (by exact BV.out) hb2))
      | (go_at_call 55; (refine (put_calls base rb p S area at_ kind (notk kind S.n) _ (by exact HV.out) HA.out.1 HA.out.2 H3.out.1 H3.out.2.1 H3.out.2.2).mono ?_); rintro e w2 ⟨rfl, hv, hk⟩; have HV := hid hv; have HK := hid (Kp.trans (by first | exact HK.out | exact HK.out.drew) hk); have q1 := hk.2 _ _ _ (by exact BD.out) (by decide) (by decide); have q2 := hk.2 _ _ _ (by exact BV.out) (by decide) (by decide); have hh : w2.cell? ⟨w.heap.size, 0, none⟩ = some (.int .i64 4) ∧ w2.cell? ⟨w.heap.size, 1, none⟩ = some (.int .i64 kind) ∧ w2.cell? ⟨w.heap.size, 2, none⟩ = some (.int .i64 area) ∧ w2.cell? ⟨w.heap.size, 3, none⟩ = some (.int .i64 at_) ∧ w2.cell? ⟨w.heap.size, 4, none⟩ = some (.int .i64 n) ∧ w2.cell? ⟨w.heap.size + 1, 0, none⟩ = some (.int .i64 S.kind) ∧ w2.cell? ⟨w.heap.size + 1, 1, none⟩ = some (.int .i64 S.n) := ⟨q1.cell 0 _ rfl, q1.cell 1 _ rfl, q1.cell 2 _ rfl, q1.cell 3 _ rfl, q1.cell 4 _ rfl, q2.cell 0 _ rfl, q2.cell 1 _ rfl⟩))
  all_goals
    go_wp2_with fail
    go_end0
    exact ⟨rfl, HV.out, by first | exact HK.out | exact HK.out.drew⟩

set_option maxRecDepth 10000 in
set_option maxHeartbeats 4000000 in
theorem step_5y (base rb : Nat) (p : Int) (S : VS) (kind area at_ n : Int) (w : World) (h : VmAt w base rb p S) (hn : (S.n == 1) = true) (ha1 : 1 ≤ area) (ha4 : area ≤ 4) (h1 : 0 < ksize kind) (h2 : 0 ≤ at_) (h3 : at_ + ksize kind ≤ 64) :
    Calls Try.prog 33 #[.pointer (some ⟨rb, 0, none⟩), .agg #[.int .i64 5, .int .i64 kind, .int .i64 area, .int .i64 at_, .int .i64 n]] w (RetV base rb p (S.put area at_ 1 1) w) := by
  have HN := hid hn
  have HA := hid (And.intro ha1 ha4)
  have H3 := hid (And.intro h1 (And.intro h2 h3))
  have hB := h.base
  have hl := h.lt
  obtain ⟨_, _, v, c5, c6, c7, c8, c9, c12, hop, hfr⟩ := h.open
  have HV0 := hid h
  clear h c7 c8 c9 c12 hop hfr hn ha1 ha4 h1 h2 h3
  go_enter Try.func33, Try.ntmps33
  go_wp2_with fail
  obtain ⟨B0, B1, HB, HZ⟩ := new2 w #[.int .i64 5, .int .i64 kind, .int .i64 area, .int .i64 at_, .int .i64 n] #[.int .i64 S.kind, .int .i64 S.n] 48 65
  have HV := hid (HV0.out.below HB)
  have HK := hid (Kp.of HB hB)
  generalize ((w.alloc (.cells #[.int .i64 5, .int .i64 kind, .int .i64 area, .int .i64 at_, .int .i64 n] 48)).alloc (.cells #[.int .i64 S.kind, .int .i64 S.n] 65)) = W at *
  clear HZ HB HV0 c5 c6
  obtain ⟨_, hl2, v2, c5, c6, c7, c8, c9, c12, hop, hfr⟩ := HV.out.open
  have f5 := hfr 5
  have f6 := hfr 6
  clear c7 c8 c9 c12 hop hfr
  have d0 := B0.cell 0 _ rfl
  have d1 := B0.cell 1 _ rfl
  have d2 := B0.cell 2 _ rfl
  have d3 := B0.cell 3 _ rfl
  have d4 := B0.cell 4 _ rfl
  have e0 := B1.cell 0 _ rfl
  have e1 := B1.cell 1 _ rfl
  have BV := hid B1
  have BDI := hid B0
  clear B0 B1
  refine (is_calls _ _ _).mono ?_
  rintro e w2 ⟨rfl, hb2⟩
  rw [HN.out]
  have HV2 := hid (HV.out.below hb2)
  have HK2 := hid (HK.out.bel hb2 hB)
  have B2 := BDI.out.below hb2
  clear d0 d1 d2 d3 d4 e0 e1 c5 c6 f5 f6
  have d0 := B2.cell 0 _ rfl
  have d2 := B2.cell 2 _ rfl
  have d3 := B2.cell 3 _ rfl
  clear B2 hb2
  go_wp2_with fail
  refine (put_calls base rb p S area at_ 1 1 _ HV2.out HA.out.1 HA.out.2 (by decide) H3.out.2.1 (by have := H3.out.1; have := H3.out.2.2; show at_ + 1 ≤ 64; omega)).mono ?_
  rintro e w3 ⟨rfl, hv, hk⟩
  have HX := hid hv
  have HK3 := hid (HK2.out.trans hk)
  clear hv hk d0 d2 d3
  go_wp2_with fail
  go_end0
  exact ⟨rfl, HX.out, HK3.out⟩

set_option maxRecDepth 10000 in
set_option maxHeartbeats 4000000 in
theorem step_5n (base rb : Nat) (p : Int) (S : VS) (kind area at_ n : Int) (w : World) (h : VmAt w base rb p S) (hn : (S.n == 1) = false) :
    Calls Try.prog 33 #[.pointer (some ⟨rb, 0, none⟩), .agg #[.int .i64 5, .int .i64 kind, .int .i64 area, .int .i64 at_, .int .i64 n]] w (RetV base rb p (S) w) := by
  have HN := hid hn
  have hB := h.base
  have hl := h.lt
  obtain ⟨_, _, v, c5, c6, c7, c8, c9, c12, hop, hfr⟩ := h.open
  have HV0 := hid h
  clear h c7 c8 c9 c12 hop hfr hn
  go_enter Try.func33, Try.ntmps33
  go_wp2_with fail
  obtain ⟨B0, B1, HB, HZ⟩ := new2 w #[.int .i64 5, .int .i64 kind, .int .i64 area, .int .i64 at_, .int .i64 n] #[.int .i64 S.kind, .int .i64 S.n] 48 65
  have HV := hid (HV0.out.below HB)
  have HK := hid (Kp.of HB hB)
  generalize ((w.alloc (.cells #[.int .i64 5, .int .i64 kind, .int .i64 area, .int .i64 at_, .int .i64 n] 48)).alloc (.cells #[.int .i64 S.kind, .int .i64 S.n] 65)) = W at *
  clear HZ HB HV0 c5 c6
  obtain ⟨_, hl2, v2, c5, c6, c7, c8, c9, c12, hop, hfr⟩ := HV.out.open
  have f5 := hfr 5
  have f6 := hfr 6
  clear c7 c8 c9 c12 hop hfr
  have d0 := B0.cell 0 _ rfl
  have d1 := B0.cell 1 _ rfl
  have d2 := B0.cell 2 _ rfl
  have d3 := B0.cell 3 _ rfl
  have d4 := B0.cell 4 _ rfl
  have e0 := B1.cell 0 _ rfl
  have e1 := B1.cell 1 _ rfl
  have BV := hid B1
  have BDI := hid B0
  clear B0 B1
  refine (is_calls _ _ _).mono ?_
  rintro e w2 ⟨rfl, hb2⟩
  rw [HN.out]
  have HV2 := hid (HV.out.below hb2)
  have HK2 := hid (HK.out.bel hb2 hB)
  clear hb2 c5 c6 f5 f6 d0 d1 d2 d3 d4 e0 e1
  go_wp2_with fail
  go_end0
  exact ⟨rfl, HV2.out, HK2.out⟩

set_option maxRecDepth 10000 in
set_option maxHeartbeats 4000000 in
theorem step_6y (base rb : Nat) (p : Int) (S : VS) (kind area at_ n : Int) (w : World) (h : VmAt w base rb p S) (hn : (S.n == 1) = true) (ha1 : 1 ≤ area) (ha4 : area ≤ 4) (h1 : 0 < ksize kind) (h2 : 0 ≤ at_) (h3 : at_ + ksize kind ≤ 64) :
    Calls Try.prog 33 #[.pointer (some ⟨rb, 0, none⟩), .agg #[.int .i64 6, .int .i64 kind, .int .i64 area, .int .i64 at_, .int .i64 n]] w (RetV base rb p (S.put area at_ 1 0) w) := by
  have HN := hid hn
  have HA := hid (And.intro ha1 ha4)
  have H3 := hid (And.intro h1 (And.intro h2 h3))
  have hB := h.base
  have hl := h.lt
  obtain ⟨_, _, v, c5, c6, c7, c8, c9, c12, hop, hfr⟩ := h.open
  have HV0 := hid h
  clear h c7 c8 c9 c12 hop hfr hn ha1 ha4 h1 h2 h3
  go_enter Try.func33, Try.ntmps33
  go_wp2_with fail
  obtain ⟨B0, B1, HB, HZ⟩ := new2 w #[.int .i64 6, .int .i64 kind, .int .i64 area, .int .i64 at_, .int .i64 n] #[.int .i64 S.kind, .int .i64 S.n] 48 65
  have HV := hid (HV0.out.below HB)
  have HK := hid (Kp.of HB hB)
  generalize ((w.alloc (.cells #[.int .i64 6, .int .i64 kind, .int .i64 area, .int .i64 at_, .int .i64 n] 48)).alloc (.cells #[.int .i64 S.kind, .int .i64 S.n] 65)) = W at *
  clear HZ HB HV0 c5 c6
  obtain ⟨_, hl2, v2, c5, c6, c7, c8, c9, c12, hop, hfr⟩ := HV.out.open
  have f5 := hfr 5
  have f6 := hfr 6
  clear c7 c8 c9 c12 hop hfr
  have d0 := B0.cell 0 _ rfl
  have d1 := B0.cell 1 _ rfl
  have d2 := B0.cell 2 _ rfl
  have d3 := B0.cell 3 _ rfl
  have d4 := B0.cell 4 _ rfl
  have e0 := B1.cell 0 _ rfl
  have e1 := B1.cell 1 _ rfl
  have BV := hid B1
  have BDI := hid B0
  clear B0 B1
  refine (is_calls _ _ _).mono ?_
  rintro e w2 ⟨rfl, hb2⟩
  rw [HN.out]
  have HV2 := hid (HV.out.below hb2)
  have HK2 := hid (HK.out.bel hb2 hB)
  have B2 := BDI.out.below hb2
  clear d0 d1 d2 d3 d4 e0 e1 c5 c6 f5 f6
  have d0 := B2.cell 0 _ rfl
  have d2 := B2.cell 2 _ rfl
  have d3 := B2.cell 3 _ rfl
  clear B2 hb2
  go_wp2_with fail
  refine (put_calls base rb p S area at_ 1 0 _ HV2.out HA.out.1 HA.out.2 (by decide) H3.out.2.1 (by have := H3.out.1; have := H3.out.2.2; show at_ + 1 ≤ 64; omega)).mono ?_
  rintro e w3 ⟨rfl, hv, hk⟩
  have HX := hid hv
  have HK3 := hid (HK2.out.trans hk)
  clear hv hk d0 d2 d3
  go_wp2_with fail
  go_end0
  exact ⟨rfl, HX.out, HK3.out⟩

set_option maxRecDepth 10000 in
set_option maxHeartbeats 4000000 in
theorem step_6n (base rb : Nat) (p : Int) (S : VS) (kind area at_ n : Int) (w : World) (h : VmAt w base rb p S) (hn : (S.n == 1) = false) :
    Calls Try.prog 33 #[.pointer (some ⟨rb, 0, none⟩), .agg #[.int .i64 6, .int .i64 kind, .int .i64 area, .int .i64 at_, .int .i64 n]] w (RetV base rb p (S) w) := by
  have HN := hid hn
  have hB := h.base
  have hl := h.lt
  obtain ⟨_, _, v, c5, c6, c7, c8, c9, c12, hop, hfr⟩ := h.open
  have HV0 := hid h
  clear h c7 c8 c9 c12 hop hfr hn
  go_enter Try.func33, Try.ntmps33
  go_wp2_with fail
  obtain ⟨B0, B1, HB, HZ⟩ := new2 w #[.int .i64 6, .int .i64 kind, .int .i64 area, .int .i64 at_, .int .i64 n] #[.int .i64 S.kind, .int .i64 S.n] 48 65
  have HV := hid (HV0.out.below HB)
  have HK := hid (Kp.of HB hB)
  generalize ((w.alloc (.cells #[.int .i64 6, .int .i64 kind, .int .i64 area, .int .i64 at_, .int .i64 n] 48)).alloc (.cells #[.int .i64 S.kind, .int .i64 S.n] 65)) = W at *
  clear HZ HB HV0 c5 c6
  obtain ⟨_, hl2, v2, c5, c6, c7, c8, c9, c12, hop, hfr⟩ := HV.out.open
  have f5 := hfr 5
  have f6 := hfr 6
  clear c7 c8 c9 c12 hop hfr
  have d0 := B0.cell 0 _ rfl
  have d1 := B0.cell 1 _ rfl
  have d2 := B0.cell 2 _ rfl
  have d3 := B0.cell 3 _ rfl
  have d4 := B0.cell 4 _ rfl
  have e0 := B1.cell 0 _ rfl
  have e1 := B1.cell 1 _ rfl
  have BV := hid B1
  have BDI := hid B0
  clear B0 B1
  refine (is_calls _ _ _).mono ?_
  rintro e w2 ⟨rfl, hb2⟩
  rw [HN.out]
  have HV2 := hid (HV.out.below hb2)
  have HK2 := hid (HK.out.bel hb2 hB)
  clear hb2 c5 c6 f5 f6 d0 d1 d2 d3 d4 e0 e1
  go_wp2_with fail
  go_end0
  exact ⟨rfl, HV2.out, HK2.out⟩

set_option maxRecDepth 10000 in
set_option maxHeartbeats 4000000 in
theorem step_13 (base rb : Nat) (p : Int) (S : VS) (kind area at_ n : Int) (w : World) (h : VmAt w base rb p S)  :
    Calls Try.prog 33 #[.pointer (some ⟨rb, 0, none⟩), .agg #[.int .i64 13, .int .i64 kind, .int .i64 area, .int .i64 at_, .int .i64 n]] w (RetV base rb p ({ S with n := notk S.kind S.n }) w) := by
  have hB := h.base
  have hl := h.lt
  obtain ⟨_, _, v, c5, c6, c7, c8, c9, c12, hop, hfr⟩ := h.open
  have HV0 := hid h
  clear h c7 c8 c9 c12 hop hfr
  go_enter Try.func33, Try.ntmps33
  go_wp2_with fail
  obtain ⟨B0, B1, HB, HZ⟩ := new2 w #[.int .i64 13, .int .i64 kind, .int .i64 area, .int .i64 at_, .int .i64 n] #[.int .i64 S.kind, .int .i64 S.n] 48 65
  have HV := hid (HV0.out.below HB)
  have HK := hid (Kp.of HB hB)
  generalize ((w.alloc (.cells #[.int .i64 13, .int .i64 kind, .int .i64 area, .int .i64 at_, .int .i64 n] 48)).alloc (.cells #[.int .i64 S.kind, .int .i64 S.n] 65)) = W at *
  clear HZ HB HV0 c5 c6
  obtain ⟨_, hl2, v2, c5, c6, c7, c8, c9, c12, hop, hfr⟩ := HV.out.open
  have f5 := hfr 5
  have f6 := hfr 6
  clear c7 c8 c9 c12 hop hfr
  have d0 := B0.cell 0 _ rfl
  have d1 := B0.cell 1 _ rfl
  have d2 := B0.cell 2 _ rfl
  have d3 := B0.cell 3 _ rfl
  have d4 := B0.cell 4 _ rfl
  have e0 := B1.cell 0 _ rfl
  have e1 := B1.cell 1 _ rfl
  have BV := hid B1
  have BDI := hid B0
  clear B0 B1
  refine (Not_calls _ _ _).mono ?_
  rintro e w2 ⟨rfl, hb2⟩
  have HV2 := hid (HV.out.below hb2)
  have HK2 := hid (HK.out.bel hb2 hB)
  clear hb2 c5 c6 f5 f6 d0 d1 d2 d3 d4 e0 e1
  obtain ⟨_, hl3, v3, c5, c6, c7, c8, c9, c12, hop, hfr⟩ := HV2.out.open
  have f6 := hfr 6
  clear c5 c7 c8 c9 c12 hop hfr
  go_wp2_with fail
  go_end0
  exact ⟨rfl, HV2.out.res2 _, HK2.out.trans (HV2.out.kp 6 _)⟩

set_option maxRecDepth 10000 in
set_option maxHeartbeats 4000000 in
theorem step_34 (base rb : Nat) (p : Int) (S : VS) (kind area at_ n : Int) (w : World) (h : VmAt w base rb p S) (ha1 : 1 ≤ area) (ha4 : area ≤ 4) (h2 : 0 ≤ at_) (h3 : at_ ≤ 59) (hp0 : 0 ≤ p) (hp1 : p ≤ 10000) :
    Calls Try.prog 33 #[.pointer (some ⟨rb, 0, none⟩), .agg #[.int .i64 34, .int .i64 kind, .int .i64 area, .int .i64 at_, .int .i64 n]] w (RetV base rb p (S.timer p ⟨34, kind, area, at_, n⟩) w) := by
  have HA := hid (And.intro ha1 ha4)
  have H3 := hid (And.intro h2 h3)
  have HP := hid (And.intro hp0 hp1)
  have hB := h.base
  have hl := h.lt
  obtain ⟨_, _, v, c5, c6, c7, c8, c9, c12, hop, hfr⟩ := h.open
  have HV0 := hid h
  clear h c7 c8 c9 c12 hop hfr ha1 ha4 h2 h3 hp0 hp1
  go_enter Try.func33, Try.ntmps33
  go_wp2_with fail
  obtain ⟨B0, B1, HB, HZ⟩ := new2 w #[.int .i64 34, .int .i64 kind, .int .i64 area, .int .i64 at_, .int .i64 n] #[.int .i64 S.kind, .int .i64 S.n] 48 65
  have HV := hid (HV0.out.below HB)
  have HK := hid (Kp.of HB hB)
  generalize ((w.alloc (.cells #[.int .i64 34, .int .i64 kind, .int .i64 area, .int .i64 at_, .int .i64 n] 48)).alloc (.cells #[.int .i64 S.kind, .int .i64 S.n] 65)) = W at *
  clear HZ HB HV0 c5 c6
  obtain ⟨_, hl2, v2, c5, c6, c7, c8, c9, c12, hop, hfr⟩ := HV.out.open
  have f5 := hfr 5
  have f6 := hfr 6
  clear c7 c8 c9 c12 hop hfr
  have d0 := B0.cell 0 _ rfl
  have d1 := B0.cell 1 _ rfl
  have d2 := B0.cell 2 _ rfl
  have d3 := B0.cell 3 _ rfl
  have d4 := B0.cell 4 _ rfl
  have e0 := B1.cell 0 _ rfl
  have e1 := B1.cell 1 _ rfl
  have BV := hid B1
  have BDI := hid B0
  clear B0 B1
  refine (timer_calls base rb p S ⟨34, kind, area, at_, n⟩ _ HV.out HA.out.1 HA.out.2 H3.out.1 H3.out.2 HP.out.1 HP.out.2).mono ?_
  rintro e w2 ⟨rfl, hv, hk⟩
  have HX := hid hv
  have HK2 := hid (HK.out.trans hk)
  clear hv hk c5 c6 f5 f6 d0 d1 d2 d3 d4 e0 e1
  go_wp2_with fail
  go_end0
  exact ⟨rfl, HX.out, HK2.out⟩

set_option maxRecDepth 10000 in
set_option maxHeartbeats 4000000 in
theorem step_35 (base rb : Nat) (p : Int) (S : VS) (kind area at_ n : Int) (w : World) (h : VmAt w base rb p S) (ha1 : 1 ≤ area) (ha4 : area ≤ 4) (h2 : 0 ≤ at_) (h3 : at_ ≤ 59) :
    Calls Try.prog 33 #[.pointer (some ⟨rb, 0, none⟩), .agg #[.int .i64 35, .int .i64 kind, .int .i64 area, .int .i64 at_, .int .i64 n]] w (RetV base rb p (S.counter ⟨35, kind, area, at_, n⟩) w) := by
  have HA := hid (And.intro ha1 ha4)
  have H3 := hid (And.intro h2 h3)
  have hB := h.base
  have hl := h.lt
  obtain ⟨_, _, v, c5, c6, c7, c8, c9, c12, hop, hfr⟩ := h.open
  have HV0 := hid h
  clear h c7 c8 c9 c12 hop hfr ha1 ha4 h2 h3
  go_enter Try.func33, Try.ntmps33
  go_wp2_with fail
  obtain ⟨B0, B1, HB, HZ⟩ := new2 w #[.int .i64 35, .int .i64 kind, .int .i64 area, .int .i64 at_, .int .i64 n] #[.int .i64 S.kind, .int .i64 S.n] 48 65
  have HV := hid (HV0.out.below HB)
  have HK := hid (Kp.of HB hB)
  generalize ((w.alloc (.cells #[.int .i64 35, .int .i64 kind, .int .i64 area, .int .i64 at_, .int .i64 n] 48)).alloc (.cells #[.int .i64 S.kind, .int .i64 S.n] 65)) = W at *
  clear HZ HB HV0 c5 c6
  obtain ⟨_, hl2, v2, c5, c6, c7, c8, c9, c12, hop, hfr⟩ := HV.out.open
  have f5 := hfr 5
  have f6 := hfr 6
  clear c7 c8 c9 c12 hop hfr
  have d0 := B0.cell 0 _ rfl
  have d1 := B0.cell 1 _ rfl
  have d2 := B0.cell 2 _ rfl
  have d3 := B0.cell 3 _ rfl
  have d4 := B0.cell 4 _ rfl
  have e0 := B1.cell 0 _ rfl
  have e1 := B1.cell 1 _ rfl
  have BV := hid B1
  have BDI := hid B0
  clear B0 B1
  refine (counter_calls base rb p S ⟨35, kind, area, at_, n⟩ _ HV.out HA.out.1 HA.out.2 H3.out.1 H3.out.2).mono ?_
  rintro e w2 ⟨rfl, hv, hk⟩
  have HX := hid hv
  have HK2 := hid (HK.out.trans hk)
  clear hv hk c5 c6 f5 f6 d0 d1 d2 d3 d4 e0 e1
  go_wp2_with fail
  go_end0
  exact ⟨rfl, HX.out, HK2.out⟩

set_option maxRecDepth 10000 in
set_option maxHeartbeats 4000000 in
theorem step_36 (base rb : Nat) (p : Int) (S : VS) (kind area at_ n : Int) (w : World) (h : VmAt w base rb p S) (ha1 : 1 ≤ area) (ha4 : area ≤ 4) (h2 : 0 ≤ at_) (h3 : at_ ≤ 63) :
    Calls Try.prog 33 #[.pointer (some ⟨rb, 0, none⟩), .agg #[.int .i64 36, .int .i64 kind, .int .i64 area, .int .i64 at_, .int .i64 n]] w (RetV base rb p ((S.put area at_ 1 S.n).says (S.rise area at_)) w) := by
  have HA := hid (And.intro ha1 ha4)
  have H3 := hid (And.intro h2 h3)
  have hB := h.base
  have hl := h.lt
  obtain ⟨_, _, v, c5, c6, c7, c8, c9, c12, hop, hfr⟩ := h.open
  have HV0 := hid h
  clear h c7 c8 c9 c12 hop hfr ha1 ha4 h2 h3
  go_enter Try.func33, Try.ntmps33
  go_wp2_with fail
  obtain ⟨B0, B1, HB, HZ⟩ := new2 w #[.int .i64 36, .int .i64 kind, .int .i64 area, .int .i64 at_, .int .i64 n] #[.int .i64 S.kind, .int .i64 S.n] 48 65
  have HV := hid (HV0.out.below HB)
  have HK := hid (Kp.of HB hB)
  generalize ((w.alloc (.cells #[.int .i64 36, .int .i64 kind, .int .i64 area, .int .i64 at_, .int .i64 n] 48)).alloc (.cells #[.int .i64 S.kind, .int .i64 S.n] 65)) = W at *
  clear HZ HB HV0 c5 c6
  obtain ⟨_, hl2, v2, c5, c6, c7, c8, c9, c12, hop, hfr⟩ := HV.out.open
  have f5 := hfr 5
  have f6 := hfr 6
  clear c7 c8 c9 c12 hop hfr
  have d0 := B0.cell 0 _ rfl
  have d1 := B0.cell 1 _ rfl
  have d2 := B0.cell 2 _ rfl
  have d3 := B0.cell 3 _ rfl
  have d4 := B0.cell 4 _ rfl
  have e0 := B1.cell 0 _ rfl
  have e1 := B1.cell 1 _ rfl
  have BV := hid B1
  have BDI := hid B0
  clear B0 B1
  refine (rises_calls base rb p S area at_ _ HV.out HA.out.1 HA.out.2 H3.out.1 H3.out.2).mono ?_
  rintro e w2 ⟨rfl, hv, hk⟩
  have HX := hid hv
  have HK2 := hid (HK.out.trans hk)
  clear hv hk c5 c6 f5 f6 d0 d1 d2 d3 d4 e0 e1
  go_wp2_with fail
  refine (truth_calls _ _).mono ?_
  rintro e w3 ⟨rfl, hb⟩
  have HX2 := hid (HX.out.below hb)
  have HK3 := hid (HK2.out.bel hb hB)
  clear hb
  obtain ⟨_, hl3, v3, c5, c6, c7, c8, c9, c12, hop, hfr⟩ := HX2.out.open
  have f5 := hfr 5
  have f6 := hfr 6
  clear c7 c8 c9 c12 hop hfr
  go_wp2_with fail
  go_end0
  exact ⟨rfl, HX2.out.res _ _, HK3.out.trans ((HX2.out.kp 5 _).trans ((HX2.out.res1 _).kp 6 _))⟩

end Go.Proofs.Ytjnohalffffiaaa
