/- vm: do, timer, counter, leaves. -/
import Derived.Test.YtjnohalffffiaaaNf
set_option linter.unusedVariables false
set_option linter.unusedSimpArgs false
namespace Go.Proofs.Ytjnohalffffiaaa
open Go.RowKit

theorem and_same (a b : Bool) : (a && b) = if a then b else false := by cases a <;> rfl

set_option maxHeartbeats 1000000 in
theorem do_17z (base rb : Nat) (p : Int) (S : VS) (ak an b : Int) (w : World) (h : VmAt w base rb p S) (hz0 : 0 ≤ S.zero) (hz1 : S.zero ≤ 1000000) :
    Calls Try.prog 57 #[.pointer (some ⟨rb, 0, none⟩), .int .i64 17, .agg #[.int .i64 ak, .int .i64 an], .int .i64 0] w (RetV base rb p { S with zero := S.zero + 1, kind := ak, n := (dok 17 ak an 0).1 } w) := by
  obtain ⟨hz, hl, v, c5, c6, c7, c8, c9, c12, hop, hfr⟩ := (h.below (bel_a1 w (.cells #[.int .i64 ak, .int .i64 an] 65))).open
  have hB := h.base
  have f9 := hfr 9
  have H := hid (h.below (bel_a1 w (.cells #[.int .i64 ak, .int .i64 an] 65)))
  have B0 := hid (Blk.new w #[.int .i64 ak, .int .i64 an] 65)
  have HK := hid (Kp.of (bel_a1 w (.cells #[.int .i64 ak, .int .i64 an] 65)) hB)
  have hw0 : w.heap.size ≤ (w.alloc (.cells #[.int .i64 ak, .int .i64 an] 65)).heap.size := (bel_a1 w _).size
  clear h hop hfr c5 c6 c7 c8 c12
  have hw1 : IntKind.i64.wrap (S.zero + 1) = S.zero + 1 := by rw [IntKind.wrap_i64]; omega
  go_enter Try.func57, Try.ntmps57
  go_wp2_with fail
  refine (Do_calls _ _ _ _ _).mono ?_
  rintro e w1 ⟨rfl, hb⟩
  have H1 := hid (((H.out.zer (S.zero + 1))).below hb)
  have HK1 := hid ((HK.out.trans (H.out.kp 9 (.int .i64 (S.zero + 1)))).bel hb hB)
  have B1 := hid (((HK.out.trans (H.out.kp 9 (.int .i64 (S.zero + 1)))).bel hb hB))
  have b1 := Blk.below ((H.out.kp 9 (.int .i64 (S.zero + 1))).2 _ _ _ B0.out (by decide) (by decide)) hb
  clear hb c9 f9
  generalize w.heap.size = D at *
  obtain ⟨_, hl1, v1, c5, c6, c7, c8, c9, c12, hop, hfr⟩ := H1.out.open
  have f5 := hfr 5
  have f6 := hfr 6
  have x0 := b1.cell 0 _ rfl
  have x1 := b1.cell 1 _ rfl
  clear hop hfr c7 c8 c9 c12 b1
  generalize hdk : (dok 17 ak an 0).1 = dk at *
  have HDK := hid hdk
  clear hdk
  go_wp2_with fail
  go_end0
  refine ⟨rfl, ?_, (HK1.out.trans (H1.out.kp 5 _)).trans ((H1.out.res1 _).kp 6 _)⟩
  exact H1.out.res ak dk

set_option maxHeartbeats 1000000 in
theorem do_18z (base rb : Nat) (p : Int) (S : VS) (ak an b : Int) (w : World) (h : VmAt w base rb p S) (hz0 : 0 ≤ S.zero) (hz1 : S.zero ≤ 1000000) :
    Calls Try.prog 57 #[.pointer (some ⟨rb, 0, none⟩), .int .i64 18, .agg #[.int .i64 ak, .int .i64 an], .int .i64 0] w (RetV base rb p { S with zero := S.zero + 1, kind := ak, n := (dok 18 ak an 0).1 } w) := by
  obtain ⟨hz, hl, v, c5, c6, c7, c8, c9, c12, hop, hfr⟩ := (h.below (bel_a1 w (.cells #[.int .i64 ak, .int .i64 an] 65))).open
  have hB := h.base
  have f9 := hfr 9
  have H := hid (h.below (bel_a1 w (.cells #[.int .i64 ak, .int .i64 an] 65)))
  have B0 := hid (Blk.new w #[.int .i64 ak, .int .i64 an] 65)
  have HK := hid (Kp.of (bel_a1 w (.cells #[.int .i64 ak, .int .i64 an] 65)) hB)
  have hw0 : w.heap.size ≤ (w.alloc (.cells #[.int .i64 ak, .int .i64 an] 65)).heap.size := (bel_a1 w _).size
  clear h hop hfr c5 c6 c7 c8 c12
  have hw1 : IntKind.i64.wrap (S.zero + 1) = S.zero + 1 := by rw [IntKind.wrap_i64]; omega
  go_enter Try.func57, Try.ntmps57
  go_wp2_with fail
  refine (Do_calls _ _ _ _ _).mono ?_
  rintro e w1 ⟨rfl, hb⟩
  have H1 := hid (((H.out.zer (S.zero + 1))).below hb)
  have HK1 := hid ((HK.out.trans (H.out.kp 9 (.int .i64 (S.zero + 1)))).bel hb hB)
  have B1 := hid (((HK.out.trans (H.out.kp 9 (.int .i64 (S.zero + 1)))).bel hb hB))
  have b1 := Blk.below ((H.out.kp 9 (.int .i64 (S.zero + 1))).2 _ _ _ B0.out (by decide) (by decide)) hb
  clear hb c9 f9
  generalize w.heap.size = D at *
  obtain ⟨_, hl1, v1, c5, c6, c7, c8, c9, c12, hop, hfr⟩ := H1.out.open
  have f5 := hfr 5
  have f6 := hfr 6
  have x0 := b1.cell 0 _ rfl
  have x1 := b1.cell 1 _ rfl
  clear hop hfr c7 c8 c9 c12 b1
  generalize hdk : (dok 18 ak an 0).1 = dk at *
  have HDK := hid hdk
  clear hdk
  go_wp2_with fail
  go_end0
  refine ⟨rfl, ?_, (HK1.out.trans (H1.out.kp 5 _)).trans ((H1.out.res1 _).kp 6 _)⟩
  exact H1.out.res ak dk

set_option maxHeartbeats 1000000 in
theorem do_nz (base rb : Nat) (p : Int) (S : VS) (op : Int) (ak an b : Int) (hb0 : (b == 0) = false) (h19 : decide (19 ≤ op) = false) (w : World) (h : VmAt w base rb p S) (hz0 : 0 ≤ S.zero) (hz1 : S.zero ≤ 1000000) :
    Calls Try.prog 57 #[.pointer (some ⟨rb, 0, none⟩), .int .i64 op, .agg #[.int .i64 ak, .int .i64 an], .int .i64 b] w (RetV base rb p { S with zero := S.zero, kind := ak, n := (dok op ak an b).1 } w) := by
  obtain ⟨hz, hl, v, c5, c6, c7, c8, c9, c12, hop, hfr⟩ := (h.below (bel_a1 w (.cells #[.int .i64 ak, .int .i64 an] 65))).open
  have hB := h.base
  have f9 := hfr 9
  have H := hid (h.below (bel_a1 w (.cells #[.int .i64 ak, .int .i64 an] 65)))
  have B0 := hid (Blk.new w #[.int .i64 ak, .int .i64 an] 65)
  have HK := hid (Kp.of (bel_a1 w (.cells #[.int .i64 ak, .int .i64 an] 65)) hB)
  have hw0 : w.heap.size ≤ (w.alloc (.cells #[.int .i64 ak, .int .i64 an] 65)).heap.size := (bel_a1 w _).size
  clear h hop hfr c5 c6 c7 c8 c12
  go_enter Try.func57, Try.ntmps57
  go_wp2_with fail
  refine (Do_calls _ _ _ _ _).mono ?_
  rintro e w1 ⟨rfl, hb⟩
  have H1 := hid (H.out.below hb)
  have HK1 := hid (HK.out.bel hb hB)
  have b1 := Blk.below B0.out hb
  clear hb c9 f9
  generalize w.heap.size = D at *
  obtain ⟨_, hl1, v1, c5, c6, c7, c8, c9, c12, hop, hfr⟩ := H1.out.open
  have f5 := hfr 5
  have f6 := hfr 6
  have x0 := b1.cell 0 _ rfl
  have x1 := b1.cell 1 _ rfl
  clear hop hfr c7 c8 c9 c12 b1
  generalize hdk : (dok op ak an b).1 = dk at *
  have HDK := hid hdk
  clear hdk
  go_wp2_with fail
  go_end0
  refine ⟨rfl, ?_, (HK1.out.trans (H1.out.kp 5 _)).trans ((H1.out.res1 _).kp 6 _)⟩
  exact H1.out.res ak dk

set_option maxHeartbeats 1000000 in
theorem do_nzc (base rb : Nat) (p : Int) (S : VS) (op : Int) (ak an b : Int) (hb0 : (b == 0) = false) (h19 : decide (19 ≤ op) = true) (w : World) (h : VmAt w base rb p S) (hz0 : 0 ≤ S.zero) (hz1 : S.zero ≤ 1000000) :
    Calls Try.prog 57 #[.pointer (some ⟨rb, 0, none⟩), .int .i64 op, .agg #[.int .i64 ak, .int .i64 an], .int .i64 b] w (RetV base rb p { S with zero := S.zero, kind := 1, n := (dok op ak an b).1 } w) := by
  obtain ⟨hz, hl, v, c5, c6, c7, c8, c9, c12, hop, hfr⟩ := (h.below (bel_a1 w (.cells #[.int .i64 ak, .int .i64 an] 65))).open
  have hB := h.base
  have f9 := hfr 9
  have H := hid (h.below (bel_a1 w (.cells #[.int .i64 ak, .int .i64 an] 65)))
  have B0 := hid (Blk.new w #[.int .i64 ak, .int .i64 an] 65)
  have HK := hid (Kp.of (bel_a1 w (.cells #[.int .i64 ak, .int .i64 an] 65)) hB)
  have hw0 : w.heap.size ≤ (w.alloc (.cells #[.int .i64 ak, .int .i64 an] 65)).heap.size := (bel_a1 w _).size
  clear h hop hfr c5 c6 c7 c8 c12
  go_enter Try.func57, Try.ntmps57
  go_wp2_with fail
  refine (Do_calls _ _ _ _ _).mono ?_
  rintro e w1 ⟨rfl, hb⟩
  have H1 := hid (H.out.below hb)
  have HK1 := hid (HK.out.bel hb hB)
  have b1 := Blk.below B0.out hb
  clear hb c9 f9
  generalize w.heap.size = D at *
  obtain ⟨_, hl1, v1, c5, c6, c7, c8, c9, c12, hop, hfr⟩ := H1.out.open
  have f5 := hfr 5
  have f6 := hfr 6
  have x0 := b1.cell 0 _ rfl
  have x1 := b1.cell 1 _ rfl
  clear hop hfr c7 c8 c9 c12 b1
  generalize hdk : (dok op ak an b).1 = dk at *
  have HDK := hid hdk
  clear hdk
  go_wp2_with fail
  go_end0
  refine ⟨rfl, ?_, (HK1.out.trans (H1.out.kp 5 _)).trans (((H1.out.res1 _).kp 6 _).trans ((H1.out.res _ _).kp 5 _))⟩
  exact (H1.out.res ak dk).res1 1

set_option maxHeartbeats 1000000 in
theorem do_z (base rb : Nat) (p : Int) (S : VS) (op : Int) (ak an b : Int) (hb0 : (b == 0) = true) (h17 : (op == 17) = false) (h18 : (op == 18) = false) (h19 : decide (19 ≤ op) = false) (w : World) (h : VmAt w base rb p S) (hz0 : 0 ≤ S.zero) (hz1 : S.zero ≤ 1000000) :
    Calls Try.prog 57 #[.pointer (some ⟨rb, 0, none⟩), .int .i64 op, .agg #[.int .i64 ak, .int .i64 an], .int .i64 b] w (RetV base rb p { S with zero := S.zero, kind := ak, n := (dok op ak an b).1 } w) := by
  obtain ⟨hz, hl, v, c5, c6, c7, c8, c9, c12, hop, hfr⟩ := (h.below (bel_a1 w (.cells #[.int .i64 ak, .int .i64 an] 65))).open
  have hB := h.base
  have f9 := hfr 9
  have H := hid (h.below (bel_a1 w (.cells #[.int .i64 ak, .int .i64 an] 65)))
  have B0 := hid (Blk.new w #[.int .i64 ak, .int .i64 an] 65)
  have HK := hid (Kp.of (bel_a1 w (.cells #[.int .i64 ak, .int .i64 an] 65)) hB)
  have hw0 : w.heap.size ≤ (w.alloc (.cells #[.int .i64 ak, .int .i64 an] 65)).heap.size := (bel_a1 w _).size
  clear h hop hfr c5 c6 c7 c8 c12
  go_enter Try.func57, Try.ntmps57
  go_wp2_with fail
  refine (Do_calls _ _ _ _ _).mono ?_
  rintro e w1 ⟨rfl, hb⟩
  have H1 := hid (H.out.below hb)
  have HK1 := hid (HK.out.bel hb hB)
  have b1 := Blk.below B0.out hb
  clear hb c9 f9
  generalize w.heap.size = D at *
  obtain ⟨_, hl1, v1, c5, c6, c7, c8, c9, c12, hop, hfr⟩ := H1.out.open
  have f5 := hfr 5
  have f6 := hfr 6
  have x0 := b1.cell 0 _ rfl
  have x1 := b1.cell 1 _ rfl
  clear hop hfr c7 c8 c9 c12 b1
  generalize hdk : (dok op ak an b).1 = dk at *
  have HDK := hid hdk
  clear hdk
  go_wp2_with fail
  go_end0
  refine ⟨rfl, ?_, (HK1.out.trans (H1.out.kp 5 _)).trans ((H1.out.res1 _).kp 6 _)⟩
  exact H1.out.res ak dk

set_option maxHeartbeats 1000000 in
theorem do_zc (base rb : Nat) (p : Int) (S : VS) (op : Int) (ak an b : Int) (hb0 : (b == 0) = true) (h17 : (op == 17) = false) (h18 : (op == 18) = false) (h19 : decide (19 ≤ op) = true) (w : World) (h : VmAt w base rb p S) (hz0 : 0 ≤ S.zero) (hz1 : S.zero ≤ 1000000) :
    Calls Try.prog 57 #[.pointer (some ⟨rb, 0, none⟩), .int .i64 op, .agg #[.int .i64 ak, .int .i64 an], .int .i64 b] w (RetV base rb p { S with zero := S.zero, kind := 1, n := (dok op ak an b).1 } w) := by
  obtain ⟨hz, hl, v, c5, c6, c7, c8, c9, c12, hop, hfr⟩ := (h.below (bel_a1 w (.cells #[.int .i64 ak, .int .i64 an] 65))).open
  have hB := h.base
  have f9 := hfr 9
  have H := hid (h.below (bel_a1 w (.cells #[.int .i64 ak, .int .i64 an] 65)))
  have B0 := hid (Blk.new w #[.int .i64 ak, .int .i64 an] 65)
  have HK := hid (Kp.of (bel_a1 w (.cells #[.int .i64 ak, .int .i64 an] 65)) hB)
  have hw0 : w.heap.size ≤ (w.alloc (.cells #[.int .i64 ak, .int .i64 an] 65)).heap.size := (bel_a1 w _).size
  clear h hop hfr c5 c6 c7 c8 c12
  go_enter Try.func57, Try.ntmps57
  go_wp2_with fail
  refine (Do_calls _ _ _ _ _).mono ?_
  rintro e w1 ⟨rfl, hb⟩
  have H1 := hid (H.out.below hb)
  have HK1 := hid (HK.out.bel hb hB)
  have b1 := Blk.below B0.out hb
  clear hb c9 f9
  generalize w.heap.size = D at *
  obtain ⟨_, hl1, v1, c5, c6, c7, c8, c9, c12, hop, hfr⟩ := H1.out.open
  have f5 := hfr 5
  have f6 := hfr 6
  have x0 := b1.cell 0 _ rfl
  have x1 := b1.cell 1 _ rfl
  clear hop hfr c7 c8 c9 c12 b1
  generalize hdk : (dok op ak an b).1 = dk at *
  have HDK := hid hdk
  clear hdk
  go_wp2_with fail
  go_end0
  refine ⟨rfl, ?_, (HK1.out.trans (H1.out.kp 5 _)).trans (((H1.out.res1 _).kp 6 _).trans ((H1.out.res _ _).kp 5 _))⟩
  exact (H1.out.res ak dk).res1 1

theorem do_calls (base rb : Nat) (p : Int) (S : VS) (op ak an b : Int) (w : World) (h : VmAt w base rb p S) (hz0 : 0 ≤ S.zero) (hz1 : S.zero ≤ 1000000) :
    Calls Try.prog 57 #[.pointer (some ⟨rb, 0, none⟩), .int .i64 op, .agg #[.int .i64 ak, .int .i64 an], .int .i64 b] w (RetV base rb p (S.does op ak an b) w) := by
  by_cases hb : b = 0
  · by_cases h17 : op = 17
    · subst hb h17
      exact do_17z base rb p S ak an 0 w h hz0 hz1
    by_cases h18 : op = 18
    · subst hb h18
      exact do_18z base rb p S ak an 0 w h hz0 hz1
    by_cases h19 : 19 ≤ op
    · rw [show S.does op ak an b = { S with zero := S.zero, kind := 1, n := (dok op ak an b).1 } from by unfold VS.does; rw [if_pos h19, if_neg (by omega)]]
      exact do_zc base rb p S op ak an b (by simpa using hb) (by simpa using h17) (by simpa using h18) (by simpa using h19) w h hz0 hz1
    · rw [show S.does op ak an b = { S with zero := S.zero, kind := ak, n := (dok op ak an b).1 } from by unfold VS.does; rw [if_neg h19, if_neg (by omega)]]
      exact do_z base rb p S op ak an b (by simpa using hb) (by simpa using h17) (by simpa using h18) (by simpa using h19) w h hz0 hz1
  · by_cases h19 : 19 ≤ op
    · rw [show S.does op ak an b = { S with zero := S.zero, kind := 1, n := (dok op ak an b).1 } from by unfold VS.does; rw [if_pos h19, if_neg (by omega)]]
      exact do_nzc base rb p S op ak an b (by simpa using hb) (by simpa using h19) w h hz0 hz1
    · rw [show S.does op ak an b = { S with zero := S.zero, kind := ak, n := (dok op ak an b).1 } from by unfold VS.does; rw [if_neg h19, if_neg (by omega)]]
      exact do_nz base rb p S op ak an b (by simpa using hb) (by simpa using h19) w h hz0 hz1

end Go.Proofs.Ytjnohalffffiaaa
