/- vm: counter, leaves. -/
import Derived.Test.YtjnohalffffiaaaNi
set_option linter.unusedVariables false
set_option linter.unusedSimpArgs false
namespace Go.Proofs.Ytjnohalffffiaaa
open Go.RowKit

set_option maxHeartbeats 2000000 in
theorem counter_yes1 (base rb : Nat) (p : Int) (S : VS) (op kind area at_ n : Int) (w : World) (h : VmAt w base rb p S) (hr : S.rise area (at_ + 4) = true) (ha1 : 1 ≤ area) (ha4 : area ≤ 4) (h2 : 0 ≤ at_) (h3 : at_ ≤ 59) (hlt : n < S.get area at_ 7 + 1) :
    Calls Try.prog 59 #[.pointer (some ⟨rb, 0, none⟩), .agg #[.int .i64 op, .int .i64 kind, .int .i64 area, .int .i64 at_, .int .i64 n]] w (RetV base rb p (((S.put area (at_ + 4) 1 S.n).put area at_ 7 n).says true) w) := by
  have hB := h.base
  have H := hid (h.below (bel_a1 w (.cells #[.int .i64 op, .int .i64 kind, .int .i64 area, .int .i64 at_, .int .i64 n] 48)))
  have B0 := hid (Blk.new w #[.int .i64 op, .int .i64 kind, .int .i64 area, .int .i64 at_, .int .i64 n] 48)
  have HK := hid (Kp.of (bel_a1 w (.cells #[.int .i64 op, .int .i64 kind, .int .i64 area, .int .i64 at_, .int .i64 n] 48)) hB)
  have HA := hid (And.intro ha1 ha4)
  have H3 := hid (And.intro h2 h3)
  have HR := hid hr
  have hl := h.lt
  clear h ha1 ha4 h2 h3 hr
  have hw4 : IntKind.i64.wrap (at_ + 4) = at_ + 4 := by have := H3.out.1; have := H3.out.2; rw [IntKind.wrap_i64]; omega
  have hg7 := get7_range S area at_
  have hw1 : IntKind.i64.wrap (S.get area at_ 7 + 1) = S.get area at_ 7 + 1 := by rw [IntKind.wrap_i64]; omega
  go_enter Try.func59, Try.ntmps59
  go_wp2_with fail
  refine (get_calls base rb p S area at_ 7 _ H.out HA.out.1 HA.out.2 (by decide) H3.out.1 (by have := H3.out.2; show at_ + 4 ≤ 64; omega)).mono ?_
  rintro e w1 ⟨rfl, hb⟩
  have H1 := hid (H.out.below hb)
  have HK1 := hid (HK.out.bel hb hB)
  have B1 := hid (B0.out.below hb)
  clear hb B0 HK H
  have x2 := B1.out.cell 2 _ rfl
  have x3 := B1.out.cell 3 _ rfl
  obtain ⟨D, hD⟩ : ∃ D, w.heap.size = D := ⟨_, rfl⟩
  rw [hD] at x2 x3 B1 ⊢
  clear hD
  go_wp2_with fail
  refine (rises_calls base rb p S area (at_ + 4) _ H1.out HA.out.1 HA.out.2 (by have := H3.out.1; omega) (by have := H3.out.2; omega)).mono ?_
  rintro e w2 ⟨rfl, hv, hk⟩
  rw [HR.out]
  have H2 := hid hv
  have HK2 := hid (HK1.out.trans hk)
  have B2 := hid (hk.2 _ _ _ B1.out (by decide) (by decide))
  clear hv hk H1 HK1 B1 x2 x3
  have x2 := B2.out.cell 2 _ rfl
  have x3 := B2.out.cell 3 _ rfl
  have x4 := B2.out.cell 4 _ rfl
  generalize S.put area (at_ + 4) 1 S.n = S1 at *
  go_wp2_with fail
  refine (put_calls base rb p S1 area at_ 7 n _ H2.out HA.out.1 HA.out.2 (by decide) H3.out.1 (by have := H3.out.2; show at_ + 4 ≤ 64; omega)).mono ?_
  rintro e w3 ⟨rfl, hv, hk⟩
  have HK3 := hid (HK2.out.trans hk)
  have H4 := hid hv
  have B3 := hid (hk.2 _ _ _ B2.out (by decide) (by decide))
  clear hv hk HK2 B2 H2 x2 x3 x4
  have x4 := B3.out.cell 4 _ rfl
  have H2 := H4
  have HK2 := HK3
  go_wp2_with fail
  refine (truth_calls _ _).mono ?_
  rintro e w5 ⟨rfl, hb⟩
  have H6 := hid (H2.out.below hb)
  have HK5 := hid (HK2.out.bel hb hB)
  clear hb x4
  obtain ⟨_, hl5, v5, c5, c6, c7, c8, c9, c12, hop, hfr⟩ := H6.out.open
  have f5 := hfr 5
  have f6 := hfr 6
  clear c7 c8 c9 c12 hop hfr
  go_wp2_with fail
  go_end0
  exact ⟨rfl, H6.out.res _ _, HK5.out.trans ((H6.out.kp 5 _).trans ((H6.out.res1 _).kp 6 _))⟩

set_option maxHeartbeats 2000000 in
theorem counter_yes2 (base rb : Nat) (p : Int) (S : VS) (op kind area at_ n : Int) (w : World) (h : VmAt w base rb p S) (hr : S.rise area (at_ + 4) = true) (ha1 : 1 ≤ area) (ha4 : area ≤ 4) (h2 : 0 ≤ at_) (h3 : at_ ≤ 59) (hlt : ¬ (n < S.get area at_ 7 + 1)) :
    Calls Try.prog 59 #[.pointer (some ⟨rb, 0, none⟩), .agg #[.int .i64 op, .int .i64 kind, .int .i64 area, .int .i64 at_, .int .i64 n]] w (RetV base rb p (((S.put area (at_ + 4) 1 S.n).put area at_ 7 (S.get area at_ 7 + 1)).says (decide (n ≤ S.get area at_ 7 + 1))) w) := by
  have hB := h.base
  have H := hid (h.below (bel_a1 w (.cells #[.int .i64 op, .int .i64 kind, .int .i64 area, .int .i64 at_, .int .i64 n] 48)))
  have B0 := hid (Blk.new w #[.int .i64 op, .int .i64 kind, .int .i64 area, .int .i64 at_, .int .i64 n] 48)
  have HK := hid (Kp.of (bel_a1 w (.cells #[.int .i64 op, .int .i64 kind, .int .i64 area, .int .i64 at_, .int .i64 n] 48)) hB)
  have HA := hid (And.intro ha1 ha4)
  have H3 := hid (And.intro h2 h3)
  have HR := hid hr
  have hl := h.lt
  clear h ha1 ha4 h2 h3 hr
  have hw4 : IntKind.i64.wrap (at_ + 4) = at_ + 4 := by have := H3.out.1; have := H3.out.2; rw [IntKind.wrap_i64]; omega
  have hg7 := get7_range S area at_
  have hw1 : IntKind.i64.wrap (S.get area at_ 7 + 1) = S.get area at_ 7 + 1 := by rw [IntKind.wrap_i64]; omega
  go_enter Try.func59, Try.ntmps59
  go_wp2_with fail
  refine (get_calls base rb p S area at_ 7 _ H.out HA.out.1 HA.out.2 (by decide) H3.out.1 (by have := H3.out.2; show at_ + 4 ≤ 64; omega)).mono ?_
  rintro e w1 ⟨rfl, hb⟩
  have H1 := hid (H.out.below hb)
  have HK1 := hid (HK.out.bel hb hB)
  have B1 := hid (B0.out.below hb)
  clear hb B0 HK H
  have x2 := B1.out.cell 2 _ rfl
  have x3 := B1.out.cell 3 _ rfl
  obtain ⟨D, hD⟩ : ∃ D, w.heap.size = D := ⟨_, rfl⟩
  rw [hD] at x2 x3 B1 ⊢
  clear hD
  go_wp2_with fail
  refine (rises_calls base rb p S area (at_ + 4) _ H1.out HA.out.1 HA.out.2 (by have := H3.out.1; omega) (by have := H3.out.2; omega)).mono ?_
  rintro e w2 ⟨rfl, hv, hk⟩
  rw [HR.out]
  have H2 := hid hv
  have HK2 := hid (HK1.out.trans hk)
  have B2 := hid (hk.2 _ _ _ B1.out (by decide) (by decide))
  clear hv hk H1 HK1 B1 x2 x3
  have x2 := B2.out.cell 2 _ rfl
  have x3 := B2.out.cell 3 _ rfl
  have x4 := B2.out.cell 4 _ rfl
  generalize S.put area (at_ + 4) 1 S.n = S1 at *
  go_wp2_with fail
  refine (put_calls base rb p S1 area at_ 7 (S.get area at_ 7 + 1) _ H2.out HA.out.1 HA.out.2 (by decide) H3.out.1 (by have := H3.out.2; show at_ + 4 ≤ 64; omega)).mono ?_
  rintro e w3 ⟨rfl, hv, hk⟩
  have HK3 := hid (HK2.out.trans hk)
  have H4 := hid hv
  have B3 := hid (hk.2 _ _ _ B2.out (by decide) (by decide))
  clear hv hk HK2 B2 H2 x2 x3 x4
  have x4 := B3.out.cell 4 _ rfl
  have H2 := H4
  have HK2 := HK3
  go_wp2_with fail
  refine (truth_calls _ _).mono ?_
  rintro e w5 ⟨rfl, hb⟩
  have H6 := hid (H2.out.below hb)
  have HK5 := hid (HK2.out.bel hb hB)
  clear hb x4
  obtain ⟨_, hl5, v5, c5, c6, c7, c8, c9, c12, hop, hfr⟩ := H6.out.open
  have f5 := hfr 5
  have f6 := hfr 6
  clear c7 c8 c9 c12 hop hfr
  go_wp2_with fail
  go_end0
  exact ⟨rfl, H6.out.res _ _, HK5.out.trans ((H6.out.kp 5 _).trans ((H6.out.res1 _).kp 6 _))⟩

set_option maxHeartbeats 2000000 in
theorem counter_no (base rb : Nat) (p : Int) (S : VS) (op kind area at_ n : Int) (w : World) (h : VmAt w base rb p S) (hr : S.rise area (at_ + 4) = false) (ha1 : 1 ≤ area) (ha4 : area ≤ 4) (h2 : 0 ≤ at_) (h3 : at_ ≤ 59) :
    Calls Try.prog 59 #[.pointer (some ⟨rb, 0, none⟩), .agg #[.int .i64 op, .int .i64 kind, .int .i64 area, .int .i64 at_, .int .i64 n]] w (RetV base rb p ((S.put area (at_ + 4) 1 S.n).says (decide (n ≤ S.get area at_ 7))) w) := by
  have hB := h.base
  have H := hid (h.below (bel_a1 w (.cells #[.int .i64 op, .int .i64 kind, .int .i64 area, .int .i64 at_, .int .i64 n] 48)))
  have B0 := hid (Blk.new w #[.int .i64 op, .int .i64 kind, .int .i64 area, .int .i64 at_, .int .i64 n] 48)
  have HK := hid (Kp.of (bel_a1 w (.cells #[.int .i64 op, .int .i64 kind, .int .i64 area, .int .i64 at_, .int .i64 n] 48)) hB)
  have HA := hid (And.intro ha1 ha4)
  have H3 := hid (And.intro h2 h3)
  have HR := hid hr
  have hl := h.lt
  clear h ha1 ha4 h2 h3 hr
  have hw4 : IntKind.i64.wrap (at_ + 4) = at_ + 4 := by have := H3.out.1; have := H3.out.2; rw [IntKind.wrap_i64]; omega
  have hg7 := get7_range S area at_
  have hw1 : IntKind.i64.wrap (S.get area at_ 7 + 1) = S.get area at_ 7 + 1 := by rw [IntKind.wrap_i64]; omega
  go_enter Try.func59, Try.ntmps59
  go_wp2_with fail
  refine (get_calls base rb p S area at_ 7 _ H.out HA.out.1 HA.out.2 (by decide) H3.out.1 (by have := H3.out.2; show at_ + 4 ≤ 64; omega)).mono ?_
  rintro e w1 ⟨rfl, hb⟩
  have H1 := hid (H.out.below hb)
  have HK1 := hid (HK.out.bel hb hB)
  have B1 := hid (B0.out.below hb)
  clear hb B0 HK H
  have x2 := B1.out.cell 2 _ rfl
  have x3 := B1.out.cell 3 _ rfl
  obtain ⟨D, hD⟩ : ∃ D, w.heap.size = D := ⟨_, rfl⟩
  rw [hD] at x2 x3 B1 ⊢
  clear hD
  go_wp2_with fail
  refine (rises_calls base rb p S area (at_ + 4) _ H1.out HA.out.1 HA.out.2 (by have := H3.out.1; omega) (by have := H3.out.2; omega)).mono ?_
  rintro e w2 ⟨rfl, hv, hk⟩
  rw [HR.out]
  have H2 := hid hv
  have HK2 := hid (HK1.out.trans hk)
  have B2 := hid (hk.2 _ _ _ B1.out (by decide) (by decide))
  clear hv hk H1 HK1 B1 x2 x3
  have x2 := B2.out.cell 2 _ rfl
  have x3 := B2.out.cell 3 _ rfl
  have x4 := B2.out.cell 4 _ rfl
  generalize S.put area (at_ + 4) 1 S.n = S1 at *
  go_wp2_with fail
  refine (truth_calls _ _).mono ?_
  rintro e w5 ⟨rfl, hb⟩
  have H6 := hid (H2.out.below hb)
  have HK5 := hid (HK2.out.bel hb hB)
  clear hb x4
  obtain ⟨_, hl5, v5, c5, c6, c7, c8, c9, c12, hop, hfr⟩ := H6.out.open
  have f5 := hfr 5
  have f6 := hfr 6
  clear c7 c8 c9 c12 hop hfr
  go_wp2_with fail
  go_end0
  exact ⟨rfl, H6.out.res _ _, HK5.out.trans ((H6.out.kp 5 _).trans ((H6.out.res1 _).kp 6 _))⟩

theorem counter_calls (base rb : Nat) (p : Int) (S : VS) (i : Ins) (w : World) (h : VmAt w base rb p S) (ha1 : 1 ≤ i.area) (ha4 : i.area ≤ 4) (h2 : 0 ≤ i.at_) (h3 : i.at_ ≤ 59) :
    Calls Try.prog 59 #[.pointer (some ⟨rb, 0, none⟩), .agg #[.int .i64 i.op, .int .i64 i.kind, .int .i64 i.area, .int .i64 i.at_, .int .i64 i.n]] w (RetV base rb p (S.counter i) w) := by
  obtain ⟨op, kind, area, at_, n⟩ := i
  dsimp only at ha1 ha4 h2 h3
  cases hr : S.rise area (at_ + 4) with
  | true =>
    have e : S.counter ⟨op, kind, area, at_, n⟩ = ((S.put area (at_ + 4) 1 S.n).put area at_ 7 (min (S.get area at_ 7 + 1) n)).says (decide (n ≤ min (S.get area at_ 7 + 1) n)) := by
      unfold VS.counter
      dsimp only
      rw [hr]
      rfl
    rw [e]
    by_cases hlt : n < S.get area at_ 7 + 1
    · rw [show min (S.get area at_ 7 + 1) n = n by omega, show decide (n ≤ n) = true from by simp]
      exact counter_yes1 base rb p S op kind area at_ n w h hr ha1 ha4 h2 h3 hlt
    · rw [show min (S.get area at_ 7 + 1) n = S.get area at_ 7 + 1 by omega]
      exact counter_yes2 base rb p S op kind area at_ n w h hr ha1 ha4 h2 h3 hlt
  | false =>
    have e : S.counter ⟨op, kind, area, at_, n⟩ = (S.put area (at_ + 4) 1 S.n).says (decide (n ≤ S.get area at_ 7)) := by
      unfold VS.counter
      dsimp only
      rw [hr]
      rfl
    rw [e]
    exact counter_no base rb p S op kind area at_ n w h hr ha1 ha4 h2 h3

theorem leaves_1 (base rb : Nat) (p : Int) (S : VS) (op : Int) (w : World) (h : VmAt w base rb p S) (ho : op = 25 ∨ op = 28) :
    Calls Try.prog 32 #[.pointer (some ⟨rb, 0, none⟩), .int .i64 op] w (RetB true w) := by
  clear h
  obtain rfl | rfl := ho
  all_goals
    go_enter Try.func32, Try.ntmps32
    go_wp2_with fail
    go_ret
    exact ⟨rfl, Below.refl _ _⟩
theorem leaves_2 (base rb : Nat) (p : Int) (S : VS) (op : Int) (w : World) (h : VmAt w base rb p S) (ho : op = 26 ∨ op = 29) :
    Calls Try.prog 32 #[.pointer (some ⟨rb, 0, none⟩), .int .i64 op] w (RetB (S.n == 1) w) := by
  obtain ⟨_, hl, v, c5, c6, c7, c8, c9, c12, hop, hfr⟩ := h.open
  clear h c7 c8 c9 c12 hop hfr
  obtain rfl | rfl := ho
  all_goals
    go_enter Try.func32, Try.ntmps32
    go_wp2_with fail
    refine (is_calls _ _ _).mono ?_
    rintro e w1 ⟨rfl, hb⟩
    have HB := hid hb
    clear hb c5 c6
    go_wp2_with fail
    go_ret
    exact ⟨rfl, HB.out⟩
theorem leaves_3 (base rb : Nat) (p : Int) (S : VS) (op : Int) (w : World) (h : VmAt w base rb p S) (h5 : (op == 25) = false) (h8 : (op == 28) = false) (h6 : (op == 26) = false) (h9 : (op == 29) = false) :
    Calls Try.prog 32 #[.pointer (some ⟨rb, 0, none⟩), .int .i64 op] w (RetB (!(S.n == 1)) w) := by
  obtain ⟨_, hl, v, c5, c6, c7, c8, c9, c12, hop, hfr⟩ := h.open
  clear h c7 c8 c9 c12 hop hfr
  go_enter Try.func32, Try.ntmps32
  go_wp2_with fail
  refine (is_calls _ _ _).mono ?_
  rintro e w1 ⟨rfl, hb⟩
  have HB := hid hb
  clear hb c5 c6
  go_wp2_with fail
  go_ret
  exact ⟨rfl, HB.out⟩
theorem leaves_calls (base rb : Nat) (p : Int) (S : VS) (op : Int) (w : World) (h : VmAt w base rb p S) :
    Calls Try.prog 32 #[.pointer (some ⟨rb, 0, none⟩), .int .i64 op] w (RetB (S.leaves op) w) := by
  unfold VS.leaves VS.is
  by_cases h1 : op = 25 ∨ op = 28
  · rw [if_pos h1]; exact leaves_1 base rb p S op w h h1
  · rw [if_neg h1]
    by_cases h2 : op = 26 ∨ op = 29
    · rw [if_pos h2]; exact leaves_2 base rb p S op w h h2
    · rw [if_neg h2]
      exact leaves_3 base rb p S op w h (by simp; omega) (by simp; omega) (by simp; omega) (by simp; omega)
end Go.Proofs.Ytjnohalffffiaaa
