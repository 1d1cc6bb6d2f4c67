/- vm: timer, counter, leaves. -/
import Derived.Test.YtjnohalffffiaaaNh
import Derived.Test.YtjnohalffffiaaaTk
set_option linter.unusedVariables false
set_option linter.unusedSimpArgs false
namespace Go.Proofs.Ytjnohalffffiaaa
open Go.RowKit

theorem get7_range (S : VS) (a at_ : Int) : 0 ≤ S.get a at_ 7 ∧ S.get a at_ 7 ≤ 4294967295 := by
  unfold VS.get getk
  generalize getB _ _ _ = v
  rw [show wrapk 7 v = IntKind.u32.wrap v from rfl, u32_w]
  omega

set_option maxHeartbeats 2000000 in
theorem timer_yes (base rb : Nat) (p : Int) (S : VS) (op kind area at_ n m : Int) (w : World) (h : VmAt w base rb p S) (hn : (S.n == 1) = true) (ha1 : 1 ≤ area) (ha4 : area ≤ 4) (h2 : 0 ≤ at_) (h3 : at_ ≤ 59) (hp0 : 0 ≤ p) (hp1 : p ≤ 10000)
    (hm : (if n < S.get area at_ 7 + p then n else S.get area at_ 7 + p) = m) :
    Calls Try.prog 58 #[.pointer (some ⟨rb, 0, none⟩), .agg #[.int .i64 op, .int .i64 kind, .int .i64 area, .int .i64 at_, .int .i64 n]] w (RetV base rb p ((S.put area at_ 7 m).says (m == n)) w) := by
  have hB := h.base
  have H := hid (h.below (bel_a1 w (.cells #[.int .i64 op, .int .i64 kind, .int .i64 area, .int .i64 at_, .int .i64 n] 48)))
  have B0 := hid (Blk.new w #[.int .i64 op, .int .i64 kind, .int .i64 area, .int .i64 at_, .int .i64 n] 48)
  have HK := hid (Kp.of (bel_a1 w (.cells #[.int .i64 op, .int .i64 kind, .int .i64 area, .int .i64 at_, .int .i64 n] 48)) hB)
  obtain ⟨_, hl, v, c5, c6, c7, c8, c9, c12, hop, hfr⟩ := H.out.open
  have HA := hid (And.intro ha1 ha4)
  have H3 := hid (And.intro h2 h3)
  have HN := hid hn
  clear h hop hfr c7 c8 c9 c12 ha1 ha4 h2 h3 hn
  have hg7 := get7_range S area at_
  have hw : IntKind.i64.wrap (S.get area at_ 7 + p) = S.get area at_ 7 + p := by rw [IntKind.wrap_i64]; omega
  have HM := hid hm
  clear hm
  go_enter Try.func58, Try.ntmps58
  go_wp2_with fail
  refine (is_calls _ _ _).mono ?_
  rintro e w1 ⟨rfl, hb⟩
  rw [HN.out]
  have H1 := hid (H.out.below hb)
  have HK1 := hid (HK.out.bel hb hB)
  have B1 := hid (B0.out.below hb)
  clear hb c5 c6 B0 HK H
  obtain ⟨_, hl1, v1, c5, c6, c7, c8, c9, c12, hop, hfr⟩ := H1.out.open
  have x2 := B1.out.cell 2 _ rfl
  have x3 := B1.out.cell 3 _ rfl
  have x4 := B1.out.cell 4 _ rfl
  obtain ⟨D, hD⟩ : ∃ D, w.heap.size = D := ⟨_, rfl⟩
  rw [hD] at x2 x3 x4 B1 ⊢
  clear hD
  clear c5 c6 c7 c8 c9 hop hfr
  go_wp2_with fail
  go_region_held3 (fun w' => w'.cell? ⟨D, 2, none⟩ = some (.int .i64 area) ∧ w'.cell? ⟨D, 3, none⟩ = some (.int .i64 at_) ∧ w'.cell? ⟨D, 4, none⟩ = some (.int .i64 n) ∧ w'.cell? ⟨rb, 12, none⟩ = some (.int .i64 p) ∧ Below w1.heap.size w1 w')
    (first | (exact ⟨x2, x3, x4, c12, (Below.refl _ _).drew⟩) | (exact keep5 (by assumption) (by assumption)) | assumption | go_keep)
    ((go_at_call 88; (refine (get_calls base rb p S area at_ 7 _ (by exact H1.out.below (‹_ ∧ _ ∧ _ ∧ _ ∧ Below w1.heap.size w1 _›).2.2.2.2) HA.out.1 HA.out.2 (by decide) H3.out.1 (by have := H3.out.2; show at_ + 4 ≤ 64; omega)).mono ?_); rintro e w2 ⟨rfl, hb2⟩))
  rw [HM.out]
  have hx := (‹_ ∧ _ ∧ _ ∧ _ ∧ Below w1.heap.size w1 _›).2.2.2.2
  have y2 := (‹_ ∧ _ ∧ _ ∧ _ ∧ Below w1.heap.size w1 _›).1
  have y3 := (‹_ ∧ _ ∧ _ ∧ _ ∧ Below w1.heap.size w1 _›).2.1
  have H2 := hid (H1.out.below hx)
  have HK2 := hid (HK1.out.bel hx hB)
  have B2 := hid (B1.out.below hx)
  clear hx hb2 x2 x3 x4 c12 HK1 B1
  go_wp2_with fail
  refine (put_calls base rb p S area at_ 7 m _ H2.out HA.out.1 HA.out.2 (by decide) H3.out.1 (by have := H3.out.2; show at_ + 4 ≤ 64; omega)).mono ?_
  rintro e w3 ⟨rfl, hv, hk⟩
  have HK3 := hid (HK2.out.trans hk)
  have H4 := hid hv
  have b3 := hk.2 _ _ _ B2.out (by decide) (by decide)
  have B3 := hid b3
  clear hv hk HK2 B2 H2
  obtain ⟨_, hl3, v3, c5, c6, c7, c8, c9, c12, hop, hfr⟩ := H4.out.open
  rw [show (S.put area at_ 7 m).kind = S.kind from rfl] at c5
  rw [show (S.put area at_ 7 m).n = S.n from rfl] at c6
  have x4 := b3.cell 4 _ rfl
  clear c7 c8 c9 c12 hop hfr b3
  go_wp2_with fail
  refine (is_calls _ _ _).mono ?_
  rintro e w4 ⟨rfl, hb⟩
  rw [HN.out]
  have H5 := hid (H4.out.below hb)
  have HK4 := hid (HK3.out.bel hb hB)
  have x4' := (B3.out.below hb).cell 4 _ rfl
  clear hb c5 c6 HK3 x4 B3
  go_wp2_with fail
  refine (truth_calls _ _).mono ?_
  rintro e w5 ⟨rfl, hb⟩
  have H6 := hid (H5.out.below hb)
  have HK5 := hid (HK4.out.bel hb hB)
  clear hb x4'
  obtain ⟨_, hl5, v5, c5, c6, c7, c8, c9, c12, hop, hfr⟩ := H6.out.open
  have f5 := hfr 5
  have f6 := hfr 6
  clear c7 c8 c9 c12 hop hfr
  go_wp2_with fail
  go_end0
  exact ⟨rfl, H6.out.res _ _, HK5.out.trans ((H6.out.kp 5 _).trans ((H6.out.res1 _).kp 6 _))⟩

set_option maxHeartbeats 2000000 in
theorem timer_no (base rb : Nat) (p : Int) (S : VS) (op kind area at_ n m : Int) (w : World) (h : VmAt w base rb p S) (hn : (S.n == 1) = false) (ha1 : 1 ≤ area) (ha4 : area ≤ 4) (h2 : 0 ≤ at_) (h3 : at_ ≤ 59) (hm : m = 0) :
    Calls Try.prog 58 #[.pointer (some ⟨rb, 0, none⟩), .agg #[.int .i64 op, .int .i64 kind, .int .i64 area, .int .i64 at_, .int .i64 n]] w (RetV base rb p ((S.put area at_ 7 m).says false) w) := by
  subst hm
  have hB := h.base
  have H := hid (h.below (bel_a1 w (.cells #[.int .i64 op, .int .i64 kind, .int .i64 area, .int .i64 at_, .int .i64 n] 48)))
  have B0 := hid (Blk.new w #[.int .i64 op, .int .i64 kind, .int .i64 area, .int .i64 at_, .int .i64 n] 48)
  have HK := hid (Kp.of (bel_a1 w (.cells #[.int .i64 op, .int .i64 kind, .int .i64 area, .int .i64 at_, .int .i64 n] 48)) hB)
  obtain ⟨_, hl, v, c5, c6, c7, c8, c9, c12, hop, hfr⟩ := H.out.open
  have HA := hid (And.intro ha1 ha4)
  have H3 := hid (And.intro h2 h3)
  have HN := hid hn
  clear h hop hfr c7 c8 c9 c12 ha1 ha4 h2 h3 hn
  go_enter Try.func58, Try.ntmps58
  go_wp2_with fail
  refine (is_calls _ _ _).mono ?_
  rintro e w1 ⟨rfl, hb⟩
  rw [HN.out]
  have H1 := hid (H.out.below hb)
  have HK1 := hid (HK.out.bel hb hB)
  have B1 := hid (B0.out.below hb)
  clear hb c5 c6 B0 HK H
  obtain ⟨_, hl1, v1, c5, c6, c7, c8, c9, c12, hop, hfr⟩ := H1.out.open
  have x2 := B1.out.cell 2 _ rfl
  have x3 := B1.out.cell 3 _ rfl
  have x4 := B1.out.cell 4 _ rfl
  obtain ⟨D, hD⟩ : ∃ D, w.heap.size = D := ⟨_, rfl⟩
  rw [hD] at x2 x3 x4 B1 ⊢
  clear hD
  clear c5 c6 c7 c8 c9 hop hfr
  have H2 := H1
  have HK2 := HK1
  have B2 := B1
  clear x4 c12 H1 HK1 B1
  go_wp2_with fail
  refine (put_calls base rb p S area at_ 7 0 _ H2.out HA.out.1 HA.out.2 (by decide) H3.out.1 (by have := H3.out.2; show at_ + 4 ≤ 64; omega)).mono ?_
  rintro e w3 ⟨rfl, hv, hk⟩
  have HK3 := hid (HK2.out.trans hk)
  have H4 := hid hv
  have b3 := hk.2 _ _ _ B2.out (by decide) (by decide)
  have B3 := hid b3
  clear hv hk HK2 B2 H2
  obtain ⟨_, hl3, v3, c5, c6, c7, c8, c9, c12, hop, hfr⟩ := H4.out.open
  rw [show (S.put area at_ 7 0).kind = S.kind from rfl] at c5
  rw [show (S.put area at_ 7 0).n = S.n from rfl] at c6
  have x4 := b3.cell 4 _ rfl
  clear c7 c8 c9 c12 hop hfr b3
  go_wp2_with fail
  refine (is_calls _ _ _).mono ?_
  rintro e w4 ⟨rfl, hb⟩
  rw [HN.out]
  have H5 := hid (H4.out.below hb)
  have HK4 := hid (HK3.out.bel hb hB)
  clear hb c5 c6 HK3 x4 B3
  go_wp2_with fail
  refine (truth_calls _ _).mono ?_
  rintro e w5 ⟨rfl, hb⟩
  have H6 := hid (H5.out.below hb)
  have HK5 := hid (HK4.out.bel hb hB)
  clear hb
  obtain ⟨_, hl5, v5, c5, c6, c7, c8, c9, c12, hop, hfr⟩ := H6.out.open
  have f5 := hfr 5
  have f6 := hfr 6
  clear c7 c8 c9 c12 hop hfr
  go_wp2_with fail
  go_end0
  exact ⟨rfl, H6.out.res _ _, HK5.out.trans ((H6.out.kp 5 _).trans ((H6.out.res1 _).kp 6 _))⟩

theorem timer_calls (base rb : Nat) (p : Int) (S : VS) (i : Ins) (w : World) (h : VmAt w base rb p S) (ha1 : 1 ≤ i.area) (ha4 : i.area ≤ 4) (h2 : 0 ≤ i.at_) (h3 : i.at_ ≤ 59) (hp0 : 0 ≤ p) (hp1 : p ≤ 10000) :
    Calls Try.prog 58 #[.pointer (some ⟨rb, 0, none⟩), .agg #[.int .i64 i.op, .int .i64 i.kind, .int .i64 i.area, .int .i64 i.at_, .int .i64 i.n]] w (RetV base rb p (S.timer p i) w) := by
  obtain ⟨op, kind, area, at_, n⟩ := i
  dsimp only at ha1 ha4 h2 h3
  cases hn : (S.n == 1) with
  | true =>
    have e : S.timer p ⟨op, kind, area, at_, n⟩ = (S.put area at_ 7 (min (S.get area at_ 7 + p) n)).says (min (S.get area at_ 7 + p) n == n) := by
      unfold VS.timer VS.is
      dsimp only
      rw [hn]
      rfl
    rw [e]
    exact timer_yes base rb p S op kind area at_ n _ w h hn ha1 ha4 h2 h3 hp0 hp1 (by split <;> omega)
  | false =>
    have e : S.timer p ⟨op, kind, area, at_, n⟩ = (S.put area at_ 7 0).says false := by
      unfold VS.timer VS.is
      dsimp only
      rw [hn]
      rfl
    rw [e]
    exact timer_no base rb p S op kind area at_ n 0 w h hn ha1 ha4 h2 h3 rfl
end Go.Proofs.Ytjnohalffffiaaa
