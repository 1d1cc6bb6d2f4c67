/- vm: operand, do, rises, timer, counter, leaves. -/
import Derived.Test.YtjnohalffffiaaaNe
set_option linter.unusedVariables false
set_option linter.unusedSimpArgs false
namespace Go.Proofs.Ytjnohalffffiaaa
open Go.RowKit

def insV (i : Ins) : Value := .agg #[.int .i64 i.op, .int .i64 i.kind, .int .i64 i.area, .int .i64 i.at_, .int .i64 i.n]

/-- What a run's block holds, as it stands: facts for the walk. -/
theorem VmAt.open {w : World} {base rb : Nat} {p : Int} {S : VS} (h : VmAt w base rb p S) :
    base ≤ rb ∧ rb < w.heap.size ∧ ∃ v, w.cell? ⟨rb, 5, none⟩ = some (.int .i64 S.kind) ∧ w.cell? ⟨rb, 6, none⟩ = some (.int .i64 S.n) ∧ w.cell? ⟨rb, 7, none⟩ = some v ∧
      w.cell? ⟨rb, 8, none⟩ = some (.int .i64 S.steps) ∧ w.cell? ⟨rb, 9, none⟩ = some (.int .i64 S.zero) ∧ w.cell? ⟨rb, 12, none⟩ = some (.int .i64 p) ∧ BrV w base v S.op ∧ ∀ o, w.frozen? ⟨rb, o, none⟩ = false := by
  obtain ⟨h0, q, c, v, h1, h2, h3⟩ := h
  exact ⟨h0, h1.lt, v, h1.cell 5 _ rfl, h1.cell 6 _ rfl, h1.cell 7 _ rfl, h1.cell 8 _ rfl, h1.cell 9 _ rfl, h1.cell 12 _ rfl, h3, fun o => h1.free o⟩
/-- Another result. -/
theorem VmAt.res {w : World} {base rb : Nat} {p : Int} {S : VS} (h : VmAt w base rb p S) (k n : Int) :
    VmAt ((w.setCell ⟨rb, 5, none⟩ (.int .i64 k)).setCell ⟨rb, 6, none⟩ (.int .i64 n)) base rb p { S with kind := k, n := n } := by
  obtain ⟨h0, q, c, v, h1, h2, h3⟩ := h
  refine ⟨h0, q, c, v, (h1.set 5 (.int .i64 k)).set 6 (.int .i64 n), (h2.set h1 _ _).set (h1.set 5 _) _ _, (h3.set h1 (by decide) _ _).set (h1.set 5 _) (by decide) _ _⟩
theorem VmAt.res1 {w : World} {base rb : Nat} {p : Int} {S : VS} (h : VmAt w base rb p S) (k : Int) : VmAt (w.setCell ⟨rb, 5, none⟩ (.int .i64 k)) base rb p { S with kind := k } := by
  obtain ⟨h0, q, c, v, h1, h2, h3⟩ := h
  exact ⟨h0, q, c, v, h1.set 5 (.int .i64 k), h2.set h1 _ _, h3.set h1 (by decide) _ _⟩
theorem VmAt.res2 {w : World} {base rb : Nat} {p : Int} {S : VS} (h : VmAt w base rb p S) (n : Int) : VmAt (w.setCell ⟨rb, 6, none⟩ (.int .i64 n)) base rb p { S with n := n } := by
  obtain ⟨h0, q, c, v, h1, h2, h3⟩ := h
  exact ⟨h0, q, c, v, h1.set 6 (.int .i64 n), h2.set h1 _ _, h3.set h1 (by decide) _ _⟩
theorem VmAt.stp {w : World} {base rb : Nat} {p : Int} {S : VS} (h : VmAt w base rb p S) (n : Int) : VmAt (w.setCell ⟨rb, 8, none⟩ (.int .i64 n)) base rb p { S with steps := n } := by
  obtain ⟨h0, q, c, v, h1, h2, h3⟩ := h
  exact ⟨h0, q, c, v, h1.set 8 (.int .i64 n), h2.set h1 _ _, h3.set h1 (by decide) _ _⟩
theorem VmAt.zer {w : World} {base rb : Nat} {p : Int} {S : VS} (h : VmAt w base rb p S) (n : Int) : VmAt (w.setCell ⟨rb, 9, none⟩ (.int .i64 n)) base rb p { S with zero := n } := by
  obtain ⟨h0, q, c, v, h1, h2, h3⟩ := h
  exact ⟨h0, q, c, v, h1.set 9 (.int .i64 n), h2.set h1 _ _, h3.set h1 (by decide) _ _⟩

theorem operand_0 (base rb : Nat) (p : Int) (S : VS) (op kind at_ n : Int) (w : World) :
    Calls Try.prog 53 #[.pointer (some ⟨rb, 0, none⟩), .agg #[.int .i64 op, .int .i64 kind, .int .i64 0, .int .i64 at_, .int .i64 n]] w (RetI n w) := by
  go_enter Try.func53, Try.ntmps53
  go_wp2_with fail
  go_ret
  exact ⟨rfl, bel_a1 _ _⟩
theorem operand_a (base rb : Nat) (p : Int) (S : VS) (op kind area at_ n : Int) (w : World) (h : VmAt w base rb p S) (ha1 : 1 ≤ area) (ha4 : area ≤ 4) (h1 : 0 < ksize kind) (h2 : 0 ≤ at_) (h3 : at_ + ksize kind ≤ 64) :
    Calls Try.prog 53 #[.pointer (some ⟨rb, 0, none⟩), .agg #[.int .i64 op, .int .i64 kind, .int .i64 area, .int .i64 at_, .int .i64 n]] w (RetI (S.get area at_ kind) w) := by
  have e0 : (area == 0) = false := by simp; omega
  have H := hid h
  have HA := hid (And.intro ha1 ha4)
  have H3 := hid (And.intro h1 (And.intro h2 h3))
  clear h ha1 ha4 h1 h2 h3
  go_enter Try.func53, Try.ntmps53
  go_wp2_with fail
  refine (get_calls base rb p S area at_ kind _ (H.out.below (bel_a1 w _)) HA.out.1 HA.out.2 H3.out.1 H3.out.2.1 H3.out.2.2).mono ?_
  rintro e w1 ⟨rfl, hb⟩
  have HB := hid (below_trans (bel_a1 w _) hb)
  clear hb
  go_wp2_with fail
  go_ret
  exact ⟨rfl, HB.out⟩
/-- Does an operand's place stand, if it has one? -/
def opdOk (i : Ins) : Prop := i.area = 0 ∨ (1 ≤ i.area ∧ i.area ≤ 4 ∧ 0 < ksize i.kind ∧ 0 ≤ i.at_ ∧ i.at_ + ksize i.kind ≤ 64)
theorem operand_calls (base rb : Nat) (p : Int) (S : VS) (i : Ins) (w : World) (h : VmAt w base rb p S) (hi : opdOk i) :
    Calls Try.prog 53 #[.pointer (some ⟨rb, 0, none⟩), .agg #[.int .i64 i.op, .int .i64 i.kind, .int .i64 i.area, .int .i64 i.at_, .int .i64 i.n]] w (RetI (S.opd i) w) := by
  obtain ⟨op, kind, area, at_, n⟩ := i
  rcases hi with e | ⟨h1, h2, h3, h4, h5⟩
  · dsimp only at e
    subst e
    rw [show S.opd ⟨op, kind, 0, at_, n⟩ = n from rfl]
    exact operand_0 base rb p S op kind at_ n w
  · dsimp only at h1 h2 h3 h4 h5
    rw [show S.opd ⟨op, kind, area, at_, n⟩ = S.get area at_ kind from by unfold VS.opd; dsimp only; rw [if_neg (by omega)]]
    exact operand_a base rb p S op kind area at_ n w h h1 h2 h3 h4 h5

theorem VmAt.base {w : World} {base rb : Nat} {p : Int} {S : VS} (h : VmAt w base rb p S) : base ≤ w.heap.size := Nat.le_of_lt (Nat.lt_of_le_of_lt h.1 h.lt)
theorem VmAt.blk {w : World} {base rb : Nat} {p : Int} {S : VS} (h : VmAt w base rb p S) : ∃ cs, Blk w rb cs 68 := by
  obtain ⟨h0, q, c, v, h1, h2, h3⟩ := h
  exact ⟨_, h1⟩
theorem VmAt.kp {w : World} {base rb : Nat} {p : Int} {S : VS} (h : VmAt w base rb p S) (o : Nat) (x : Value) : Kp base w (w.setCell ⟨rb, o, none⟩ x) := by
  obtain ⟨cs, hb⟩ := h.blk
  exact Kp.run hb h.1 x

set_option maxHeartbeats 1000000 in
theorem rises_calls (base rb : Nat) (p : Int) (S : VS) (area at_ : Int) (w : World) (h : VmAt w base rb p S) (ha1 : 1 ≤ area) (ha4 : area ≤ 4) (h2 : 0 ≤ at_) (h3 : at_ ≤ 63) :
    Calls Try.prog 61 #[.pointer (some ⟨rb, 0, none⟩), .int .i64 area, .int .i64 at_] w fun e w' => e = .returned (.bool (S.rise area at_)) ∧ VmAt w' base rb p (S.put area at_ 1 S.n) ∧ Kp base w w' := by
  obtain ⟨hz, hl, v, c5, c6, c7, c8, c9, c12, hop, hfr⟩ := h.open
  have H := hid h
  have HA := hid (And.intro ha1 ha4)
  have H3 := hid (And.intro h2 h3)
  have HZ := hid hz
  clear h ha1 ha4 h2 h3 c5 c6 c7 c8 c9 c12 hop hfr hz
  have k1 : 0 < ksize 1 := by decide
  go_enter Try.func61, Try.ntmps61
  go_wp2_with fail
  refine (get_calls base rb p S area at_ 1 _ H.out HA.out.1 HA.out.2 (by decide) H3.out.1 (by have := H3.out.2; show at_ + 1 ≤ 64; omega)).mono ?_
  rintro e w1 ⟨rfl, hb⟩
  have HB := hid hb
  have H1 := hid (H.out.below hb)
  obtain ⟨_, hl1, v1, c5, c6, c7, c8, c9, c12, hop, hfr⟩ := H1.out.open
  clear hb c7 c8 c9 c12 hop hfr
  go_wp2_with fail
  refine (put_calls base rb p S area at_ 1 S.n _ H1.out HA.out.1 HA.out.2 (by decide) H3.out.1 (by have := H3.out.2; show at_ + 1 ≤ 64; omega)).mono ?_
  rintro e w2 ⟨rfl, hv, hb⟩
  have H2 := hid hv
  have HB2 := hid ((Kp.of HB.out H.out.base).trans hb)
  clear hv hb c5 c6
  obtain ⟨_, hl2, v2, c5, c6, c7, c8, c9, c12, hop, hfr⟩ := H2.out.open
  clear c7 c8 c9 c12 hop hfr
  have e5 : (S.put area at_ 1 S.n).kind = S.kind := rfl
  have e6 : (S.put area at_ 1 S.n).n = S.n := rfl
  rw [e5] at c5
  rw [e6] at c6
  clear e5 e6
  go_wp2_with fail
  refine (is_calls _ _ _).mono ?_
  rintro e w3 ⟨rfl, hb⟩
  have HB3 := hid (HB2.out.bel hb H.out.base)
  have HX := hid (H2.out.below hb)
  clear hb c5 c6
  generalize hgg : S.get area at_ 1 = g at *
  have HGG := hid hgg
  clear hgg
  go_wp2_with fail
  all_goals
    go_ret
    refine ⟨ret_bool (by unfold VS.rise VS.is; rw [HGG.out]; simp_all), HX.out, HB3.out⟩
end Go.Proofs.Ytjnohalffffiaaa
