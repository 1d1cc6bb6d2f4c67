/- timing: IndexFunc with Way's closure. -/
import Derived.Test.YtejdkaniepgbdaaTq
set_option linter.unusedVariables false
set_option linter.unusedSimpArgs false
namespace Go.Proofs.Ytejdkaniepgbdaa
open Go.RowKit

def RetQ (b : Bool) (w : World) (e : Ending) (w' : World) : Prop := e = .returned (.bool b) ∧ ∃ m, w' = w.drewN m
set_option maxHeartbeats 1000000 in
theorem Way1_calls (tq aq T N tg at_ : Nat) (x y : Int) (w : World) (h1 : w.cell? ⟨tq, 0, none⟩ = some (.slice (some ⟨T, 0, none⟩) N N)) (h2 : w.cell? ⟨aq, 0, none⟩ = some (.int .i64 at_))
    (h3 : w.cell? ⟨T, tg, none⟩ = some (.int .i64 x)) (h4 : w.cell? ⟨T, at_, none⟩ = some (.int .i64 y)) (ht : tg < N) (ha : at_ < N) (hN : N ≤ 1000) (hy : 0 ≤ y ∧ y ≤ 1000000) :
    Calls Try.prog 20 #[.int .i64 tg, .pointer (some ⟨tq, 0, none⟩), .pointer (some ⟨aq, 0, none⟩)] w (RetQ (x == y - 1) w) := by
  have i1 : (0 : Int) ≤ (tg : Int) := Int.natCast_nonneg _
  have i2 : (tg : Int) < (N : Int) := by omega
  have i3 : (0 : Int) ≤ (at_ : Int) := Int.natCast_nonneg _
  have i4 : (at_ : Int) < (N : Int) := by omega
  have hms : IntKind.i64.wrap (y - 1) = y - 1 := by rw [IntKind.wrap_i64]; omega
  go_enter Try.func20, Try.ntmps20
  go_wp2_with fail
  go_region_held3 (fun w' => w'.cell? ⟨tq, 0, none⟩ = some (.slice (some ⟨T, 0, none⟩) N N) ∧ w'.cell? ⟨aq, 0, none⟩ = some (.int .i64 at_) ∧ w'.cell? ⟨T, tg, none⟩ = some (.int .i64 x) ∧ w'.cell? ⟨T, at_, none⟩ = some (.int .i64 y)) (go_keep) (fail)
  go_wp2_with fail
  go_ret
  exact ⟨rfl, 1, rfl⟩

set_option maxHeartbeats 1000000 in
theorem IndexFunc_calls (b c tq aq : Nat) (L : List Int) (P : Int → Bool) (i0 : Nat) (w : World) (hr : RdI w (some ⟨b, 0, none⟩) L) (h0 : i0 < L.length) (hl : L.length ≤ 1000) (hP : P (L.getD i0 0) = true) (hN : ∀ q, q < i0 → P (L.getD q 0) = false)
    (PC : ∀ d q, q ≤ i0 → Calls Try.prog 20 #[.int .i64 (L.getD q 0), .pointer (some ⟨tq, 0, none⟩), .pointer (some ⟨aq, 0, none⟩)] (w.drewN d) (RetQ (P (L.getD q 0)) (w.drewN d))) :
    Calls Try.prog 19 #[.slice (some ⟨b, 0, none⟩) L.length c, .func (.func 20) #[] #[.pointer (some ⟨tq, 0, none⟩), .pointer (some ⟨aq, 0, none⟩)]] w fun e w' => e = .returned (.int .i64 i0) ∧ ∃ m, w' = w.drewN m := by
  have HR := hid hr
  have HPC := hid PC
  have HP := hid hP
  have HNN := hid hN
  clear hr PC hP hN
  obtain ⟨n, hn⟩ : ∃ n, L.length = n := ⟨_, rfl⟩
  have HLN := hid hn
  rw [hn] at h0 hl ⊢
  clear hn
  go_enter Try.func19, Try.ntmps19
  go_wp2_with fail
  go_loopw [8] (fun v wr => ∃ j : Nat, j ≤ i0 ∧ v = .int .i64 j ∧ ∃ d, wr = w.drewN d) (fun v _ => n - (intOf v).toNat)
  case atStart => exact ⟨0, Nat.zero_le _, rfl, 0, rfl⟩
  case round =>
    obtain ⟨j, hj, rfl, d, rfl⟩ := hrel
    obtain ⟨b', off, hae, hc⟩ := HR.out.cell j (by rw [HLN.out]; omega)
    injection hae with hae
    injection hae with hae1 hae2
    subst hae1 hae2
    rw [Nat.zero_add] at hc
    have hcd : (w.drewN d).cell? ⟨b, j, none⟩ = some (.int .i64 (L.getD j 0)) := hc
    have P1 := hid (HPC.out d j hj)
    have i1 : (0 : Int) ≤ (j : Int) := Int.natCast_nonneg _
    have hd : decide ((j : Int) < (n : Int)) = true := by simp; omega
    by_cases e : j = i0
    · subst e
      have hPv := HP.out
      generalize L.getD j 0 = x at *
      rw [hPv] at P1
      clear hPv HP
      go_wp2_with fail
      refine P1.out.mono ?_
      rintro en w2 ⟨rfl, m, rfl⟩
      go_wp2_with fail
      go_ret
      exact ⟨rfl, d + m, by simp [World.drewN_drewN]⟩
    · have hPv := HNN.out j (by omega)
      generalize L.getD j 0 = x at *
      rw [hPv] at P1
      clear hPv
      go_wp2_with fail
      refine P1.out.mono ?_
      rintro en w2 ⟨rfl, m, rfl⟩
      go_wp2_with fail
      go_roundw
      case rel => exact ⟨j + 1, by omega, by go_num, d + m, by simp [World.drewN_drewN]⟩
      case measure => first | (simp [intOf]; done) | (simp [intOf]; omega)
end Go.Proofs.Ytejdkaniepgbdaa
