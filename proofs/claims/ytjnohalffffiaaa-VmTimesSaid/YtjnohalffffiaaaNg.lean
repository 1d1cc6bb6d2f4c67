/- iec.Put. -/
import Derived.Test.YtjnohalffffiaaaNc
set_option linter.unusedVariables false
set_option linter.unusedSimpArgs false
namespace Go.Proofs.Ytjnohalffffiaaa
open Go.RowKit

theorem ByB.grown {w w1 : World} {b : Nat} {s : ByteArray} {r : Option Nat} (h : ByB w b s) (hg : w.grownBy w1 r) (hne : some b ≠ r) : ByB w1 b s := by
  have hl := h.lt
  obtain ⟨cs, fr, h1, h2, h3⟩ := h
  exact ⟨cs, fr, by rw [hg.block b hl hne]; exact h1, h2, h3⟩
theorem u8_w (v : Int) : IntKind.u8.wrap v = v % 256 := by simp [IntKind.wrap, IntKind.bits, IntKind.signed]

set_option maxRecDepth 10000 in
set_option maxHeartbeats 2000000 in
theorem Put_calls (b cap : Nat) (s : ByteArray) (at_ k v : Int) (w : World) (hB : ByB w b s) (hs : s.size = 64) (h1 : 0 < ksize k) (h2 : 0 ≤ at_) (h3 : at_ + ksize k ≤ 64) :
    Calls Try.prog 89 #[.slice (some ⟨b, 0, none⟩) 64 cap, .int .i64 at_, .int .i64 k, .int .i64 v] w fun e w' => e = .returned (.bool true) ∧ ByB w' b (putk s at_ k v) ∧ w.grownBy w' (some b) := by
  obtain ⟨n, hn, hn1, hn4⟩ := ksize_cases k h1
  obtain ⟨m, rfl⟩ : ∃ m : Nat, at_ = m := ⟨at_.toNat, by omega⟩
  rw [hn] at h1 h3
  have HN := hid hn
  have HS := hid hs
  have hgk : putk s m k v = putB s m n (wrapk k v) := by unfold putk; rw [hn]; rfl
  rw [hgk]
  have HBB := hid hB
  clear hn hgk hB
  have hw0 : IntKind.i64.wrap ((n : Int) - 1) = (n : Int) - 1 := by rw [IntKind.wrap_i64]; omega
  go_enter Try.func89, Try.ntmps89
  go_wp2_with fail
  refine (there_calls _ _ _ (by rw [HN.out]; omega) (by omega) (by rw [HN.out]; omega) (by omega) _).mono ?_
  rintro e w1 ⟨rfl, hb⟩
  have HB := hid hb
  clear hb
  go_wp2_with fail
  refine (Wrap_calls _ _ _).mono ?_
  rintro e w2 ⟨rfl, hb⟩
  have HB2 := hid (below_trans HB.out hb)
  clear hb HB
  go_wp2_with fail
  refine (Size_calls _ _).mono ?_
  rintro e w3 ⟨rfl, hb⟩
  have HB3 := hid (below_trans HB2.out hb)
  rw [HN.out]
  clear hb HB2
  generalize hu : wrapk k v = u
  have HU := hid hu
  clear hu
  go_wp2_with fail
  go_loopw [3, 9] (fun x y wr => ∃ j : Nat, j ≤ n ∧ x = .int .i64 (u / 256 ^ (n - j)) ∧ y = .int .i64 ((j : Int) - 1) ∧ ∃ t, ByB wr b t ∧ t.size = 64 ∧ putB t m j (u / 256 ^ (n - j)) = putB s m n u ∧ w.grownBy wr (some b)) (fun _ y _ => (intOf y + 1).toNat)
  case atStart => exact ⟨n, Nat.le_refl _, by simp, rfl, s, HBB.out.below HB3.out, HS.out, by simp, grown_below HB3.out _⟩
  case round =>
    obtain ⟨j, hj, rfl, rfl, t, hbt, ht, hput, hgr⟩ := hrel
    rcases j with _ | j
    · have HX := hid hput
      have HY := hid hbt
      have HG := hid hgr
      clear hput hbt hgr
      go_wp2_with fail
      go_ret
      refine ⟨rfl, ?_, HG.out⟩
      rw [HU.out, ← HX.out]
      exact HY.out
    · have c0 := hbt.cell (m + j) (by omega)
      have f0 := hbt.free (m + j) (by omega)
      have hs1 := hbt.set (m + j) (u / 256 ^ (n - (j + 1))) (by omega)
      have HX := hid hput
      have HY := hid hs1
      have HG := hid hgr
      clear hput hbt hgr hs1
      have hw1 : IntKind.i64.wrap ((m : Int) + (j : Int)) = (m : Int) + (j : Int) := by rw [IntKind.wrap_i64]; omega
      have hw2 : IntKind.i64.wrap ((j : Int) - 1) = (j : Int) - 1 := by rw [IntKind.wrap_i64]; omega
      go_wp2_with fail
      have e1 : u / 256 ^ (n - (j + 1)) / 256 = u / 256 ^ (n - j) := by
        rw [show n - j = (n - (j + 1)) + 1 by omega, Int.pow_succ, Int.ediv_ediv_of_nonneg (Int.pow_nonneg (by decide))]
      refine ⟨⟨j, by omega, by rw [e1], rfl, _, HY.out, by rw [setB_size]; exact ht, ?_, grown_trans HG.out (grown_set _)⟩, by simp [intOf]⟩
      rw [← HX.out, putB, e1]
end Go.Proofs.Ytjnohalffffiaaa
