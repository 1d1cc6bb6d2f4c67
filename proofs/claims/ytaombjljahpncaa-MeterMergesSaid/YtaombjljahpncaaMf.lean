/- The document's tellers: Sum, Mean, Range, Beat, Above; same. -/
import Derived.Test.YtaombjljahpncaaMe
set_option linter.unusedVariables false
set_option linter.unusedSimpArgs false
namespace Go.Proofs.Ytaombjljahpncaa
open Go.RowKit

theorem val_int {k : IntKind} {a b : Int} (h : a = b) : Value.int k a = Value.int k b := by rw [h]

/-- The cell that a reading gives. -/
theorem RdI.cell {w : World} {a : Option Addr} {xs : List Int} (h : RdI w a xs) (j : Nat) (hj : j < xs.length) : ∃ b off, a = some ⟨b, off, none⟩ ∧ w.cell? ⟨b, off + j, none⟩ = some (.int .i64 (xs.getD j 0)) := by
  rcases h with rfl | ⟨b, off, rfl, h⟩
  · simp at hj
  · exact ⟨b, off, rfl, h j hj⟩

set_option maxHeartbeats 1000000 in
theorem rSum_calls (a : Option Addr) (xs : List Int) (cap : Nat) (w : World) (hr : RdI w a xs) (hl : xs.length ≤ 1000) (hg : Rge xs) :
    Calls Try.prog 30 #[.slice a xs.length cap] w fun e w' => e = .returned (.int .i64 (sumT xs xs.length)) ∧ w' = w := by
  have HR := hid hr
  have HG := hid hg
  clear hr hg
  go_enter Try.func30, Try.ntmps30
  go_wp2_with fail
  go_loop [3, 4] (fun s i => ∃ j : Nat, j ≤ xs.length ∧ i = .int .i64 j ∧ s = .int .i64 (sumT xs j)) (fun _ i => xs.length - (intOf i).toNat)
  case atStart => exact ⟨0, Nat.zero_le _, rfl, rfl⟩
  case round =>
    obtain ⟨j, hj, rfl, rfl⟩ := hrel
    obtain ⟨s1, s2⟩ := sumT_bd HG.out j hj
    have s2' : sumT xs j ≤ 1048576000 := by omega
    clear s2
    by_cases hlt : j < xs.length
    · obtain ⟨b, off, hae, hcj⟩ := HR.out.cell j hlt
      rw [hae]
      clear hae
      have hzb := HG.out j hlt
      have HS := hid (show sumT xs (j + 1) = sumT xs j + xs.getD j 0 from rfl)
      generalize xs.getD j 0 = z at *
      obtain ⟨z1, z2⟩ := hzb
      go_wp2_with fail
      go_round
      case rel => exact ⟨j + 1, by omega, by go_num, by rw [HS.out]⟩
      case measure => simp [intOf]; omega
    · obtain rfl : j = xs.length := by omega
      go_wp2_with fail
      go_ret
      exact ⟨rfl, rfl⟩

set_option maxHeartbeats 1000000 in
theorem rMean_calls (a : Option Addr) (xs : List Int) (cap : Nat) (w : World) (hr : RdI w a xs) (hl : xs.length ≤ 1000) (hg : Rge xs) :
    Calls Try.prog 23 #[.slice a xs.length cap] w fun e w' => e = .returned (.int .i64 (mean xs)) ∧ w' = w := by
  have HR := hid hr
  have HG := hid hg
  obtain ⟨s1, s2⟩ := sumT_bd hg xs.length (Nat.le_refl _)
  have s2' : sumT xs xs.length ≤ 1048576000 := by omega
  clear hr hg s2
  by_cases h0 : xs.length = 0
  · have e0 : ((xs.length : Int) == 0) = true := by rw [beq_iff_eq]; omega
    have HM := hid (show mean xs = 0 by unfold mean; rw [if_pos h0])
    clear h0
    rw [HM.out]
    go_enter Try.func23, Try.ntmps23
    go_wp2_with fail
    go_ret
    exact ⟨rfl, rfl⟩
  · have e0 : ((xs.length : Int) == 0) = false := by rw [beq_eq_false_iff_ne]; omega
    have hp : (1 : Int) ≤ (xs.length : Int) := by omega
    have HM := hid (show mean xs = sumT xs xs.length / xs.length by unfold mean; rw [if_neg h0])
    clear h0
    rw [HM.out]
    go_enter Try.func23, Try.ntmps23
    go_wp2_with fail
    refine (rSum_calls _ _ _ _ HR.out hl HG.out).mono ?_
    rintro e w' ⟨rfl, rfl⟩
    go_wp2_with fail
    go_ret
    exact ⟨rfl, rfl⟩

def mnT (xs : List Int) : Nat → Int
  | 0 => xs.getD 0 0
  | i + 1 => min (mnT xs i) (xs.getD i 0)
def mxT (xs : List Int) : Nat → Int
  | 0 => xs.getD 0 0
  | i + 1 => max (mxT xs i) (xs.getD i 0)

set_option maxHeartbeats 1000000 in
theorem rRange_calls (a : Option Addr) (xs : List Int) (cap : Nat) (w : World) (hr : RdI w a xs) (hl : xs.length ≤ 1000) :
    Calls Try.prog 22 #[.slice a xs.length cap] w fun e w' => e = .returned (.tuple #[.int .i64 (mnT xs xs.length), .int .i64 (mxT xs xs.length)]) ∧ w' = w := by
  have HR := hid hr
  clear hr
  by_cases h0 : xs.length = 0
  · have hx : xs = [] := List.eq_nil_of_length_eq_zero h0
    subst hx
    go_enter Try.func22, Try.ntmps22
    go_wp2_with fail
    go_ret2
    exact ⟨rfl, rfl⟩
  · have e0 : ((xs.length : Int) == 0) = false := by rw [beq_eq_false_iff_ne]; omega
    have hp : 0 < xs.length := by omega
    obtain ⟨b, off, hae, hc0⟩ := HR.out.cell 0 hp
    have HCJ : Hid (∀ j, j < xs.length → w.cell? ⟨b, off + j, none⟩ = some (.int .i64 (xs.getD j 0))) := by
      show ∀ j, _
      intro j hj
      obtain ⟨b', off', h1, h2⟩ := HR.out.cell j hj
      rw [hae] at h1
      cases h1
      exact h2
    rw [hae]
    have H0 := hid (And.intro (show mnT xs 0 = xs.getD 0 0 from rfl) (show mxT xs 0 = xs.getD 0 0 from rfl))
    generalize xs.getD 0 0 = z at *
    rw [Nat.add_zero] at hc0
    clear h0 hae
    go_enter Try.func22, Try.ntmps22
    go_wp2_with fail
    go_loop [4, 5, 6] (fun s t i => ∃ j : Nat, j ≤ xs.length ∧ i = .int .i64 j ∧ s = .int .i64 (mnT xs j) ∧ t = .int .i64 (mxT xs j)) (fun _ _ i => xs.length - (intOf i).toNat)
    case atStart => exact ⟨0, Nat.zero_le _, rfl, by rw [H0.out.1], by rw [H0.out.2]⟩
    case round =>
      obtain ⟨j, hj, rfl, rfl, rfl⟩ := hrel
      by_cases hlt : j < xs.length
      · have hcj := HCJ.out j hlt
        have HS := hid (And.intro (show mnT xs (j + 1) = min (mnT xs j) (xs.getD j 0) from rfl) (show mxT xs (j + 1) = max (mxT xs j) (xs.getD j 0) from rfl))
        generalize xs.getD j 0 = y at *
        go_wp2_with fail
        all_goals
          go_round
          case rel => exact ⟨j + 1, by omega, by go_num, val_int (by have := HS.out.1; omega), val_int (by have := HS.out.2; omega)⟩
          case measure => simp [intOf]; omega
      · obtain rfl : j = xs.length := by omega
        go_wp2_with fail
        go_ret2
        exact ⟨rfl, rfl⟩

set_option maxHeartbeats 1000000 in
theorem same_calls (a b : Option Addr) (xs : List Int) (cap cap' : Nat) (w : World) (hr : RdI w a xs) (hr' : RdI w b xs) (hl : xs.length ≤ 1000) :
    Calls Try.prog 24 #[.slice a xs.length cap, .slice b xs.length cap'] w fun e w' => e = .returned (.bool true) ∧ Below w.heap.size w w' := by
  have HR := hid hr
  have HR' := hid hr'
  clear hr hr'
  go_enter Try.func24, Try.ntmps24
  go_wp2_with fail
  go_loopw [13] (fun i wr => ∃ (j n : Nat), j ≤ xs.length ∧ i = .int .i64 j ∧ wr = w.drewN n) (fun i _ => xs.length - (intOf i).toNat)
  case atStart => exact ⟨0, 0, Nat.zero_le _, rfl, rfl⟩
  case round =>
    obtain ⟨j, n, hj, rfl, rfl⟩ := hrel
    by_cases hlt : j < xs.length
    · obtain ⟨b1, o1, h1, hc1⟩ := HR.out.cell j hlt
      obtain ⟨b2, o2, h2, hc2⟩ := HR'.out.cell j hlt
      have HX := hid h1
      have HY := hid h2
      subst h1 h2
      generalize xs.getD j 0 = z at *
      have i1 : (0 : Int) ≤ (j : Int) := Int.natCast_nonneg _
      have i2 : (j : Int) < (xs.length : Int) := by omega
      go_wp2_with fail
      go_quiet (fail)
      go_wp2_with fail
      exact ⟨⟨j + 1, n + nq, by omega, by go_num, rfl⟩, by simp [intOf]; omega⟩
    · obtain rfl : j = xs.length := by omega
      go_wp2_with fail
      go_ret
      exact ⟨rfl, bel_drewN (Below.refl _ _) _⟩

theorem mix_take (xs : List Int) (m : Int) (j : Nat) (hj : j < xs.length) (k : Nat) (hk : j + 1 ≤ k) : (mix xs m k).take (j + 1) = (mix xs m k).take j ++ [xs.getD j 0 - m] := by
  have h : j < (mix xs m k).length := by rw [mix_len]; exact hj
  rw [List.take_succ_eq_append_getElem h]
  congr 2
  have := mix_at xs m k j hj
  rw [List.getElem?_eq_getElem h] at this
  rw [if_pos (by omega)] at this
  exact Option.some.inj this

set_option maxHeartbeats 2000000 in
theorem rBeat_calls (a : Option Addr) (xs : List Int) (cap : Nat) (w : World) (hr : RdI w a xs) (hl : xs.length ≤ 1000) (hg : Rge xs) (hc : xs.length ≤ cap) :
    Calls Try.prog 25 #[.slice a xs.length cap] w (RetI (beat xs) w) := by
  have HR := hid hr
  have HG := hid hg
  have HBT := hid (show beat xs = strong (mix xs (mean xs) xs.length) from rfl)
  have hmb : 0 ≤ mean xs ∧ mean xs ≤ 1048576000 := by
    obtain ⟨s1, s2⟩ := sumT_bd hg xs.length (Nat.le_refl _)
    unfold mean
    split
    · omega
    · have h1 : 0 ≤ sumT xs xs.length / (xs.length : Int) := Int.ediv_nonneg s1 (by omega)
      have h2 : sumT xs xs.length / (xs.length : Int) ≤ sumT xs xs.length := Int.ediv_le_self _ s1
      omega
  obtain ⟨m1, m2⟩ := hmb
  have HMC := hid (fun (w' : World) (h : RdI w' a xs) => rMean_calls a xs cap w' h hl hg)
  rw [HBT.out]
  clear hr hg HBT
  generalize mean xs = m at *
  go_enter Try.func25, Try.ntmps25
  go_wp2_with fail
  go_loopw [3, 4] (fun v i wr => ∃ j : Nat, j ≤ xs.length ∧ i = .int .i64 j ∧ OwnI wr w.heap.size v ((mix xs m xs.length).take j) ∧ Below w.heap.size w wr) (fun _ i _ => xs.length - (intOf i).toNat)
  case atStart => exact ⟨0, Nat.zero_le _, rfl, OwnI.nil _ _, Below.refl _ _⟩
  case round =>
    obtain ⟨j, hj, rfl, ho, hb⟩ := hrel
    have HO := hid ho
    have HB := hid hb
    clear ho hb
    by_cases hlt : j < xs.length
    · have hrd := HR.out.below HB.out
      obtain ⟨b, off, hae, hcj⟩ := hrd.cell j hlt
      have HMJ := hid (HMC.out wr.drew hrd)
      have hzb := HG.out j hlt
      have HT := hid (mix_take xs m j hlt xs.length (by omega))
      generalize xs.getD j 0 = z at *
      obtain ⟨z1, z2⟩ := hzb
      have i1 : (0 : Int) ≤ (j : Int) := Int.natCast_nonneg _
      have i2 : (j : Int) < (xs.length : Int) := by omega
      have hlen : ((mix xs m xs.length).take j).length + 1 ≤ 17592186044416 := by
        have : ((mix xs m xs.length).take j).length ≤ j := List.length_take_le _ _
        omega
      have hsz := HB.out.size
      have e1 : IntKind.i64.wrap (z - m) = z - m := by rw [IntKind.wrap_i64]; omega
      rw [hae] at HMJ ⊢
      have hne : some b ≠ u3.ownBlock ∨ b < w.heap.size := by
        right
        rcases HR.out with h | ⟨b', o', h1, h2⟩
        · subst h; simp at hlt
        · rw [hae] at h1
          cases h1
          exact World.block_lt_of_cell? w _ (h2 0 (by omega))
      have hbl : b < w.heap.size := by
        rcases HR.out with h | ⟨b', o', h1, h2⟩
        · subst h; simp at hlt
        · rw [hae] at h1
          cases h1
          exact World.block_lt_of_cell? w _ (h2 0 (by omega))
      have hnr : some b ≠ u3.ownBlock := by
        intro e
        have h1 := (HO.out.lt b e.symm).1
        omega
      clear hrd hne hae
      go_wp2_with fail
      go_region_held3 (fun w' => w'.cell? ⟨b, off + j, none⟩ = some (.int .i64 z))
        (first | go_keep | (exact hkept))
        (first
          | (go_at_call 23; (with_reducible refine HMJ.out.mono ?_); rintro e w' ⟨rfl, rfl⟩)
          | ((refine step_app1 (by rfl) _ _ (by rfl) w.heap.size u3 ((mix xs m xs.length).take j) (z - m) wr.heap.size (wr.heap.size + 1) (by rfl) (by exact (HO.out.alloc (.cells #[.int .i64 (z - m)] 3))) (by rfl) (by exact (Blk.new wr #[.int .i64 (z - m)] 3)) (by simp) hlen (by omega) ?_; intro g cap2 w2 ho2 hg2 hd2 hl2; have hkept : w2.cell? ⟨b, off + j, none⟩ = some (.int .i64 z) := (World.grownBy.cell_far hg2 _ (by simp; omega) hnr).trans (by assumption))))
      have hb2 : Below w.heap.size w w2 := ((HB.out.alloc hsz _).drew).grown hg2 (by simp; omega) (fun k hk => (HO.out.lt k hk).1)
      have HO2 := hid ho2
      have HB2 := hid hb2
      clear ho2 hb2 hg2 hd2 hl2 hkept e1
      go_wp2_with fail
      refine ⟨⟨j + 1, by omega, by go_num, ?_, HB2.out⟩, by simp [intOf]; omega⟩
      rw [HT.out]
      simpa using HO2.out
    · obtain rfl : j = xs.length := by omega
      have hml := mix_len xs m xs.length
      have ho := HO.out
      rw [List.take_of_length_le (by omega)] at ho
      obtain ⟨a9, c9, hv9, hr9, hc9, hm9⟩ := ho.rd
      have HR9 := hid hr9
      rw [hv9]
      clear ho hv9 hr9 hml
      go_wp2_with fail
      refine (rStrongest_calls _ _ _ _ HR9.out hc9 hm9).mono ?_
      rintro e w9 ⟨rfl, hb9⟩
      have HB9 := hid (below_trans HB.out hb9)
      clear hb9
      go_wp2_with fail
      go_ret
      exact ⟨rfl, HB9.out⟩

end Go.Proofs.Ytaombjljahpncaa
