/- MeterOrder's walk. -/
import Derived.Test.YtaombjljahpncaaMa
set_option linter.unusedVariables false
set_option linter.unusedSimpArgs false
namespace Go.Proofs.Ytaombjljahpncaa
open Go.RowKit

set_option maxHeartbeats 4000000 in
theorem MeterOrder_calls (a : Option Addr) (xs : List Int) (cap : Nat) (s t : Int) (w : World) (hx : RdI w a xs) (hc : xs.length ≤ cap) (hm : cap ≤ 9223372036854775807) :
    Calls Try.prog 4 #[.slice a xs.length cap, .agg #[.int .i64 s, .int .i64 t]] w fun e w' => e = .returned (.bool true) ∧ Below w.heap.size w w' := by
  have hb0 := Blk.new w #[.int .i64 s, .int .i64 t] 33
  have hw0 := (Below.refl w.heap.size w).alloc (Nat.le_refl _) (.cells #[.int .i64 s, .int .i64 t] 33)
  have HX := hid hx
  have HB0 := hid hb0
  have HW0 := hid hw0
  clear hb0 hw0 hx
  by_cases hl : (200 : Int) < xs.length
  · go_enter Try.func4, Try.ntmps4
    go_wp2_with fail
    refine (mawake_calls _).mono ?_
    rintro e w1 ⟨rfl, hb1⟩
    have HB1 := hid hb1
    clear hb1
    go_wp2_with fail
    go_ret
    exact ⟨rfl, HW0.out.trans (HB1.out.mono (by simp))⟩
  go_enter Try.func4, Try.ntmps4
  go_wp2_with fail
  refine (mawake_calls _).mono ?_
  rintro e w1 ⟨rfl, hb1⟩
  have hblk := HB0.out.below hb1
  have HBW := hid (HW0.out.trans (hb1.mono (by simp)))
  have HX1 := hid (HX.out.below HBW.out)
  have HBLK := hid hblk
  clear hblk hb1
  go_wp2_with fail
  refine (New_calls _ _).mono ?_
  rintro e w' ⟨rfl, rfl⟩
  rw [show brg 10 = 10 from rfl]
  have hm : MAt (w1.alloc (.cells (cells72 (fresh 10)) 44)) w1.heap.size (fresh 10) := Blk.new _ _ _
  have hb0 : Below w1.heap.size w1 (w1.alloc (.cells (cells72 (fresh 10)) 44)) := (Below.refl _ _).alloc (Nat.le_refl _) _
  generalize (w1.alloc (.cells (cells72 (fresh 10)) 44)) = w2 at *
  have HM := hid hm
  have HB := hid hb0
  clear hm hb0
  go_wp2_with fail
  go_loopw [24] (fun i wr => ∃ j : Nat, j ≤ xs.length ∧ i = .int .i64 j ∧ MAt wr w1.heap.size (runf 10 xs j) ∧ Below w1.heap.size w1 wr) (fun i _ => xs.length - (intOf i).toNat)
  case atStart => exact ⟨0, Nat.zero_le _, rfl, HM.out, HB.out⟩
  case round =>
    obtain ⟨j, hj, rfl, hm, hb⟩ := hrel
    have HM := hid hm
    have HB := hid hb
    clear hm hb
    by_cases hlt : j < xs.length
    · obtain ⟨cb, co, hae, hcj⟩ := (HX1.out.below HB.out).cell j hlt
      rw [hae]
      clear hae
      obtain ⟨x, hx⟩ : ∃ x, x = xs.getD j 0 := ⟨_, rfl⟩
      rw [← hx] at hcj
      have HX := hid hx
      clear hx
      go_wp2_with fail
      refine (Add_calls _ _ x _ HM.out ((run_rep 10 xs j).fine (by rw [runa_len]; omega))).mono ?_
      rintro e w' ht
      obtain rfl := ht.1
      have HM2 := hid ht.2.1
      have HB2 := hid (turns_below ht (Nat.le_refl _) HB.out (by have := HM.out.lt; omega))
      clear ht
      go_wp2_with fail
      exact ⟨⟨j + 1, by omega, by go_num, by rw [runf, ← HX.out]; exact HM2.out, HB2.out⟩, by simp [intOf]; omega⟩
    · obtain rfl : j = xs.length := by omega
      have hrep := run_rep 10 xs xs.length
      have hal := runa_len xs xs.length
      have HBA := hid (HBW.out.trans (HB.out.mono HBW.out.size))
      have HXA := hid (HX1.out.below HB.out)
      have hblk := HBLK.out.below HB.out
      have hs0 := hblk.cell 0 _ rfl
      have hs1 := hblk.cell 1 _ rfl
      have HBLKA := hid hblk
      clear hblk
      have HREP := hid hrep
      clear hrep HX1 HX HBW HB0 HW0 HB HBLK
      generalize w1.heap.size = mb at *
      by_cases h0 : xs.length = 0
      · have hnil : runa xs xs.length = [] := List.eq_nil_of_length_eq_zero (by omega)
        have hnl : runl xs xs.length = [] := List.eq_nil_of_length_eq_zero (by rw [HREP.out.hl]; omega)
        have hz0 : runz 10 xs xs.length = 0 := by have := HREP.out.hla; omega
        have hrep := HREP.out
        rw [hnil, hnl] at hrep
        have hr : Hid (Rep (runf 10 xs xs.length) [] [] (runz 10 xs xs.length)) := hid hrep
        have h0' : (xs.length : Int) = 0 := by omega
        clear hnil hnl hz0 hrep HREP hal h0
        have HREP := hr
        clear hr
        generalize runf 10 xs xs.length = f at *
        go_wp2_with fail
        refine (Range_calls _ _ _ HM.out).mono ?_
        rintro e w' ⟨rfl, hb1⟩
        rw [HREP.out.h68, HREP.out.h69, show mnT [] ([] : List Int).length = 0 from rfl, show mxT [] ([] : List Int).length = 0 from rfl]
        have HM1 := hid (HM.out.below hb1)
        have HB1 := hid (below_trans HBA.out hb1)
        have hblk := HBLKA.out.below hb1
        clear hb1 hs0 hs1
        have HBLKB := hid hblk
        clear hblk
        go_wp2_with fail
        refine (Mean_calls _ _ _ HM1.out (by rw [HREP.out.h66]; decide) (by rw [HREP.out.h67]; decide) (by rw [HREP.out.h67]; decide)).mono ?_
        rintro e w3 ⟨rfl, hb1⟩
        rw [if_pos (by rw [HREP.out.h66]; rfl)]
        have HM2 := hid (HM1.out.below hb1)
        have HB2 := hid (below_trans HB1.out hb1)
        have HBLKC := hid (HBLKB.out.below hb1)
        clear hb1
        go_wp2_with fail
        refine (Beat_calls _ _ [] _ HM2.out HREP.out.h65 (by rw [HREP.out.h71]; decide) HREP.out.hw (fun i hi => by simp at hi)).mono ?_
        rintro e w4 ⟨rfl, hb1⟩
        rw [show beat [] = 0 by decide]
        have HM3 := hid (HM2.out.below hb1)
        have HB3 := hid (below_trans HB2.out hb1)
        have hblk := HBLKC.out.below hb1
        have hs0 := hblk.cell 0 _ rfl
        clear hb1 hblk
        go_wp2_with fail
        refine (Above_calls _ _ [] _ _ HM3.out HREP.out.h65 (by rw [HREP.out.h71]; decide) HREP.out.hw).mono ?_
        rintro e w5 ⟨rfl, hb1⟩
        rw [show abv [] s = 0 from rfl]
        have HB4 := hid (below_trans HB3.out hb1)
        clear hb1
        go_wp2_with fail
        go_ret
        exact ⟨rfl, HB4.out⟩
      · obtain ⟨n, hn⟩ : ∃ n, xs.length = n + 1 := ⟨xs.length - 1, by omega⟩
        have htl : (runl xs xs.length).getLast? = some (brg (xs.getD n 0)) := by
          rw [HREP.out.tail]
          have := runa_last xs n
          rw [← hn] at this
          exact this
        have hll : (runl xs xs.length).length = min xs.length 64 := by rw [HREP.out.hl, hal]
        have hmean := mean_between (runa xs xs.length) (by omega)
        have habz := abv_zero (runl xs xs.length) (by omega)
        have hlst := least_abv HREP.out (max s t) (by omega)
        have hlate := HREP.out.hla
        have h66 := HREP.out.h66
        have h67 := HREP.out.h67
        have h67b := sumT_bd HREP.out.rall _ (Nat.le_refl _)
        rw [hal] at h66
        have h66n : ¬ runf 10 xs xs.length 66 = 0 := by omega
        rw [← HREP.out.h66, ← HREP.out.h67, ← HREP.out.h68, ← HREP.out.h69] at hmean
        rw [← HREP.out.h68] at hlst
        rw [← HREP.out.h70] at hlate
        rw [hal, ← h66] at hlate
        obtain ⟨m, hm⟩ : ∃ m, (runl xs xs.length).length = m + 1 := ⟨(runl xs xs.length).length - 1, by omega⟩
        have hcmp : (((m + 1 : Nat) : Int) != min ((n + 1 : Nat) : Int) 64) = false := by
          have : ((m + 1 : Nat) : Int) = min ((n + 1 : Nat) : Int) 64 := by omega
          rw [this]; simp
        have hcmp' : (((m : Nat) : Int) + 1 != min ((n : Int) + 1) 64) = false := hcmp
        have hmb : m < 64 := by omega
        have hnb : n < 200 := by omega
        have PB : Hid (∀ W, Calls Try.prog 8 #[.int .i64 (xs.getD n 0)] W fun e w' => e = .returned (.int .i64 (brg (xs.getD n 0))) ∧ w' = W) := hid fun W => Bring_calls _ W
        have hgt := Int.le_refl (gt (runl xs xs.length) (runl xs xs.length).length)
        have HREP2 := HREP
        obtain ⟨xb, xo, hae, hcx⟩ := HXA.out.cell n (by omega)
        have H65 := hid HREP.out.h65
        have H71 : Hid (0 ≤ runf 10 xs xs.length 71 ∧ runf 10 xs xs.length 71 ≤ 64) := hid (by have := HREP.out.h71; omega)
        have HW := hid HREP.out.hw
        have HN := hid hn
        have HMM := hid hm
        have HTL := hid htl
        have HAB := hid habz
        have HMEAN := hid hmean
        have HLST := hid hlst
        have HLATE := hid hlate
        have H66 := hid h66n
        have H66e := hid (show runf 10 xs xs.length 66 = xs.length from h66)
        have H67 : Hid (0 ≤ runf 10 xs xs.length 67 ∧ runf 10 xs xs.length 67 ≤ 1000000000000000) := hid (by rw [h67]; omega)
        clear hal HREP h66 h67 h67b hlate hlst habz hmean hll htl hgt HREP2 h66n hcmp h0 hlt hj
        rw [hae]
        clear hae
        generalize runf 10 xs xs.length = f at *
        generalize runl xs xs.length = last at *
        generalize xs.getD n 0 = z at *
        generalize brg z = zb at *
        go_wp2_with fail
        refine (Range_calls _ _ _ HM.out).mono ?_
        rintro e w' ⟨rfl, hb1⟩
        have HM1 := hid (HM.out.below hb1)
        have HB1 := hid (below_trans HBA.out hb1)
        have hblk := HBLKA.out.below hb1
        clear hs0 hs1
        have hs0 := hblk.cell 0 _ rfl
        have hs1 := hblk.cell 1 _ rfl
        rw [← hb1.cell (World.block_lt_of_cell? _ _ hcx)] at hcx
        clear hb1 hblk HM HBA HBLKA
        go_wp2_with fail
        go_quiet (fail)
        go_wp2_with fail
        refine (Window_calls _ _ _ (HM1.out.drewN _) H65.out H71.out).mono ?_
        rintro e w9 ⟨v9, rfl, ho, hb1⟩
        rw [HW.out] at ho
        obtain ⟨g, c9, rfl, hgb, hc9, hm9⟩ := ho.shape (by rw [HMM.out]; omega)
        have hw0 := ho.cellAt 0 (by rw [HMM.out]; omega)
        have hwm := ho.cellAt m (by rw [HMM.out]; omega)
        have hz : last.getD m 0 = zb := by
          have := HTL.out
          rw [List.getLast?_eq_getElem?, HMM.out] at this
          rw [List.getD_eq_getElem?_getD, show m = m + 1 - 1 by omega, this]; rfl
        rw [hz] at hwm
        rw [HMM.out]
        rw [HMM.out] at hc9
        have hcx9 : w9.cell? ⟨xb, xo + n, none⟩ = some (.int .i64 z) := by rw [hb1.cell (World.block_lt_of_cell? _ _ hcx)]; exact hcx
        have HM2 := hid ((HM1.out.drewN nq).below hb1)
        have HB2 := hid (below_trans (bel_drewN HB1.out nq) hb1)
        have HO := hid ho
        have Hw0 := hid hw0
        have i1 : (0 : Int) ≤ (n : Int) := Int.natCast_nonneg _
        have i2 : (0 : Int) ≤ (m : Int) := Int.natCast_nonneg _
        have e1 : IntKind.i64.wrap ((m : Int) + 1 - 1) = (m : Int) := by rw [IntKind.wrap_i64]; omega
        have e3 : IntKind.i64.wrap (m : Int) = (m : Int) := by rw [IntKind.wrap_i64]; omega
        have e4 : IntKind.i64.wrap (n : Int) = (n : Int) := by rw [IntKind.wrap_i64]; omega
        have e2 : IntKind.i64.wrap ((n : Int) + 1 - 1) = (n : Int) := by rw [IntKind.wrap_i64]; omega
        have i3 : (m : Int) < (m : Int) + 1 := by omega
        have i4 : (n : Int) < (n : Int) + 1 := by omega
        have hbb : Below w9.heap.size w9 w9 := Below.refl _ _
        clear hb1 ho hz hcx hs0 hs1 hw0 HB1 HM1
        go_wp2_with fail
        go_region_held3 (fun w' => w'.cell? ⟨xb, xo + n, none⟩ = some (.int .i64 z) ∧ w'.cell? ⟨g, m, none⟩ = some (.int .i64 zb) ∧ Below w9.heap.size w9 w')
          (first | (exact ⟨hcx9, hwm, hbb.drew⟩) | (exact ‹_ ∧ _ ∧ Below w9.heap.size w9 _›) | go_keep)
          (first | (go_at_call 8; (with_reducible refine (PB.out _).mono ?_); rintro e w' ⟨rfl, rfl⟩))
        have hw10 := Hw0.out
        have HO2 := (show Hid (OwnI w9.drew _ _ _) from hid (HO.out.drewN 1))
        have HM3 := hid (HM2.out.drew)
        have HB3 := hid (HB2.out.drew)
        clear hbb hcx9 hwm e1 e2 e3 e4
        have hgt0 := hid (show gt last 0 = last.getD 0 0 from rfl)
        rw [← hgt0.out] at hw10
        go_wp2_with fail
        go_loopw [13, 102] (fun gr i wr => ∃ j : Nat, j ≤ m + 1 ∧ i = .int .i64 j ∧ gr = .int .i64 (gt last j) ∧ wr = w9.drew) (fun _ i _ => m + 1 - (intOf i).toNat)
        case atStart => exact ⟨0, Nat.zero_le _, rfl, rfl, rfl⟩
        case round =>
          obtain ⟨j, hj, rfl, rfl, rfl⟩ := hrel
          by_cases hlt : j < m + 1
          · have hcj := HO2.out.cellAt j (by rw [HMM.out]; omega)
            have HG := hid (show gt last (j + 1) = max (gt last j) (last.getD j 0) from rfl)
            generalize last.getD j 0 = y at *
            have i5 : (j : Int) < (m : Int) + 1 := by omega
            go_wp2_with fail
            exact ⟨⟨j + 1, by omega, by go_num, by rw [HG.out], by first | rfl | trivial⟩, by simp [intOf]; omega⟩
          · obtain rfl : j = m + 1 := by omega
            have hmean := HMEAN.out
            have habs := HAB.out
            rw [HMM.out] at habs
            have hmono : abv last (max s t) ≤ abv last (min s t) := abv_anti last (by omega)
            have hlst := HLST.out
            have hlate := HLATE.out.2
            have q1 : decide (f 68 ≤ f 67 / f 66) = true := by simp; omega
            have q2 : decide (f 67 / f 66 ≤ f 69) = true := by simp; omega
            have q3 : decide (abv last (max s t) ≤ abv last (min s t)) = true := by simp; omega
            have q4 : (abv last 0 == gt last (m + 1)) = true := by simp; omega
            have q5 : decide (f 68 ≤ abv last (max s t)) = true := by simp; omega
            have q6 : decide (f 70 ≤ f 66) = true := by simp; omega
            have MN := hid (fun W (h : MAt W mb f) => Mean_calls mb f W h (by have := H66e.out; omega) H67.out.1 H67.out.2)
            have AB := hid (fun S W (h : MAt W mb f) => Above_calls mb f last S W h H65.out H71.out HW.out)
            clear hmean habs hmono hlst hlate hcmp'
            go_wp2_with fail
            refine (MN.out _ HM3.out).mono ?_
            rintro e v1 ⟨rfl, hb1⟩
            rw [if_neg H66.out]
            have HM4 := hid (HM3.out.below hb1)
            have HB4 := hid (below_trans HB3.out hb1)
            clear hb1
            go_wp2_with fail
            refine (MN.out _ HM4.out).mono ?_
            rintro e v2 ⟨rfl, hb1⟩
            rw [if_neg H66.out]
            have HM5 := hid (HM4.out.below hb1)
            have HB5 := hid (below_trans HB4.out hb1)
            clear hb1
            go_wp2_with fail
            refine (AB.out _ _ HM5.out).mono ?_
            rintro e v3 ⟨rfl, hb1⟩
            have HM6 := hid (HM5.out.below hb1)
            have HB6 := hid (below_trans HB5.out hb1)
            clear hb1
            go_wp2_with fail
            refine (AB.out _ _ HM6.out).mono ?_
            rintro e v4 ⟨rfl, hb1⟩
            have HM7 := hid (HM6.out.below hb1)
            have HB7 := hid (below_trans HB6.out hb1)
            clear hb1
            go_wp2_with fail
            refine (AB.out _ _ HM7.out).mono ?_
            rintro e v5 ⟨rfl, hb1⟩
            have HM8 := hid (HM7.out.below hb1)
            have HB8 := hid (below_trans HB7.out hb1)
            clear hb1
            go_wp2_with fail
            refine (AB.out _ _ HM8.out).mono ?_
            rintro e v6 ⟨rfl, hb1⟩
            have HM9 := hid (HM8.out.below hb1)
            have HB9 := hid (below_trans HB8.out hb1)
            clear hb1
            go_wp2_with fail
            refine (Late_calls _ _ _ HM9.out).mono ?_
            rintro e v7 ⟨rfl, rfl⟩
            go_wp2_with fail
            refine (Count_calls _ _ _ HM9.out).mono ?_
            rintro e v8 ⟨rfl, rfl⟩
            go_wp2_with fail
            go_ret
            exact ⟨rfl, HB9.out⟩

end Go.Proofs.Ytaombjljahpncaa
