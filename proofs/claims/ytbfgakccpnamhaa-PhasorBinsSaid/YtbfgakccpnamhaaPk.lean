import Derived.Test.YtbfgakccpnamhaaPl
set_option linter.unusedVariables false
set_option linter.unusedSimpArgs false
namespace Go.Proofs.Ytbfgakccpnamhaa
open Go.RowKit

set_option maxHeartbeats 4000000 in
theorem PhasorBins_calls (a : Option Addr) (xs : List Int) (cap : Nat) (k : Int) (w : World) (hr : RdI w a xs) (hc : xs.length ≤ cap) (hm : cap ≤ 9223372036854775807) :
    Calls Try.prog 5 #[.slice a xs.length cap, .int .i64 k] w fun e w' => e = .returned (.bool true) ∧ Below w.heap.size w w' := by
  have HR := hid hr
  clear hr
  by_cases hlen : (1100 : Int) < xs.length
  · go_enter Try.func5, Try.ntmps5
    go_wp2_with fail
    refine (awake_calls _).mono ?_
    rintro e w1 ⟨rfl, hb1⟩
    have HB1 := hid hb1
    clear hb1
    go_wp2_with fail
    go_ret
    exact ⟨rfl, HB1.out⟩
  · go_enter Try.func5, Try.ntmps5
    go_wp2_with fail
    refine (awake_calls _).mono ?_
    rintro e w1 ⟨rfl, hb1⟩
    have HB1 := hid hb1
    have HR1 := hid (HR.out.below hb1)
    clear hb1
    go_wp2_with fail
    refine (Bin_calls _ _ _ _ _ HR1.out hc hm).mono ?_
    rintro e w' ⟨c1, d1, rfl, h1, rfl⟩
    have H1 := hid h1
    clear h1
    go_wp2_with fail
    refine (rBin_calls _ _ _ _ _ HR1.out hc hm).mono ?_
    rintro e w2 ⟨rfl, hb2⟩
    have HB2 := hid (below_trans HB1.out hb2)
    have HR2 := hid (HR1.out.below hb2)
    clear hb2
    have q1 := bsm_bd qre qre_3 k xs
    have q2 := bsm_bd qim qim_3 k xs
    have HQ := hid (And.intro q1 q2)
    clear q1 q2
    go_wp2_with fail
    refine (is_calls _ _ _ _ H1.out (by have := HQ.out; unfold bsm at this; omega) (by have := HQ.out; unfold bsm at this; omega) _).mono ?_
    rintro e w3 ⟨rfl, hb3⟩
    have HB3 := hid (below_trans HB2.out hb3)
    have HR3 := hid (HR2.out.below hb3)
    clear hb3
    go_wp2_with fail
    refine (Strongest_calls _ _ _ _ HR3.out hc hm).mono ?_
    rintro e w' ⟨rfl, rfl⟩
    go_wp2_with fail
    refine (rStrongest_calls _ _ _ _ HR3.out hc hm).mono ?_
    rintro e w4 ⟨rfl, hb4⟩
    have HB4 := hid (below_trans HB3.out hb4)
    have HR4 := hid (HR3.out.below hb4)
    clear hb4
    generalize strong xs = st
    go_wp2_with fail
    refine (Bins_calls _ _ _ _ HR4.out hc hm).mono ?_
    rintro e w5 ⟨A, B, rfl, hbs, hb5⟩
    have HB5 := hid (below_trans HB4.out hb5)
    have HR5 := hid (HR4.out.below hb5)
    have HBS := hid hbs
    clear hb5 hbs
    go_wp2_with fail
    go_loopw [29] (fun v wr => ∃ j : Nat, j ≤ 4 ∧ v = .int .i64 j ∧ Below w.heap.size w wr ∧ RdI wr a xs) (fun v _ => 4 - (intOf v).toNat)
    case atStart => exact ⟨0, by omega, rfl, HB5.out, HR5.out⟩
    case round =>
      obtain ⟨j, hj, rfl, hbel, hrd⟩ := hrel
      have HBEL := hid hbel
      have HRD := hid hrd
      clear hbel hrd
      by_cases hlt : j < 4
      · have hix := fun (w : World) => (run_idx4 (cpx A B 0) (cpx A B 1) (cpx A B 2) (cpx A B 3) j hlt w).trans (by rw [get4 (cpx A B) j hlt])
        go_wp2_with fail
        refine (rBin_calls _ _ _ _ _ HRD.out hc hm).mono ?_
        rintro e w6 ⟨rfl, hb6⟩
        have HB6 := hid (below_trans HBEL.out hb6)
        have HR6 := hid (HRD.out.below hb6)
        clear hb6
        have q1 := bsm_bd qre qre_3 j xs
        have q2 := bsm_bd qim qim_3 j xs
        have HQ := hid (And.intro q1 q2)
        clear q1 q2 hix
        go_wp2_with fail
        refine (is_calls _ _ _ _ (HBS.out j hlt) (by have := HQ.out; omega) (by have := HQ.out; omega) _).mono ?_
        rintro e w7 ⟨rfl, hb7⟩
        have HB7 := hid (below_trans HB6.out hb7)
        have HR7 := hid (HR6.out.below hb7)
        clear hb7
        go_wp2_with fail
        exact ⟨⟨j + 1, by omega, by go_num, HB7.out, HR7.out⟩, by simp [intOf]; omega⟩
      · obtain rfl : j = 4 := by omega
        go_wp2_with fail
        go_ret
        exact ⟨rfl, HBEL.out⟩

end Go.Proofs.Ytbfgakccpnamhaa
