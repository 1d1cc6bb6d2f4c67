/- TimingWays' walk. -/
import Derived.Test.YtejdkaniepgbdaaTw
set_option linter.unusedVariables false
set_option linter.unusedSimpArgs false
namespace Go.Proofs.Ytejdkaniepgbdaa
open Go.RowKit

theorem On_at2 (a : Option Addr) (l : List Ins) (cap q : Nat) (x : Int) (N : Nat) (w : World) (hr : RdIns w a l) (hx : x = q) (hN : l.length = N) (hq : q < l.length) (hn : l.length ≤ 100000) :
    Calls Try.prog 10 #[.slice a N cap, .int .i64 x] w (RetS (onI l.length q l[q]) w) := by
  subst hx hN
  exact On_calls a l cap q w hr hq hn
def metB (L : List Int) (z : Nat) (v : Int) : Bool := (L.take z).any fun x => x == v
theorem metB_snoc (L : List Int) (z : Nat) (v : Int) (h : z < L.length) : metB L (z + 1) v = (metB L z v || (L.getD z 0 == v)) := by
  unfold metB
  rw [List.take_succ_eq_append_getElem h, List.any_append]
  simp [List.getD_eq_getElem?_getD, List.getElem?_eq_getElem h]
theorem metB_full (L : List Int) (v : Int) (h : v ∈ L) : metB L L.length v = true := by
  unfold metB
  rw [List.take_of_length_le (Nat.le_refl _), List.any_eq_true]
  exact ⟨v, h, by simp⟩

set_option maxRecDepth 100000 in
set_option maxHeartbeats 8000000 in
theorem TimingWays_calls (a : Option Addr) (l : List Ins) (cap : Nat) (w : World) (hr : RdIns w a l) (hc : l.length ≤ cap) (hm : cap ≤ 9223372036854775807) :
    Calls Try.prog 3 #[.slice a l.length cap] w fun e w' => e = .returned (.bool true) ∧ Below w.heap.size w w' := by
  by_cases hbig : (120 : Int) < l.length
  · clear hr
    go_enter Try.func3, Try.ntmps3
    go_wp2_with fail
    refine (awake_calls _).mono ?_
    rintro e w1 ⟨rfl, hb1⟩
    have HB1 := hid hb1
    clear hb1
    go_wp2_with fail
    go_ret
    exact ⟨rfl, HB1.out⟩
  have hn2 : l.length ≤ 120 := by omega
  cases hrun : runsb l with
  | false =>
    have PS := hid (fun W (h : Below w.heap.size w W) => Spans_no a l cap W (hr.below h) hc hm hrun)
    clear hr hrun
    go_enter Try.func3, Try.ntmps3
    go_wp2_with fail
    refine (awake_calls _).mono ?_
    rintro e w1 ⟨rfl, hb1⟩
    have HB1 := hid hb1
    clear hb1
    go_wp2_with fail
    refine (PS.out _ HB1.out).mono ?_
    rintro e w2 ⟨rfl, hb2⟩
    have HB2 := hid (below_trans HB1.out hb2)
    clear hb2
    go_wp2_with fail
    go_ret
    exact ⟨rfl, HB2.out⟩
  | true =>
    obtain ⟨A, hok⟩ := runsb_ok hrun
    have HOK := hid hok
    have hws : 1 ≤ wayN l := wayN_pos hok
    have PS := hid (fun W (h : Below w.heap.size w W) => Spans_calls a l cap W (hr.below h) hc hm hrun hok.len hok.pos)
    have PN := hid (fun W (h : Below w.heap.size w W) => Ways_calls a l cap W (hr.below h) hc hm hrun hok.len hok.pos)
    have PW := hid (fun b W (h : Below w.heap.size w W) => Way_calls a l cap b W (hr.below h) hc hm A hok hrun)
    have HR := hid (fun W (h : Below w.heap.size w W) => hr.below h)
    have HSM := hid (fun h => one_same hok h)
    have HAT := hid (fun b i hi => way_at hok b i hi)
    have HON := hid (fun q (hq : q < l.length) (hA : A q ≠ none) t ht => on_mem hok hq hA (t := t) ht)
    rw [← way_len false, ← way_len true] at PS
    have hlf : (way l false).length ≤ 200 := by have := way_len (l := l) false; have := farG_bd l false 0; have := hok.len; omega
    have hlt' : (way l true).length ≤ 200 := by have := way_len (l := l) true; have := farG_bd l true 0; have := hok.len; omega
    clear hr hrun hok
    obtain ⟨N, hN⟩ : ∃ N, l.length = N := ⟨_, rfl⟩
    have HN := hid hN
    rw [hN] at hc hn2 hbig PS PN PW ⊢
    clear hN
    generalize wayN l = wn at *
    go_enter Try.func3, Try.ntmps3
    go_wp2_with fail
    refine (awake_calls _).mono ?_
    rintro e w1 ⟨rfl, hb1⟩
    have HB1 := hid hb1
    clear hb1
    go_wp2_with fail
    refine (PS.out _ HB1.out).mono ?_
    rintro e w2 ⟨rfl, hb2⟩
    have HB2 := hid (below_trans HB1.out hb2)
    clear hb2 HB1
    go_wp2_with fail
    refine (PN.out _ HB2.out).mono ?_
    rintro e w3 ⟨rfl, hb3⟩
    have HB3 := hid (below_trans HB2.out hb3)
    clear hb3 HB2
    go_wp2_with fail
    refine (PW.out _ _ HB3.out).mono ?_
    rintro e w4 ⟨vS, rfl, hoS, hb4⟩
    obtain ⟨aS, cS, rfl, hrS, hcS, hmS⟩ := hoS.rd
    have HB4 := hid (below_trans HB3.out hb4)
    have HS4 := hid hrS
    clear hb4 HB3 hoS hrS
    go_wp2_with fail
    refine (PW.out _ _ HB4.out).mono ?_
    rintro e w5 ⟨vL, rfl, hoL, hb5⟩
    obtain ⟨aL, cL, rfl, hrL, hcL, hmL⟩ := hoL.rd
    have HB5 := hid (below_trans HB4.out hb5)
    have HS5 := hid (HS4.out.below hb5)
    have HL5 := hid hrL
    have HNS := hid (show way l false = way l false from rfl)
    clear hb5 HB4 HS4 hoL hrL PS PN PW
    by_cases hw : wn = 1
    · have hw1 : (wn == 1) = true := by simpa using hw
      have PSM : Hid (Calls Try.prog 9 #[.slice aS (way l false).length cS, .slice aL (way l true).length cL] w5 fun e w' => e = .returned (.bool true) ∧ Below w5.heap.size w5 w') := hid (by
        have hlen : (way l true).length = (way l false).length := by rw [HSM.out hw]
        rw [hlen]
        exact same_calls aS aL (way l false) cS cL w5 HS5.out (by rw [HSM.out hw]; exact HL5.out) (by omega))
      clear hw
      go_wp2_with fail
      refine PSM.out.mono ?_
      rintro e w6 ⟨rfl, hb6⟩
      have HS5 := hid (HS5.out.below hb6)
      have HL5 := hid (HL5.out.below hb6)
      have HB5 := hid (below_trans HB5.out hb6)
      clear hb6 PSM
      revert HS5 HL5 HB5
      generalize w6 = w5
      intro HS5 HL5 HB5
      go_wp2_with fail
      have HB6 := hid (below_trans HB5.out (bel_a1 w5 (.cells #[.slice aS (way l false).length cS, .slice aL (way l true).length cL] 28)))
      have HS6 := hid (HS5.out.below (bel_a1 w5 (.cells #[.slice aS (way l false).length cS, .slice aL (way l true).length cL] 28)))
      have HL6 := hid (HL5.out.below (bel_a1 w5 (.cells #[.slice aS (way l false).length cS, .slice aL (way l true).length cL] 28)))
      have hbt : Blk (w5.alloc (.cells #[.slice aS (way l false).length cS, .slice aL (way l true).length cL] 28)) w5.heap.size #[.slice aS (way l false).length cS, .slice aL (way l true).length cL] 28 := Blk.new _ _ _
      have HBT := hid hbt
      clear hbt HB5 HS5 HL5
      generalize (w5.alloc (.cells #[.slice aS (way l false).length cS, .slice aL (way l true).length cL] 28)) = W6 at *
      generalize w5.heap.size = bt at *
      go_loopw [76] (fun v wr => ∃ o : Nat, o ≤ 2 ∧ v = .int .i64 o ∧ Below W6.heap.size W6 wr) (fun v _ => 2 - (intOf v).toNat)
      case atStart => exact ⟨0, by omega, rfl, Below.refl _ _⟩
      case round =>
        obtain ⟨o, ho, rfl, hbo⟩ := hrel
        have HBO := hid hbo
        have hc0 := (HBT.out.below hbo).cell 0 _ rfl
        have hc1 := (HBT.out.below hbo).cell 1 _ rfl
        clear hbo
        obtain rfl | rfl | rfl : o = 0 ∨ o = 1 ∨ o = 2 := by omega
        · skip
          go_wp2_with fail
          go_loopw [82] (fun v wr => ∃ i : Nat, i ≤ (way l false).length ∧ v = .int .i64 i ∧ Below W6.heap.size W6 wr) (fun v _ => (way l false).length - (intOf v).toNat)
          case atStart => exact ⟨0, Nat.zero_le _, rfl, HBO.out⟩
          case round =>
            obtain ⟨i, hi, rfl, hbi⟩ := hrel
            have HBI := hid hbi
            clear hbi
            by_cases hlt : i < (way l false).length
            · obtain ⟨q, hat⟩ := HAT.out false i hlt
              obtain ⟨hv, hql, hqA, hq0, hnx1, hnx2⟩ := hat
              have HRX := hid (HS6.out.below HBI.out)
              obtain ⟨xb, xo, hxe, hci⟩ := HRX.out.cell i hlt
              rw [hv] at hci
              have HX := hid hxe
              subst hxe
              have i1 : (0 : Int) ≤ (i : Int) := Int.natCast_nonneg _
              have i2 : (i : Int) < ((way l false).length : Int) := by omega
              have HMEM := hid (HON.out q hql hqA _ hnx1)
              have PON := hid (fun W (h : Below w.heap.size w W) => On_at2 a l cap q q N W (HR.out W h) rfl HN.out hql (by rw [HN.out]; omega))
              rw [HN.out] at hql
              have hq1 : ((q : Int) < (N : Int)) := by omega
              have hq2 : decide ((N : Int) ≤ (q : Int)) = false := by simp; omega
              have HQ := hid hq0
              have PWAY := hid hnx1
              have PLT := hid hnx2
              clear hnx1 hnx2 hq0 hv hqA HAT
              by_cases hl : i + 1 < (way l false).length
              · have hd2 : decide ((i : Int) + 1 < ((way l false).length : Int)) = true := by simp; omega
                obtain ⟨xb2, xo2, hxe2, hc2⟩ := HRX.out.cell (i + 1) hl
                injection hxe2 with hxe3
                injection hxe3 with hx1 hx2
                subst hx1 hx2
                generalize hnv : (way l false).getD (i + 1) 0 = nv at hc2
                have HNXM : Hid (nv ∈ onI l.length q l[q]) := hid (by have := HMEM.out; rw [if_pos hl, hnv] at this; exact this)
                have hlt2 : decide (nv ≤ (q : Int)) = false := by have := PLT.out; rw [if_pos hl, hnv] at this; simp; omega
                have i3 : (0 : Int) ≤ (i : Int) + 1 := by omega
                have i4 : (i : Int) + 1 < ((way l false).length : Int) := by omega
                clear hnv HMEM PLT PWAY
                by_cases hz : i = 0
                · have hb0 : ((i : Int) == 0) = true := by simp [hz]
                  have hq4 : ((q : Int) != 0) = false := by rw [HQ.out hz]; rfl
                  clear HQ hz
                  go_wp2_with fail
                  refine (PON.out _ (below_trans HB6.out HBI.out)).mono ?_
                  rintro e w7 ⟨ob, oc, rfl, hro, hoc, hoc2, hb7⟩
                  have HB7 := hid (below_trans HBI.out hb7)
                  have HRO := hid hro
                  obtain ⟨Lo, hLo⟩ : ∃ Lo, onI l.length q l[q] = Lo := ⟨_, rfl⟩
                  rw [hLo] at HNXM HRO hoc ⊢
                  clear hLo PON HBI hb7 hro hb0 HRX hci hd2
                  go_wp2_with fail
                  go_loopw [17, 115] (fun m v wr => ∃ z : Nat, z ≤ Lo.length ∧ v = .int .i64 z ∧ m = .bool (metB Lo z nv) ∧ Below w7.heap.size w7 wr) (fun _ v _ => Lo.length - (intOf v).toNat)
                  case atStart => exact ⟨0, Nat.zero_le _, rfl, rfl, Below.refl _ _⟩
                  case round =>
                    obtain ⟨z, hz, rfl, rfl, hbz⟩ := hrel
                    have HBZ := hid hbz
                    by_cases hzl : z < Lo.length
                    · obtain ⟨xo1, xo2, hxe2, hcz⟩ := (HRO.out.below hbz).cell z hzl
                      injection hxe2 with hxe3
                      injection hxe3 with hx1 hx2
                      subst hx1 hx2
                      rw [Nat.zero_add] at hcz
                      have j1 : (0 : Int) ≤ (z : Int) := Int.natCast_nonneg _
                      have j2 : (z : Int) < (Lo.length : Int) := by omega
                      have HSN := hid (metB_snoc Lo z nv hzl)
                      generalize Lo.getD z 0 = cz at hcz HSN
                      generalize metB Lo z nv = mb at HSN ⊢
                      clear hbz hz
                      cases mb with
                      | true =>
                        go_wp2_with fail
                        go_roundw
                        case rel => exact ⟨z + 1, by omega, by first | go_num | simp [goInt], by rw [HSN.out]; rfl, HBZ.out⟩
                        case measure => first | (simp [intOf]; done) | (simp [intOf]; omega)
                      | false =>
                        go_wp2_with fail
                        go_roundw
                        case rel => exact ⟨z + 1, by omega, by first | go_num | simp [goInt], by rw [HSN.out]; rfl, HBZ.out⟩
                        case measure => first | (simp [intOf]; done) | (simp [intOf]; omega)
                    · obtain rfl : z = Lo.length := by omega
                      have hmt := metB_full Lo nv HNXM.out
                      generalize metB Lo Lo.length nv = mb at hmt ⊢
                      subst hmt
                      have hd : decide ((Lo.length : Int) < (Lo.length : Int)) = false := by simp
                      clear hbz hz
                      go_wp2_with fail
                      refine ⟨?_, ?_⟩
                      · repeat apply Exists.intro
                        refine ⟨?_, rfl⟩
                        exact ⟨i + 1, by omega, by first | go_num | simp [goInt], below_trans HB7.out HBZ.out⟩
                      · first | (simp [intOf]; done) | (simp [intOf]; omega)
                · have hb0 : ((i : Int) == 0) = false := by simpa using hz
                  clear HQ hz
                  go_wp2_with fail
                  refine (PON.out _ (below_trans HB6.out HBI.out)).mono ?_
                  rintro e w7 ⟨ob, oc, rfl, hro, hoc, hoc2, hb7⟩
                  have HB7 := hid (below_trans HBI.out hb7)
                  have HRO := hid hro
                  obtain ⟨Lo, hLo⟩ : ∃ Lo, onI l.length q l[q] = Lo := ⟨_, rfl⟩
                  rw [hLo] at HNXM HRO hoc ⊢
                  clear hLo PON HBI hb7 hro hb0 HRX hci hd2
                  go_wp2_with fail
                  go_loopw [17, 115] (fun m v wr => ∃ z : Nat, z ≤ Lo.length ∧ v = .int .i64 z ∧ m = .bool (metB Lo z nv) ∧ Below w7.heap.size w7 wr) (fun _ v _ => Lo.length - (intOf v).toNat)
                  case atStart => exact ⟨0, Nat.zero_le _, rfl, rfl, Below.refl _ _⟩
                  case round =>
                    obtain ⟨z, hz, rfl, rfl, hbz⟩ := hrel
                    have HBZ := hid hbz
                    by_cases hzl : z < Lo.length
                    · obtain ⟨xo1, xo2, hxe2, hcz⟩ := (HRO.out.below hbz).cell z hzl
                      injection hxe2 with hxe3
                      injection hxe3 with hx1 hx2
                      subst hx1 hx2
                      rw [Nat.zero_add] at hcz
                      have j1 : (0 : Int) ≤ (z : Int) := Int.natCast_nonneg _
                      have j2 : (z : Int) < (Lo.length : Int) := by omega
                      have HSN := hid (metB_snoc Lo z nv hzl)
                      generalize Lo.getD z 0 = cz at hcz HSN
                      generalize metB Lo z nv = mb at HSN ⊢
                      clear hbz hz
                      cases mb with
                      | true =>
                        go_wp2_with fail
                        go_roundw
                        case rel => exact ⟨z + 1, by omega, by first | go_num | simp [goInt], by rw [HSN.out]; rfl, HBZ.out⟩
                        case measure => first | (simp [intOf]; done) | (simp [intOf]; omega)
                      | false =>
                        go_wp2_with fail
                        go_roundw
                        case rel => exact ⟨z + 1, by omega, by first | go_num | simp [goInt], by rw [HSN.out]; rfl, HBZ.out⟩
                        case measure => first | (simp [intOf]; done) | (simp [intOf]; omega)
                    · obtain rfl : z = Lo.length := by omega
                      have hmt := metB_full Lo nv HNXM.out
                      generalize metB Lo Lo.length nv = mb at hmt ⊢
                      subst hmt
                      have hd : decide ((Lo.length : Int) < (Lo.length : Int)) = false := by simp
                      clear hbz hz
                      go_wp2_with fail
                      refine ⟨?_, ?_⟩
                      · repeat apply Exists.intro
                        refine ⟨?_, rfl⟩
                        exact ⟨i + 1, by omega, by first | go_num | simp [goInt], below_trans HB7.out HBZ.out⟩
                      · first | (simp [intOf]; done) | (simp [intOf]; omega)
              · have hd2 : decide ((i : Int) + 1 < ((way l false).length : Int)) = false := by simp; omega
                have HNXM : Hid ((N : Int) ∈ onI l.length q l[q]) := hid (by have := HMEM.out; rw [if_neg hl, HN.out] at this; rw [HN.out]; exact this)
                have hlt2 : decide ((N : Int) ≤ (q : Int)) = false := by simp; omega
                obtain ⟨nv, hnv⟩ : ∃ nv : Int, nv = N := ⟨_, rfl⟩
                clear HMEM PLT PWAY
                by_cases hz : i = 0
                · have hb0 : ((i : Int) == 0) = true := by simp [hz]
                  have hq4 : ((q : Int) != 0) = false := by rw [HQ.out hz]; rfl
                  clear HQ hz
                  go_wp2_with fail
                  refine (PON.out _ (below_trans HB6.out HBI.out)).mono ?_
                  rintro e w7 ⟨ob, oc, rfl, hro, hoc, hoc2, hb7⟩
                  have HB7 := hid (below_trans HBI.out hb7)
                  have HRO := hid hro
                  obtain ⟨Lo, hLo⟩ : ∃ Lo, onI l.length q l[q] = Lo := ⟨_, rfl⟩
                  rw [hLo] at HNXM HRO hoc ⊢
                  clear hLo PON HBI hb7 hro hb0 HRX hci hd2
                  go_wp2_with fail
                  go_loopw [17, 115] (fun m v wr => ∃ z : Nat, z ≤ Lo.length ∧ v = .int .i64 z ∧ m = .bool (metB Lo z (N : Int)) ∧ Below w7.heap.size w7 wr) (fun _ v _ => Lo.length - (intOf v).toNat)
                  case atStart => exact ⟨0, Nat.zero_le _, rfl, rfl, Below.refl _ _⟩
                  case round =>
                    obtain ⟨z, hz, rfl, rfl, hbz⟩ := hrel
                    have HBZ := hid hbz
                    by_cases hzl : z < Lo.length
                    · obtain ⟨xo1, xo2, hxe2, hcz⟩ := (HRO.out.below hbz).cell z hzl
                      injection hxe2 with hxe3
                      injection hxe3 with hx1 hx2
                      subst hx1 hx2
                      rw [Nat.zero_add] at hcz
                      have j1 : (0 : Int) ≤ (z : Int) := Int.natCast_nonneg _
                      have j2 : (z : Int) < (Lo.length : Int) := by omega
                      have HSN := hid (metB_snoc Lo z (N : Int) hzl)
                      generalize Lo.getD z 0 = cz at hcz HSN
                      generalize metB Lo z (N : Int) = mb at HSN ⊢
                      clear hbz hz
                      cases mb with
                      | true =>
                        go_wp2_with fail
                        go_roundw
                        case rel => exact ⟨z + 1, by omega, by first | go_num | simp [goInt], by rw [HSN.out]; rfl, HBZ.out⟩
                        case measure => first | (simp [intOf]; done) | (simp [intOf]; omega)
                      | false =>
                        go_wp2_with fail
                        go_roundw
                        case rel => exact ⟨z + 1, by omega, by first | go_num | simp [goInt], by rw [HSN.out]; rfl, HBZ.out⟩
                        case measure => first | (simp [intOf]; done) | (simp [intOf]; omega)
                    · obtain rfl : z = Lo.length := by omega
                      have hmt := metB_full Lo (N : Int) HNXM.out
                      generalize metB Lo Lo.length (N : Int) = mb at hmt ⊢
                      subst hmt
                      have hd : decide ((Lo.length : Int) < (Lo.length : Int)) = false := by simp
                      clear hbz hz
                      go_wp2_with fail
                      refine ⟨?_, ?_⟩
                      · repeat apply Exists.intro
                        refine ⟨?_, rfl⟩
                        exact ⟨i + 1, by omega, by first | go_num | simp [goInt], below_trans HB7.out HBZ.out⟩
                      · first | (simp [intOf]; done) | (simp [intOf]; omega)
                · have hb0 : ((i : Int) == 0) = false := by simpa using hz
                  clear HQ hz
                  go_wp2_with fail
                  refine (PON.out _ (below_trans HB6.out HBI.out)).mono ?_
                  rintro e w7 ⟨ob, oc, rfl, hro, hoc, hoc2, hb7⟩
                  have HB7 := hid (below_trans HBI.out hb7)
                  have HRO := hid hro
                  obtain ⟨Lo, hLo⟩ : ∃ Lo, onI l.length q l[q] = Lo := ⟨_, rfl⟩
                  rw [hLo] at HNXM HRO hoc ⊢
                  clear hLo PON HBI hb7 hro hb0 HRX hci hd2
                  go_wp2_with fail
                  go_loopw [17, 115] (fun m v wr => ∃ z : Nat, z ≤ Lo.length ∧ v = .int .i64 z ∧ m = .bool (metB Lo z (N : Int)) ∧ Below w7.heap.size w7 wr) (fun _ v _ => Lo.length - (intOf v).toNat)
                  case atStart => exact ⟨0, Nat.zero_le _, rfl, rfl, Below.refl _ _⟩
                  case round =>
                    obtain ⟨z, hz, rfl, rfl, hbz⟩ := hrel
                    have HBZ := hid hbz
                    by_cases hzl : z < Lo.length
                    · obtain ⟨xo1, xo2, hxe2, hcz⟩ := (HRO.out.below hbz).cell z hzl
                      injection hxe2 with hxe3
                      injection hxe3 with hx1 hx2
                      subst hx1 hx2
                      rw [Nat.zero_add] at hcz
                      have j1 : (0 : Int) ≤ (z : Int) := Int.natCast_nonneg _
                      have j2 : (z : Int) < (Lo.length : Int) := by omega
                      have HSN := hid (metB_snoc Lo z (N : Int) hzl)
                      generalize Lo.getD z 0 = cz at hcz HSN
                      generalize metB Lo z (N : Int) = mb at HSN ⊢
                      clear hbz hz
                      cases mb with
                      | true =>
                        go_wp2_with fail
                        go_roundw
                        case rel => exact ⟨z + 1, by omega, by first | go_num | simp [goInt], by rw [HSN.out]; rfl, HBZ.out⟩
                        case measure => first | (simp [intOf]; done) | (simp [intOf]; omega)
                      | false =>
                        go_wp2_with fail
                        go_roundw
                        case rel => exact ⟨z + 1, by omega, by first | go_num | simp [goInt], by rw [HSN.out]; rfl, HBZ.out⟩
                        case measure => first | (simp [intOf]; done) | (simp [intOf]; omega)
                    · obtain rfl : z = Lo.length := by omega
                      have hmt := metB_full Lo (N : Int) HNXM.out
                      generalize metB Lo Lo.length (N : Int) = mb at hmt ⊢
                      subst hmt
                      have hd : decide ((Lo.length : Int) < (Lo.length : Int)) = false := by simp
                      clear hbz hz
                      go_wp2_with fail
                      refine ⟨?_, ?_⟩
                      · repeat apply Exists.intro
                        refine ⟨?_, rfl⟩
                        exact ⟨i + 1, by omega, by first | go_num | simp [goInt], below_trans HB7.out HBZ.out⟩
                      · first | (simp [intOf]; done) | (simp [intOf]; omega)
            · obtain rfl : i = (way l false).length := by omega
              have hd : decide (((way l false).length : Int) < ((way l false).length : Int)) = false := by simp
              go_wp2_with fail
              go_roundw
              case rel => exact ⟨0 + 1, by omega, by first | rfl | go_num | simp [goInt], HBI.out⟩
              case measure => first | (simp [intOf]; done) | (simp [intOf]; omega)
        · skip
          go_wp2_with fail
          go_loopw [82] (fun v wr => ∃ i : Nat, i ≤ (way l true).length ∧ v = .int .i64 i ∧ Below W6.heap.size W6 wr) (fun v _ => (way l true).length - (intOf v).toNat)
          case atStart => exact ⟨0, Nat.zero_le _, rfl, HBO.out⟩
          case round =>
            obtain ⟨i, hi, rfl, hbi⟩ := hrel
            have HBI := hid hbi
            clear hbi
            by_cases hlt : i < (way l true).length
            · obtain ⟨q, hat⟩ := HAT.out true i hlt
              obtain ⟨hv, hql, hqA, hq0, hnx1, hnx2⟩ := hat
              have HRX := hid (HL6.out.below HBI.out)
              obtain ⟨xb, xo, hxe, hci⟩ := HRX.out.cell i hlt
              rw [hv] at hci
              have HX := hid hxe
              subst hxe
              have i1 : (0 : Int) ≤ (i : Int) := Int.natCast_nonneg _
              have i2 : (i : Int) < ((way l true).length : Int) := by omega
              have HMEM := hid (HON.out q hql hqA _ hnx1)
              have PON := hid (fun W (h : Below w.heap.size w W) => On_at2 a l cap q q N W (HR.out W h) rfl HN.out hql (by rw [HN.out]; omega))
              rw [HN.out] at hql
              have hq1 : ((q : Int) < (N : Int)) := by omega
              have hq2 : decide ((N : Int) ≤ (q : Int)) = false := by simp; omega
              have HQ := hid hq0
              have PWAY := hid hnx1
              have PLT := hid hnx2
              clear hnx1 hnx2 hq0 hv hqA HAT
              by_cases hl : i + 1 < (way l true).length
              · have hd2 : decide ((i : Int) + 1 < ((way l true).length : Int)) = true := by simp; omega
                obtain ⟨xb2, xo2, hxe2, hc2⟩ := HRX.out.cell (i + 1) hl
                injection hxe2 with hxe3
                injection hxe3 with hx1 hx2
                subst hx1 hx2
                generalize hnv : (way l true).getD (i + 1) 0 = nv at hc2
                have HNXM : Hid (nv ∈ onI l.length q l[q]) := hid (by have := HMEM.out; rw [if_pos hl, hnv] at this; exact this)
                have hlt2 : decide (nv ≤ (q : Int)) = false := by have := PLT.out; rw [if_pos hl, hnv] at this; simp; omega
                have i3 : (0 : Int) ≤ (i : Int) + 1 := by omega
                have i4 : (i : Int) + 1 < ((way l true).length : Int) := by omega
                clear hnv HMEM PLT PWAY
                by_cases hz : i = 0
                · have hb0 : ((i : Int) == 0) = true := by simp [hz]
                  have hq4 : ((q : Int) != 0) = false := by rw [HQ.out hz]; rfl
                  clear HQ hz
                  go_wp2_with fail
                  refine (PON.out _ (below_trans HB6.out HBI.out)).mono ?_
                  rintro e w7 ⟨ob, oc, rfl, hro, hoc, hoc2, hb7⟩
                  have HB7 := hid (below_trans HBI.out hb7)
                  have HRO := hid hro
                  obtain ⟨Lo, hLo⟩ : ∃ Lo, onI l.length q l[q] = Lo := ⟨_, rfl⟩
                  rw [hLo] at HNXM HRO hoc ⊢
                  clear hLo PON HBI hb7 hro hb0 HRX hci hd2
                  go_wp2_with fail
                  go_loopw [17, 115] (fun m v wr => ∃ z : Nat, z ≤ Lo.length ∧ v = .int .i64 z ∧ m = .bool (metB Lo z nv) ∧ Below w7.heap.size w7 wr) (fun _ v _ => Lo.length - (intOf v).toNat)
                  case atStart => exact ⟨0, Nat.zero_le _, rfl, rfl, Below.refl _ _⟩
                  case round =>
                    obtain ⟨z, hz, rfl, rfl, hbz⟩ := hrel
                    have HBZ := hid hbz
                    by_cases hzl : z < Lo.length
                    · obtain ⟨xo1, xo2, hxe2, hcz⟩ := (HRO.out.below hbz).cell z hzl
                      injection hxe2 with hxe3
                      injection hxe3 with hx1 hx2
                      subst hx1 hx2
                      rw [Nat.zero_add] at hcz
                      have j1 : (0 : Int) ≤ (z : Int) := Int.natCast_nonneg _
                      have j2 : (z : Int) < (Lo.length : Int) := by omega
                      have HSN := hid (metB_snoc Lo z nv hzl)
                      generalize Lo.getD z 0 = cz at hcz HSN
                      generalize metB Lo z nv = mb at HSN ⊢
                      clear hbz hz
                      cases mb with
                      | true =>
                        go_wp2_with fail
                        go_roundw
                        case rel => exact ⟨z + 1, by omega, by first | go_num | simp [goInt], by rw [HSN.out]; rfl, HBZ.out⟩
                        case measure => first | (simp [intOf]; done) | (simp [intOf]; omega)
                      | false =>
                        go_wp2_with fail
                        go_roundw
                        case rel => exact ⟨z + 1, by omega, by first | go_num | simp [goInt], by rw [HSN.out]; rfl, HBZ.out⟩
                        case measure => first | (simp [intOf]; done) | (simp [intOf]; omega)
                    · obtain rfl : z = Lo.length := by omega
                      have hmt := metB_full Lo nv HNXM.out
                      generalize metB Lo Lo.length nv = mb at hmt ⊢
                      subst hmt
                      have hd : decide ((Lo.length : Int) < (Lo.length : Int)) = false := by simp
                      clear hbz hz
                      go_wp2_with fail
                      refine ⟨?_, ?_⟩
                      · repeat apply Exists.intro
                        refine ⟨?_, rfl⟩
                        exact ⟨i + 1, by omega, by first | go_num | simp [goInt], below_trans HB7.out HBZ.out⟩
                      · first | (simp [intOf]; done) | (simp [intOf]; omega)
                · have hb0 : ((i : Int) == 0) = false := by simpa using hz
                  clear HQ hz
                  go_wp2_with fail
                  refine (PON.out _ (below_trans HB6.out HBI.out)).mono ?_
                  rintro e w7 ⟨ob, oc, rfl, hro, hoc, hoc2, hb7⟩
                  have HB7 := hid (below_trans HBI.out hb7)
                  have HRO := hid hro
                  obtain ⟨Lo, hLo⟩ : ∃ Lo, onI l.length q l[q] = Lo := ⟨_, rfl⟩
                  rw [hLo] at HNXM HRO hoc ⊢
                  clear hLo PON HBI hb7 hro hb0 HRX hci hd2
                  go_wp2_with fail
                  go_loopw [17, 115] (fun m v wr => ∃ z : Nat, z ≤ Lo.length ∧ v = .int .i64 z ∧ m = .bool (metB Lo z nv) ∧ Below w7.heap.size w7 wr) (fun _ v _ => Lo.length - (intOf v).toNat)
                  case atStart => exact ⟨0, Nat.zero_le _, rfl, rfl, Below.refl _ _⟩
                  case round =>
                    obtain ⟨z, hz, rfl, rfl, hbz⟩ := hrel
                    have HBZ := hid hbz
                    by_cases hzl : z < Lo.length
                    · obtain ⟨xo1, xo2, hxe2, hcz⟩ := (HRO.out.below hbz).cell z hzl
                      injection hxe2 with hxe3
                      injection hxe3 with hx1 hx2
                      subst hx1 hx2
                      rw [Nat.zero_add] at hcz
                      have j1 : (0 : Int) ≤ (z : Int) := Int.natCast_nonneg _
                      have j2 : (z : Int) < (Lo.length : Int) := by omega
                      have HSN := hid (metB_snoc Lo z nv hzl)
                      generalize Lo.getD z 0 = cz at hcz HSN
                      generalize metB Lo z nv = mb at HSN ⊢
                      clear hbz hz
                      cases mb with
                      | true =>
                        go_wp2_with fail
                        go_roundw
                        case rel => exact ⟨z + 1, by omega, by first | go_num | simp [goInt], by rw [HSN.out]; rfl, HBZ.out⟩
                        case measure => first | (simp [intOf]; done) | (simp [intOf]; omega)
                      | false =>
                        go_wp2_with fail
                        go_roundw
                        case rel => exact ⟨z + 1, by omega, by first | go_num | simp [goInt], by rw [HSN.out]; rfl, HBZ.out⟩
                        case measure => first | (simp [intOf]; done) | (simp [intOf]; omega)
                    · obtain rfl : z = Lo.length := by omega
                      have hmt := metB_full Lo nv HNXM.out
                      generalize metB Lo Lo.length nv = mb at hmt ⊢
                      subst hmt
                      have hd : decide ((Lo.length : Int) < (Lo.length : Int)) = false := by simp
                      clear hbz hz
                      go_wp2_with fail
                      refine ⟨?_, ?_⟩
                      · repeat apply Exists.intro
                        refine ⟨?_, rfl⟩
                        exact ⟨i + 1, by omega, by first | go_num | simp [goInt], below_trans HB7.out HBZ.out⟩
                      · first | (simp [intOf]; done) | (simp [intOf]; omega)
              · have hd2 : decide ((i : Int) + 1 < ((way l true).length : Int)) = false := by simp; omega
                have HNXM : Hid ((N : Int) ∈ onI l.length q l[q]) := hid (by have := HMEM.out; rw [if_neg hl, HN.out] at this; rw [HN.out]; exact this)
                have hlt2 : decide ((N : Int) ≤ (q : Int)) = false := by simp; omega
                obtain ⟨nv, hnv⟩ : ∃ nv : Int, nv = N := ⟨_, rfl⟩
                clear HMEM PLT PWAY
                by_cases hz : i = 0
                · have hb0 : ((i : Int) == 0) = true := by simp [hz]
                  have hq4 : ((q : Int) != 0) = false := by rw [HQ.out hz]; rfl
                  clear HQ hz
                  go_wp2_with fail
                  refine (PON.out _ (below_trans HB6.out HBI.out)).mono ?_
                  rintro e w7 ⟨ob, oc, rfl, hro, hoc, hoc2, hb7⟩
                  have HB7 := hid (below_trans HBI.out hb7)
                  have HRO := hid hro
                  obtain ⟨Lo, hLo⟩ : ∃ Lo, onI l.length q l[q] = Lo := ⟨_, rfl⟩
                  rw [hLo] at HNXM HRO hoc ⊢
                  clear hLo PON HBI hb7 hro hb0 HRX hci hd2
                  go_wp2_with fail
                  go_loopw [17, 115] (fun m v wr => ∃ z : Nat, z ≤ Lo.length ∧ v = .int .i64 z ∧ m = .bool (metB Lo z (N : Int)) ∧ Below w7.heap.size w7 wr) (fun _ v _ => Lo.length - (intOf v).toNat)
                  case atStart => exact ⟨0, Nat.zero_le _, rfl, rfl, Below.refl _ _⟩
                  case round =>
                    obtain ⟨z, hz, rfl, rfl, hbz⟩ := hrel
                    have HBZ := hid hbz
                    by_cases hzl : z < Lo.length
                    · obtain ⟨xo1, xo2, hxe2, hcz⟩ := (HRO.out.below hbz).cell z hzl
                      injection hxe2 with hxe3
                      injection hxe3 with hx1 hx2
                      subst hx1 hx2
                      rw [Nat.zero_add] at hcz
                      have j1 : (0 : Int) ≤ (z : Int) := Int.natCast_nonneg _
                      have j2 : (z : Int) < (Lo.length : Int) := by omega
                      have HSN := hid (metB_snoc Lo z (N : Int) hzl)
                      generalize Lo.getD z 0 = cz at hcz HSN
                      generalize metB Lo z (N : Int) = mb at HSN ⊢
                      clear hbz hz
                      cases mb with
                      | true =>
                        go_wp2_with fail
                        go_roundw
                        case rel => exact ⟨z + 1, by omega, by first | go_num | simp [goInt], by rw [HSN.out]; rfl, HBZ.out⟩
                        case measure => first | (simp [intOf]; done) | (simp [intOf]; omega)
                      | false =>
                        go_wp2_with fail
                        go_roundw
                        case rel => exact ⟨z + 1, by omega, by first | go_num | simp [goInt], by rw [HSN.out]; rfl, HBZ.out⟩
                        case measure => first | (simp [intOf]; done) | (simp [intOf]; omega)
                    · obtain rfl : z = Lo.length := by omega
                      have hmt := metB_full Lo (N : Int) HNXM.out
                      generalize metB Lo Lo.length (N : Int) = mb at hmt ⊢
                      subst hmt
                      have hd : decide ((Lo.length : Int) < (Lo.length : Int)) = false := by simp
                      clear hbz hz
                      go_wp2_with fail
                      refine ⟨?_, ?_⟩
                      · repeat apply Exists.intro
                        refine ⟨?_, rfl⟩
                        exact ⟨i + 1, by omega, by first | go_num | simp [goInt], below_trans HB7.out HBZ.out⟩
                      · first | (simp [intOf]; done) | (simp [intOf]; omega)
                · have hb0 : ((i : Int) == 0) = false := by simpa using hz
                  clear HQ hz
                  go_wp2_with fail
                  refine (PON.out _ (below_trans HB6.out HBI.out)).mono ?_
                  rintro e w7 ⟨ob, oc, rfl, hro, hoc, hoc2, hb7⟩
                  have HB7 := hid (below_trans HBI.out hb7)
                  have HRO := hid hro
                  obtain ⟨Lo, hLo⟩ : ∃ Lo, onI l.length q l[q] = Lo := ⟨_, rfl⟩
                  rw [hLo] at HNXM HRO hoc ⊢
                  clear hLo PON HBI hb7 hro hb0 HRX hci hd2
                  go_wp2_with fail
                  go_loopw [17, 115] (fun m v wr => ∃ z : Nat, z ≤ Lo.length ∧ v = .int .i64 z ∧ m = .bool (metB Lo z (N : Int)) ∧ Below w7.heap.size w7 wr) (fun _ v _ => Lo.length - (intOf v).toNat)
                  case atStart => exact ⟨0, Nat.zero_le _, rfl, rfl, Below.refl _ _⟩
                  case round =>
                    obtain ⟨z, hz, rfl, rfl, hbz⟩ := hrel
                    have HBZ := hid hbz
                    by_cases hzl : z < Lo.length
                    · obtain ⟨xo1, xo2, hxe2, hcz⟩ := (HRO.out.below hbz).cell z hzl
                      injection hxe2 with hxe3
                      injection hxe3 with hx1 hx2
                      subst hx1 hx2
                      rw [Nat.zero_add] at hcz
                      have j1 : (0 : Int) ≤ (z : Int) := Int.natCast_nonneg _
                      have j2 : (z : Int) < (Lo.length : Int) := by omega
                      have HSN := hid (metB_snoc Lo z (N : Int) hzl)
                      generalize Lo.getD z 0 = cz at hcz HSN
                      generalize metB Lo z (N : Int) = mb at HSN ⊢
                      clear hbz hz
                      cases mb with
                      | true =>
                        go_wp2_with fail
                        go_roundw
                        case rel => exact ⟨z + 1, by omega, by first | go_num | simp [goInt], by rw [HSN.out]; rfl, HBZ.out⟩
                        case measure => first | (simp [intOf]; done) | (simp [intOf]; omega)
                      | false =>
                        go_wp2_with fail
                        go_roundw
                        case rel => exact ⟨z + 1, by omega, by first | go_num | simp [goInt], by rw [HSN.out]; rfl, HBZ.out⟩
                        case measure => first | (simp [intOf]; done) | (simp [intOf]; omega)
                    · obtain rfl : z = Lo.length := by omega
                      have hmt := metB_full Lo (N : Int) HNXM.out
                      generalize metB Lo Lo.length (N : Int) = mb at hmt ⊢
                      subst hmt
                      have hd : decide ((Lo.length : Int) < (Lo.length : Int)) = false := by simp
                      clear hbz hz
                      go_wp2_with fail
                      refine ⟨?_, ?_⟩
                      · repeat apply Exists.intro
                        refine ⟨?_, rfl⟩
                        exact ⟨i + 1, by omega, by first | go_num | simp [goInt], below_trans HB7.out HBZ.out⟩
                      · first | (simp [intOf]; done) | (simp [intOf]; omega)
            · obtain rfl : i = (way l true).length := by omega
              have hd : decide (((way l true).length : Int) < ((way l true).length : Int)) = false := by simp
              go_wp2_with fail
              go_roundw
              case rel => exact ⟨1 + 1, by omega, by first | rfl | go_num | simp [goInt], HBI.out⟩
              case measure => first | (simp [intOf]; done) | (simp [intOf]; omega)
        · go_wp2_with fail
          go_ret
          exact ⟨rfl, below_trans HB6.out HBO.out⟩
    · have hw1 : (wn == 1) = false := by simpa using hw
      clear hw
      go_wp2_with fail
      have HB6 := hid (below_trans HB5.out (bel_a1 w5 (.cells #[.slice aS (way l false).length cS, .slice aL (way l true).length cL] 28)))
      have HS6 := hid (HS5.out.below (bel_a1 w5 (.cells #[.slice aS (way l false).length cS, .slice aL (way l true).length cL] 28)))
      have HL6 := hid (HL5.out.below (bel_a1 w5 (.cells #[.slice aS (way l false).length cS, .slice aL (way l true).length cL] 28)))
      have hbt : Blk (w5.alloc (.cells #[.slice aS (way l false).length cS, .slice aL (way l true).length cL] 28)) w5.heap.size #[.slice aS (way l false).length cS, .slice aL (way l true).length cL] 28 := Blk.new _ _ _
      have HBT := hid hbt
      clear hbt HB5 HS5 HL5
      generalize (w5.alloc (.cells #[.slice aS (way l false).length cS, .slice aL (way l true).length cL] 28)) = W6 at *
      generalize w5.heap.size = bt at *
      go_loopw [76] (fun v wr => ∃ o : Nat, o ≤ 2 ∧ v = .int .i64 o ∧ Below W6.heap.size W6 wr) (fun v _ => 2 - (intOf v).toNat)
      case atStart => exact ⟨0, by omega, rfl, Below.refl _ _⟩
      case round =>
        obtain ⟨o, ho, rfl, hbo⟩ := hrel
        have HBO := hid hbo
        have hc0 := (HBT.out.below hbo).cell 0 _ rfl
        have hc1 := (HBT.out.below hbo).cell 1 _ rfl
        clear hbo
        obtain rfl | rfl | rfl : o = 0 ∨ o = 1 ∨ o = 2 := by omega
        · skip
          go_wp2_with fail
          go_loopw [82] (fun v wr => ∃ i : Nat, i ≤ (way l false).length ∧ v = .int .i64 i ∧ Below W6.heap.size W6 wr) (fun v _ => (way l false).length - (intOf v).toNat)
          case atStart => exact ⟨0, Nat.zero_le _, rfl, HBO.out⟩
          case round =>
            obtain ⟨i, hi, rfl, hbi⟩ := hrel
            have HBI := hid hbi
            clear hbi
            by_cases hlt : i < (way l false).length
            · obtain ⟨q, hat⟩ := HAT.out false i hlt
              obtain ⟨hv, hql, hqA, hq0, hnx1, hnx2⟩ := hat
              have HRX := hid (HS6.out.below HBI.out)
              obtain ⟨xb, xo, hxe, hci⟩ := HRX.out.cell i hlt
              rw [hv] at hci
              have HX := hid hxe
              subst hxe
              have i1 : (0 : Int) ≤ (i : Int) := Int.natCast_nonneg _
              have i2 : (i : Int) < ((way l false).length : Int) := by omega
              have HMEM := hid (HON.out q hql hqA _ hnx1)
              have PON := hid (fun W (h : Below w.heap.size w W) => On_at2 a l cap q q N W (HR.out W h) rfl HN.out hql (by rw [HN.out]; omega))
              rw [HN.out] at hql
              have hq1 : ((q : Int) < (N : Int)) := by omega
              have hq2 : decide ((N : Int) ≤ (q : Int)) = false := by simp; omega
              have HQ := hid hq0
              have PWAY := hid hnx1
              have PLT := hid hnx2
              clear hnx1 hnx2 hq0 hv hqA HAT
              by_cases hl : i + 1 < (way l false).length
              · have hd2 : decide ((i : Int) + 1 < ((way l false).length : Int)) = true := by simp; omega
                obtain ⟨xb2, xo2, hxe2, hc2⟩ := HRX.out.cell (i + 1) hl
                injection hxe2 with hxe3
                injection hxe3 with hx1 hx2
                subst hx1 hx2
                generalize hnv : (way l false).getD (i + 1) 0 = nv at hc2
                have HNXM : Hid (nv ∈ onI l.length q l[q]) := hid (by have := HMEM.out; rw [if_pos hl, hnv] at this; exact this)
                have hlt2 : decide (nv ≤ (q : Int)) = false := by have := PLT.out; rw [if_pos hl, hnv] at this; simp; omega
                have i3 : (0 : Int) ≤ (i : Int) + 1 := by omega
                have i4 : (i : Int) + 1 < ((way l false).length : Int) := by omega
                clear hnv HMEM PLT PWAY
                by_cases hz : i = 0
                · have hb0 : ((i : Int) == 0) = true := by simp [hz]
                  have hq4 : ((q : Int) != 0) = false := by rw [HQ.out hz]; rfl
                  clear HQ hz
                  go_wp2_with fail
                  refine (PON.out _ (below_trans HB6.out HBI.out)).mono ?_
                  rintro e w7 ⟨ob, oc, rfl, hro, hoc, hoc2, hb7⟩
                  have HB7 := hid (below_trans HBI.out hb7)
                  have HRO := hid hro
                  obtain ⟨Lo, hLo⟩ : ∃ Lo, onI l.length q l[q] = Lo := ⟨_, rfl⟩
                  rw [hLo] at HNXM HRO hoc ⊢
                  clear hLo PON HBI hb7 hro hb0 HRX hci hd2
                  go_wp2_with fail
                  go_loopw [17, 115] (fun m v wr => ∃ z : Nat, z ≤ Lo.length ∧ v = .int .i64 z ∧ m = .bool (metB Lo z nv) ∧ Below w7.heap.size w7 wr) (fun _ v _ => Lo.length - (intOf v).toNat)
                  case atStart => exact ⟨0, Nat.zero_le _, rfl, rfl, Below.refl _ _⟩
                  case round =>
                    obtain ⟨z, hz, rfl, rfl, hbz⟩ := hrel
                    have HBZ := hid hbz
                    by_cases hzl : z < Lo.length
                    · obtain ⟨xo1, xo2, hxe2, hcz⟩ := (HRO.out.below hbz).cell z hzl
                      injection hxe2 with hxe3
                      injection hxe3 with hx1 hx2
                      subst hx1 hx2
                      rw [Nat.zero_add] at hcz
                      have j1 : (0 : Int) ≤ (z : Int) := Int.natCast_nonneg _
                      have j2 : (z : Int) < (Lo.length : Int) := by omega
                      have HSN := hid (metB_snoc Lo z nv hzl)
                      generalize Lo.getD z 0 = cz at hcz HSN
                      generalize metB Lo z nv = mb at HSN ⊢
                      clear hbz hz
                      cases mb with
                      | true =>
                        go_wp2_with fail
                        go_roundw
                        case rel => exact ⟨z + 1, by omega, by first | go_num | simp [goInt], by rw [HSN.out]; rfl, HBZ.out⟩
                        case measure => first | (simp [intOf]; done) | (simp [intOf]; omega)
                      | false =>
                        go_wp2_with fail
                        go_roundw
                        case rel => exact ⟨z + 1, by omega, by first | go_num | simp [goInt], by rw [HSN.out]; rfl, HBZ.out⟩
                        case measure => first | (simp [intOf]; done) | (simp [intOf]; omega)
                    · obtain rfl : z = Lo.length := by omega
                      have hmt := metB_full Lo nv HNXM.out
                      generalize metB Lo Lo.length nv = mb at hmt ⊢
                      subst hmt
                      have hd : decide ((Lo.length : Int) < (Lo.length : Int)) = false := by simp
                      clear hbz hz
                      go_wp2_with fail
                      refine ⟨?_, ?_⟩
                      · repeat apply Exists.intro
                        refine ⟨?_, rfl⟩
                        exact ⟨i + 1, by omega, by first | go_num | simp [goInt], below_trans HB7.out HBZ.out⟩
                      · first | (simp [intOf]; done) | (simp [intOf]; omega)
                · have hb0 : ((i : Int) == 0) = false := by simpa using hz
                  clear HQ hz
                  go_wp2_with fail
                  refine (PON.out _ (below_trans HB6.out HBI.out)).mono ?_
                  rintro e w7 ⟨ob, oc, rfl, hro, hoc, hoc2, hb7⟩
                  have HB7 := hid (below_trans HBI.out hb7)
                  have HRO := hid hro
                  obtain ⟨Lo, hLo⟩ : ∃ Lo, onI l.length q l[q] = Lo := ⟨_, rfl⟩
                  rw [hLo] at HNXM HRO hoc ⊢
                  clear hLo PON HBI hb7 hro hb0 HRX hci hd2
                  go_wp2_with fail
                  go_loopw [17, 115] (fun m v wr => ∃ z : Nat, z ≤ Lo.length ∧ v = .int .i64 z ∧ m = .bool (metB Lo z nv) ∧ Below w7.heap.size w7 wr) (fun _ v _ => Lo.length - (intOf v).toNat)
                  case atStart => exact ⟨0, Nat.zero_le _, rfl, rfl, Below.refl _ _⟩
                  case round =>
                    obtain ⟨z, hz, rfl, rfl, hbz⟩ := hrel
                    have HBZ := hid hbz
                    by_cases hzl : z < Lo.length
                    · obtain ⟨xo1, xo2, hxe2, hcz⟩ := (HRO.out.below hbz).cell z hzl
                      injection hxe2 with hxe3
                      injection hxe3 with hx1 hx2
                      subst hx1 hx2
                      rw [Nat.zero_add] at hcz
                      have j1 : (0 : Int) ≤ (z : Int) := Int.natCast_nonneg _
                      have j2 : (z : Int) < (Lo.length : Int) := by omega
                      have HSN := hid (metB_snoc Lo z nv hzl)
                      generalize Lo.getD z 0 = cz at hcz HSN
                      generalize metB Lo z nv = mb at HSN ⊢
                      clear hbz hz
                      cases mb with
                      | true =>
                        go_wp2_with fail
                        go_roundw
                        case rel => exact ⟨z + 1, by omega, by first | go_num | simp [goInt], by rw [HSN.out]; rfl, HBZ.out⟩
                        case measure => first | (simp [intOf]; done) | (simp [intOf]; omega)
                      | false =>
                        go_wp2_with fail
                        go_roundw
                        case rel => exact ⟨z + 1, by omega, by first | go_num | simp [goInt], by rw [HSN.out]; rfl, HBZ.out⟩
                        case measure => first | (simp [intOf]; done) | (simp [intOf]; omega)
                    · obtain rfl : z = Lo.length := by omega
                      have hmt := metB_full Lo nv HNXM.out
                      generalize metB Lo Lo.length nv = mb at hmt ⊢
                      subst hmt
                      have hd : decide ((Lo.length : Int) < (Lo.length : Int)) = false := by simp
                      clear hbz hz
                      go_wp2_with fail
                      refine ⟨?_, ?_⟩
                      · repeat apply Exists.intro
                        refine ⟨?_, rfl⟩
                        exact ⟨i + 1, by omega, by first | go_num | simp [goInt], below_trans HB7.out HBZ.out⟩
                      · first | (simp [intOf]; done) | (simp [intOf]; omega)
              · have hd2 : decide ((i : Int) + 1 < ((way l false).length : Int)) = false := by simp; omega
                have HNXM : Hid ((N : Int) ∈ onI l.length q l[q]) := hid (by have := HMEM.out; rw [if_neg hl, HN.out] at this; rw [HN.out]; exact this)
                have hlt2 : decide ((N : Int) ≤ (q : Int)) = false := by simp; omega
                obtain ⟨nv, hnv⟩ : ∃ nv : Int, nv = N := ⟨_, rfl⟩
                clear HMEM PLT PWAY
                by_cases hz : i = 0
                · have hb0 : ((i : Int) == 0) = true := by simp [hz]
                  have hq4 : ((q : Int) != 0) = false := by rw [HQ.out hz]; rfl
                  clear HQ hz
                  go_wp2_with fail
                  refine (PON.out _ (below_trans HB6.out HBI.out)).mono ?_
                  rintro e w7 ⟨ob, oc, rfl, hro, hoc, hoc2, hb7⟩
                  have HB7 := hid (below_trans HBI.out hb7)
                  have HRO := hid hro
                  obtain ⟨Lo, hLo⟩ : ∃ Lo, onI l.length q l[q] = Lo := ⟨_, rfl⟩
                  rw [hLo] at HNXM HRO hoc ⊢
                  clear hLo PON HBI hb7 hro hb0 HRX hci hd2
                  go_wp2_with fail
                  go_loopw [17, 115] (fun m v wr => ∃ z : Nat, z ≤ Lo.length ∧ v = .int .i64 z ∧ m = .bool (metB Lo z (N : Int)) ∧ Below w7.heap.size w7 wr) (fun _ v _ => Lo.length - (intOf v).toNat)
                  case atStart => exact ⟨0, Nat.zero_le _, rfl, rfl, Below.refl _ _⟩
                  case round =>
                    obtain ⟨z, hz, rfl, rfl, hbz⟩ := hrel
                    have HBZ := hid hbz
                    by_cases hzl : z < Lo.length
                    · obtain ⟨xo1, xo2, hxe2, hcz⟩ := (HRO.out.below hbz).cell z hzl
                      injection hxe2 with hxe3
                      injection hxe3 with hx1 hx2
                      subst hx1 hx2
                      rw [Nat.zero_add] at hcz
                      have j1 : (0 : Int) ≤ (z : Int) := Int.natCast_nonneg _
                      have j2 : (z : Int) < (Lo.length : Int) := by omega
                      have HSN := hid (metB_snoc Lo z (N : Int) hzl)
                      generalize Lo.getD z 0 = cz at hcz HSN
                      generalize metB Lo z (N : Int) = mb at HSN ⊢
                      clear hbz hz
                      cases mb with
                      | true =>
                        go_wp2_with fail
                        go_roundw
                        case rel => exact ⟨z + 1, by omega, by first | go_num | simp [goInt], by rw [HSN.out]; rfl, HBZ.out⟩
                        case measure => first | (simp [intOf]; done) | (simp [intOf]; omega)
                      | false =>
                        go_wp2_with fail
                        go_roundw
                        case rel => exact ⟨z + 1, by omega, by first | go_num | simp [goInt], by rw [HSN.out]; rfl, HBZ.out⟩
                        case measure => first | (simp [intOf]; done) | (simp [intOf]; omega)
                    · obtain rfl : z = Lo.length := by omega
                      have hmt := metB_full Lo (N : Int) HNXM.out
                      generalize metB Lo Lo.length (N : Int) = mb at hmt ⊢
                      subst hmt
                      have hd : decide ((Lo.length : Int) < (Lo.length : Int)) = false := by simp
                      clear hbz hz
                      go_wp2_with fail
                      refine ⟨?_, ?_⟩
                      · repeat apply Exists.intro
                        refine ⟨?_, rfl⟩
                        exact ⟨i + 1, by omega, by first | go_num | simp [goInt], below_trans HB7.out HBZ.out⟩
                      · first | (simp [intOf]; done) | (simp [intOf]; omega)
                · have hb0 : ((i : Int) == 0) = false := by simpa using hz
                  clear HQ hz
                  go_wp2_with fail
                  refine (PON.out _ (below_trans HB6.out HBI.out)).mono ?_
                  rintro e w7 ⟨ob, oc, rfl, hro, hoc, hoc2, hb7⟩
                  have HB7 := hid (below_trans HBI.out hb7)
                  have HRO := hid hro
                  obtain ⟨Lo, hLo⟩ : ∃ Lo, onI l.length q l[q] = Lo := ⟨_, rfl⟩
                  rw [hLo] at HNXM HRO hoc ⊢
                  clear hLo PON HBI hb7 hro hb0 HRX hci hd2
                  go_wp2_with fail
                  go_loopw [17, 115] (fun m v wr => ∃ z : Nat, z ≤ Lo.length ∧ v = .int .i64 z ∧ m = .bool (metB Lo z (N : Int)) ∧ Below w7.heap.size w7 wr) (fun _ v _ => Lo.length - (intOf v).toNat)
                  case atStart => exact ⟨0, Nat.zero_le _, rfl, rfl, Below.refl _ _⟩
                  case round =>
                    obtain ⟨z, hz, rfl, rfl, hbz⟩ := hrel
                    have HBZ := hid hbz
                    by_cases hzl : z < Lo.length
                    · obtain ⟨xo1, xo2, hxe2, hcz⟩ := (HRO.out.below hbz).cell z hzl
                      injection hxe2 with hxe3
                      injection hxe3 with hx1 hx2
                      subst hx1 hx2
                      rw [Nat.zero_add] at hcz
                      have j1 : (0 : Int) ≤ (z : Int) := Int.natCast_nonneg _
                      have j2 : (z : Int) < (Lo.length : Int) := by omega
                      have HSN := hid (metB_snoc Lo z (N : Int) hzl)
                      generalize Lo.getD z 0 = cz at hcz HSN
                      generalize metB Lo z (N : Int) = mb at HSN ⊢
                      clear hbz hz
                      cases mb with
                      | true =>
                        go_wp2_with fail
                        go_roundw
                        case rel => exact ⟨z + 1, by omega, by first | go_num | simp [goInt], by rw [HSN.out]; rfl, HBZ.out⟩
                        case measure => first | (simp [intOf]; done) | (simp [intOf]; omega)
                      | false =>
                        go_wp2_with fail
                        go_roundw
                        case rel => exact ⟨z + 1, by omega, by first | go_num | simp [goInt], by rw [HSN.out]; rfl, HBZ.out⟩
                        case measure => first | (simp [intOf]; done) | (simp [intOf]; omega)
                    · obtain rfl : z = Lo.length := by omega
                      have hmt := metB_full Lo (N : Int) HNXM.out
                      generalize metB Lo Lo.length (N : Int) = mb at hmt ⊢
                      subst hmt
                      have hd : decide ((Lo.length : Int) < (Lo.length : Int)) = false := by simp
                      clear hbz hz
                      go_wp2_with fail
                      refine ⟨?_, ?_⟩
                      · repeat apply Exists.intro
                        refine ⟨?_, rfl⟩
                        exact ⟨i + 1, by omega, by first | go_num | simp [goInt], below_trans HB7.out HBZ.out⟩
                      · first | (simp [intOf]; done) | (simp [intOf]; omega)
            · obtain rfl : i = (way l false).length := by omega
              have hd : decide (((way l false).length : Int) < ((way l false).length : Int)) = false := by simp
              go_wp2_with fail
              go_roundw
              case rel => exact ⟨0 + 1, by omega, by first | rfl | go_num | simp [goInt], HBI.out⟩
              case measure => first | (simp [intOf]; done) | (simp [intOf]; omega)
        · skip
          go_wp2_with fail
          go_loopw [82] (fun v wr => ∃ i : Nat, i ≤ (way l true).length ∧ v = .int .i64 i ∧ Below W6.heap.size W6 wr) (fun v _ => (way l true).length - (intOf v).toNat)
          case atStart => exact ⟨0, Nat.zero_le _, rfl, HBO.out⟩
          case round =>
            obtain ⟨i, hi, rfl, hbi⟩ := hrel
            have HBI := hid hbi
            clear hbi
            by_cases hlt : i < (way l true).length
            · obtain ⟨q, hat⟩ := HAT.out true i hlt
              obtain ⟨hv, hql, hqA, hq0, hnx1, hnx2⟩ := hat
              have HRX := hid (HL6.out.below HBI.out)
              obtain ⟨xb, xo, hxe, hci⟩ := HRX.out.cell i hlt
              rw [hv] at hci
              have HX := hid hxe
              subst hxe
              have i1 : (0 : Int) ≤ (i : Int) := Int.natCast_nonneg _
              have i2 : (i : Int) < ((way l true).length : Int) := by omega
              have HMEM := hid (HON.out q hql hqA _ hnx1)
              have PON := hid (fun W (h : Below w.heap.size w W) => On_at2 a l cap q q N W (HR.out W h) rfl HN.out hql (by rw [HN.out]; omega))
              rw [HN.out] at hql
              have hq1 : ((q : Int) < (N : Int)) := by omega
              have hq2 : decide ((N : Int) ≤ (q : Int)) = false := by simp; omega
              have HQ := hid hq0
              have PWAY := hid hnx1
              have PLT := hid hnx2
              clear hnx1 hnx2 hq0 hv hqA HAT
              by_cases hl : i + 1 < (way l true).length
              · have hd2 : decide ((i : Int) + 1 < ((way l true).length : Int)) = true := by simp; omega
                obtain ⟨xb2, xo2, hxe2, hc2⟩ := HRX.out.cell (i + 1) hl
                injection hxe2 with hxe3
                injection hxe3 with hx1 hx2
                subst hx1 hx2
                generalize hnv : (way l true).getD (i + 1) 0 = nv at hc2
                have HNXM : Hid (nv ∈ onI l.length q l[q]) := hid (by have := HMEM.out; rw [if_pos hl, hnv] at this; exact this)
                have hlt2 : decide (nv ≤ (q : Int)) = false := by have := PLT.out; rw [if_pos hl, hnv] at this; simp; omega
                have i3 : (0 : Int) ≤ (i : Int) + 1 := by omega
                have i4 : (i : Int) + 1 < ((way l true).length : Int) := by omega
                clear hnv HMEM PLT PWAY
                by_cases hz : i = 0
                · have hb0 : ((i : Int) == 0) = true := by simp [hz]
                  have hq4 : ((q : Int) != 0) = false := by rw [HQ.out hz]; rfl
                  clear HQ hz
                  go_wp2_with fail
                  refine (PON.out _ (below_trans HB6.out HBI.out)).mono ?_
                  rintro e w7 ⟨ob, oc, rfl, hro, hoc, hoc2, hb7⟩
                  have HB7 := hid (below_trans HBI.out hb7)
                  have HRO := hid hro
                  obtain ⟨Lo, hLo⟩ : ∃ Lo, onI l.length q l[q] = Lo := ⟨_, rfl⟩
                  rw [hLo] at HNXM HRO hoc ⊢
                  clear hLo PON HBI hb7 hro hb0 HRX hci hd2
                  go_wp2_with fail
                  go_loopw [17, 115] (fun m v wr => ∃ z : Nat, z ≤ Lo.length ∧ v = .int .i64 z ∧ m = .bool (metB Lo z nv) ∧ Below w7.heap.size w7 wr) (fun _ v _ => Lo.length - (intOf v).toNat)
                  case atStart => exact ⟨0, Nat.zero_le _, rfl, rfl, Below.refl _ _⟩
                  case round =>
                    obtain ⟨z, hz, rfl, rfl, hbz⟩ := hrel
                    have HBZ := hid hbz
                    by_cases hzl : z < Lo.length
                    · obtain ⟨xo1, xo2, hxe2, hcz⟩ := (HRO.out.below hbz).cell z hzl
                      injection hxe2 with hxe3
                      injection hxe3 with hx1 hx2
                      subst hx1 hx2
                      rw [Nat.zero_add] at hcz
                      have j1 : (0 : Int) ≤ (z : Int) := Int.natCast_nonneg _
                      have j2 : (z : Int) < (Lo.length : Int) := by omega
                      have HSN := hid (metB_snoc Lo z nv hzl)
                      generalize Lo.getD z 0 = cz at hcz HSN
                      generalize metB Lo z nv = mb at HSN ⊢
                      clear hbz hz
                      cases mb with
                      | true =>
                        go_wp2_with fail
                        go_roundw
                        case rel => exact ⟨z + 1, by omega, by first | go_num | simp [goInt], by rw [HSN.out]; rfl, HBZ.out⟩
                        case measure => first | (simp [intOf]; done) | (simp [intOf]; omega)
                      | false =>
                        go_wp2_with fail
                        go_roundw
                        case rel => exact ⟨z + 1, by omega, by first | go_num | simp [goInt], by rw [HSN.out]; rfl, HBZ.out⟩
                        case measure => first | (simp [intOf]; done) | (simp [intOf]; omega)
                    · obtain rfl : z = Lo.length := by omega
                      have hmt := metB_full Lo nv HNXM.out
                      generalize metB Lo Lo.length nv = mb at hmt ⊢
                      subst hmt
                      have hd : decide ((Lo.length : Int) < (Lo.length : Int)) = false := by simp
                      clear hbz hz
                      go_wp2_with fail
                      refine ⟨?_, ?_⟩
                      · repeat apply Exists.intro
                        refine ⟨?_, rfl⟩
                        exact ⟨i + 1, by omega, by first | go_num | simp [goInt], below_trans HB7.out HBZ.out⟩
                      · first | (simp [intOf]; done) | (simp [intOf]; omega)
                · have hb0 : ((i : Int) == 0) = false := by simpa using hz
                  clear HQ hz
                  go_wp2_with fail
                  refine (PON.out _ (below_trans HB6.out HBI.out)).mono ?_
                  rintro e w7 ⟨ob, oc, rfl, hro, hoc, hoc2, hb7⟩
                  have HB7 := hid (below_trans HBI.out hb7)
                  have HRO := hid hro
                  obtain ⟨Lo, hLo⟩ : ∃ Lo, onI l.length q l[q] = Lo := ⟨_, rfl⟩
                  rw [hLo] at HNXM HRO hoc ⊢
                  clear hLo PON HBI hb7 hro hb0 HRX hci hd2
                  go_wp2_with fail
                  go_loopw [17, 115] (fun m v wr => ∃ z : Nat, z ≤ Lo.length ∧ v = .int .i64 z ∧ m = .bool (metB Lo z nv) ∧ Below w7.heap.size w7 wr) (fun _ v _ => Lo.length - (intOf v).toNat)
                  case atStart => exact ⟨0, Nat.zero_le _, rfl, rfl, Below.refl _ _⟩
                  case round =>
                    obtain ⟨z, hz, rfl, rfl, hbz⟩ := hrel
                    have HBZ := hid hbz
                    by_cases hzl : z < Lo.length
                    · obtain ⟨xo1, xo2, hxe2, hcz⟩ := (HRO.out.below hbz).cell z hzl
                      injection hxe2 with hxe3
                      injection hxe3 with hx1 hx2
                      subst hx1 hx2
                      rw [Nat.zero_add] at hcz
                      have j1 : (0 : Int) ≤ (z : Int) := Int.natCast_nonneg _
                      have j2 : (z : Int) < (Lo.length : Int) := by omega
                      have HSN := hid (metB_snoc Lo z nv hzl)
                      generalize Lo.getD z 0 = cz at hcz HSN
                      generalize metB Lo z nv = mb at HSN ⊢
                      clear hbz hz
                      cases mb with
                      | true =>
                        go_wp2_with fail
                        go_roundw
                        case rel => exact ⟨z + 1, by omega, by first | go_num | simp [goInt], by rw [HSN.out]; rfl, HBZ.out⟩
                        case measure => first | (simp [intOf]; done) | (simp [intOf]; omega)
                      | false =>
                        go_wp2_with fail
                        go_roundw
                        case rel => exact ⟨z + 1, by omega, by first | go_num | simp [goInt], by rw [HSN.out]; rfl, HBZ.out⟩
                        case measure => first | (simp [intOf]; done) | (simp [intOf]; omega)
                    · obtain rfl : z = Lo.length := by omega
                      have hmt := metB_full Lo nv HNXM.out
                      generalize metB Lo Lo.length nv = mb at hmt ⊢
                      subst hmt
                      have hd : decide ((Lo.length : Int) < (Lo.length : Int)) = false := by simp
                      clear hbz hz
                      go_wp2_with fail
                      refine ⟨?_, ?_⟩
                      · repeat apply Exists.intro
                        refine ⟨?_, rfl⟩
                        exact ⟨i + 1, by omega, by first | go_num | simp [goInt], below_trans HB7.out HBZ.out⟩
                      · first | (simp [intOf]; done) | (simp [intOf]; omega)
              · have hd2 : decide ((i : Int) + 1 < ((way l true).length : Int)) = false := by simp; omega
                have HNXM : Hid ((N : Int) ∈ onI l.length q l[q]) := hid (by have := HMEM.out; rw [if_neg hl, HN.out] at this; rw [HN.out]; exact this)
                have hlt2 : decide ((N : Int) ≤ (q : Int)) = false := by simp; omega
                obtain ⟨nv, hnv⟩ : ∃ nv : Int, nv = N := ⟨_, rfl⟩
                clear HMEM PLT PWAY
                by_cases hz : i = 0
                · have hb0 : ((i : Int) == 0) = true := by simp [hz]
                  have hq4 : ((q : Int) != 0) = false := by rw [HQ.out hz]; rfl
                  clear HQ hz
                  go_wp2_with fail
                  refine (PON.out _ (below_trans HB6.out HBI.out)).mono ?_
                  rintro e w7 ⟨ob, oc, rfl, hro, hoc, hoc2, hb7⟩
                  have HB7 := hid (below_trans HBI.out hb7)
                  have HRO := hid hro
                  obtain ⟨Lo, hLo⟩ : ∃ Lo, onI l.length q l[q] = Lo := ⟨_, rfl⟩
                  rw [hLo] at HNXM HRO hoc ⊢
                  clear hLo PON HBI hb7 hro hb0 HRX hci hd2
                  go_wp2_with fail
                  go_loopw [17, 115] (fun m v wr => ∃ z : Nat, z ≤ Lo.length ∧ v = .int .i64 z ∧ m = .bool (metB Lo z (N : Int)) ∧ Below w7.heap.size w7 wr) (fun _ v _ => Lo.length - (intOf v).toNat)
                  case atStart => exact ⟨0, Nat.zero_le _, rfl, rfl, Below.refl _ _⟩
                  case round =>
                    obtain ⟨z, hz, rfl, rfl, hbz⟩ := hrel
                    have HBZ := hid hbz
                    by_cases hzl : z < Lo.length
                    · obtain ⟨xo1, xo2, hxe2, hcz⟩ := (HRO.out.below hbz).cell z hzl
                      injection hxe2 with hxe3
                      injection hxe3 with hx1 hx2
                      subst hx1 hx2
                      rw [Nat.zero_add] at hcz
                      have j1 : (0 : Int) ≤ (z : Int) := Int.natCast_nonneg _
                      have j2 : (z : Int) < (Lo.length : Int) := by omega
                      have HSN := hid (metB_snoc Lo z (N : Int) hzl)
                      generalize Lo.getD z 0 = cz at hcz HSN
                      generalize metB Lo z (N : Int) = mb at HSN ⊢
                      clear hbz hz
                      cases mb with
                      | true =>
                        go_wp2_with fail
                        go_roundw
                        case rel => exact ⟨z + 1, by omega, by first | go_num | simp [goInt], by rw [HSN.out]; rfl, HBZ.out⟩
                        case measure => first | (simp [intOf]; done) | (simp [intOf]; omega)
                      | false =>
                        go_wp2_with fail
                        go_roundw
                        case rel => exact ⟨z + 1, by omega, by first | go_num | simp [goInt], by rw [HSN.out]; rfl, HBZ.out⟩
                        case measure => first | (simp [intOf]; done) | (simp [intOf]; omega)
                    · obtain rfl : z = Lo.length := by omega
                      have hmt := metB_full Lo (N : Int) HNXM.out
                      generalize metB Lo Lo.length (N : Int) = mb at hmt ⊢
                      subst hmt
                      have hd : decide ((Lo.length : Int) < (Lo.length : Int)) = false := by simp
                      clear hbz hz
                      go_wp2_with fail
                      refine ⟨?_, ?_⟩
                      · repeat apply Exists.intro
                        refine ⟨?_, rfl⟩
                        exact ⟨i + 1, by omega, by first | go_num | simp [goInt], below_trans HB7.out HBZ.out⟩
                      · first | (simp [intOf]; done) | (simp [intOf]; omega)
                · have hb0 : ((i : Int) == 0) = false := by simpa using hz
                  clear HQ hz
                  go_wp2_with fail
                  refine (PON.out _ (below_trans HB6.out HBI.out)).mono ?_
                  rintro e w7 ⟨ob, oc, rfl, hro, hoc, hoc2, hb7⟩
                  have HB7 := hid (below_trans HBI.out hb7)
                  have HRO := hid hro
                  obtain ⟨Lo, hLo⟩ : ∃ Lo, onI l.length q l[q] = Lo := ⟨_, rfl⟩
                  rw [hLo] at HNXM HRO hoc ⊢
                  clear hLo PON HBI hb7 hro hb0 HRX hci hd2
                  go_wp2_with fail
                  go_loopw [17, 115] (fun m v wr => ∃ z : Nat, z ≤ Lo.length ∧ v = .int .i64 z ∧ m = .bool (metB Lo z (N : Int)) ∧ Below w7.heap.size w7 wr) (fun _ v _ => Lo.length - (intOf v).toNat)
                  case atStart => exact ⟨0, Nat.zero_le _, rfl, rfl, Below.refl _ _⟩
                  case round =>
                    obtain ⟨z, hz, rfl, rfl, hbz⟩ := hrel
                    have HBZ := hid hbz
                    by_cases hzl : z < Lo.length
                    · obtain ⟨xo1, xo2, hxe2, hcz⟩ := (HRO.out.below hbz).cell z hzl
                      injection hxe2 with hxe3
                      injection hxe3 with hx1 hx2
                      subst hx1 hx2
                      rw [Nat.zero_add] at hcz
                      have j1 : (0 : Int) ≤ (z : Int) := Int.natCast_nonneg _
                      have j2 : (z : Int) < (Lo.length : Int) := by omega
                      have HSN := hid (metB_snoc Lo z (N : Int) hzl)
                      generalize Lo.getD z 0 = cz at hcz HSN
                      generalize metB Lo z (N : Int) = mb at HSN ⊢
                      clear hbz hz
                      cases mb with
                      | true =>
                        go_wp2_with fail
                        go_roundw
                        case rel => exact ⟨z + 1, by omega, by first | go_num | simp [goInt], by rw [HSN.out]; rfl, HBZ.out⟩
                        case measure => first | (simp [intOf]; done) | (simp [intOf]; omega)
                      | false =>
                        go_wp2_with fail
                        go_roundw
                        case rel => exact ⟨z + 1, by omega, by first | go_num | simp [goInt], by rw [HSN.out]; rfl, HBZ.out⟩
                        case measure => first | (simp [intOf]; done) | (simp [intOf]; omega)
                    · obtain rfl : z = Lo.length := by omega
                      have hmt := metB_full Lo (N : Int) HNXM.out
                      generalize metB Lo Lo.length (N : Int) = mb at hmt ⊢
                      subst hmt
                      have hd : decide ((Lo.length : Int) < (Lo.length : Int)) = false := by simp
                      clear hbz hz
                      go_wp2_with fail
                      refine ⟨?_, ?_⟩
                      · repeat apply Exists.intro
                        refine ⟨?_, rfl⟩
                        exact ⟨i + 1, by omega, by first | go_num | simp [goInt], below_trans HB7.out HBZ.out⟩
                      · first | (simp [intOf]; done) | (simp [intOf]; omega)
            · obtain rfl : i = (way l true).length := by omega
              have hd : decide (((way l true).length : Int) < ((way l true).length : Int)) = false := by simp
              go_wp2_with fail
              go_roundw
              case rel => exact ⟨1 + 1, by omega, by first | rfl | go_num | simp [goInt], HBI.out⟩
              case measure => first | (simp [intOf]; done) | (simp [intOf]; omega)
        · go_wp2_with fail
          go_ret
          exact ⟨rfl, below_trans HB6.out HBO.out⟩
end Go.Proofs.Ytejdkaniepgbdaa
