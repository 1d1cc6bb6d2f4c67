/- vm: all. -/
import Derived.Test.YtjnohalffffiaaaNo
set_option linter.unusedVariables false
set_option linter.unusedSimpArgs false
namespace Go.Proofs.Ytjnohalffffiaaa
open Go.RowKit

theorem VS.runs_step (p : Int) (l : List Ins) (j : Nat) (S : VS) (h : j < l.length) : VS.runs p l j S = VS.runs p l (S.tick.next l.length j l[j]) (S.tick.after p l[j]) := by
  rw [VS.runs, dif_pos h]
theorem VS.runs_done (p : Int) (l : List Ins) (j : Nat) (S : VS) (h : l.length ≤ j) : VS.runs p l j S = S := by
  rw [VS.runs, dif_neg (by omega)]
theorem VS.step_steps (S : VS) (p : Int) (i : Ins) : (S.step p i).steps = S.steps := by
  unfold VS.step
  by_cases h0 : i.op = 1
  · rw [if_pos h0]
    try rfl
  rw [if_neg h0]
  by_cases h1 : i.op = 2
  · rw [if_pos h1]
    try rfl
  rw [if_neg h1]
  by_cases h2 : i.op = 3
  · rw [if_pos h2]
    try rfl
  rw [if_neg h2]
  by_cases h3 : i.op = 4
  · rw [if_pos h3]
    try rfl
  rw [if_neg h3]
  by_cases h4 : (i.op = 5 ∨ i.op = 6)
  · rw [if_pos h4]
    cases S.is <;> rfl
  rw [if_neg h4]
  by_cases h5 : i.op = 13
  · rw [if_pos h5]
    try rfl
  rw [if_neg h5]
  by_cases h6 : i.op = 31
  · rw [if_pos h6]
    try rfl
  rw [if_neg h6]
  by_cases h7 : i.op = 32
  · rw [if_pos h7]
    try rfl
  rw [if_neg h7]
  by_cases h8 : i.op = 33
  · rw [if_pos h8]
    cases S.op.getLast? <;> rfl
  rw [if_neg h8]
  by_cases h9 : i.op = 34
  · rw [if_pos h9]
    try (unfold VS.timer; rfl)
  rw [if_neg h9]
  by_cases h10 : i.op = 35
  · rw [if_pos h10]
    unfold VS.counter; cases S.rise i.area (i.at_ + 4) <;> rfl
  rw [if_neg h10]
  by_cases h11 : i.op = 36
  · rw [if_pos h11]
    try rfl
  rw [if_neg h11]
  rfl
theorem VS.does_zero (S : VS) (op ak an b : Int) : S.zero ≤ (S.does op ak an b).zero ∧ (S.does op ak an b).zero ≤ S.zero + 1 := by
  unfold VS.does
  dsimp only
  split <;> omega
theorem VS.step_zero (S : VS) (p : Int) (i : Ins) : S.zero ≤ (S.step p i).zero ∧ (S.step p i).zero ≤ S.zero + 1 := by
  unfold VS.step
  by_cases h0 : i.op = 1
  · rw [if_pos h0]
    refine ⟨Int.le_refl _, ?_⟩; show S.zero ≤ S.zero + 1; omega
  rw [if_neg h0]
  by_cases h1 : i.op = 2
  · rw [if_pos h1]
    refine ⟨Int.le_refl _, ?_⟩; show S.zero ≤ S.zero + 1; omega
  rw [if_neg h1]
  by_cases h2 : i.op = 3
  · rw [if_pos h2]
    refine ⟨Int.le_refl _, ?_⟩; show S.zero ≤ S.zero + 1; omega
  rw [if_neg h2]
  by_cases h3 : i.op = 4
  · rw [if_pos h3]
    refine ⟨Int.le_refl _, ?_⟩; show S.zero ≤ S.zero + 1; omega
  rw [if_neg h3]
  by_cases h4 : (i.op = 5 ∨ i.op = 6)
  · rw [if_pos h4]
    cases S.is <;> (refine ⟨Int.le_refl _, ?_⟩; show S.zero ≤ S.zero + 1; omega)
  rw [if_neg h4]
  by_cases h5 : i.op = 13
  · rw [if_pos h5]
    refine ⟨Int.le_refl _, ?_⟩; show S.zero ≤ S.zero + 1; omega
  rw [if_neg h5]
  by_cases h6 : i.op = 31
  · rw [if_pos h6]
    refine ⟨Int.le_refl _, ?_⟩; show S.zero ≤ S.zero + 1; omega
  rw [if_neg h6]
  by_cases h7 : i.op = 32
  · rw [if_pos h7]
    refine ⟨Int.le_refl _, ?_⟩; show S.zero ≤ S.zero + 1; omega
  rw [if_neg h7]
  by_cases h8 : i.op = 33
  · rw [if_pos h8]
    cases S.op.getLast? with
    | none => refine ⟨Int.le_refl _, ?_⟩; show S.zero ≤ S.zero + 1; omega
    | some b => exact VS.does_zero { S with op := S.op.dropLast } b.1 b.2.1 b.2.2 S.n
  rw [if_neg h8]
  by_cases h9 : i.op = 34
  · rw [if_pos h9]
    unfold VS.timer; refine ⟨Int.le_refl _, ?_⟩; show S.zero ≤ S.zero + 1; omega
  rw [if_neg h9]
  by_cases h10 : i.op = 35
  · rw [if_pos h10]
    unfold VS.counter; cases S.rise i.area (i.at_ + 4) <;> (refine ⟨Int.le_refl _, ?_⟩; show S.zero ≤ S.zero + 1; omega)
  rw [if_neg h10]
  by_cases h11 : i.op = 36
  · rw [if_pos h11]
    refine ⟨Int.le_refl _, ?_⟩; show S.zero ≤ S.zero + 1; omega
  rw [if_neg h11]
  exact VS.does_zero _ _ _ _ _

theorem VS.after_steps (S : VS) (p : Int) (i : Ins) : (S.after p i).steps = S.steps := by
  unfold VS.after
  split
  · rfl
  · split
    · rfl
    · exact VS.step_steps _ _ _
theorem VS.after_zero (S : VS) (p : Int) (i : Ins) : S.zero ≤ (S.after p i).zero ∧ (S.after p i).zero ≤ S.zero + 1 := by
  unfold VS.after
  split
  · omega
  · split
    · omega
    · exact VS.step_zero _ _ _

/-- What makes a program safe to run from a place on. -/
structure Safe (p : Int) (l : List Ins) (I : Nat → VS → Prop) : Prop where
  right : ∀ j S (hj : j < l.length), I j S → rightb l[j] = true
  opened : ∀ j S (hj : j < l.length), I j S → l[j].op = 33 → S.op ≠ []
  deep : ∀ j S, I j S → S.op.length ≤ 1000
  jump : ∀ j S (hj : j < l.length), I j S → jumpsb l[j] = true → (j : Int) < l[j].at_ ∧ l[j].at_ ≤ l.length
  next : ∀ j S (hj : j < l.length), I j S → ¬ (retb l[j] = true ∧ S.tick.leaves l[j].op = true) → I (S.tick.next l.length j l[j]) (S.tick.after p l[j])

set_option maxRecDepth 10000 in
set_option maxHeartbeats 4000000 in
theorem all_run (base rb : Nat) (p : Int) (S0 : VS) (a : Option Addr) (l : List Ins) (cap : Nat) (w : World) (I : Nat → VS → Prop) (h : VmAt w base rb p S0) (hsafe : Safe p l I) (hI : I 0 S0)
    (hr : ∀ w', Below base w w' → RdIns w' a l) (hn : l.length ≤ 1000) (hz : S0.zero = 0) (hs : S0.steps = 0) (hp : 0 ≤ p ∧ p ≤ 10000) :
    Calls Try.prog 23 #[.pointer (some ⟨rb, 0, none⟩), .slice a l.length cap] w (RetV base rb p (VS.runs p l 0 S0) w) := by
  have hB := h.base
  have HV0 := hid h
  have HSF := hid hsafe
  have HR := hid hr
  have HI := hid hI
  have HZ0 := hid hz
  have HS0 := hid hs
  have HP := hid hp
  clear h hsafe hr hI hz hs hp
  go_enter Try.func23, Try.ntmps23
  go_wp2_with fail
  go_loopw [4] (fun v wr => ∃ (j : Nat) (S : VS), v = .int .i64 j ∧ VmAt wr base rb p S ∧ Kp base w wr ∧ (j < l.length → I j S) ∧ VS.runs p l j S = VS.runs p l 0 S0 ∧ 0 ≤ S.zero ∧ S.zero ≤ S.steps ∧ S.steps ≤ j ∧ j ≤ l.length) (fun v _ => l.length - (intOf v).toNat)
  case atStart => exact ⟨0, S0, rfl, HV0.out, Kp.of (Below.refl _ _) hB, fun _ => HI.out, rfl, by rw [HZ0.out]; exact Int.le_refl _, by rw [HZ0.out, HS0.out]; exact Int.le_refl _, by rw [HS0.out]; exact Int.le_refl _, Nat.zero_le _⟩
  case round =>
    obtain ⟨j, S, rfl, hv, hk, hi, hru, hz0, hz1, hz2, hjl⟩ := hrel
    by_cases hlt : j < l.length
    · have hi := hi hlt
      have HRU := hid hru
      rw [VS.runs_step p l j S hlt] at hru
      have HRU2 := hid hru
      have HRT := hid (HSF.out.right j S hlt hi)
      have HOPN := hid (HSF.out.opened j S hlt hi)
      have HDP := hid (HSF.out.deep j S hi)
      have HJ := hid (HSF.out.jump j S hlt hi)
      have HNX := hid (HSF.out.next j S hlt hi)
      obtain ⟨b0, off, rfl, hb0, g0, g1, g2, g3, g4⟩ := (HR.out wr hk.1).cell j hlt
      generalize hli : l[j] = i at *
      obtain ⟨op, kind, area, at_, n⟩ := i
      dsimp only at *
      have HK := hid hk
      have HVS := hid hv
      obtain ⟨_, hl, v, c5, c6, c7, c8, c9, c12, hop, hfr⟩ := hv.open
      have f8 := hfr 8
      have hsz : wr.heap.size ≠ rb := by omega
      clear hv hk hi hru c5 c6 c7 c9 c12 hop hfr hli
      have hd : decide ((j : Int) < (l.length : Int)) = true := by simp; omega
      have hw1 : IntKind.i64.wrap (S.steps + 1) = S.steps + 1 := by rw [IntKind.wrap_i64]; omega
      have hw2 : IntKind.i64.wrap ((j : Int) + 1) = (j : Int) + 1 := by rw [IntKind.wrap_i64]; omega
      have hst := VS.after_steps S.tick p ⟨op, kind, area, at_, n⟩
      have hze := VS.after_zero S.tick p ⟨op, kind, area, at_, n⟩
      have e1 : S.tick.steps = S.steps + 1 := rfl
      have e2 : S.tick.zero = S.zero := rfl
      rw [e1] at hst
      rw [e2] at hze
      have HST := hid hst
      have HZE := hid hze
      clear hst hze e1 e2
      have B1 := hid (Blk.new (wr.setCell ⟨rb, 8, none⟩ (.int .i64 (S.steps + 1))) #[.int .i64 op, .int .i64 kind, .int .i64 area, .int .i64 at_, .int .i64 n] 48)
      have HV1 : Hid (VmAt ((wr.setCell ⟨rb, 8, none⟩ (.int .i64 (S.steps + 1))).alloc (.cells #[.int .i64 op, .int .i64 kind, .int .i64 area, .int .i64 at_, .int .i64 n] 48)) base rb p S.tick) := hid ((HVS.out.stp (S.steps + 1)).below (bel_a1 _ _))
      have HK1 := hid ((HK.out.trans (HVS.out.kp 8 (.int .i64 (S.steps + 1)))).alloc hB (.cells #[.int .i64 op, .int .i64 kind, .int .i64 area, .int .i64 at_, .int .i64 n] 48))
      have HLV : Hid (wr.heap.size = (wr.setCell ⟨rb, 8, none⟩ (.int .i64 (S.steps + 1))).heap.size) := hid (by simp)
      by_cases hjm : 25 ≤ op ∧ op ≤ 27
      · have hjb : jumpsb ⟨op, kind, area, at_, n⟩ = true := by simp [jumpsb, hjm.1, hjm.2]
        have hnr : ¬ (retb ⟨op, kind, area, at_, n⟩ = true ∧ S.tick.leaves op = true) := by simp [retb]; omega
        have HNI := hid (HNX.out hnr)
        have hjj := HJ.out hjb
        have hafter : S.tick.after p ⟨op, kind, area, at_, n⟩ = S.tick := by unfold VS.after; rw [if_pos hjb]
        have hnext : S.tick.next l.length j ⟨op, kind, area, at_, n⟩ = if S.tick.leaves op then max (j + 1) at_.toNat else j + 1 := by unfold VS.next; rw [if_pos hjb]
        rw [hafter, hnext] at HRU2 HNI
        rw [hafter] at HST HZE
        obtain ⟨h25, h27⟩ := hjm
        clear hjb hnr hafter hnext HNX HJ HOPN HRT
        cases hlv : S.tick.leaves op with
        | true =>
          rw [hlv] at HRU2 HNI
          have HLL := hid hlv
          have hmx : max (j + 1) at_.toNat = at_.toNat := by omega
          rw [if_pos rfl, hmx] at HRU2 HNI
          clear hlv hmx
          go_wp2_with fail
          refine (leaves_calls base rb p S.tick op _ (by exact HV1.out)).mono ?_
          rintro e w2 ⟨rfl, hb⟩
          rw [HLL.out]
          have HV2 := hid (HV1.out.below hb)
          have HK2 := hid (HK1.out.bel hb hB)
          have b2 := B1.out.below hb
          rw [← HLV.out] at b2
          have d3 := b2.cell 3 _ rfl
          clear hb b2
          go_wp2_with fail
          refine ⟨⟨at_.toNat, S.tick, by rw [Int.toNat_of_nonneg (by omega)], HV2.out, HK2.out, fun _ => HNI.out, HRU2.out, ?_, ?_, ?_, by omega⟩, by simp [intOf]; omega⟩
          · exact hz0
          · show S.zero ≤ S.steps + 1; omega
          · show S.steps + 1 ≤ _; omega
        | false =>
          rw [hlv] at HRU2 HNI
          have HLL := hid hlv
          rw [if_neg (by simp)] at HRU2 HNI
          clear hlv
          go_wp2_with fail
          refine (leaves_calls base rb p S.tick op _ (by exact HV1.out)).mono ?_
          rintro e w2 ⟨rfl, hb⟩
          rw [HLL.out]
          have HV2 := hid (HV1.out.below hb)
          have HK2 := hid (HK1.out.bel hb hB)
          clear hb
          go_wp2_with fail
          refine ⟨⟨j + 1, S.tick, by first | rfl | (simp; done), HV2.out, HK2.out, fun _ => HNI.out, HRU2.out, ?_, ?_, ?_, by omega⟩, by simp [intOf]; omega⟩
          · exact hz0
          · show S.zero ≤ S.steps + 1; omega
          · show S.steps + 1 ≤ _; omega
      by_cases hrt : 28 ≤ op ∧ op ≤ 30
      · have hjb : jumpsb ⟨op, kind, area, at_, n⟩ = false := by simp [jumpsb]; omega
        have hrb : retb ⟨op, kind, area, at_, n⟩ = true := by simp [retb, hrt.1, hrt.2]
        have hafter : S.tick.after p ⟨op, kind, area, at_, n⟩ = S.tick := by unfold VS.after; rw [if_neg (by rw [hjb]; simp), if_pos hrb]
        have hnext : S.tick.next l.length j ⟨op, kind, area, at_, n⟩ = if S.tick.leaves op then max (j + 1) l.length else j + 1 := by unfold VS.next; rw [if_neg (by rw [hjb]; simp), if_pos hrb]
        obtain ⟨h28, h30⟩ := hrt
        have h25 : 25 ≤ op := by omega
        have h27 : 27 < op := by omega
        cases hlv : S.tick.leaves op with
        | true =>
          rw [hafter, hnext, hlv, if_pos rfl, show max (j + 1) l.length = l.length by omega] at HRU2
          have HLL := hid hlv
          clear hjb hrb hafter hnext HNX HJ HOPN HRT hlv hjm
          go_wp2_with fail
          refine (leaves_calls base rb p S.tick op _ (by exact HV1.out)).mono ?_
          rintro e w2 ⟨rfl, hb⟩
          rw [HLL.out]
          have HV2 := hid (HV1.out.below hb)
          have HK2 := hid (HK1.out.bel hb hB)
          clear hb
          go_wp2_with fail
          go_end0
          refine ⟨rfl, ?_, HK2.out⟩
          rw [← HRU2.out, VS.runs_done p l _ _ (Nat.le_refl _)]
          exact HV2.out
        | false =>
          have HNI := hid (HNX.out (by simp [hlv]))
          rw [hafter, hnext, hlv, if_neg (by simp)] at HRU2 HNI
          have HLL := hid hlv
          clear hjb hrb hafter hnext HNX HJ HOPN HRT hlv hjm
          go_wp2_with fail
          refine (leaves_calls base rb p S.tick op _ (by exact HV1.out)).mono ?_
          rintro e w2 ⟨rfl, hb⟩
          rw [HLL.out]
          have HV2 := hid (HV1.out.below hb)
          have HK2 := hid (HK1.out.bel hb hB)
          clear hb
          go_wp2_with fail
          refine ⟨⟨j + 1, S.tick, by first | rfl | (simp; done), HV2.out, HK2.out, fun _ => HNI.out, HRU2.out, ?_, ?_, ?_, by omega⟩, by simp [intOf]; omega⟩
          · exact hz0
          · show S.zero ≤ S.steps + 1; omega
          · show S.steps + 1 ≤ _; omega
      have hjb : jumpsb ⟨op, kind, area, at_, n⟩ = false := by simp [jumpsb]; omega
      have hrb : retb ⟨op, kind, area, at_, n⟩ = false := by simp [retb]; omega
      have hafter : S.tick.after p ⟨op, kind, area, at_, n⟩ = S.tick.step p ⟨op, kind, area, at_, n⟩ := by unfold VS.after; rw [if_neg (by rw [hjb]; simp), if_neg (by rw [hrb]; simp)]
      have hnext : S.tick.next l.length j ⟨op, kind, area, at_, n⟩ = j + 1 := by unfold VS.next; rw [if_neg (by rw [hjb]; simp), if_neg (by rw [hrb]; simp)]
      have HNI := hid (HNX.out (by rw [hrb]; simp))
      rw [hafter, hnext] at HRU2 HNI
      rw [hafter] at HST HZE
      have HSTEP := hid (fun W (hW : VmAt W base rb p S.tick) => step_calls base rb p S.tick op kind area at_ n W hW HRT.out hjb hrb HOPN.out HDP.out ⟨hz0, by show S.zero ≤ 1000000; omega⟩ HP.out)
      clear hjb hrb hafter hnext HNX HJ HOPN HRT
      have key : ∀ (W : World), VmAt W base rb p (S.tick.step p ⟨op, kind, area, at_, n⟩) → Kp base w W → (∃ (j' : Nat) (S' : VS), Value.int .i64 ((j : Int) + 1) = .int .i64 j' ∧ VmAt W base rb p S' ∧ Kp base w W ∧ (j' < l.length → I j' S') ∧ VS.runs p l j' S' = VS.runs p l 0 S0 ∧ 0 ≤ S'.zero ∧ S'.zero ≤ S'.steps ∧ S'.steps ≤ j' ∧ j' ≤ l.length) := by
        intro W h1 h2
        refine ⟨j + 1, _, by first | rfl | (simp; done), h1, h2, fun _ => HNI.out, HRU2.out, ?_, ?_, ?_, by omega⟩
        · have := HZE.out; omega
        · have := HZE.out; rw [HST.out]; omega
        · rw [HST.out]; omega
      have KEY := hid key
      clear key
      have hcase : (op < 25) ∨ (30 < op) := by omega
      clear hjm hrt
      rcases hcase with h25 | h30
      · go_wp2_with fail
        refine (HSTEP.out _ (by exact HV1.out)).mono ?_
        rintro e w2 ⟨rfl, hv, hk⟩
        have HV2 := hid hv
        have HK2 := hid (HK1.out.trans hk)
        clear hv hk
        go_wp2_with fail
        refine ⟨KEY.out _ HV2.out HK2.out, by simp [intOf]; omega⟩
      · have h25 : 25 ≤ op := by omega
        have h27 : 27 < op := by omega
        have h28 : 28 ≤ op := by omega
        go_wp2_with fail
        refine (HSTEP.out _ (by exact HV1.out)).mono ?_
        rintro e w2 ⟨rfl, hv, hk⟩
        have HV2 := hid hv
        have HK2 := hid (HK1.out.trans hk)
        clear hv hk
        go_wp2_with fail
        refine ⟨KEY.out _ HV2.out HK2.out, by simp [intOf]; omega⟩
    · obtain rfl : j = l.length := by omega
      have HRU := hid hru
      have HX := hid hv
      have HK := hid hk
      clear hv hk hru hi
      have hd : decide ((l.length : Int) < (l.length : Int)) = false := by simp
      go_wp2_with fail
      go_end0
      refine ⟨rfl, ?_, HK.out⟩
      rw [← HRU.out, VS.runs_done p l _ _ (Nat.le_refl _)]
      exact HX.out
end Go.Proofs.Ytjnohalffffiaaa
