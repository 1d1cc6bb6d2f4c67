/- TimingRuns: the plain law, and the law's walk. -/
import Derived.Test.YtejdkaniepgbdaaTq
import Derived.Test.YtejdkaniepgbdaaNw
set_option linter.unusedVariables false
set_option linter.unusedSimpArgs false
namespace Go.Proofs.Ytejdkaniepgbdaa
open Go.RowKit

theorem tabG_stable {l : List Ins} {e : Int} {m : List Int → Int} {k : Nat} {j : Nat} (hj : l.length ≤ j + k) (d : Nat) : tabG l e m (k + d) j = tabG l e m k j := by
  induction d with
  | zero => rfl
  | succ d ih =>
    rw [← Nat.add_assoc, tabG, if_neg (by omega), ih]
theorem tabG_end (l : List Ins) (e : Int) (m : List Int → Int) (k : Nat) : tabG l e m k l.length = e := by
  have := tabG_stable (l := l) (e := e) (m := m) (k := 0) (j := l.length) (by omega) k
  rw [Nat.zero_add] at this
  rw [this, tabG]
theorem tabG_at {l : List Ins} {A : Nat → Option St} (h : Ok l A) (e : Int) (m : List Int → Int) {j : Nat} (hj : j < l.length) (hA : A j ≠ none) :
    tabG l e m l.length j = m ((ldAt l j).map fun t => tabG l e m l.length t.toNat) := by
  obtain ⟨k, hk⟩ : ∃ k, l.length = k + 1 + j := ⟨l.length - j - 1, by omega⟩
  have h1 := tabG_stable (l := l) (e := e) (m := m) (k := k + 1) (j := j) (by omega) j
  rw [← hk] at h1
  rw [h1, tabG, if_pos (by omega)]
  congr 1
  refine List.map_congr_left fun t ht => ?_
  obtain ⟨t1, t2, _⟩ := h.go j hj hA t ht
  have hc : cut l t = t.toNat := by unfold cut; omega
  rw [hc]
  have h2 := tabG_stable (l := l) (e := e) (m := m) (k := k) (j := t.toNat) (by omega) (1 + j)
  rw [← Nat.add_assoc, ← hk] at h2
  rw [h2]

theorem farG_end (l : List Ins) (b : Bool) : farG l b l.length = 0 := tabG_end l 0 _ _
theorem farG_at {l : List Ins} {A : Nat → Option St} (h : Ok l A) (b : Bool) {j : Nat} (hj : j < l.length) (hA : A j ≠ none) : farG l b j = mFar b ((ldAt l j).map fun t => farG l b t.toNat) := tabG_at h 0 _ hj hA
theorem farG_bd (l : List Ins) (b : Bool) (j : Nat) : 0 ≤ farG l b j ∧ farG l b j ≤ l.length := tabG_far l b l.length j

theorem next_mem {l : List Ins} {A : Nat → Option St} (h : TOk l A) {j : Nat} {S : VS} (hj : j < l.length) (hI : InvT A j S) : ((S.tick.next l.length j l[j] : Nat) : Int) ∈ ldAt l j := by
  obtain ⟨k, bs, hA, hT⟩ := hI
  rw [← ldAt_eq l j hj]
  have hjp := h.jump j hj k bs hA
  generalize l[j] = i at *
  unfold VS.next ldI
  have hjc : jumpsb i = true ↔ 25 ≤ i.op ∧ i.op ≤ 27 := by unfold jumpsb; simp
  have hrc : retb i = true ↔ 28 ≤ i.op ∧ i.op ≤ 30 := by unfold retb; simp
  by_cases hjb : jumpsb i = true
  · rw [if_pos hjb]
    obtain ⟨h1, h2⟩ := hjc.1 hjb
    obtain ⟨q1, q2⟩ := hjp hjb
    by_cases h25 : i.op = 25
    · rw [if_pos h25]
      have : S.tick.leaves i.op = true := by unfold VS.leaves; rw [if_pos (.inl h25)]
      rw [if_pos this]
      simp
      omega
    · rw [if_neg h25, if_pos (show i.op = 26 ∨ i.op = 27 by omega)]
      repeat' split
      all_goals first | (simp; done) | (simp; omega)
  · rw [if_neg hjb]
    have hnj : ¬ (25 ≤ i.op ∧ i.op ≤ 27) := fun h => hjb (hjc.2 h)
    rw [if_neg (show ¬ i.op = 25 by omega), if_neg (show ¬ (i.op = 26 ∨ i.op = 27) by omega)]
    by_cases hrb : retb i = true
    · rw [if_pos hrb]
      obtain ⟨h1, h2⟩ := hrc.1 hrb
      by_cases h28 : i.op = 28
      · rw [if_pos h28]
        have : S.tick.leaves i.op = true := by unfold VS.leaves; rw [if_pos (.inr h28)]
        rw [if_pos this]
        simp
        omega
      · rw [if_neg h28, if_pos (show i.op = 29 ∨ i.op = 30 by omega)]
        repeat' split
        all_goals first | (simp; done) | (simp; omega)
    · rw [if_neg hrb]
      have hnr : ¬ (28 ≤ i.op ∧ i.op ≤ 30) := fun h => hrb (hrc.2 h)
      rw [if_neg (show ¬ i.op = 28 by omega), if_neg (show ¬ (i.op = 29 ∨ i.op = 30) by omega)]
      simp

theorem mFar_mem (L : List Int) (h1 : 1 ≤ L.length) (h2 : L.length ≤ 2) (x : Int) (hx : x ∈ L) : mFar false L ≤ x + 1 ∧ x + 1 ≤ mFar true L := by
  match L, h1, h2 with
  | [a], _, _ =>
    simp at hx
    subst hx
    simp [mFar, Lib.maxOf, Lib.minOf]
  | [a, b], _, _ =>
    simp at hx
    rcases hx with rfl | rfl <;> simp [mFar, Lib.maxOf, Lib.minOf] <;> omega

theorem runs_bd {l : List Ins} {A : Nat → Option St} (h : TOk l A) (ho : Ok l A) (p : Int) : ∀ (d j : Nat) (S : VS), l.length ≤ j + d → j ≤ l.length → (j < l.length → InvT A j S) →
    S.steps + farG l false j ≤ (VS.runs p l j S).steps ∧ (VS.runs p l j S).steps ≤ S.steps + farG l true j := by
  intro d
  induction d with
  | zero =>
    intro j S h1 h2 _
    obtain rfl : j = l.length := by omega
    rw [VS.runs_done p l _ S (Nat.le_refl _), farG_end, farG_end]
    omega
  | succ d ih =>
    intro j S h1 h2 hI
    by_cases hj : j < l.length
    · have hIj := hI hj
      have hm := next_mem h hj hIj
      have hsf := (safe_of h p).next j S hj hIj
      have hst : (S.tick.after p l[j]).steps = S.steps + 1 := VS.after_steps S.tick p l[j]
      rw [VS.runs_step p l j S hj]
      obtain ⟨k, bs, hA, hT⟩ := hIj
      have hAn : A j ≠ none := by rw [hA]; simp
      obtain ⟨g1, g2, g3⟩ := ho.go j hj hAn _ hm
      have hlt := S.tick.next_lt l.length j l[j]
      have hnext : ∀ b, farG l b j = mFar b ((ldAt l j).map fun t => farG l b t.toNat) := fun b => farG_at ho b hj hAn
      have hlen := ldI_len l.length j (l.getD j default)
      have hret : retb l[j] = true ∧ S.tick.leaves l[j].op = true → S.tick.next l.length j l[j] = l.length := by
        intro hr
        have hnj : ¬ jumpsb l[j] = true := by
          have := hr.1
          unfold retb at this
          unfold jumpsb
          simp at this ⊢
          omega
        unfold VS.next
        rw [if_neg hnj, if_pos hr.1, if_pos hr.2]
        omega
      generalize S.tick.next l.length j l[j] = j' at *
      generalize S.tick.after p l[j] = S' at *
      have hI' : j' < l.length → InvT A j' S' := by
        intro hj'
        refine hsf fun hr => ?_
        have := hret hr
        omega
      have hrec := ih j' S' (by omega) (by omega) hI'
      have m0 := mFar_mem ((ldAt l j).map fun t => farG l false t.toNat) (by simpa [ldAt] using hlen.1) (by simpa [ldAt] using hlen.2) (farG l false j') (List.mem_map.2 ⟨_, hm, by rw [Int.toNat_natCast]⟩)
      have m1 := mFar_mem ((ldAt l j).map fun t => farG l true t.toNat) (by simpa [ldAt] using hlen.1) (by simpa [ldAt] using hlen.2) (farG l true j') (List.mem_map.2 ⟨_, hm, by rw [Int.toNat_natCast]⟩)
      have e0 := hnext false
      have e1 := hnext true
      rw [← e0] at m0
      rw [← e1] at m1
      rw [hst] at hrec
      omega
    · obtain rfl : j = l.length := by omega
      rw [VS.runs_done p l _ S (Nat.le_refl _), farG_end, farG_end]
      omega
theorem run_bd {l : List Ins} {A : Nat → Option St} (h : TOk l A) (ho : Ok l A) (I Q M R : ByteArray) (P : Int) : farG l false 0 ≤ (runv l I Q M R P).steps ∧ (runv l I Q M R P).steps ≤ farG l true 0 := by
  have := runs_bd h ho (passI P) l.length 0 (VS.start I Q M R) (by omega) (Nat.zero_le _) (fun _ => safe_start h _)
  rw [show (VS.start I Q M R).steps = 0 from rfl, Int.zero_add, Int.zero_add] at this
  exact this

/-- awake's program. -/
def AW : List Ins := [⟨1, 1, 0, 0, 0⟩, ⟨26, 0, 0, 3, 0⟩, ⟨13, 0, 0, 0, 0⟩, ⟨3, 1, 2, 0, 0⟩]
theorem aw_runs : runsb AW = true := by kernel_rfl
theorem aw_a : farG AW false 0 = 3 := by kernel_rfl
theorem aw_b : farG AW true 0 = 4 := by kernel_rfl
theorem aw_n : wayN AW = 2 := by kernel_rfl
theorem runsb_tab {l : List Ins} (h : runsb l = true) : ∃ A, allI l = .tab A := by
  unfold runsb at h
  cases hA : allI l with
  | err e p => rw [hA] at h; cases h
  | tab A => exact ⟨A, rfl⟩
theorem runsb_ok {l : List Ins} (h : runsb l = true) : ∃ A, Ok l A := by
  obtain ⟨A, hA⟩ := runsb_tab h
  exact ⟨A, allI_ok hA⟩
def AWC : Array Value := #[.int .i64 1, .int .i64 1, .int .i64 0, .int .i64 0, .int .i64 0, .int .i64 26, .int .i64 0, .int .i64 0, .int .i64 3, .int .i64 0, .int .i64 13, .int .i64 0, .int .i64 0, .int .i64 0, .int .i64 0, .int .i64 3, .int .i64 1, .int .i64 2, .int .i64 0, .int .i64 0]
theorem aw_rd {w : World} {b : Nat} {t : TypeId} (h : Blk w b AWC t) : RdIns w (some ⟨b, 0, none⟩) AW := by
  refine .inr ⟨b, 0, rfl, fun j hj => ?_⟩
  have : j = 0 ∨ j = 1 ∨ j = 2 ∨ j = 3 := by simp [AW] at hj; omega
  rcases this with rfl | rfl | rfl | rfl
  all_goals exact ⟨h.cell _ _ rfl, h.cell _ _ rfl, h.cell _ _ rfl, h.cell _ _ rfl, h.cell _ _ rfl⟩

set_option maxHeartbeats 1000000 in
theorem awake_calls (w : World) : Calls Try.prog 5 #[] w fun e w' => e = .returned (.bool true) ∧ Below w.heap.size w w' := by
  obtain ⟨A, hok⟩ := runsb_ok aw_runs
  have PS := hid (fun (W : World) (b : Nat) (h : RdIns W (some ⟨b, 0, none⟩) AW) => Spans_calls _ AW 4 W h (Nat.le_refl _) (by omega) aw_runs hok.len hok.pos)
  have PW := hid (fun (W : World) (b : Nat) (h : RdIns W (some ⟨b, 0, none⟩) AW) => Ways_calls _ AW 4 W h (Nat.le_refl _) (by omega) aw_runs hok.len hok.pos)
  rw [aw_a, aw_b] at PS
  rw [aw_n] at PW
  have hlen : AW.length = 4 := rfl
  rw [hlen] at PS PW
  clear hok hlen
  go_enter Try.func5, Try.ntmps5
  go_wp2_with fail
  have hblk : Blk (w.alloc (.cells AWC 48)) w.heap.size AWC 48 := Blk.new _ _ _
  have hrd := aw_rd hblk
  refine (PS.out _ _ hrd).mono ?_
  rintro e w1 ⟨rfl, hb1⟩
  have HR1 := hid (hrd.below hb1)
  have HB1 := hid (below_trans (bel_a1 w _) hb1)
  clear hb1 hblk hrd
  go_wp2_with fail
  refine (PW.out _ _ HR1.out).mono ?_
  rintro e w2 ⟨rfl, hb2⟩
  have HB2 := hid (below_trans HB1.out hb2)
  clear hb2
  go_wp2_with fail
  go_ret
  exact ⟨rfl, HB2.out⟩

def smallb (I Q M R : ByteArray) : Bool := decide ((I.size : Int) ≤ 100) && (decide ((Q.size : Int) ≤ 100) && (decide ((M.size : Int) ≤ 100) && decide ((R.size : Int) ≤ 100)))
theorem Small_calls (I Q M R : ByteArray) (w : World) : Calls Try.prog 11 #[.agg #[.string I, .string Q, .string M, .string R]] w (RetB (smallb I Q M R) w) := by
  go_enter Try.func11, Try.ntmps11
  go_wp2_with fail
  all_goals
    go_ret
    exact ⟨ret_bool (by unfold smallb; first | (simp_all; done) | (simp_all; intros; omega)), bel_a1 _ _⟩

set_option maxRecDepth 10000 in
set_option maxHeartbeats 4000000 in
theorem TimingRuns_calls (a0 : Option Addr) (z0 : List Ins) (cap0 : Nat) (I Q M R : ByteArray) (P : Int) (w : World) (hr : RdIns w a0 z0) (hc : z0.length ≤ cap0) (hm : cap0 ≤ 9223372036854775807) (h0 : a0 = none → z0 = [] ∧ cap0 = 0) :
    Calls Try.prog 4 #[.slice a0 z0.length cap0, .agg #[.string I, .string Q, .string M, .string R], .int .i64 P] w fun e w' => e = .returned (.bool true) ∧ Below w.heap.size w w' := by
  have HR := hid hr
  have B0 := hid (Blk.new w #[.string I, .string Q, .string M, .string R] 36)
  have H0 := hid h0
  clear hr h0
  by_cases hbig : 120 < z0.length
  · have hd : decide ((120 : Int) < (z0.length : Int)) = true := by simp; omega
    go_enter Try.func4, Try.ntmps4
    go_wp2_with fail
    refine (awake_calls _).mono ?_
    rintro e w1 ⟨rfl, hb⟩
    have HB := hid (below_trans (bel_a1 w _) hb)
    clear hb
    go_wp2_with fail
    go_ret
    exact ⟨rfl, HB.out⟩
  have hd : decide ((120 : Int) < (z0.length : Int)) = false := by simp; omega
  cases hsm : smallb I Q M R with
  | false =>
    have HS := hid hsm
    clear hsm
    go_enter Try.func4, Try.ntmps4
    go_wp2_with fail
    refine (awake_calls _).mono ?_
    rintro e w1 ⟨rfl, hb⟩
    have HB := hid (below_trans (bel_a1 w _) hb)
    have b1 := B0.out.below hb
    have d0 := b1.cell 0 _ rfl
    have d1 := b1.cell 1 _ rfl
    have d2 := b1.cell 2 _ rfl
    have d3 := b1.cell 3 _ rfl
    clear hb b1
    go_wp2_with fail
    refine (Small_calls I Q M R _).mono ?_
    rintro e w2 ⟨rfl, hb⟩
    have HB2 := hid (below_trans HB.out hb)
    rw [HS.out]
    clear hb d0 d1 d2 d3
    go_wp2_with fail
    go_ret
    exact ⟨rfl, HB2.out⟩
  | true =>
    have HS := hid hsm
    clear hsm
    cases hA : allI z0 with
    | err er p =>
      have hne : (er != 0) = true := by have := nr_allI hA; simpa using this
      have PL := hid (fun W (h : RdIns W a0 z0) => Load_err a0 z0 cap0 W h hc hm er p hA)
      clear hA
      go_enter Try.func4, Try.ntmps4
      go_wp2_with fail
      refine (awake_calls _).mono ?_
      rintro e w1 ⟨rfl, hb⟩
      have HB := hid (below_trans (bel_a1 w _) hb)
      have b1 := B0.out.below hb
      have d0 := b1.cell 0 _ rfl
      have d1 := b1.cell 1 _ rfl
      have d2 := b1.cell 2 _ rfl
      have d3 := b1.cell 3 _ rfl
      clear hb b1
      go_wp2_with fail
      refine (Small_calls I Q M R _).mono ?_
      rintro e w2 ⟨rfl, hb⟩
      have HB2 := hid (below_trans HB.out hb)
      rw [HS.out]
      clear hb d0 d1 d2 d3
      go_wp2_with fail
      refine (PL.out _ (HR.out.below HB2.out)).mono ?_
      rintro e w3 ⟨rfl, hb⟩
      have HB3 := hid (below_trans HB2.out hb)
      clear hb
      go_wp2_with fail
      go_ret
      exact ⟨rfl, HB3.out⟩
    | tab A =>
      have hrun : runsb z0 = true := by unfold runsb; rw [hA]
      have hok := allI_ok hA
      have htk := allI_tok hA
      have hbd := run_bd htk hok I Q M R P
      have hmx := (farG_bd z0 true 0).2
      have PL := hid (fun W (h : RdIns W a0 z0) => Load_ok a0 z0 cap0 W h hc hm H0.out A hA (by omega))
      have PR := hid (fun W pb a cap (h1 : W.cell? ⟨pb, 0, none⟩ = some (.slice a z0.length cap)) (h2 : RdIns W a z0) => Run_calls pb a z0 cap I Q M R P W h1 h2 A hA)
      have PS := hid (fun W (h : RdIns W a0 z0) => Spans_calls a0 z0 cap0 W h hc hm hrun hok.len hok.pos)
      clear hA hrun hok htk
      generalize farG z0 false 0 = fa at *
      generalize farG z0 true 0 = fb at *
      obtain ⟨hb1, hb2⟩ := hbd
      go_enter Try.func4, Try.ntmps4
      go_wp2_with fail
      refine (awake_calls _).mono ?_
      rintro e w1 ⟨rfl, hb⟩
      have HB := hid (below_trans (bel_a1 w _) hb)
      have b1 := B0.out.below hb
      have d0 := b1.cell 0 _ rfl
      have d1 := b1.cell 1 _ rfl
      have d2 := b1.cell 2 _ rfl
      have d3 := b1.cell 3 _ rfl
      have BX := hid b1
      clear hb b1
      go_wp2_with fail
      refine (Small_calls I Q M R _).mono ?_
      rintro e w2 ⟨rfl, hb⟩
      have HB2 := hid (below_trans HB.out hb)
      have BX2 := hid (BX.out.below hb)
      rw [HS.out]
      clear hb d0 d1 d2 d3 BX
      go_wp2_with fail
      refine (PL.out _ (HR.out.below HB2.out)).mono ?_
      rintro e w3 ⟨pb, a, cap, rfl, hcl, hri, hn0, hle, hpb, hb⟩
      have HB3 := hid (below_trans HB2.out hb)
      have b3 := BX2.out.below hb
      have d0 := b3.cell 0 _ rfl
      have d1 := b3.cell 1 _ rfl
      have d2 := b3.cell 2 _ rfl
      have d3 := b3.cell 3 _ rfl
      have HC := hid hcl
      have HI := hid hri
      clear hb b3 BX2 hcl hri hn0 hle hpb
      go_wp2_with fail
      refine (PR.out _ pb a cap HC.out HI.out).mono ?_
      rintro e w4 ⟨rfl, hb⟩
      have HB4 := hid (below_trans HB3.out hb)
      clear hb d0 d1 d2 d3
      generalize runv z0 I Q M R P = X at *
      go_wp2_with fail
      refine (PS.out _ (HR.out.below (bel_al (bel_al HB4.out _) _))).mono ?_
      rintro e w5 ⟨rfl, hb⟩
      have HB5 := hid (below_trans (bel_al (bel_al HB4.out _) _) hb)
      have c0 : w5.cell? ⟨w4.heap.size + 1, 0, none⟩ = some (.int .i64 X.steps) := by
        have h := ((Blk.new (w4.alloc (.cells #[.string (fit I), .string (X.ar 2), .string (X.ar 3), .string (X.ar 4)] 36)) #[.int .i64 X.steps, .int .i64 X.zero, .int .i64 X.kind, .int .i64 X.n] 43).below hb).cell 0 _ rfl
        simpa using h
      have hfl : fb ≤ (z0.length : Int) := hmx
      clear hb
      go_wp2_with fail
      go_ret
      exact ⟨rfl, HB5.out⟩
end Go.Proofs.Ytejdkaniepgbdaa
