/- VmTimes: the law's walk. -/
import Derived.Test.YtjnohalffffiaaaAu
set_option linter.unusedVariables false
set_option linter.unusedSimpArgs false
namespace Go.Proofs.Ytjnohalffffiaaa
open Go.RowKit

/-- A slice of bytes that can be read. -/
def RdB (w : World) (a : Option Addr) (xs : List Int) : Prop := xs = [] ∨ ∃ b off, a = some ⟨b, off, none⟩ ∧ ∀ j, j < xs.length → w.cell? ⟨b, off + j, none⟩ = some (.int .u8 (xs.getD j 0))
theorem RdB.below {w w1 : World} {a : Option Addr} {xs : List Int} (h : RdB w a xs) (hb : Below w.heap.size w w1) : RdB w1 a xs := by
  rcases h with h | ⟨b, off, rfl, h⟩
  · exact .inl h
  · refine .inr ⟨b, off, rfl, fun j hj => ?_⟩
    rw [hb.cell (World.block_lt_of_cell? w _ (h j hj)), h j hj]
theorem RdB.cell {w : World} {a : Option Addr} {xs : List Int} (h : RdB w a xs) (j : Nat) (hj : j < xs.length) : ∃ b off, a = some ⟨b, off, none⟩ ∧ b < w.heap.size ∧ w.cell? ⟨b, off + j, none⟩ = some (.int .u8 (xs.getD j 0)) := by
  rcases h with rfl | ⟨b, off, rfl, h⟩
  · simp at hj
  · exact ⟨b, off, rfl, World.block_lt_of_cell? w _ (h j hj), h j hj⟩

def upN (j : Nat) : Nat := (j + 1) % 2
def sumT (xs : List Int) : Nat → Int
  | 0 => 0
  | j + 1 => sumT xs j + xs.getD j 0
def upsT : Nat → Int
  | 0 => 0
  | j + 1 => upsT j + (upN j : Int)
theorem sumT_bd {xs : List Int} (h : ∀ x ∈ xs, 0 ≤ x ∧ x ≤ 255) (j : Nat) : 0 ≤ sumT xs j ∧ sumT xs j ≤ 255 * j := by
  induction j with
  | zero => simp [sumT]
  | succ j ih =>
    rw [sumT]
    have hx : 0 ≤ xs.getD j 0 ∧ xs.getD j 0 ≤ 255 := by
      by_cases hj : j < xs.length
      · rw [List.getD_eq_getElem?_getD, List.getElem?_eq_getElem hj]
        exact h _ (List.getElem_mem hj)
      · rw [List.getD_eq_getElem?_getD, List.getElem?_eq_none (by omega)]
        simp
    push_cast
    omega
theorem upsT_bd (j : Nat) : 0 ≤ upsT j ∧ upsT j ≤ j := by
  induction j with
  | zero => simp [upsT]
  | succ j ih =>
    rw [upsT]
    have : upN j < 2 := by unfold upN; omega
    push_cast
    omega
def TVC (m : Int) : Array Value := #[.int .i64 1, .int .i64 1, .int .i64 1, .int .i64 0, .int .i64 0, .int .i64 34, .int .i64 0, .int .i64 3, .int .i64 0, .int .i64 m, .int .i64 3, .int .i64 1, .int .i64 2, .int .i64 0, .int .i64 0,
  .int .i64 1, .int .i64 1, .int .i64 1, .int .i64 1, .int .i64 0, .int .i64 35, .int .i64 0, .int .i64 4, .int .i64 0, .int .i64 m, .int .i64 3, .int .i64 1, .int .i64 2, .int .i64 1, .int .i64 0,
  .int .i64 1, .int .i64 1, .int .i64 1, .int .i64 1, .int .i64 0, .int .i64 36, .int .i64 0, .int .i64 3, .int .i64 9, .int .i64 0, .int .i64 3, .int .i64 1, .int .i64 2, .int .i64 2, .int .i64 0]
theorem tv_rd {m : Int} {w : World} {b : Nat} {t : TypeId} (h : Blk w b (TVC m) t) : RdIns w (some ⟨b, 0, none⟩) (TV m) := by
  refine .inr ⟨b, 0, rfl, fun j hj => ?_⟩
  have : j = 0 ∨ j = 1 ∨ j = 2 ∨ j = 3 ∨ j = 4 ∨ j = 5 ∨ j = 6 ∨ j = 7 ∨ j = 8 := by
    have : (TV m).length = 9 := rfl
    omega
  rcases this with rfl | rfl | rfl | rfl | rfl | rfl | rfl | rfl | rfl
  all_goals exact ⟨h.cell _ _ rfl, h.cell _ _ rfl, h.cell _ _ rfl, h.cell _ _ rfl, h.cell _ _ rfl⟩
theorem two_back (X : World) (E up : Nat) (hu : up < 2) (hb : Blk X E #[.int .u8 1, .int .u8 (up : Int)] 5) : (convert 44 9 (.slice (some ⟨E, 0, none⟩) 2 2)).run Try.prog X = .ok (.string ⟨#[1, UInt8.ofNat up]⟩) X := by
  refine run_convert_bytes_back (P := Try.prog) X 44 9 5 ⟨E, 0, none⟩ 2 [1, UInt8.ofNat up] Try.underlying44 Try.underlying5 Try.underlying9 (fun j hj => ?_)
  rw [add_pl, Nat.zero_add]
  obtain rfl | rfl : j = 0 ∨ j = 1 := by simp at hj; omega
  · exact hb.cell 0 _ rfl
  · have : ((UInt8.ofNat up).toNat : Int) = up := by obtain rfl | rfl : up = 0 ∨ up = 1 := by omega
                                                     all_goals rfl
    show X.cell? ⟨E, 1, none⟩ = some (.int .u8 ((UInt8.ofNat up).toNat : Int))
    rw [this]
    exact hb.cell 1 _ rfl

theorem byt_get (s : ByteArray) (i : Nat) (h : i < s.size) : byt s i = ((s[i]'h).toNat : Int) := by
  unfold byt
  have h' : i < s.data.toList.length := by rw [Array.length_toList]; exact h
  rw [List.getD_eq_getElem?_getD, List.getElem?_eq_getElem h']
  rfl
theorem yes_one (b : Bool) : (yesI b == 1) = b := by cases b <;> rfl
theorem four_zero (s : ByteArray) (hs : s.size = 64) (h : ∀ j, j < 4 → byt s j = 0) : s.extract 0 4 = ⟨#[0, 0, 0, 0]⟩ := by
  have hby : ∀ j, j < 4 → byt (s.extract 0 4) j = byt s j := by
    intro j hj
    unfold byt
    simp only [List.getD_eq_getElem?_getD]
    have e : (s.extract 0 4).data.toList[j]? = s.data.toList[j]? := by
      rw [ByteArray.data_extract, Array.getElem?_toList, Array.getElem?_toList, Array.getElem?_extract, if_pos (by have : s.data.size = 64 := hs; omega), Nat.zero_add]
    rw [e]
  have hsz : (s.extract 0 4).size = 4 := by rw [ByteArray.size_extract, hs]; rfl
  refine byt_ext hsz fun i hi => ?_
  rw [hsz] at hi
  rw [hby i hi, h i hi]
  obtain rfl | rfl | rfl | rfl : i = 0 ∨ i = 1 ∨ i = 2 ∨ i = 3 := by omega
  all_goals rfl

set_option maxRecDepth 10000 in
set_option maxHeartbeats 8000000 in
theorem VmTimes_calls (a0 : Option Addr) (xs : List Int) (cap0 : Nat) (n : Int) (w : World) (hr : RdB w a0 xs) (hc : xs.length ≤ cap0) (hm : cap0 ≤ 9223372036854775807) (hn : (Lit.int .u16 n).wf = true) (hx : ∀ x ∈ xs, (Lit.int .u8 x).wf = true) :
    Calls Try.prog 6 #[.slice a0 xs.length cap0, .int .u16 n] w fun e w' => e = .returned (.bool true) ∧ Below w.heap.size w w' := by
  have hn' : 0 ≤ n ∧ n ≤ 65535 := by simpa [Lit.wf, IntKind.min, IntKind.max, IntKind.signed, IntKind.bits] using hn
  have hx' : ∀ x ∈ xs, 0 ≤ x ∧ x ≤ 255 := fun x h => by simpa [Lit.wf, IntKind.min, IntKind.max, IntKind.signed, IntKind.bits] using hx x h
  have HR := hid hr
  have HX := hid hx'
  clear hr hn hx hx'
  by_cases hbig : 40 < xs.length
  · have hd : decide ((40 : Int) < (xs.length : Int)) = true := by simp; omega
    go_enter Try.func6, Try.ntmps6
    go_wp2_with fail
    refine (awake_calls _).mono ?_
    rintro e w1 ⟨rfl, hb⟩
    have HB := hid hb
    clear hb
    go_wp2_with fail
    go_ret
    exact ⟨rfl, HB.out⟩
  have hd : decide ((40 : Int) < (xs.length : Int)) = false := by simp; omega
  obtain ⟨q, hq, hq5⟩ : ∃ q : Nat, n.tmod 500 = q ∧ q < 500 := ⟨(n % 500).toNat, by rw [Int.tmod_eq_emod_of_nonneg hn'.1]; omega, by omega⟩
  obtain ⟨A, hA⟩ := chk_tab (tv_chk q hq5)
  have hw1 : IntKind.i64.wrap (1 + (q : Int)) = 1 + (q : Int) := by rw [IntKind.wrap_i64]; omega
  have hw0 : IntKind.i64.wrap (q : Int) = (q : Int) := by rw [IntKind.wrap_i64]; omega
  have hm1 : 1 ≤ 1 + (q : Int) ∧ 1 + (q : Int) ≤ 500 := by omega
  have HM := hid hm1
  obtain ⟨m, hmm⟩ : ∃ m, 1 + (q : Int) = m := ⟨_, rfl⟩
  rw [hmm] at HM hA hw1
  have PL := hid (fun (W : World) (b : Nat) (h : RdIns W (some ⟨b, 0, none⟩) (TV m)) => Load_ok (some ⟨b, 0, none⟩) (TV m) 9 W h (Nat.le_refl _) (by omega) (fun e => by cases e) A hA (by show 9 ≤ 100000; omega))
  have PR := hid (fun (W : World) (pb : Nat) (a : Option Addr) (cap : Nat) (I Q M R : ByteArray) (P : Int) (hc : W.cell? ⟨pb, 0, none⟩ = some (.slice a (TV m).length cap)) (h : RdIns W a (TV m)) => Run_calls pb a (TV m) cap I Q M R P W hc h A hA)
  have hlen : (TV m).length = 9 := rfl
  rw [hlen] at PL
  have hmm2 : wrap64 (1 + (q : Int)) = m := by rw [← hmm]; unfold wrap64; omega
  clear hlen hA hm1
  go_enter Try.func6, Try.ntmps6
  go_wp2_with fail
  refine (awake_calls _).mono ?_
  rintro e w1 ⟨rfl, hb⟩
  have HB1 := hid hb
  clear hb
  go_wp2_with fail
  have hblk : Blk (w1.alloc (.cells (TVC m) 48)) w1.heap.size (TVC m) 48 := Blk.new _ _ _
  refine (PL.out _ _ (tv_rd hblk)).mono ?_
  rintro e w2 ⟨pb, a, cap, rfl, hcl, hri, hn0, hle, hpb, hb⟩
  have HB2 := hid (below_trans (bel_al HB1.out _) hb)
  have HC := hid hcl
  have HI := hid hri
  clear hb hblk hcl hri hn0 hle hpb PL HB1
  go_wp2_with fail
  refine (Blank_calls _).mono ?_
  rintro e w3 ⟨rfl, hb⟩
  have hpl := World.block_lt_of_cell? w2 _ HC.out
  have hc3 : w3.cell? ⟨pb, 0, none⟩ = some (.slice a (TV m).length cap) := by rw [hb.cell hpl]; exact HC.out
  have HI3 := hid (HI.out.below hb)
  have HC3 := hid hc3
  have HB3 := hid (below_trans HB2.out hb)
  have HR3 := hid (HR.out.below HB3.out)
  have hpl3 := World.block_lt_of_cell? w3 _ hc3
  have HT0 := hid (ti_start m HM.out.1)
  have hz0 : (fit ⟨#[]⟩).size = 64 := fit_size _
  generalize fit ⟨#[]⟩ = z at *
  have HZ0 := hid hz0
  clear hb hc3 HI HC HB2 hpl HR hz0
  go_wp2_with fail
  obtain ⟨D, hD⟩ : ∃ D, w3.heap.size = D := ⟨_, rfl⟩
  have HD := hid hD
  have HW4 := hid (Blk.new w3 #[.string z, .string z, .string z, .string z] 24)
  rw [hD] at HW4
  have HB4 := hid (bel_a1 w3 (.cells #[.string z, .string z, .string z, .string z] 24))
  rw [hD] at hpl3 ⊢
  clear hD
  generalize w3.alloc (.cells #[.string z, .string z, .string z, .string z] 24) = W4 at *
  go_loopw [11, 12, 48] (fun s c x wr => ∃ (j : Nat) (I Q M R : ByteArray), j ≤ xs.length ∧ s = .int .i64 (sumT xs j) ∧ c = .int .i64 (upsT j) ∧ x = .int .i64 j ∧ Blk wr D #[.string I, .string Q, .string M, .string R] 24 ∧ Q.size = 64 ∧ TI m (sumT xs j) (upsT j) ((j % 2 : Nat) : Int) M R ∧ Below w3.heap.size w3 wr) (fun _ _ x _ => xs.length - (intOf x).toNat)
  case atStart => exact ⟨0, z, z, z, z, Nat.zero_le _, rfl, rfl, rfl, HW4.out, HZ0.out, HT0.out, HB4.out⟩
  case round =>
    obtain ⟨j, I, Q, M, R, hj, rfl, rfl, rfl, hblk, hQ, hTI, hbel⟩ := hrel
    have HQ := hid hQ
    have HTI := hid hTI
    have HBL := hid hblk
    have HBE := hid hbel
    clear hblk hQ hTI hbel
    have hcP : wr.cell? ⟨pb, 0, none⟩ = some (.slice a (TV m).length cap) := by rw [HBE.out.cell (by rw [HD.out]; exact hpl3)]; exact HC3.out
    have HCP := hid hcP
    have HIP := hid (HI3.out.below HBE.out)
    clear hcP
    by_cases hlt : j < xs.length
    · have hdj : decide ((j : Int) < (xs.length : Int)) = true := by simp; omega
      obtain ⟨b1, o1, ha1, hb1, hcell⟩ := (HR3.out.below HBE.out).cell j hlt
      have hdv : 0 ≤ xs.getD j 0 ∧ xs.getD j 0 ≤ 255 := by
        rw [List.getD_eq_getElem?_getD, List.getElem?_eq_getElem hlt]
        exact HX.out _ (List.getElem_mem hlt)
      have HSB := hid (sumT_bd HX.out j)
      have HUB := hid (upsT_bd j)
      have HSE := hid (show sumT xs (j + 1) = sumT xs j + xs.getD j 0 from rfl)
      have HUE := hid (show upsT (j + 1) = upsT j + (upN j : Int) from rfl)
      have hup2 : upN j < 2 := by unfold upN; omega
      have hmod : ((j : Int) + 1).tmod 2 = (upN j : Int) := by rw [Int.tmod_eq_emod_of_nonneg (by omega)]; unfold upN; omega
      have HU1 := hid (show ((j % 2 : Nat) : Int) = 1 - (upN j : Int) from by unfold upN; omega)
      have HU2 := hid (show (((j + 1) % 2 : Nat) : Int) = (upN j : Int) from rfl)
      have HXL := hid (show j < 40 from by omega)
      generalize xs.getD j 0 = d at *
      generalize upN j = up at *
      generalize sumT xs j = s at *
      generalize upsT j = c at *
      have HA1 := hid ha1
      subst ha1
      have hwj : IntKind.i64.wrap ((j : Int) + 1) = (j : Int) + 1 := by rw [IntKind.wrap_i64]; omega
      have hwu : IntKind.i64.wrap (up : Int) = (up : Int) := by rw [IntKind.wrap_i64]; omega
      have hw8 : IntKind.u8.wrap (up : Int) = (up : Int) := by rw [u8_w]; omega
      have hwd : IntKind.i64.wrap d = d := by rw [IntKind.wrap_i64]; omega
      have hws : IntKind.i64.wrap (s + d) = s + d := by have := HSB.out; have := HXL.out; rw [IntKind.wrap_i64]; omega
      have hwc : IntKind.i64.wrap (c + (up : Int)) = c + (up : Int) := by have := HUB.out; have := HXL.out; rw [IntKind.wrap_i64]; omega
      have HE := hid (Blk.new wr #[.int .u8 1, .int .u8 (up : Int)] 5)
      have hbk := two_back (wr.alloc (.cells #[.int .u8 1, .int .u8 (up : Int)] 5)) wr.heap.size up hup2 HE.out
      have v0 := HBL.out.cell 0 _ rfl
      have v1 := HBL.out.cell 1 _ rfl
      have v2 := HBL.out.cell 2 _ rfl
      have v3 := HBL.out.cell 3 _ rfl
      have g0 := HBL.out.free 0
      have g1 := HBL.out.free 1
      have g2 := HBL.out.free 2
      have g3 := HBL.out.free 3
      have hDl := HBL.out.lt
      go_wp2_with fail
      have hX5 : Blk ((wr.setCell ⟨D, 0, none⟩ (.string ⟨#[1, UInt8.ofNat up]⟩)).alloc (.cells #[.int .u8 1, .int .u8 (up : Int)] 5)) D #[.string ⟨#[1, UInt8.ofNat up]⟩, .string Q, .string M, .string R] 24 := (HBL.out.set 0 _).alloc _
      have hB5 : Below w3.heap.size w3 ((wr.setCell ⟨D, 0, none⟩ (.string ⟨#[1, UInt8.ofNat up]⟩)).alloc (.cells #[.int .u8 1, .int .u8 (up : Int)] 5)) := bel_al (bel_set HBE.out (by rw [HD.out]; exact Nat.le_refl _) _ _) _
      have hc5 : ((wr.setCell ⟨D, 0, none⟩ (.string ⟨#[1, UInt8.ofNat up]⟩)).alloc (.cells #[.int .u8 1, .int .u8 (up : Int)] 5)).cell? ⟨pb, 0, none⟩ = some (.slice a (TV m).length cap) := by rw [hB5.cell (by rw [HD.out]; exact hpl3)]; exact HC3.out
      refine (PR.out _ pb a cap ⟨#[1, UInt8.ofNat up]⟩ Q M R d hc5 (HI3.out.below hB5)).mono ?_
      rintro e w6 ⟨rfl, hb⟩
      have B6 := hX5.below hb
      have HB6 := hid (below_trans hB5 hb)
      have hpd : passI d = d := by unfold passI; omega
      obtain ⟨hi0, hi1⟩ := in_up up hup2
      obtain ⟨k2, k3, k4⟩ := tv_run ⟨#[1, UInt8.ofNat up]⟩ Q M R d m
      rw [hpd, fit_id Q HQ.out, fit_id M HTI.out.ms, fit_id R HTI.out.rs] at k2
      rw [hpd, fit_id M HTI.out.ms] at k3
      rw [fit_id R HTI.out.rs] at k4
      have hupc : (up : Int) = 0 ∨ (up : Int) = 1 := by omega
      have hs1 : 0 ≤ s ∧ s ≤ 1000000 := by have := HSB.out; have := HXL.out; omega
      have hc1 : 0 ≤ c ∧ c ≤ 1000000 := by have := HUB.out; have := HXL.out; omega
      have hp1 : 0 ≤ d ∧ d ≤ 10000 := by omega
      obtain ⟨t1, _, _⟩ := ti_step HM.out hs1 hc1 hp1 hi0 hi1 hupc HU1.out HTI.out
      obtain ⟨y0, y1, y2, y3⟩ := ti_q (Q := Q) HQ.out HM.out hs1 hc1 hp1 hi0 hi1 hupc HU1.out HTI.out
      rw [← k2] at y0 y1 y2 y3
      rw [← k3, ← k4] at t1
      have T1 := hid t1
      have Y0 := hid y0
      have Y1 := hid y1
      have Y2 := hid y2
      have Y3 := hid y3
      clear hb hX5 hB5 hc5 hpd hi0 hi1 k2 k3 k4 t1 y0 y1 y2 v0 v1 v2 v3 g0 g1 g2 g3 hbk hs1 hc1 hp1 hupc
      generalize (runv (TV m) ⟨#[1, UInt8.ofNat up]⟩ Q M R d) = X at *
      generalize X.ar 2 = Q2 at *
      generalize X.ar 3 = M2 at *
      generalize X.ar 4 = R2 at *
      have v0 := B6.cell 0 _ rfl
      have v1 := B6.cell 1 _ rfl
      have v2 := B6.cell 2 _ rfl
      have v3 := B6.cell 3 _ rfl
      have g0 := B6.free 0
      have g1 := B6.free 1
      have g2 := B6.free 2
      have g3 := B6.free 3
      have B6H := hid B6
      clear B6
      have E0 : (((Q2[0]'(by omega)).toNat : Int) == 1) = decide (m ≤ s + d) := by rw [← byt_get Q2 0 (by omega), Y0.out]; exact yes_one _
      have E1 : (((Q2[1]'(by omega)).toNat : Int) == 1) = decide (m ≤ c + (up : Int)) := by rw [← byt_get Q2 1 (by omega), Y1.out]; exact yes_one _
      have E2 : (((Q2[2]'(by omega)).toNat : Int) != (up : Int)) = false := by rw [← byt_get Q2 2 (by omega), Y2.out]; simp
      go_wp2_with fail
      refine ⟨⟨j + 1, _, Q2, M2, R2, hlt, by rw [HSE.out], by rw [HUE.out], by first | rfl | (simp; done), setB4 B6H.out _ _ _ _, Y3.out, ?_, ?_⟩, by simp [intOf]; omega⟩
      · rw [HSE.out, HUE.out, HU2.out]
        exact T1.out
      · exact bel_set (b := D) (bel_set (b := D) (bel_set (b := D) (bel_set (b := D) HB6.out (by rw [HD.out]; exact Nat.le_refl _) _ _) (by rw [HD.out]; exact Nat.le_refl _) _ _) (by rw [HD.out]; exact Nat.le_refl _) _ _) (by rw [HD.out]; exact Nat.le_refl _) _ _
    · obtain rfl : j = xs.length := by omega
      have hdj : decide ((xs.length : Int) < (xs.length : Int)) = false := by simp
      have HSB := hid (sumT_bd HX.out xs.length)
      have HUB := hid (upsT_bd xs.length)
      have HXL := hid (show xs.length ≤ 40 from by omega)
      generalize sumT xs xs.length = s at *
      generalize upsT xs.length = c at *
      have v0 := HBL.out.cell 0 _ rfl
      have v1 := HBL.out.cell 1 _ rfl
      have v2 := HBL.out.cell 2 _ rfl
      have v3 := HBL.out.cell 3 _ rfl
      have g0 := HBL.out.free 0
      go_wp2_with fail
      have hX5 : Blk (wr.setCell ⟨D, 0, none⟩ (.string ⟨#[]⟩)) D #[.string ⟨#[]⟩, .string Q, .string M, .string R] 24 := HBL.out.set 0 _
      have hB5 : Below w3.heap.size w3 (wr.setCell ⟨D, 0, none⟩ (.string ⟨#[]⟩)) := bel_set HBE.out (by rw [HD.out]; exact Nat.le_refl _) _ _
      have hc5 : (wr.setCell ⟨D, 0, none⟩ (.string ⟨#[]⟩)).cell? ⟨pb, 0, none⟩ = some (.slice a (TV m).length cap) := by rw [hB5.cell (by rw [HD.out]; exact hpl3)]; exact HC3.out
      refine (PR.out _ pb a cap ⟨#[]⟩ Q M R 1 hc5 (HI3.out.below hB5)).mono ?_
      rintro e w6 ⟨rfl, hb⟩
      have B6 := hX5.below hb
      have HB6 := hid (below_trans hB5 hb)
      obtain ⟨hi0, hi1, _⟩ := in_no
      obtain ⟨k2, k3, k4⟩ := tv_run ⟨#[]⟩ Q M R 1 m
      rw [fit_id Q HQ.out, fit_id M HTI.out.ms, fit_id R HTI.out.rs] at k2
      rw [fit_id M HTI.out.ms] at k3
      have hc1 : 0 ≤ c ∧ c ≤ 1000000 := by have := HUB.out; have := HXL.out; omega
      obtain ⟨y0, y1, y3, y4, y5⟩ := ti_last (Q := Q) (p := passI 1) HQ.out HM.out hc1 hi0 hi1 HTI.out
      rw [← k2] at y0 y1 y3
      rw [← k3] at y4 y5
      have Y0 := hid y0
      have Y1 := hid y1
      have Y5 := hid y5
      clear hb hX5 hB5 hc5 hi0 hi1 k2 k3 k4 y0 y1 y5 v0 v1 v2 v3 g0 hc1
      generalize (runv (TV m) ⟨#[]⟩ Q M R 1) = X at *
      generalize X.ar 2 = Q2 at *
      generalize X.ar 3 = M2 at *
      generalize X.ar 4 = R2 at *
      have v0 := B6.cell 0 _ rfl
      have v1 := B6.cell 1 _ rfl
      have v2 := B6.cell 2 _ rfl
      have v3 := B6.cell 3 _ rfl
      have g0 := B6.free 0
      have g1 := B6.free 1
      have g2 := B6.free 2
      have g3 := B6.free 3
      have E0 : (((Q2[0]'(by omega)).toNat : Int) == 0) = true := by rw [← byt_get Q2 0 (by omega), Y0.out]; rfl
      have E1 : (((Q2[1]'(by omega)).toNat : Int) == 1) = decide (m ≤ c) := by rw [← byt_get Q2 1 (by omega), Y1.out]; exact yes_one _
      have E4 : M2.extract 0 4 = ⟨#[0, 0, 0, 0]⟩ := four_zero M2 y4 Y5.out
      clear B6
      go_wp2_with fail
      go_ret
      refine ⟨rfl, below_trans HB3.out ?_⟩
      exact bel_set (b := D) (bel_set (b := D) (bel_set (b := D) (bel_set (b := D) HB6.out (by rw [HD.out]; exact Nat.le_refl _) _ _) (by rw [HD.out]; exact Nat.le_refl _) _ _) (by rw [HD.out]; exact Nat.le_refl _) _ _) (by rw [HD.out]; exact Nat.le_refl _) _ _
end Go.Proofs.Ytjnohalffffiaaa
