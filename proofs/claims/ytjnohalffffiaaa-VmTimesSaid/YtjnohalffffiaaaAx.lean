/- Statements of layer 15: awake. -/
import Derived.Test.YtjnohalffffiaaaNz
set_option linter.unusedVariables false
set_option linter.unusedSimpArgs false
namespace Go.Proofs.Ytjnohalffffiaaa
open Go.RowKit

def AV : List Ins := [⟨1, 3, 0, 0, 2⟩, ⟨32, 0, 0, 16, 0⟩, ⟨1, 3, 0, 0, 3⟩, ⟨33, 0, 0, 0, 0⟩, ⟨3, 3, 2, 0, 0⟩]
theorem av_chk : (chkI AV).1 = 0 := by kernel_rfl
def AVC : Array Value := #[.int .i64 1, .int .i64 3, .int .i64 0, .int .i64 0, .int .i64 2, .int .i64 32, .int .i64 0, .int .i64 0, .int .i64 16, .int .i64 0, .int .i64 1, .int .i64 3, .int .i64 0, .int .i64 0, .int .i64 3,
  .int .i64 33, .int .i64 0, .int .i64 0, .int .i64 0, .int .i64 0, .int .i64 3, .int .i64 3, .int .i64 2, .int .i64 0, .int .i64 0]
theorem av_rd {w : World} {b : Nat} {t : TypeId} (h : Blk w b AVC t) : RdIns w (some ⟨b, 0, none⟩) AV := by
  refine .inr ⟨b, 0, rfl, fun j hj => ?_⟩
  have : j = 0 ∨ j = 1 ∨ j = 2 ∨ j = 3 ∨ j = 4 := by simp [AV] at hj; omega
  rcases this with rfl | rfl | rfl | rfl | rfl
  all_goals exact ⟨h.cell _ _ rfl, h.cell _ _ rfl, h.cell _ _ rfl, h.cell _ _ rfl, h.cell _ _ rfl⟩
def avS (z : ByteArray) : VS := runv AV z z z z 0
theorem av_eq (z : ByteArray) : avS z = (((((VS.start z z z z).tick.step 0 ⟨1, 3, 0, 0, 2⟩).tick.step 0 ⟨32, 0, 0, 16, 0⟩).tick.step 0 ⟨1, 3, 0, 0, 3⟩).tick.step 0 ⟨33, 0, 0, 0, 0⟩).tick.step 0 ⟨3, 3, 2, 0, 0⟩ := by
  unfold avS runv
  rw [show passI 0 = 0 from rfl, VS.runs_on 0 AV 0 _ (by decide) rfl rfl, VS.runs_on 0 AV 1 _ (by decide) rfl rfl, VS.runs_on 0 AV 2 _ (by decide) rfl rfl, VS.runs_on 0 AV 3 _ (by decide) rfl rfl, VS.runs_on 0 AV 4 _ (by decide) rfl rfl,
    VS.runs_done 0 AV 5 _ (by decide)]
  rfl
theorem av_steps (z : ByteArray) : (avS z).steps = 5 := by rw [av_eq]; rfl
theorem av_zero (z : ByteArray) : (avS z).zero = 0 := by rw [av_eq]; rfl
theorem av_kind (z : ByteArray) : (avS z).kind = 3 := by rw [av_eq]; rfl
theorem av_n (z : ByteArray) : (avS z).n = 6 := by rw [av_eq]; kernel_rfl
theorem av_ar (z : ByteArray) : (avS z).ar 2 = putk (fit z) 0 3 6 := by rw [av_eq]; kernel_rfl
theorem av_size (z : ByteArray) : ((avS z).ar 2).size = 64 := by rw [av_ar, putk_size, fit_size]
theorem av_two (z : ByteArray) : ((avS z).ar 2).extract 0 2 = ⟨#[0, 6]⟩ := by
  have hs := av_size z
  have h0 : byt ((avS z).ar 2) 0 = 0 := by
    rw [av_ar]
    show byt (putB (fit z) 0 2 6) 0 = 0
    rw [byt_putB _ _ _ _ _ (by rw [fit_size]; omega), if_pos (by omega)]
    rfl
  have h1 : byt ((avS z).ar 2) 1 = 6 := by
    rw [av_ar]
    show byt (putB (fit z) 0 2 6) 1 = 6
    rw [byt_putB _ _ _ _ _ (by rw [fit_size]; omega), if_pos (by omega)]
    rfl
  generalize (avS z).ar 2 = s at *
  have hby : ∀ j, j < 2 → byt (s.extract 0 2) j = byt s j := by
    intro j hj
    unfold byt
    simp only [List.getD_eq_getElem?_getD]
    have e : (s.extract 0 2).data.toList[j]? = s.data.toList[j]? := by
      rw [ByteArray.data_extract, Array.getElem?_toList, Array.getElem?_toList, Array.getElem?_extract, if_pos (by have : s.data.size = 64 := hs; omega), Nat.zero_add]
    rw [e]
  have hsz : (s.extract 0 2).size = 2 := by rw [ByteArray.size_extract, hs]; rfl
  refine byt_ext hsz fun i hi => ?_
  rw [hsz] at hi
  obtain rfl | rfl : i = 0 ∨ i = 1 := by omega
  · rw [hby 0 (by omega), h0]; rfl
  · rw [hby 1 (by omega), h1]; rfl

set_option maxHeartbeats 2000000 in
theorem awake_calls (w : World) : Calls Try.prog 8 #[] w fun e w' => e = .returned (.bool true) ∧ Below w.heap.size w w' := by
  obtain ⟨A, hA⟩ := chk_tab av_chk
  have PL := hid (fun (W : World) (b : Nat) (h : RdIns W (some ⟨b, 0, none⟩) AV) => Load_ok (some ⟨b, 0, none⟩) AV 5 W h (Nat.le_refl _) (by omega) (fun e => by cases e) A hA (by decide))
  have PR := hid (fun (W : World) (pb : Nat) (a : Option Addr) (cap : Nat) (z : ByteArray) (hc : W.cell? ⟨pb, 0, none⟩ = some (.slice a AV.length cap)) (h : RdIns W a AV) => Run_calls pb a AV cap z z z z 0 W hc h A hA)
  have hlen : AV.length = 5 := rfl
  rw [hlen] at PL
  clear hlen hA
  go_enter Try.func8, Try.ntmps8
  go_wp2_with fail
  have hblk : Blk (w.alloc (.cells AVC 48)) w.heap.size AVC 48 := Blk.new _ _ _
  have hrd := av_rd hblk
  refine (PL.out _ _ hrd).mono ?_
  rintro e w1 ⟨pb, a, cap, rfl, hc, hr, hn0, hle, hpb, hb⟩
  have HC := hid hc
  have HR := hid hr
  have HB1 := hid (below_trans (bel_a1 w _) hb)
  clear hb hblk hrd hc hr hn0 hle hpb
  go_wp2_with fail
  refine (Blank_calls _).mono ?_
  rintro e w2 ⟨rfl, hb⟩
  have hlt := World.block_lt_of_cell? w1 _ HC.out
  have hc2 : w2.cell? ⟨pb, 0, none⟩ = some (.slice a AV.length cap) := by rw [hb.cell hlt]; exact HC.out
  have HR2 := hid (HR.out.below hb)
  have HC2 := hid hc2
  have HB2 := hid (below_trans HB1.out hb)
  clear hb hc2
  generalize fit ⟨#[]⟩ = z at *
  go_wp2_with fail
  refine (PR.out _ pb a cap z HC2.out HR2.out).mono ?_
  rintro e w3 ⟨rfl, hb⟩
  have HB3 := hid (below_trans HB2.out hb)
  clear hb
  have e1 : (runv AV z z z z 0).steps = 5 := av_steps z
  have e2 : (runv AV z z z z 0).zero = 0 := av_zero z
  have e3 : (runv AV z z z z 0).kind = 3 := av_kind z
  have e4 : (runv AV z z z z 0).n = 6 := av_n z
  have e5 : ((runv AV z z z z 0).ar 2).size = 64 := av_size z
  have e6 : ((runv AV z z z z 0).ar 2).extract 0 2 = ⟨#[0, 6]⟩ := av_two z
  rw [e1, e2, e3, e4]
  generalize (runv AV z z z z 0).ar 2 = q at *
  generalize (runv AV z z z z 0).ar 3 = m at *
  generalize (runv AV z z z z 0).ar 4 = r at *
  clear e1 e2 e3 e4
  go_wp2_with fail
  go_ret
  refine ⟨rfl, ?_⟩
  exact bel_al (bel_al HB3.out _) _
end Go.Proofs.Ytjnohalffffiaaa
