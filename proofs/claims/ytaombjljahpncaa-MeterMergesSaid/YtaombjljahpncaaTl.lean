/- What a meter tells is what the document says. -/
import Derived.Test.YtaombjljahpncaaMh
import Derived.Deep.RegionHeld3
set_option linter.unusedVariables false
set_option linter.unusedSimpArgs false
namespace Go.Proofs.Ytaombjljahpncaa
open Go.RowKit

def RetT (w : World) (e : Ending) (w' : World) : Prop := e = .returned (.bool true) ∧ Below w.heap.size w w'

theorem keepS {W w1 w2 : World} {p q r : Addr} {x y u : Value} (h : w1.cell? p = some x ∧ w1.cell? q = some y ∧ w1.cell? r = some u ∧ Below W.heap.size W w1) (hb : Below w1.heap.size w1 w2) :
    w2.cell? p = some x ∧ w2.cell? q = some y ∧ w2.cell? r = some u ∧ Below W.heap.size W w2 := by
  obtain ⟨h1, h2, h3, h4⟩ := h
  rw [hb.cell (World.block_lt_of_cell? _ _ h1), hb.cell (World.block_lt_of_cell? _ _ h2), hb.cell (World.block_lt_of_cell? _ _ h3)]
  exact ⟨h1, h2, h3, below_trans h4 hb⟩

set_option maxHeartbeats 4000000 in
theorem tells_calls (mb base c : Nat) (f : Nat → Int) (L : Int) (all : List Int) (late : Int) (last : List Int) (share : Int) (w : World) (hm : MAt w mb f) (hr : RAt w base c L all late last) (hp : Rep f all last late) (hl : all.length ≤ 1000) :
    Calls Try.prog 9 #[.pointer (some ⟨mb, 0, none⟩), .pointer (some ⟨c, 0, none⟩), .int .i64 share] w (RetT w) := by
  obtain ⟨vA, vL, hb, hA, hL, -⟩ := hr
  obtain ⟨aA, cA, rfl, hrA, hcA, hmA, -⟩ := hA.rd
  obtain ⟨aL, cL, rfl, hrL, hcL, hmL, -⟩ := hL.rd
  have hlL : last.length ≤ 64 := by have := hp.hl; omega
  have h71 : 0 ≤ f 71 ∧ f 71 ≤ 64 := by have := hp.h71; omega
  have hmean : (if f 66 = 0 then 0 else f 67 / f 66) = mean all := by
    unfold mean
    rw [hp.h66, hp.h67]
    by_cases h : all.length = 0
    · rw [if_pos h, if_pos (by omega)]
    · rw [if_neg h, if_neg (by omega)]
  have hsum := sumT_bd hp.rall all.length (Nat.le_refl _)
  have HM := hid hm
  have HB := hid hb
  have HRA := hid hrA
  have HRL := hid hrL
  have HP := hid hp
  have H71 := hid h71
  have HMEAN := hid hmean
  have HSUM := hid hsum
  have HCL := hid hcL
  clear hm hb hA hL hrA hrL hp h71 hmean hsum hcA hcL
  go_enter Try.func9, Try.ntmps9
  go_wp2_with fail
  refine (Range_calls _ _ _ HM.out).mono ?_
  rintro e W ⟨rfl, hb1⟩
  rw [HP.out.h68, HP.out.h69]
  have HM1 := hid (HM.out.below hb1)
  have hblk := HB.out.below hb1
  have k1 := hblk.cell 1 _ rfl
  have k2 := hblk.cell 2 _ rfl
  have k3 := hblk.cell 3 _ rfl
  have HRA1 := hid (HRA.out.below hb1)
  have HRL1 := hid (HRL.out.below hb1)
  have HB1 := hid hb1
  clear hb1 hblk HM HB HRA HRL
  go_wp2_with fail
  refine (rRange_calls _ _ _ _ HRA1.out hl).mono ?_
  rintro e w' ⟨rfl, rfl⟩
  generalize hp1 : mnT all all.length = p1 at *
  generalize hp2 : mxT all all.length = p2 at *
  have PC1 := hid (fun W' (h : W'.cell? ⟨c, 1, none⟩ = some (.slice aA all.length cA) ∧ W'.cell? ⟨c, 2, none⟩ = some (.int .i64 late) ∧ W'.cell? ⟨c, 3, none⟩ = some (.slice aL last.length cL) ∧ Below w'.heap.size w' W') =>
    show Calls Try.prog 18 #[.pointer (some ⟨mb, 0, none⟩)] W' fun e w2 => e = .returned (.int .i64 all.length) ∧ w2 = W' from by
      have := Count_calls mb f W' (HM1.out.below h.2.2.2)
      rwa [HP.out.h66] at this)
  have PC2 := hid (fun W' (h : W'.cell? ⟨c, 1, none⟩ = some (.slice aA all.length cA) ∧ W'.cell? ⟨c, 2, none⟩ = some (.int .i64 late) ∧ W'.cell? ⟨c, 3, none⟩ = some (.slice aL last.length cL) ∧ Below w'.heap.size w' W') =>
    show Calls Try.prog 13 #[.pointer (some ⟨mb, 0, none⟩)] W' (RetI (mean all) W') from by
      have := Mean_calls mb f W' (HM1.out.below h.2.2.2) (by rw [HP.out.h66]; omega) (by rw [HP.out.h67]; exact HSUM.out.1) (by rw [HP.out.h67]; have := HSUM.out.2; omega)
      rwa [HMEAN.out] at this)
  have PC3 := hid (fun W' (h : W'.cell? ⟨c, 1, none⟩ = some (.slice aA all.length cA) ∧ W'.cell? ⟨c, 2, none⟩ = some (.int .i64 late) ∧ W'.cell? ⟨c, 3, none⟩ = some (.slice aL last.length cL) ∧ Below w'.heap.size w' W') =>
    rMean_calls aA all cA W' (HRA1.out.below h.2.2.2) hl HP.out.rall)
  have PC4 := hid (fun W' (h : W'.cell? ⟨c, 1, none⟩ = some (.slice aA all.length cA) ∧ W'.cell? ⟨c, 2, none⟩ = some (.int .i64 late) ∧ W'.cell? ⟨c, 3, none⟩ = some (.slice aL last.length cL) ∧ Below w'.heap.size w' W') =>
    show Calls Try.prog 17 #[.pointer (some ⟨mb, 0, none⟩)] W' fun e w2 => e = .returned (.int .i64 late) ∧ w2 = W' from by
      have := Late_calls mb f W' (HM1.out.below h.2.2.2)
      rwa [HP.out.h70] at this)
  have PC5 := hid (fun W' (h : W'.cell? ⟨c, 1, none⟩ = some (.slice aA all.length cA) ∧ W'.cell? ⟨c, 2, none⟩ = some (.int .i64 late) ∧ W'.cell? ⟨c, 3, none⟩ = some (.slice aL last.length cL) ∧ Below w'.heap.size w' W') =>
    show Calls Try.prog 16 #[.pointer (some ⟨mb, 0, none⟩)] W' (RetO last W') from by
      have := Window_calls mb f W' (HM1.out.below h.2.2.2) HP.out.h65 H71.out
      rwa [HP.out.hw] at this)
  have PC6 := hid (fun W' (h : W'.cell? ⟨c, 1, none⟩ = some (.slice aA all.length cA) ∧ W'.cell? ⟨c, 2, none⟩ = some (.int .i64 late) ∧ W'.cell? ⟨c, 3, none⟩ = some (.slice aL last.length cL) ∧ Below w'.heap.size w' W') a9 c9 (h9 : RdI W' a9 last) =>
    same_calls a9 aL last c9 cL W' h9 (HRL1.out.below h.2.2.2) (by omega))
  have PC7 := hid (fun W' (h : W'.cell? ⟨c, 1, none⟩ = some (.slice aA all.length cA) ∧ W'.cell? ⟨c, 2, none⟩ = some (.int .i64 late) ∧ W'.cell? ⟨c, 3, none⟩ = some (.slice aL last.length cL) ∧ Below w'.heap.size w' W') =>
    Beat_calls mb f last W' (HM1.out.below h.2.2.2) HP.out.h65 H71.out HP.out.hw HP.out.rlast)
  have PC8 := hid (fun W' (h : W'.cell? ⟨c, 1, none⟩ = some (.slice aA all.length cA) ∧ W'.cell? ⟨c, 2, none⟩ = some (.int .i64 late) ∧ W'.cell? ⟨c, 3, none⟩ = some (.slice aL last.length cL) ∧ Below w'.heap.size w' W') =>
    rBeat_calls aL last cL W' (HRL1.out.below h.2.2.2) (by omega) HP.out.rlast HCL.out)
  have PC9 := hid (fun W' (h : W'.cell? ⟨c, 1, none⟩ = some (.slice aA all.length cA) ∧ W'.cell? ⟨c, 2, none⟩ = some (.int .i64 late) ∧ W'.cell? ⟨c, 3, none⟩ = some (.slice aL last.length cL) ∧ Below w'.heap.size w' W') =>
    Above_calls mb f last share W' (HM1.out.below h.2.2.2) HP.out.h65 H71.out HP.out.hw)
  have PC0 := hid (fun W' (h : W'.cell? ⟨c, 1, none⟩ = some (.slice aA all.length cA) ∧ W'.cell? ⟨c, 2, none⟩ = some (.int .i64 late) ∧ W'.cell? ⟨c, 3, none⟩ = some (.slice aL last.length cL) ∧ Below w'.heap.size w' W') =>
    show Calls Try.prog 26 #[.slice aL last.length cL, .int .i64 share] W' (RetI (abv last share) W') from by
      have := rAbove_calls aL last cL share W' (HRL1.out.below h.2.2.2) hlL HP.out.rlast
      rwa [above_eq _ HP.out.rlast] at this)
  have hbb : Below w'.heap.size w' w' := Below.refl _ _
  generalize mean all = me at *
  generalize beat last = be at *
  generalize abv last share = ab at *
  clear HM1 HRA1 HRL1 HP H71 HMEAN HSUM HCL hp1 hp2
  go_wp2_with fail
  dsimp only [List.append]
  go_region_held3 (fun W' => W'.cell? ⟨c, 1, none⟩ = some (.slice aA all.length cA) ∧ W'.cell? ⟨c, 2, none⟩ = some (.int .i64 late) ∧ W'.cell? ⟨c, 3, none⟩ = some (.slice aL last.length cL) ∧ Below w'.heap.size w' W')
    (first | (exact ⟨k1, k2, k3, hbb.drew⟩) | (exact keepS (by assumption) (by assumption)) | assumption | go_keep)
    (first
      | (go_at_call 18; (with_reducible refine (PC1.out _ (by assumption)).mono ?_); rintro e w2 ⟨rfl, rfl⟩)
      | (go_at_call 13; (with_reducible refine (PC2.out _ (by assumption)).mono ?_); rintro e w2 ⟨rfl, hb⟩)
      | (go_at_call 23; (with_reducible refine (PC3.out _ (by assumption)).mono ?_); rintro e w2 ⟨rfl, rfl⟩)
      | (go_at_call 17; (with_reducible refine (PC4.out _ (by assumption)).mono ?_); rintro e w2 ⟨rfl, rfl⟩)
      | (go_at_call 16; (with_reducible refine (PC5.out _ (by assumption)).mono ?_); rintro e w2 ⟨v9, rfl, ho9, hb⟩; obtain ⟨a9, c9, rfl, hr9, hc9, hm9⟩ := ho9.rd)
      | (go_at_call 24; (with_reducible refine (PC6.out _ (by assumption) _ _ (by exact hr9)).mono ?_); rintro e w2 ⟨rfl, hb⟩)
      | (go_at_call 14; (with_reducible refine (PC7.out _ (by assumption)).mono ?_); rintro e w2 ⟨rfl, hb⟩)
      | (go_at_call 25; (with_reducible refine (PC8.out _ (by assumption)).mono ?_); rintro e w2 ⟨rfl, hb⟩)
      | (go_at_call 15; (with_reducible refine (PC9.out _ (by assumption)).mono ?_); rintro e w2 ⟨rfl, hb⟩)
      | (go_at_call 26; (with_reducible refine (PC0.out _ (by assumption)).mono ?_); rintro e w2 ⟨rfl, hb⟩))
  go_wp2_with fail
  go_ret
  exact ⟨rfl, below_trans HB1.out (‹_ ∧ _ ∧ _ ∧ Below w'.heap.size w' _›).2.2.2⟩

end Go.Proofs.Ytaombjljahpncaa
