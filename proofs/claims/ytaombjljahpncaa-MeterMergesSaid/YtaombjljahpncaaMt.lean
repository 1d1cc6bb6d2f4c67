/- MeterTells' walk. -/
import Derived.Test.YtaombjljahpncaaTl
set_option linter.unusedVariables false
set_option linter.unusedSimpArgs false
namespace Go.Proofs.Ytaombjljahpncaa
open Go.RowKit

theorem RAt.move {w w1 : World} {base c : Nat} {L : Int} {all : List Int} {late : Int} {last : List Int} (h : RAt w base c L all late last) (r : Option Nat) (hg : w.grownBy w1 r) (hc : some c ≠ r)
    (hr : ∀ cur, ∀ k, r = some k → ¬ Blk w k cur 3) : RAt w1 base c L all late last := by
  obtain ⟨vA, vL, hb, hA, hL, hs⟩ := h
  have key : ∀ {v : Value} {xs : List Int}, OwnO w base v xs → OwnO w1 base v xs := by
    intro v xs h
    refine h.kept hg ?_
    cases e : v.ownBlock with
    | none => exact .inl rfl
    | some k =>
      refine .inr fun e2 => ?_
      obtain ⟨_, cur, hk⟩ := h.lt k e
      exact hr cur k e2.symm hk
  exact ⟨vA, vL, hb.grown hg hc, key hA, key hL, hs⟩
theorem RAt.below {w w1 : World} {base c : Nat} {L : Int} {all : List Int} {late : Int} {last : List Int} (h : RAt w base c L all late last) (hb : Below w.heap.size w w1) : RAt w1 base c L all late last := by
  obtain ⟨vA, vL, hb', hA, hL, hs⟩ := h
  exact ⟨vA, vL, hb'.below hb, hA.below hb, hL.below hb, hs⟩
theorem RAt.turns {w w1 : World} {base c mb : Nat} {L : Int} {all : List Int} {late : Int} {last : List Int} {f : Nat → Int} (h : RAt w base c L all late last) (hm : MAt w mb f) (hg : w.grownBy w1 (some mb)) : RAt w1 base c L all late last := by
  refine h.move (some mb) hg ?_ ?_
  · intro e
    injection e with e
    subst e
    obtain ⟨vA, vL, hb, _⟩ := h
    exact absurd (Blk.inj hb hm) (by decide)
  · intro cur k e hk
    injection e with e
    subst e
    exact absurd (Blk.inj hk hm) (by decide)
theorem Lets.below {base c : Nat} {w0 w w' : World} (h : Lets base c w w') (hc : base ≤ c) (h0 : Below base w0 w) : Below base w0 w' :=
  ⟨h.os.trans h0.os, h.tape.trans h0.tape, h.output.trans h0.output, Nat.le_trans h0.size h.size, fun k hk => (h.block k hk (by omega)).trans (h0.block k hk)⟩
theorem RAt.new (w : World) (base : Nat) (L : Int) : RAt (w.alloc (.cells #[.int .i64 L, .slice none 0 0, .int .i64 0, .slice none 0 0] 29)) base w.heap.size L [] 0 [] :=
  ⟨_, _, Blk.new _ _ _, OwnO.nil _ _, OwnO.nil _ _, .inl rfl⟩

theorem runl_len (l : List Int) (i : Nat) : (runl l i).length ≤ 64 := by
  have := (run_rep 0 l i).hl
  omega
theorem runz_bd (L : Int) (l : List Int) (i : Nat) : 0 ≤ runz L l i ∧ runz L l i ≤ i := by
  have := (run_rep L l i).hla
  rwa [runa_len] at this

set_option maxHeartbeats 4000000 in
theorem MeterTells_calls (lim : Int) (a : Option Addr) (xs : List Int) (cap : Nat) (share : Int) (w : World) (hx : RdI w a xs) (hc : xs.length ≤ cap) (hm : cap ≤ 9223372036854775807) :
    Calls Try.prog 3 #[.int .i64 lim, .slice a xs.length cap, .int .i64 share] w fun e w' => e = .returned (.bool true) ∧ Below w.heap.size w w' := by
  have HX := hid hx
  clear hx
  by_cases hl : (150 : Int) < xs.length
  · go_enter Try.func3, Try.ntmps3
    go_wp2_with fail
    refine (mawake_calls _).mono ?_
    rintro e w1 ⟨rfl, hb1⟩
    have HB1 := hid hb1
    clear hb1
    go_wp2_with fail
    go_ret
    exact ⟨rfl, HB1.out⟩
  go_enter Try.func3, Try.ntmps3
  go_wp2_with fail
  refine (mawake_calls _).mono ?_
  rintro e w1 ⟨rfl, hb1⟩
  have HBW := hid hb1
  clear hb1
  go_wp2_with fail
  refine (New_calls _ _).mono ?_
  rintro e w' ⟨rfl, rfl⟩
  obtain ⟨L, hL⟩ : ∃ L, L = brg lim := ⟨_, rfl⟩
  have HL := hid hL
  rw [← hL]
  have hm : MAt (w1.alloc (.cells (cells72 (fresh L)) 44)) w1.heap.size (fresh L) := Blk.new _ _ _
  have hs2 : (w1.alloc (.cells (cells72 (fresh L)) 44)).heap.size = w1.heap.size + 1 := by simp
  have hb0 : Below w.heap.size w (w1.alloc (.cells (cells72 (fresh L)) 44)) := HBW.out.alloc HBW.out.size _
  have hmb : w.heap.size ≤ w1.heap.size := HBW.out.size
  clear hL HBW
  generalize (w1.alloc (.cells (cells72 (fresh L)) 44)) = w2 at *
  have HM := hid hm
  have HB := hid hb0
  have HS2 := hid hs2
  clear hm hb0 hs2
  generalize w1.heap.size = mb at *
  go_wp2_with fail
  refine (Bring_calls _ _).mono ?_
  rintro e w3 ⟨rfl, rfl⟩
  rw [← HL.out]
  have hr : RAt (w3.alloc (.cells #[.int .i64 L, .slice none 0 0, .int .i64 0, .slice none 0 0] 29)) w.heap.size w3.heap.size L [] 0 [] := RAt.new _ _ _
  have hm3 := HM.out.below ((Below.refl w3.heap.size w3).alloc (Nat.le_refl _) (.cells #[.int .i64 L, .slice none 0 0, .int .i64 0, .slice none 0 0] 29))
  have hb3 := HB.out.alloc (by have := HS2.out; omega) (.cells #[.int .i64 L, .slice none 0 0, .int .i64 0, .slice none 0 0] 29)
  have HR3 := hid hr
  have HM3 := hid hm3
  have HB3 := hid hb3
  have hcb : w.heap.size ≤ w3.heap.size := by have := HS2.out; omega
  clear hr hm3 hb3 HM HB HS2 HL
  go_wp2_with fail
  have hxl : xs.length ≤ 150 := by omega
  generalize w3.heap.size = c at *
  generalize (w3.alloc (.cells #[.int .i64 L, .slice none 0 0, .int .i64 0, .slice none 0 0] 29)) = w4 at *
  refine (tells_calls mb w.heap.size c (fresh L) L [] 0 [] share w4 HM3.out HR3.out (fresh_rep L) (by simp)).mono ?_
  rintro e w5 ⟨rfl, hb5⟩
  have HM5 := hid (HM3.out.below hb5)
  have HR5 := hid (HR3.out.below hb5)
  have HB5 := hid (below_trans HB3.out hb5)
  clear hb5 HM3 HR3 HB3
  go_wp2_with fail
  go_loopw [29] (fun i wr => ∃ j : Nat, j ≤ xs.length ∧ i = .int .i64 j ∧ MAt wr mb (runf L xs j) ∧ RAt wr w.heap.size c L (runa xs j) (runz L xs j) (runl xs j) ∧ Below w.heap.size w wr) (fun i _ => xs.length - (intOf i).toNat)
  case atStart => exact ⟨0, Nat.zero_le _, rfl, HM5.out, HR5.out, HB5.out⟩
  case round =>
    obtain ⟨j, hj, rfl, hmj, hrj, hbj⟩ := hrel
    have HMJ := hid hmj
    have HRJ := hid hrj
    have HBJ := hid hbj
    clear hmj hrj hbj HM5 HR5 HB5
    by_cases hlt : j < xs.length
    · obtain ⟨cb, co, hae, hcj⟩ := (HX.out.below HBJ.out).cell j hlt
      rw [hae]
      clear hae
      obtain ⟨x, hx⟩ : ∃ x, x = xs.getD j 0 := ⟨_, rfl⟩
      rw [← hx] at hcj
      have HXJ := hid hx
      clear hx
      go_wp2_with fail
      refine (Add_calls _ _ x _ HMJ.out ((run_rep L xs j).fine (by rw [runa_len]; omega))).mono ?_
      rintro e w6 ht
      obtain rfl := ht.1
      have HM6 := hid ht.2.1
      have HR6 := hid (HRJ.out.turns HMJ.out ht.2.2)
      have HB6 := hid (turns_below ht hmb HBJ.out HBJ.out.size)
      clear ht hcj
      go_wp2_with fail
      refine (rAdd_calls w.heap.size c L (runa xs j) (runz L xs j) (runl xs j) x w6 HR6.out HB6.out.size (by rw [runa_len]; omega) (runl_len xs j) (runz_bd L xs j).1 (by have := (runz_bd L xs j).2; omega)).mono ?_
      rintro e w7 ht
      obtain rfl := ht.1
      have hm7 := ht.2.2.meters _ _ HM6.out
      have hr7 := ht.2.1
      have HB7 := hid (Lets.below ht.2.2 hcb HB6.out)
      clear ht
      have hm7' : MAt w7 mb (runf L xs (j + 1)) := by rw [runf, ← HXJ.out]; exact hm7
      have hr7' : RAt w7 w.heap.size c L (runa xs (j + 1)) (runz L xs (j + 1)) (runl xs (j + 1)) := by rw [runa, runz, runl, ← HXJ.out]; exact hr7
      have HM7 := hid hm7'
      have HR7 := hid hr7'
      clear hm7 hr7 hm7' hr7'
      go_wp2_with fail
      refine (tells_calls mb w.heap.size c _ L _ _ _ share w7 HM7.out HR7.out (run_rep L xs (j + 1)) (by rw [runa_len]; omega)).mono ?_
      rintro e w8 ⟨rfl, hb8⟩
      have HM8 := hid (HM7.out.below hb8)
      have HR8 := hid (HR7.out.below hb8)
      have HB8 := hid (below_trans HB7.out hb8)
      clear hb8
      go_wp2_with fail
      exact ⟨⟨j + 1, by omega, by go_num, HM8.out, HR8.out, HB8.out⟩, by simp [intOf]; omega⟩
    · obtain rfl : j = xs.length := by omega
      go_wp2_with fail
      go_ret
      exact ⟨rfl, HBJ.out⟩

end Go.Proofs.Ytaombjljahpncaa
