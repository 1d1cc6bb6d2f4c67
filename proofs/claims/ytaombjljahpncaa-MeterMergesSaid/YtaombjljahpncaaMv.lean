/- MeterMerges' walk. -/
import Derived.Test.YtaombjljahpncaaMr
set_option linter.unusedVariables false
set_option linter.unusedSimpArgs false
namespace Go.Proofs.Ytaombjljahpncaa
open Go.RowKit

/-- All is as it was but what lies in blocks c and m, and what is new. -/
structure Frm (c m : Nat) (w w' : World) : Prop where
  os : w'.os = w.os
  tape : w'.tape = w.tape
  output : w'.output = w.output
  size : w.heap.size ≤ w'.heap.size
  block : ∀ k, k < w.heap.size → k ≠ c → k ≠ m → w'.heap[k]? = w.heap[k]?
theorem Frm.refl (c m : Nat) (w : World) : Frm c m w w := ⟨rfl, rfl, rfl, Nat.le_refl _, fun _ _ _ _ => rfl⟩
theorem Frm.turns {c m : Nat} {w w1 w2 : World} (h : Frm c m w w1) (hg : w1.grownBy w2 (some m)) : Frm c m w w2 :=
  ⟨hg.os.trans h.os, hg.tape.trans h.tape, hg.output.trans h.output, Nat.le_trans h.size hg.size, fun k hk h1 h2 => (hg.block k (Nat.lt_of_lt_of_le hk h.size) (fun e => h2 (by injection e))).trans (h.block k hk h1 h2)⟩
theorem Frm.lets {c m K : Nat} {w w1 w2 : World} (h : Frm c m w w1) (hl : Lets K c w1 w2) (hK : w.heap.size ≤ K) : Frm c m w w2 :=
  ⟨hl.os.trans h.os, hl.tape.trans h.tape, hl.output.trans h.output, Nat.le_trans h.size hl.size, fun k hk h1 h2 => (hl.block k (Nat.lt_of_lt_of_le hk hK) h1).trans (h.block k hk h1 h2)⟩
theorem Frm.below {c m : Nat} {w w1 w2 : World} (h : Frm c m w w1) (hb : Below w1.heap.size w1 w2) : Frm c m w w2 :=
  ⟨hb.os.trans h.os, hb.tape.trans h.tape, hb.output.trans h.output, Nat.le_trans h.size hb.size, fun k hk h1 h2 => (hb.block k (Nat.lt_of_lt_of_le hk h.size)).trans (h.block k hk h1 h2)⟩
theorem Frm.toBelow {c m B : Nat} {w0 w w1 : World} (h : Frm c m w w1) (h0 : Below B w0 w) (hB : B ≤ w.heap.size) (hc : B ≤ c) (hm : B ≤ m) : Below B w0 w1 :=
  ⟨h.os.trans h0.os, h.tape.trans h0.tape, h.output.trans h0.output, Nat.le_trans h0.size h.size, fun k hk => (h.block k (Nat.lt_of_lt_of_le hk hB) (by omega) (by omega)).trans (h0.block k hk)⟩
theorem Blk.frm {c m b : Nat} {w w1 : World} {cs : Array Value} {t : TypeId} (h : Blk w b cs t) (hf : Frm c m w w1) (hc : b ≠ c) (hm : b ≠ m) : Blk w1 b cs t := by
  have hlt := h.lt
  unfold Blk at *
  rw [hf.block b hlt hc hm]
  exact h
theorem mat_ne {w : World} {m c : Nat} {f : Nat → Int} {cs : Array Value} (h : MAt w m f) (k : Blk w c cs 29) : m ≠ c := by
  intro e
  subst e
  exact absurd (Blk.inj h k) (by decide)
theorem MAt.frm {c m b : Nat} {w w1 : World} {f : Nat → Int} (h : MAt w b f) (hf : Frm c m w w1) (hc : b ≠ c) (hm : b ≠ m) : MAt w1 b f := Blk.frm h hf hc hm
theorem RAt.frm {c m K x : Nat} {w w1 : World} {L : Int} {all : List Int} {late : Int} {last : List Int} {cs : Array Value} {f : Nat → Int} (h : RAt w K x L all late last) (hf : Frm c m w w1) (hx : x ≠ c)
    (hcb : c < w.heap.size → Blk w c cs 29) (hmb : m < w.heap.size → MAt w m f) : RAt w1 K x L all late last := by
  obtain ⟨vA, vL, hb, hA, hL, hs⟩ := h
  have hT : (29 : Nat) ≠ 3 := by decide
  have hT2 : (44 : Nat) ≠ 3 := by decide
  have hT3 : (29 : Nat) ≠ 44 := by decide
  have key : ∀ {v : Value} {xs : List Int}, OwnO w K v xs → OwnO w1 K v xs := by
    intro v xs h
    refine h.move fun k hk => ?_
    obtain ⟨_, cur, hkb⟩ := h.lt k hk
    refine hf.block k hkb.lt ?_ ?_
    · intro e
      subst e
      exact hT (Blk.inj (hcb hkb.lt) hkb)
    · intro e
      subst e
      exact hT2 (Blk.inj (hmb hkb.lt) hkb)
  refine ⟨vA, vL, hb.frm hf hx ?_, key hA, key hL, hs⟩
  intro e
  subst e
  exact hT3 (Blk.inj hb (hmb hb.lt))
theorem last64_len (l : List Int) : (last64 l).length ≤ 64 := by unfold last64; simp; omega
theorem mrgf_0 {f g : Nat → Int} {A la B lb : List Int} {za zb : Int} (h : Rep f A la za) (k : Rep g B lb zb) : mrgf f g 0 = f 0 := by
  unfold mrgf
  split
  · rfl
  · rw [foldkeep_else _ 0 (by omega) _ (by rw [mrg4_at f g 65 (by omega)]; exact h.h65), mrg4_at f g 0 (by omega)]

set_option maxHeartbeats 40000000 in
theorem MeterMerges_calls (s t : Int) (a : Option Addr) (xs : List Int) (cap : Nat) (b : Option Addr) (ys : List Int) (cap' : Nat) (w : World) (hx : RdI w a xs) (hc : xs.length ≤ cap) (hm : cap ≤ 9223372036854775807)
    (hy : RdI w b ys) (hc' : ys.length ≤ cap') (hm' : cap' ≤ 9223372036854775807) :
    Calls Try.prog 5 #[.agg #[.int .i64 s, .int .i64 t], .slice a xs.length cap, .slice b ys.length cap'] w fun e w' => e = .returned (.bool true) ∧ Below w.heap.size w w' := by
  have hb0 := Blk.new w #[.int .i64 s, .int .i64 t] 33
  have hw0 := (Below.refl w.heap.size w).alloc (Nat.le_refl _) (.cells #[.int .i64 s, .int .i64 t] 33)
  have HX := hid hx
  have HY := hid hy
  have HB0 := hid hb0
  have HW0 := hid hw0
  clear hb0 hw0 hx hy
  by_cases hl : (100 : Int) < xs.length
  · go_enter Try.func5, Try.ntmps5
    go_wp2_with fail
    refine (mawake_calls _).mono ?_
    rintro e w1 ⟨rfl, hb1⟩
    have HB1 := hid hb1
    clear hb1
    go_wp2_with fail
    go_ret
    exact ⟨rfl, HW0.out.trans (HB1.out.mono (by simp))⟩
  by_cases hl2 : (100 : Int) < ys.length
  · go_enter Try.func5, Try.ntmps5
    go_wp2_with fail
    refine (mawake_calls _).mono ?_
    rintro e w1 ⟨rfl, hb1⟩
    have HB1 := hid hb1
    clear hb1
    go_wp2_with fail
    go_ret
    exact ⟨rfl, HW0.out.trans (HB1.out.mono (by simp))⟩
  go_enter Try.func5, Try.ntmps5
  go_wp2_with fail
  refine (mawake_calls _).mono ?_
  rintro e w1 ⟨rfl, hb1⟩
  have hblk := HB0.out.below hb1
  have hbw := HW0.out.trans (hb1.mono (by simp))
  have HX0 := hid HX.out
  have HY0 := hid HY.out
  have HX1 := hid (HX.out.below hbw)
  have HY1 := hid (HY.out.below hbw)
  have z0 := hblk.cell 0 _ rfl
  have z1 := hblk.cell 1 _ rfl
  have HBW := hid hbw
  have hlt : w.heap.size < w1.heap.size := hblk.lt
  clear hblk hb1 hbw HX HY HB0 HW0
  obtain ⟨L1, hL1⟩ : ∃ L, L = brg s := ⟨_, rfl⟩
  obtain ⟨L2, hL2⟩ : ∃ L, L = brg t := ⟨_, rfl⟩
  have PN1 : Hid (∀ W, Calls Try.prog 7 #[.int .i64 s] W fun e w' => e = .returned (.pointer (some ⟨W.heap.size, 0, none⟩)) ∧ w' = W.alloc (.cells (cells72 (fresh L1)) 44)) := hid fun W => by rw [hL1]; exact New_calls s W
  have PN2 : Hid (∀ W, Calls Try.prog 7 #[.int .i64 t] W fun e w' => e = .returned (.pointer (some ⟨W.heap.size, 0, none⟩)) ∧ w' = W.alloc (.cells (cells72 (fresh L2)) 44)) := hid fun W => by rw [hL2]; exact New_calls t W
  have PB1 : Hid (∀ W, Calls Try.prog 8 #[.int .i64 s] W fun e w' => e = .returned (.int .i64 L1) ∧ w' = W) := hid fun W => by rw [hL1]; exact Bring_calls s W
  have PB2 : Hid (∀ W, Calls Try.prog 8 #[.int .i64 t] W fun e w' => e = .returned (.int .i64 L2) ∧ w' = W) := hid fun W => by rw [hL2]; exact Bring_calls t W
  have HC1 := hid (show ∃ C, C = cells72 (fresh L1) from ⟨_, rfl⟩)
  obtain ⟨C1, hC1⟩ := HC1.out
  obtain ⟨C2, hC2⟩ : ∃ C, C = cells72 (fresh L2) := ⟨_, rfl⟩
  rw [← hC1] at PN1
  rw [← hC2] at PN2
  have HC1 := hid hC1
  have HC2 := hid hC2
  clear hC1 hC2 hL1 hL2
  go_wp2_with fail
  go_region_held3 (fun w' => w'.cell? ⟨w.heap.size, 0, none⟩ = some (.int .i64 s) ∧ w'.cell? ⟨w.heap.size, 1, none⟩ = some (.int .i64 t))
    (first | (exact ⟨z0, z1⟩) | go_keep)
    (first
      | (go_at_call 7; (with_reducible refine (PN1.out _).mono ?_); rintro e w' ⟨rfl, rfl⟩)
      | (go_at_call 7; (with_reducible refine (PN2.out _).mono ?_); rintro e w' ⟨rfl, rfl⟩))
  go_wp2_with fail
  have hm1 : MAt (w1.alloc (.cells C1 44)) w1.heap.size (fresh L1) := by rw [HC1.out]; exact Blk.new _ _ _
  have hm2 : MAt ((w1.alloc (.cells C1 44)).alloc (.cells C2 44)).drew w1.heap.size (fresh L1) := MAt.drew (Blk.alloc hm1 _)
  have hm3 : MAt ((w1.alloc (.cells C1 44)).alloc (.cells C2 44)).drew (w1.heap.size + 1) (fresh L2) := by
    have : MAt ((w1.alloc (.cells C1 44)).alloc (.cells C2 44)) (w1.alloc (.cells C1 44)).heap.size (fresh L2) := by rw [HC2.out]; exact Blk.new _ _ _
    rw [show (w1.alloc (.cells C1 44)).heap.size = w1.heap.size + 1 by simp] at this
    exact this.drew
  have hb2 : Below w1.heap.size w1 ((w1.alloc (.cells C1 44)).alloc (.cells C2 44)).drew := (((Below.refl _ _).alloc (Nat.le_refl _) _).alloc (by simp) _).drew
  have hs2 : ((w1.alloc (.cells C1 44)).alloc (.cells C2 44)).drew.heap.size = w1.heap.size + 2 := by simp
  have HX2 := hid (HX1.out.below hb2)
  have HY2 := hid (HY1.out.below hb2)
  have HBW2 := hid (HBW.out.trans (hb2.mono (Nat.le_of_lt hlt)))
  have HM1 := hid hm2
  have HM2 := hid hm3
  have y0 := hb2.cell (p := ⟨w.heap.size, 0, none⟩) hlt
  rw [z0] at y0
  have y1 := hb2.cell (p := ⟨w.heap.size, 1, none⟩) hlt
  rw [z1] at y1
  have HS2 := hid hs2
  have hmle := Nat.le_of_lt hlt
  clear hm1 hm2 hm3 hb2 HX1 HY1 HBW z0 z1 hlt hs2
  generalize ((w1.alloc (.cells C1 44)).alloc (.cells C2 44)).drew = W2 at *
  generalize w1.heap.size = m1 at *
  go_region_held3 (fun w' => w'.cell? ⟨w.heap.size, 0, none⟩ = some (.int .i64 s) ∧ w'.cell? ⟨w.heap.size, 1, none⟩ = some (.int .i64 t))
    (first | (exact ⟨y0, y1⟩) | go_keep)
    (first
      | (go_at_call 8; (with_reducible refine (PB1.out _).mono ?_); rintro e w' ⟨rfl, rfl⟩)
      | (go_at_call 8; (with_reducible refine (PB2.out _).mono ?_); rintro e w' ⟨rfl, rfl⟩))
  all_goals
    first
    | (have hchk := ‹((W2.alloc (.cells #[.int .i64 L1, .slice none 0 0, .int .i64 0, .slice none 0 0] 29)).alloc (.cells #[.int .i64 L2, .slice none 0 0, .int .i64 0, .slice none 0 0] 29)).drew.cell? ⟨w.heap.size, 0, none⟩ = some (.int .i64 s) ∧ _›
       clear hchk
       have hq1 : Blk ((W2.alloc (.cells #[.int .i64 L1, .slice none 0 0, .int .i64 0, .slice none 0 0] 29)).alloc (.cells #[.int .i64 L2, .slice none 0 0, .int .i64 0, .slice none 0 0] 29)).drew W2.heap.size #[.int .i64 L1, .slice none 0 0, .int .i64 0, .slice none 0 0] 29 := Blk.alloc (Blk.new W2 #[.int .i64 L1, .slice none 0 0, .int .i64 0, .slice none 0 0] 29) _
       have hq2 : Blk ((W2.alloc (.cells #[.int .i64 L1, .slice none 0 0, .int .i64 0, .slice none 0 0] 29)).alloc (.cells #[.int .i64 L2, .slice none 0 0, .int .i64 0, .slice none 0 0] 29)).drew (W2.heap.size + 1) #[.int .i64 L2, .slice none 0 0, .int .i64 0, .slice none 0 0] 29 := by
        have := Blk.new (W2.alloc (.cells #[.int .i64 L1, .slice none 0 0, .int .i64 0, .slice none 0 0] 29)) #[.int .i64 L2, .slice none 0 0, .int .i64 0, .slice none 0 0] 29
        rwa [show (W2.alloc (.cells #[.int .i64 L1, .slice none 0 0, .int .i64 0, .slice none 0 0] 29)).heap.size = W2.heap.size + 1 by simp] at this
       have hb3 : Below W2.heap.size W2 ((W2.alloc (.cells #[.int .i64 L1, .slice none 0 0, .int .i64 0, .slice none 0 0] 29)).alloc (.cells #[.int .i64 L2, .slice none 0 0, .int .i64 0, .slice none 0 0] 29)).drew := (((Below.refl _ _).alloc (Nat.le_refl _) _).alloc (by simp) _).drew
       have hM1 : MAt ((W2.alloc (.cells #[.int .i64 L1, .slice none 0 0, .int .i64 0, .slice none 0 0] 29)).alloc (.cells #[.int .i64 L2, .slice none 0 0, .int .i64 0, .slice none 0 0] 29)).drew m1 (fresh L1) := HM1.out.below hb3
       have hM2 : MAt ((W2.alloc (.cells #[.int .i64 L1, .slice none 0 0, .int .i64 0, .slice none 0 0] 29)).alloc (.cells #[.int .i64 L2, .slice none 0 0, .int .i64 0, .slice none 0 0] 29)).drew (m1 + 1) (fresh L2) := HM2.out.below hb3
       have hB3 : Below w.heap.size w ((W2.alloc (.cells #[.int .i64 L1, .slice none 0 0, .int .i64 0, .slice none 0 0] 29)).alloc (.cells #[.int .i64 L2, .slice none 0 0, .int .i64 0, .slice none 0 0] 29)).drew := HBW2.out.trans (hb3.mono (by have := HS2.out; omega))
       have hsz := HS2.out
       clear hb3 HM1 HM2 HBW2 HX2 HY2 HS2 y0 y1
       generalize ((W2.alloc (.cells #[.int .i64 L1, .slice none 0 0, .int .i64 0, .slice none 0 0] 29)).alloc (.cells #[.int .i64 L2, .slice none 0 0, .int .i64 0, .slice none 0 0] 29)).drew = W3 at *
       generalize hyy : W2.heap.size + 1 = y at *
       generalize hxx : W2.heap.size = x at *)
    | (have hchk := ‹((W2.alloc (.cells #[.int .i64 L2, .slice none 0 0, .int .i64 0, .slice none 0 0] 29)).alloc (.cells #[.int .i64 L1, .slice none 0 0, .int .i64 0, .slice none 0 0] 29)).drew.cell? ⟨w.heap.size, 0, none⟩ = some (.int .i64 s) ∧ _›
       clear hchk
       have hq1 : Blk ((W2.alloc (.cells #[.int .i64 L2, .slice none 0 0, .int .i64 0, .slice none 0 0] 29)).alloc (.cells #[.int .i64 L1, .slice none 0 0, .int .i64 0, .slice none 0 0] 29)).drew W2.heap.size #[.int .i64 L2, .slice none 0 0, .int .i64 0, .slice none 0 0] 29 := Blk.alloc (Blk.new W2 #[.int .i64 L2, .slice none 0 0, .int .i64 0, .slice none 0 0] 29) _
       have hq2 : Blk ((W2.alloc (.cells #[.int .i64 L2, .slice none 0 0, .int .i64 0, .slice none 0 0] 29)).alloc (.cells #[.int .i64 L1, .slice none 0 0, .int .i64 0, .slice none 0 0] 29)).drew (W2.heap.size + 1) #[.int .i64 L1, .slice none 0 0, .int .i64 0, .slice none 0 0] 29 := by
        have := Blk.new (W2.alloc (.cells #[.int .i64 L2, .slice none 0 0, .int .i64 0, .slice none 0 0] 29)) #[.int .i64 L1, .slice none 0 0, .int .i64 0, .slice none 0 0] 29
        rwa [show (W2.alloc (.cells #[.int .i64 L2, .slice none 0 0, .int .i64 0, .slice none 0 0] 29)).heap.size = W2.heap.size + 1 by simp] at this
       have hb3 : Below W2.heap.size W2 ((W2.alloc (.cells #[.int .i64 L2, .slice none 0 0, .int .i64 0, .slice none 0 0] 29)).alloc (.cells #[.int .i64 L1, .slice none 0 0, .int .i64 0, .slice none 0 0] 29)).drew := (((Below.refl _ _).alloc (Nat.le_refl _) _).alloc (by simp) _).drew
       have hM1 : MAt ((W2.alloc (.cells #[.int .i64 L2, .slice none 0 0, .int .i64 0, .slice none 0 0] 29)).alloc (.cells #[.int .i64 L1, .slice none 0 0, .int .i64 0, .slice none 0 0] 29)).drew m1 (fresh L1) := HM1.out.below hb3
       have hM2 : MAt ((W2.alloc (.cells #[.int .i64 L2, .slice none 0 0, .int .i64 0, .slice none 0 0] 29)).alloc (.cells #[.int .i64 L1, .slice none 0 0, .int .i64 0, .slice none 0 0] 29)).drew (m1 + 1) (fresh L2) := HM2.out.below hb3
       have hB3 : Below w.heap.size w ((W2.alloc (.cells #[.int .i64 L2, .slice none 0 0, .int .i64 0, .slice none 0 0] 29)).alloc (.cells #[.int .i64 L1, .slice none 0 0, .int .i64 0, .slice none 0 0] 29)).drew := HBW2.out.trans (hb3.mono (by have := HS2.out; omega))
       have hsz := HS2.out
       clear hb3 HM1 HM2 HBW2 HX2 HY2 HS2 y0 y1
       generalize ((W2.alloc (.cells #[.int .i64 L2, .slice none 0 0, .int .i64 0, .slice none 0 0] 29)).alloc (.cells #[.int .i64 L1, .slice none 0 0, .int .i64 0, .slice none 0 0] 29)).drew = W3 at *
       generalize hyy : W2.heap.size + 1 = x at *
       generalize hxx : W2.heap.size = y at *)
  all_goals
    have HXB : Hid (Blk W3 x #[.int .i64 L1, .slice none 0 0, .int .i64 0, .slice none 0 0] 29) := by first | exact hid hq1 | exact hid hq2
    have HYB : Hid (Blk W3 y #[.int .i64 L2, .slice none 0 0, .int .i64 0, .slice none 0 0] 29) := by first | exact hid hq2 | exact hid hq1
    have hxy : x ≠ y := by omega
    have hxw : w.heap.size ≤ x := by omega
    have hyw : w.heap.size ≤ y := by omega
    have HM1 := hid hM1
    have HM2 := hid hM2
    have HB3 := hid hB3
    have HXY := hid hxy
    have hm12 : m1 ≠ m1 + 1 := by omega
    have HM12 := hid hm12
    clear hM1 hM2 hB3 hq1 hq2 hyy hxx hsz hxy hm12
    have hw3 : w.heap.size ≤ W3.heap.size := HB3.out.size
    obtain ⟨m2, hm2⟩ : ∃ m2, m2 = m1 + 1 := ⟨_, rfl⟩
    rw [← hm2] at HM2 HM12
    have hmw2 : w.heap.size ≤ m2 := by omega
    rw [← hm2]
    clear hm2
  all_goals
    have hr3 : RAt W3 W3.heap.size x L1 [] 0 [] := ⟨_, _, HXB.out, OwnO.nil _ _, OwnO.nil _ _, .inl rfl⟩
    have HR3 := hid hr3
    have hxl : xs.length ≤ 100 := by omega
    have hyl : ys.length ≤ 100 := by omega
    clear hr3 hl hl2 PB1 PB2 PN1 PN2 HC1 HC2
    go_wp2_with fail
    go_loopw [45] (fun i wr => ∃ j : Nat, j ≤ xs.length ∧ i = .int .i64 j ∧ MAt wr m1 (runf L1 xs j) ∧ RAt wr W3.heap.size x L1 (runa xs j) (runz L1 xs j) (runl xs j) ∧ Frm x m1 W3 wr) (fun i _ => xs.length - (intOf i).toNat)
    case atStart => exact ⟨0, Nat.zero_le _, rfl, HM1.out, HR3.out, Frm.refl _ _ _⟩
    case round =>
      obtain ⟨j, hj, rfl, hmj, hrj, hfj⟩ := hrel
      have HMJ := hid hmj
      have HRJ := hid hrj
      have HFJ := hid hfj
      have HBJ := hid (hfj.toBelow HB3.out HB3.out.size hxw hmle)
      clear hmj hrj hfj
      by_cases hlt : j < xs.length
      · obtain ⟨cb, co, hae, hcj⟩ := (HX0.out.below HBJ.out).cell j hlt
        rw [hae]
        clear hae
        obtain ⟨q, hq⟩ : ∃ q, q = xs.getD j 0 := ⟨_, rfl⟩
        rw [← hq] at hcj
        have HQ := hid hq
        clear hq
        go_wp2_with fail
        refine (Add_calls _ _ q _ HMJ.out ((run_rep L1 xs j).fine (by rw [runa_len]; omega))).mono ?_
        rintro e w6 ht
        obtain rfl := ht.1
        have HM6 := hid ht.2.1
        have HR6 := hid (HRJ.out.turns HMJ.out ht.2.2)
        have HF6 := hid (HFJ.out.turns ht.2.2)
        clear ht hcj
        go_wp2_with fail
        refine (rAdd_calls W3.heap.size x L1 (runa xs j) (runz L1 xs j) (runl xs j) q w6 HR6.out HF6.out.size (by rw [runa_len]; omega) (runl_len xs j) (runz_bd L1 xs j).1 (by have := (runz_bd L1 xs j).2; omega)).mono ?_
        rintro e w7 ht
        obtain rfl := ht.1
        have hm7 := ht.2.2.meters _ _ HM6.out
        have hr7 := ht.2.1
        have HF7 := hid (HF6.out.lets ht.2.2 (Nat.le_refl _))
        clear ht
        have hm7' : MAt w7 m1 (runf L1 xs (j + 1)) := by rw [runf, ← HQ.out]; exact hm7
        have hr7' : RAt w7 W3.heap.size x L1 (runa xs (j + 1)) (runz L1 xs (j + 1)) (runl xs (j + 1)) := by rw [runa, runz, runl, ← HQ.out]; exact hr7
        have HM7 := hid hm7'
        have HR7 := hid hr7'
        clear hm7 hr7 hm7' hr7'
        go_wp2_with fail
        exact ⟨⟨j + 1, by omega, by go_num, HM7.out, HR7.out, HF7.out⟩, by simp [intOf]; omega⟩
      · obtain rfl : j = xs.length := by omega
        clear hlt hj
        have HM14 := HMJ
        have HR14 := HRJ
        have HB4 := HBJ
        have HM24 := hid (MAt.frm HM2.out HFJ.out (mat_ne HM2.out HXB.out) (Ne.symm HM12.out))
        have HYB4 := hid (Blk.frm HYB.out HFJ.out (Ne.symm HXY.out) (Ne.symm (mat_ne HM1.out HYB.out)))
        clear HMJ HRJ HFJ HBJ
        have hr4 : RAt wr wr.heap.size y L2 [] 0 [] := ⟨_, _, HYB4.out, OwnO.nil _ _, OwnO.nil _ _, .inl rfl⟩
        have HR24 := hid hr4
        clear hr4
        have hw4 : w.heap.size ≤ wr.heap.size := HB4.out.size
        obtain ⟨W4, hW4⟩ : ∃ W4, W4 = wr := ⟨_, rfl⟩
        subst hW4
        go_wp2_with fail
        go_loopw [58] (fun i wr => ∃ j : Nat, j ≤ ys.length ∧ i = .int .i64 j ∧ MAt wr m2 (runf L2 ys j) ∧ RAt wr W4.heap.size y L2 (runa ys j) (runz L2 ys j) (runl ys j) ∧ Frm y m2 W4 wr) (fun i _ => ys.length - (intOf i).toNat)
        case atStart => exact ⟨0, Nat.zero_le _, rfl, HM24.out, HR24.out, Frm.refl _ _ _⟩
        case round =>
          obtain ⟨j, hj, rfl, hmj, hrj, hfj⟩ := hrel
          have HMJ := hid hmj
          have HRJ := hid hrj
          have HFJ := hid hfj
          have HBJ := hid (hfj.toBelow HB4.out HB4.out.size hyw hmw2)
          clear hmj hrj hfj
          by_cases hlt : j < ys.length
          · obtain ⟨cb, co, hae, hcj⟩ := (HY0.out.below HBJ.out).cell j hlt
            rw [hae]
            clear hae
            obtain ⟨q, hq⟩ : ∃ q, q = ys.getD j 0 := ⟨_, rfl⟩
            rw [← hq] at hcj
            have HQ := hid hq
            clear hq
            go_wp2_with fail
            refine (Add_calls _ _ q _ HMJ.out ((run_rep L2 ys j).fine (by rw [runa_len]; omega))).mono ?_
            rintro e w6 ht
            obtain rfl := ht.1
            have HM6 := hid ht.2.1
            have HR6 := hid (HRJ.out.turns HMJ.out ht.2.2)
            have HF6 := hid (HFJ.out.turns ht.2.2)
            clear ht hcj
            go_wp2_with fail
            refine (rAdd_calls W4.heap.size y L2 (runa ys j) (runz L2 ys j) (runl ys j) q w6 HR6.out HF6.out.size (by rw [runa_len]; omega) (runl_len ys j) (runz_bd L2 ys j).1 (by have := (runz_bd L2 ys j).2; omega)).mono ?_
            rintro e w7 ht
            obtain rfl := ht.1
            have hm7 := ht.2.2.meters _ _ HM6.out
            have hr7 := ht.2.1
            have HF7 := hid (HF6.out.lets ht.2.2 (Nat.le_refl _))
            clear ht
            have hm7' : MAt w7 m2 (runf L2 ys (j + 1)) := by rw [runf, ← HQ.out]; exact hm7
            have hr7' : RAt w7 W4.heap.size y L2 (runa ys (j + 1)) (runz L2 ys (j + 1)) (runl ys (j + 1)) := by rw [runa, runz, runl, ← HQ.out]; exact hr7
            have HM7 := hid hm7'
            have HR7 := hid hr7'
            clear hm7 hr7 hm7' hr7'
            go_wp2_with fail
            exact ⟨⟨j + 1, by omega, by go_num, HM7.out, HR7.out, HF7.out⟩, by simp [intOf]; omega⟩
          · obtain rfl : j = ys.length := by omega
            clear hlt hj
            have HM1e := hid (HM14.out.frm HFJ.out (mat_ne HM14.out HYB4.out) HM12.out)
            have HR1e := hid (RAt.frm HR14.out HFJ.out HXY.out (fun _ => HYB4.out) (fun _ => HM24.out))
            have hp1 := run_rep L1 xs xs.length
            have hp2 := run_rep L2 ys ys.length
            have hF0 := (runf_0 L1 xs xs.length).1
            have hl1 : (runa xs xs.length).length ≤ 1000 := by rw [runa_len]; omega
            have hl2 : (runa ys ys.length).length ≤ 1000 := by rw [runa_len]; omega
            have hl3 : (runa xs xs.length ++ runa ys ys.length).length ≤ 1000 := by rw [List.length_append, runa_len, runa_len]; omega
            have hl4 : (runa xs xs.length ++ runa ys ys.length ++ [brg 7]).length ≤ 1000 := by rw [List.length_append, List.length_append, runa_len, runa_len]; simp; omega
            have hg1 := runl_len xs xs.length
            have hg2 := runl_len ys ys.length
            have hz1 := runz_bd L1 xs xs.length
            have hz2 := runz_bd L2 ys ys.length
            have HP1 := hid hp1
            have HP2 := hid hp2
            have HF0 := hid hF0
            have HP3 := hid (mrg_rep hp1 hp2)
            have hm0 := mrgf_0 hp1 hp2
            rw [hF0] at hm0
            have HM0 := hid hm0
            have HM2e := hid HMJ.out
            have HR2e := hid HRJ.out
            have HBe := hid HBJ.out
            have hz1' : 0 ≤ runz L1 xs xs.length ∧ runz L1 xs xs.length ≤ 1000 := by omega
            have hz2' : 0 ≤ runz L2 ys ys.length ∧ runz L2 ys ys.length ≤ 1000 := by omega
            clear hp1 hp2 hF0 hm0 HMJ HRJ HFJ HBJ hz1 hz2
            generalize runf L1 xs xs.length = F1 at *
            generalize runf L2 ys ys.length = F2 at *
            generalize runa xs xs.length = A at *
            generalize runa ys ys.length = B at *
            generalize runl xs xs.length = la at *
            generalize runl ys ys.length = lb at *
            generalize runz L1 xs xs.length = za at *
            generalize runz L2 ys ys.length = zb at *
            go_wp2_with fail
            refine (Merge_calls m1 m2 F1 F2 _ HM1e.out HM2e.out (HP1.out.fine hl1) (HP2.out.fine hl2)).mono ?_
            rintro e w5 ⟨rfl, hm5, hb5⟩
            have HM15 := hid (HM1e.out.below hb5)
            have HM25 := hid (HM2e.out.below hb5)
            have HR15 := hid (HR1e.out.below hb5)
            have HR25 := hid (HR2e.out.below hb5)
            have HB5 := hid (below_trans HBe.out hb5)
            have HM35 := hid hm5
            have hmm1 := Nat.ne_of_lt HM1e.out.lt
            have hmm2 := Nat.ne_of_lt HM2e.out.lt
            have hm3w := HBe.out.size
            clear hm5 hb5 HM1e HM2e HR1e HR2e HBe
            generalize wr.heap.size = m3 at *
            go_wp2_with fail
            refine (rMerge_calls W3.heap.size W4.heap.size x y L1 L2 A B za zb la lb w5 HR15.out HR25.out hl1 hl2 hg1 hg2 hz1' hz2').mono ?_
            rintro e w6 ⟨rfl, hr6, hb6⟩
            obtain ⟨c3, hc3⟩ : ∃ c3, c3 = w5.heap.size := ⟨_, rfl⟩
            have hF6 : Frm c3 m3 w5 w6 := (Frm.refl _ _ _).below hb6
            rw [← hc3] at hr6
            rw [← hc3]
            have hcc : ¬ c3 < w5.heap.size := by omega
            have hmc1 : m1 ≠ c3 := by have := HM15.out.lt; omega
            have hmc2 : m2 ≠ c3 := by have := HM25.out.lt; omega
            have hxc1 : x ≠ c3 := by obtain ⟨_, _, h, _⟩ := HR15.out; have := h.lt; omega
            have hxc2 : y ≠ c3 := by obtain ⟨_, _, h, _⟩ := HR25.out; have := h.lt; omega
            have hwc : w.heap.size ≤ c3 := by have := HB5.out.size; omega
            have HM3 := hid (HM35.out.below hb6)
            have HR3x := hid hr6
            have HF := hid hF6
            have HC3 := hid hc3
            clear hr6 hb6 hF6 hc3
            go_wp2_with fail
            refine (tells_calls m3 c3 c3 _ L1 _ _ _ 10 _ HM3.out HR3x.out HP3.out hl3).mono ?_
            rintro e w8 ⟨rfl, hb8⟩
            replace HM3 := hid (HM3.out.below hb8)
            replace HR3x := hid (HR3x.out.below hb8)
            replace HF := hid (HF.out.below hb8)
            clear hb8
            go_wp2_with fail
            refine (tells_calls m1 W3.heap.size x _ L1 _ _ _ 10 _ (MAt.frm HM15.out HF.out hmc1 hmm1) (RAt.frm (cs := #[]) HR15.out HF.out hxc1 (fun h => absurd h hcc) (fun _ => HM35.out)) HP1.out hl1).mono ?_
            rintro e w8 ⟨rfl, hb8⟩
            replace HM3 := hid (HM3.out.below hb8)
            replace HR3x := hid (HR3x.out.below hb8)
            replace HF := hid (HF.out.below hb8)
            clear hb8
            go_wp2_with fail
            refine (tells_calls m2 W4.heap.size y _ L2 _ _ _ 10 _ (MAt.frm HM25.out HF.out hmc2 hmm2) (RAt.frm (cs := #[]) HR25.out HF.out hxc2 (fun h => absurd h hcc) (fun _ => HM35.out)) HP2.out hl2).mono ?_
            rintro e w8 ⟨rfl, hb8⟩
            replace HM3 := hid (HM3.out.below hb8)
            replace HR3x := hid (HR3x.out.below hb8)
            replace HF := hid (HF.out.below hb8)
            clear hb8
            go_wp2_with fail
            refine (Add_calls m3 _ 7 _ HM3.out (HP3.out.fine hl3)).mono ?_
            rintro e w8 ht
            obtain rfl := ht.1
            replace HR3x := hid (HR3x.out.turns HM3.out ht.2.2)
            replace HM3 := hid ht.2.1
            replace HF := hid (HF.out.turns ht.2.2)
            clear ht
            go_wp2_with fail
            refine (rAdd_calls c3 c3 L1 (A ++ B) (za + zb) (last64 (la ++ lb)) 7 w8 HR3x.out (by have := HF.out.size; have := HC3.out; omega) hl3 (last64_len _) (by omega) (by omega)).mono ?_
            rintro e w9 ht
            obtain rfl := ht.1
            replace HR3x := hid ht.2.1
            replace HM3 := hid (ht.2.2.meters _ _ HM3.out)
            replace HF := hid (HF.out.lets ht.2.2 (by have := HC3.out; omega))
            clear ht
            have hp4 := addf_rep HP3.out 7
            rw [HM0.out] at hp4
            replace HP3 := hid hp4
            clear hp4
            replace hl3 := hl4
            go_wp2_with fail
            refine (tells_calls m3 c3 c3 _ L1 _ _ _ 90 _ HM3.out HR3x.out HP3.out hl3).mono ?_
            rintro e w8 ⟨rfl, hb8⟩
            replace HM3 := hid (HM3.out.below hb8)
            replace HR3x := hid (HR3x.out.below hb8)
            replace HF := hid (HF.out.below hb8)
            clear hb8
            go_wp2_with fail
            refine (tells_calls m1 W3.heap.size x _ L1 _ _ _ 90 _ (MAt.frm HM15.out HF.out hmc1 hmm1) (RAt.frm (cs := #[]) HR15.out HF.out hxc1 (fun h => absurd h hcc) (fun _ => HM35.out)) HP1.out hl1).mono ?_
            rintro e w8 ⟨rfl, hb8⟩
            replace HM3 := hid (HM3.out.below hb8)
            replace HR3x := hid (HR3x.out.below hb8)
            replace HF := hid (HF.out.below hb8)
            clear hb8
            go_wp2_with fail
            refine (tells_calls m2 W4.heap.size y _ L2 _ _ _ 90 _ (MAt.frm HM25.out HF.out hmc2 hmm2) (RAt.frm (cs := #[]) HR25.out HF.out hxc2 (fun h => absurd h hcc) (fun _ => HM35.out)) HP2.out hl2).mono ?_
            rintro e w8 ⟨rfl, hb8⟩
            replace HM3 := hid (HM3.out.below hb8)
            replace HR3x := hid (HR3x.out.below hb8)
            replace HF := hid (HF.out.below hb8)
            clear hb8
            go_wp2_with fail
            go_ret
            exact ⟨rfl, HF.out.toBelow HB5.out HB5.out.size hwc hm3w⟩

end Go.Proofs.Ytaombjljahpncaa
