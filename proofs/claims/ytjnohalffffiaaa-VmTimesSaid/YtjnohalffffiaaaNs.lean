/- vm.Run. -/
import Derived.Test.YtjnohalffffiaaaNr
import Derived.Test.YtjnohalffffiaaaTn
set_option linter.unusedVariables false
set_option linter.unusedSimpArgs false
namespace Go.Proofs.Ytjnohalffffiaaa
open Go.RowKit

theorem setB4 {w : World} {b : Nat} {t : TypeId} {x0 x1 x2 x3 : Value} (h : Blk w b #[x0, x1, x2, x3] t) (y0 y1 y2 y3 : Value) :
    Blk ((((w.setCell ⟨b, 0, none⟩ y0).setCell ⟨b, 1, none⟩ y1).setCell ⟨b, 2, none⟩ y2).setCell ⟨b, 3, none⟩ y3) b #[y0, y1, y2, y3] t :=
  (((h.set 0 y0).set 1 y1).set 2 y2).set 3 y3

theorem keepC8s {w1 : World} {p0 p1 p2 p3 p4 p5 p6 p7 : Addr} {x0 x1 x2 x3 x4 x5 x6 x7 : Value} (h : w1.cell? p0 = some x0 ∧ w1.cell? p1 = some x1 ∧ w1.cell? p2 = some x2 ∧ w1.cell? p3 = some x3 ∧ w1.cell? p4 = some x4 ∧ w1.cell? p5 = some x5 ∧ w1.cell? p6 = some x6 ∧ w1.cell? p7 = some x7) {R o : Nat} (a : Value) (n0 : p0.block ≠ R) (n1 : p1.block ≠ R) (n2 : p2.block ≠ R) (n3 : p3.block ≠ R) (n4 : p4.block ≠ R) (n5 : p5.block ≠ R) (n6 : p6.block ≠ R) (n7 : p7.block ≠ R) : (w1.setCell ⟨R, o, none⟩ a).cell? p0 = some x0 ∧ (w1.setCell ⟨R, o, none⟩ a).cell? p1 = some x1 ∧ (w1.setCell ⟨R, o, none⟩ a).cell? p2 = some x2 ∧ (w1.setCell ⟨R, o, none⟩ a).cell? p3 = some x3 ∧ (w1.setCell ⟨R, o, none⟩ a).cell? p4 = some x4 ∧ (w1.setCell ⟨R, o, none⟩ a).cell? p5 = some x5 ∧ (w1.setCell ⟨R, o, none⟩ a).cell? p6 = some x6 ∧ (w1.setCell ⟨R, o, none⟩ a).cell? p7 = some x7 := by
  obtain ⟨h0, h1, h2, h3, h4, h5, h6, h7⟩ := h
  exact ⟨(World.cell?_setCell_block _ _ _ _ n0).trans h0, (World.cell?_setCell_block _ _ _ _ n1).trans h1, (World.cell?_setCell_block _ _ _ _ n2).trans h2, (World.cell?_setCell_block _ _ _ _ n3).trans h3, (World.cell?_setCell_block _ _ _ _ n4).trans h4, (World.cell?_setCell_block _ _ _ _ n5).trans h5, (World.cell?_setCell_block _ _ _ _ n6).trans h6, (World.cell?_setCell_block _ _ _ _ n7).trans h7⟩
theorem cd2 {w : World} {p : Addr} {x : Value} (h : w.cell? p = some x) : w.drew.drew.cell? p = some x := h
def arf (I Q M R : ByteArray) (a : Int) : ByteArray := if a = 1 then I else if a = 2 then Q else if a = 3 then M else if a = 4 then R else ⟨#[]⟩
def zrun (p : Int) : Array Value := #[.slice none 0 0, .slice none 0 0, .slice none 0 0, .slice none 0 0, .slice none 0 0, .int .i64 0, .int .i64 0, .slice none 0 0, .int .i64 0, .int .i64 0, .int .i64 0, .int .i64 0, .int .i64 p]
theorem VmAt.begin {W : World} {base rb : Nat} {p : Int} {I Q M R : ByteArray} {c1 c2 c3 c4 : Nat} {O1 O2 O3 O4 : Obj} (hb : base ≤ rb) (h : Blk W rb (zrun p) 68) (s1 : I.size = 64) (s2 : Q.size = 64) (s3 : M.size = 64) (s4 : R.size = 64)
    (h1 : ((.cells (bytesRow I c1) 5 ((bytesRow I c1).size, (bytesRow I c1).size + 1)) : Obj) = O1) (h2 : ((.cells (bytesRow Q c2) 5 ((bytesRow Q c2).size, (bytesRow Q c2).size + 1)) : Obj) = O2) (h3 : ((.cells (bytesRow M c3) 5 ((bytesRow M c3).size, (bytesRow M c3).size + 1)) : Obj) = O3) (h4 : ((.cells (bytesRow R c4) 5 ((bytesRow R c4).size, (bytesRow R c4).size + 1)) : Obj) = O4) :
    VmAt ((((((((((W.setCell ⟨rb, 0, none⟩ (.slice none 0 0)).setCell ⟨rb, 1, none⟩ (.slice (some ⟨W.heap.size, 0, none⟩) 64 c1)).setCell ⟨rb, 2, none⟩ (.slice (some ⟨W.heap.size + 1, 0, none⟩) 64 c2)).setCell ⟨rb, 3, none⟩ (.slice (some ⟨W.heap.size + 1 + 1, 0, none⟩) 64 c3)).setCell ⟨rb, 4, none⟩ (.slice (some ⟨W.heap.size + 1 + 1 + 1, 0, none⟩) 64 c4)).alloc O1).alloc O2).alloc O3).alloc O4)) base rb p ⟨arf I Q M R, 0, 0, [], 0, 0⟩ := by
  have hlt := h.lt
  have k := ((((h.set 0 (.slice none 0 0)).set 1 (.slice (some ⟨W.heap.size, 0, none⟩) 64 c1)).set 2 (.slice (some ⟨W.heap.size + 1, 0, none⟩) 64 c2)).set 3 (.slice (some ⟨W.heap.size + 1 + 1, 0, none⟩) 64 c3)).set 4 (.slice (some ⟨W.heap.size + 1 + 1 + 1, 0, none⟩) 64 c4)
  obtain ⟨X, hX⟩ : ∃ X, ((((W.setCell ⟨rb, 0, none⟩ (.slice none 0 0)).setCell ⟨rb, 1, none⟩ (.slice (some ⟨W.heap.size, 0, none⟩) 64 c1)).setCell ⟨rb, 2, none⟩ (.slice (some ⟨W.heap.size + 1, 0, none⟩) 64 c2)).setCell ⟨rb, 3, none⟩ (.slice (some ⟨W.heap.size + 1 + 1, 0, none⟩) 64 c3)).setCell ⟨rb, 4, none⟩ (.slice (some ⟨W.heap.size + 1 + 1 + 1, 0, none⟩) 64 c4) = X := ⟨_, rfl⟩
  have hs : W.heap.size = X.heap.size := by rw [← hX]; simp [World.setCell]
  rw [hX] at k
  rw [hX]
  rw [hs] at k hlt
  clear hX hs h
  subst h1 h2 h3 h4
  refine ⟨hb, fun a => X.heap.size + (a - 1), fun a => if a = 1 then c1 else if a = 2 then c2 else if a = 3 then c3 else c4, .slice none 0 0, ?_, ⟨fun a g1 g4 => ?_, fun a b g1 g4 g5 g6 e => by dsimp only at e; omega⟩, World.ownsRow_nil _ _ _ _⟩
  · exact (((k.alloc _).alloc _).alloc _).alloc _
  · have n1 := ((ByB.new X I c1).alloc (.cells (bytesRow Q c2) 5 ((bytesRow Q c2).size, (bytesRow Q c2).size + 1))).alloc (.cells (bytesRow M c3) 5 ((bytesRow M c3).size, (bytesRow M c3).size + 1)) |>.alloc (.cells (bytesRow R c4) 5 ((bytesRow R c4).size, (bytesRow R c4).size + 1))
    have n2 := ((ByB.new (X.alloc (.cells (bytesRow I c1) 5 ((bytesRow I c1).size, (bytesRow I c1).size + 1))) Q c2).alloc (.cells (bytesRow M c3) 5 ((bytesRow M c3).size, (bytesRow M c3).size + 1))).alloc (.cells (bytesRow R c4) 5 ((bytesRow R c4).size, (bytesRow R c4).size + 1))
    have n3 := (ByB.new ((X.alloc (.cells (bytesRow I c1) 5 ((bytesRow I c1).size, (bytesRow I c1).size + 1))).alloc (.cells (bytesRow Q c2) 5 ((bytesRow Q c2).size, (bytesRow Q c2).size + 1))) M c3).alloc (.cells (bytesRow R c4) 5 ((bytesRow R c4).size, (bytesRow R c4).size + 1))
    have n4 := ByB.new (((X.alloc (.cells (bytesRow I c1) 5 ((bytesRow I c1).size, (bytesRow I c1).size + 1))).alloc (.cells (bytesRow Q c2) 5 ((bytesRow Q c2).size, (bytesRow Q c2).size + 1))).alloc (.cells (bytesRow M c3) 5 ((bytesRow M c3).size, (bytesRow M c3).size + 1))) R c4
    obtain rfl | rfl | rfl | rfl : a = 1 ∨ a = 2 ∨ a = 3 ∨ a = 4 := by omega
    · exact ⟨by dsimp only; omega, n1, s1⟩
    · exact ⟨by dsimp only; omega, (show ByB _ (X.heap.size + 1) Q from by simpa using n2), s2⟩
    · exact ⟨by dsimp only; omega, (show ByB _ (X.heap.size + 1 + 1) M from by simpa using n3), s3⟩
    · exact ⟨by dsimp only; omega, (show ByB _ (X.heap.size + 1 + 1 + 1) R from by simpa using n4), s4⟩

/-- What Run hands back. -/
def RetRun (I : ByteArray) (X : VS) (w : World) (e : Ending) (w' : World) : Prop :=
  e = .returned (.tuple #[.agg #[.string (fit I), .string (X.ar 2), .string (X.ar 3), .string (X.ar 4)], .agg #[.int .i64 X.steps, .int .i64 X.zero, .int .i64 X.kind, .int .i64 X.n]]) ∧ Below w.heap.size w w'
theorem Below_same {B : Nat} {w w1 w2 : World} (h : Below B w w2) (ho : w1.os = w.os := by rfl) (ht : w1.tape = w.tape := by rfl) (hu : w1.output = w.output := by rfl) (hh : w1.heap = w.heap := by rfl) : Below B w1 w2 :=
  ⟨h.os.trans ho.symm, h.tape.trans ht.symm, h.output.trans hu.symm, by rw [hh]; exact h.size, fun i hi => by rw [h.block i hi, hh]⟩

set_option maxRecDepth 10000 in
set_option maxHeartbeats 8000000 in
theorem run_main (pb : Nat) (a : Option Addr) (l : List Ins) (cap : Nat) (I Q M R : ByteArray) (P : Int) (w : World) (hc : w.cell? ⟨pb, 0, none⟩ = some (.slice a l.length cap)) (hr : RdIns w a l) (J : Nat → VS → Prop) (hsafe : Safe (min (max P 0) 10000) l J) (hJ0 : J 0 ⟨arf (fit I) (fit Q) (fit M) (fit R), 0, 0, [], 0, 0⟩) (hn : l.length ≤ 1000) :
    Calls Try.prog 11 #[.pointer (some ⟨pb, 0, none⟩), .agg #[.string I, .string Q, .string M, .string R], .int .i64 P] w (RetRun I (VS.runs (passI P) l 0 ⟨arf (fit I) (fit Q) (fit M) (fit R), 0, 0, [], 0, 0⟩) w) := by
  have hpl : pb < w.heap.size := World.block_lt_of_cell? w _ hc
  have hconv := fun (w : World) (t : ByteArray) => run_bytes_of_string (P := Try.prog) w 9 44 5 t Try.underlying9 Try.underlying44 Try.underlying5
  obtain ⟨N0, N1, N2, NB, NZ⟩ := new3 w #[.string I, .string Q, .string M, .string R] #[.string ⟨#[]⟩, .string ⟨#[]⟩, .string ⟨#[]⟩, .string ⟨#[]⟩] #[.int .i64 0, .int .i64 0, .int .i64 0, .int .i64 0] 24 24 32
  have H0 := hid N0
  have H1 := hid N1
  have H2 := hid N2
  have HNB := hid NB
  have HC := hid hc
  have HR := hid hr
  have HSF := hid hsafe
  have HJ0 := hid hJ0
  clear N0 N1 N2 NB NZ hr hsafe hJ0
  have HCV := hid hconv
  clear hconv
  go_enter Try.func11, Try.ntmps11
  go_upto_region 2 with (go_at_call 14; (refine (Fit_calls I Q M R _).mono ?_); rintro e w1 ⟨rfl, hb⟩; have b0 := H0.out.below hb; have d0 := b0.cell 0 _ rfl; have d1 := b0.cell 1 _ rfl; have d2 := b0.cell 2 _ rfl; have d3 := b0.cell 3 _ rfl; have f0 := b0.free 0; have f1 := b0.free 1; have f2 := b0.free 2; have f3 := b0.free 3; have HB := hid hb; clear hb)
  have hHB := below_trans HNB.out HB.out
  have hz1 : w.heap.size + 1 + 1 < w1.heap.size := (H2.out.below HB.out).lt
  have Z0 := hid (setB4 b0 (.string (fit I)) (.string (fit Q)) (.string (fit M)) (.string (fit R)))
  have ne1 : w.heap.size + 1 ≠ w.heap.size := by omega
  have ne2 : w.heap.size + 1 + 1 ≠ w.heap.size := by omega
  have Z1 := hid ((((((H1.out.below HB.out).other (a := ⟨w.heap.size, 0, none⟩) ne1 (.string (fit I))).other (a := ⟨w.heap.size, 1, none⟩) ne1 (.string (fit Q))).other (a := ⟨w.heap.size, 2, none⟩) ne1 (.string (fit M))).other (a := ⟨w.heap.size, 3, none⟩) ne1 (.string (fit R))))
  have Z2 := hid ((((((H2.out.below HB.out).other (a := ⟨w.heap.size, 0, none⟩) ne2 (.string (fit I))).other (a := ⟨w.heap.size, 1, none⟩) ne2 (.string (fit Q))).other (a := ⟨w.heap.size, 2, none⟩) ne2 (.string (fit M))).other (a := ⟨w.heap.size, 3, none⟩) ne2 (.string (fit R))))
  have ZB := hid (bel_set (bel_set (bel_set (bel_set hHB (Nat.le_refl w.heap.size) 0 (.string (fit I))) (Nat.le_refl w.heap.size) 1 (.string (fit Q))) (Nat.le_refl w.heap.size) 2 (.string (fit M))) (Nat.le_refl w.heap.size) 3 (.string (fit R)))
  clear H0 H1 H2 HB hHB b0 d0 d1 d2 d3 f0 f1 f2 f3 HNB hc ne1 ne2 hz1
  generalize ((((w1.setCell ⟨w.heap.size, 0, none⟩ (.string (fit I))).setCell ⟨w.heap.size, 1, none⟩ (.string (fit Q))).setCell ⟨w.heap.size, 2, none⟩ (.string (fit M))).setCell ⟨w.heap.size, 3, none⟩ (.string (fit R))) = W2 at *
  have sI := fit_size I
  have sQ := fit_size Q
  have sM := fit_size M
  have sR := fit_size R
  generalize hfI : fit I = I' at *
  generalize hfQ : fit Q = Q' at *
  generalize hfM : fit M = M' at *
  generalize hfR : fit R = R' at *
  have HFI := hid hfI
  have HFQ := hid hfQ
  have HFM := hid hfM
  have HFR := hid hfR
  have SI := hid sI
  have SQ := hid sQ
  have SM := hid sM
  have SR := hid sR
  clear hfI hfQ hfM hfR sI sQ sM sR
  go_upto_region 5 with fail
  have Y0 := hid (Z0.out.alloc (.cells #[.slice none 0 0, .slice none 0 0, .slice none 0 0, .slice none 0 0, .slice none 0 0, .int .i64 0, .int .i64 0, .slice none 0 0, .int .i64 0, .int .i64 0, .int .i64 0, .int .i64 0, .int .i64 (min (max P 0) 10000)] 68))
  have Y1 := hid (Z1.out.alloc (.cells #[.slice none 0 0, .slice none 0 0, .slice none 0 0, .slice none 0 0, .slice none 0 0, .int .i64 0, .int .i64 0, .slice none 0 0, .int .i64 0, .int .i64 0, .int .i64 0, .int .i64 0, .int .i64 (min (max P 0) 10000)] 68))
  have Y2 := hid (Z2.out.alloc (.cells #[.slice none 0 0, .slice none 0 0, .slice none 0 0, .slice none 0 0, .slice none 0 0, .int .i64 0, .int .i64 0, .slice none 0 0, .int .i64 0, .int .i64 0, .int .i64 0, .int .i64 0, .int .i64 (min (max P 0) 10000)] 68))
  have YR := hid (Blk.new W2 #[.slice none 0 0, .slice none 0 0, .slice none 0 0, .slice none 0 0, .slice none 0 0, .int .i64 0, .int .i64 0, .slice none 0 0, .int .i64 0, .int .i64 0, .int .i64 0, .int .i64 0, .int .i64 (min (max P 0) 10000)] 68)
  have YB := hid (bel_al ZB.out (.cells #[.slice none 0 0, .slice none 0 0, .slice none 0 0, .slice none 0 0, .slice none 0 0, .int .i64 0, .int .i64 0, .slice none 0 0, .int .i64 0, .int .i64 0, .int .i64 0, .int .i64 0, .int .i64 (min (max P 0) 10000)] 68))
  have hrb : w.heap.size + 1 + 1 < W2.heap.size := Z2.out.lt
  obtain ⟨rb, hrbe⟩ : ∃ rb, W2.heap.size = rb := ⟨_, rfl⟩
  rw [hrbe] at hrb YR
  clear Z0 Z1 Z2 ZB
  generalize (W2.alloc (.cells #[.slice none 0 0, .slice none 0 0, .slice none 0 0, .slice none 0 0, .slice none 0 0, .int .i64 0, .int .i64 0, .slice none 0 0, .int .i64 0, .int .i64 0, .int .i64 0, .int .i64 0, .int .i64 (min (max P 0) 10000)] 68)) = W5 at *
  rw [hrbe]
  clear hrbe
  have d0 := Y0.out.cell 0 _ rfl
  have d1 := Y0.out.cell 1 _ rfl
  have d2 := Y0.out.cell 2 _ rfl
  have d3 := Y0.out.cell 3 _ rfl
  have r0 := YR.out.cell 0 _ rfl
  have r1 := YR.out.cell 1 _ rfl
  have r2 := YR.out.cell 2 _ rfl
  have r3 := YR.out.cell 3 _ rfl
  have r4 := YR.out.cell 4 _ rfl
  have f0 := YR.out.free 0
  have f1 := YR.out.free 1
  have f2 := YR.out.free 2
  have f3 := YR.out.free 3
  have f4 := YR.out.free 4
  have hl5 := YR.out.lt
  have hcv := HCV.out
  have hl0 : w.heap.size < W5.heap.size := Y0.out.lt
  have g1 : w.heap.size < W5.heap.size + 1 := by omega
  have g2 : w.heap.size < W5.heap.size + 1 + 1 := by omega
  have g3 : w.heap.size < W5.heap.size + 1 + 1 + 1 := by omega
  have g4 : w.heap.size < W5.heap.size + 1 + 1 + 1 + 1 := by omega
  have k1 : rb < W5.heap.size + 1 := by omega
  have k2 : rb < W5.heap.size + 1 + 1 := by omega
  have k3 : rb < W5.heap.size + 1 + 1 + 1 := by omega
  have k4 : rb < W5.heap.size + 1 + 1 + 1 + 1 := by omega
  have sI := SI.out
  have sQ := SQ.out
  have sM := SM.out
  have sR := SR.out
  go_upto_region 6 with fail
  generalize grownCap W5 64 0 5 = c1
  generalize hO1 : (Obj.cells (bytesRow I' c1) 5 ((bytesRow I' c1).size, (bytesRow I' c1).size + 1)) = O1
  generalize grownCap (W5.alloc O1).drew 64 0 5 = c2
  generalize hO2 : (Obj.cells (bytesRow Q' c2) 5 ((bytesRow Q' c2).size, (bytesRow Q' c2).size + 1)) = O2
  generalize grownCap ((W5.alloc O1).alloc O2).drew.drew 64 0 5 = c3
  generalize hO3 : (Obj.cells (bytesRow M' c3) 5 ((bytesRow M' c3).size, (bytesRow M' c3).size + 1)) = O3
  generalize grownCap (((W5.alloc O1).alloc O2).alloc O3).drew.drew.drew 64 0 5 = c4
  generalize hO4 : (Obj.cells (bytesRow R' c4) 5 ((bytesRow R' c4).size, (bytesRow R' c4).size + 1)) = O4
  clear hcv g1 g2 g3 g4 k1 k2 k3 k4 d0 d1 d2 d3 r0 r1 r2 r3 r4 f0 f1 f2 f3 f4
  have VV := hid (VmAt.begin (base := w.heap.size) (by omega) (p := min (max P 0) 10000) YR.out SI.out SQ.out SM.out SR.out hO1 hO2 hO3 hO4)
  have X0 := hid (((((((((Y0.out.other (a := ⟨rb, 0, none⟩) (by dsimp only; omega) (.slice none 0 0)).other (a := ⟨rb, 1, none⟩) (by dsimp only; omega) (.slice (some ⟨W5.heap.size, 0, none⟩) 64 c1)).other (a := ⟨rb, 2, none⟩) (by dsimp only; omega) (.slice (some ⟨W5.heap.size + 1, 0, none⟩) 64 c2)).other (a := ⟨rb, 3, none⟩) (by dsimp only; omega) (.slice (some ⟨W5.heap.size + 1 + 1, 0, none⟩) 64 c3)).other (a := ⟨rb, 4, none⟩) (by dsimp only; omega) (.slice (some ⟨W5.heap.size + 1 + 1 + 1, 0, none⟩) 64 c4)).alloc O1).alloc O2).alloc O3).alloc O4)
  have X1 := hid (((((((((Y1.out.other (a := ⟨rb, 0, none⟩) (by dsimp only; omega) (.slice none 0 0)).other (a := ⟨rb, 1, none⟩) (by dsimp only; omega) (.slice (some ⟨W5.heap.size, 0, none⟩) 64 c1)).other (a := ⟨rb, 2, none⟩) (by dsimp only; omega) (.slice (some ⟨W5.heap.size + 1, 0, none⟩) 64 c2)).other (a := ⟨rb, 3, none⟩) (by dsimp only; omega) (.slice (some ⟨W5.heap.size + 1 + 1, 0, none⟩) 64 c3)).other (a := ⟨rb, 4, none⟩) (by dsimp only; omega) (.slice (some ⟨W5.heap.size + 1 + 1 + 1, 0, none⟩) 64 c4)).alloc O1).alloc O2).alloc O3).alloc O4)
  have X2 := hid (((((((((Y2.out.other (a := ⟨rb, 0, none⟩) (by dsimp only; omega) (.slice none 0 0)).other (a := ⟨rb, 1, none⟩) (by dsimp only; omega) (.slice (some ⟨W5.heap.size, 0, none⟩) 64 c1)).other (a := ⟨rb, 2, none⟩) (by dsimp only; omega) (.slice (some ⟨W5.heap.size + 1, 0, none⟩) 64 c2)).other (a := ⟨rb, 3, none⟩) (by dsimp only; omega) (.slice (some ⟨W5.heap.size + 1 + 1, 0, none⟩) 64 c3)).other (a := ⟨rb, 4, none⟩) (by dsimp only; omega) (.slice (some ⟨W5.heap.size + 1 + 1 + 1, 0, none⟩) 64 c4)).alloc O1).alloc O2).alloc O3).alloc O4)
  have XB := hid (bel_al (bel_al (bel_al (bel_al (bel_set (b := rb) (bel_set (b := rb) (bel_set (b := rb) (bel_set (b := rb) (bel_set (b := rb) YB.out (by omega) 0 (.slice none 0 0)) (by omega) 1 (.slice (some ⟨W5.heap.size, 0, none⟩) 64 c1)) (by omega) 2 (.slice (some ⟨W5.heap.size + 1, 0, none⟩) 64 c2)) (by omega) 3 (.slice (some ⟨W5.heap.size + 1 + 1, 0, none⟩) 64 c3)) (by omega) 4 (.slice (some ⟨W5.heap.size + 1 + 1 + 1, 0, none⟩) 64 c4)) O1) O2) O3) O4)
  clear YR Y0 Y1 Y2 YB hO1 hO2 hO3 hO4 sI sQ sM sR hl5 hl0
  generalize (((((((((W5.setCell ⟨rb, 0, none⟩ (.slice none 0 0)).setCell ⟨rb, 1, none⟩ (.slice (some ⟨W5.heap.size, 0, none⟩) 64 c1)).setCell ⟨rb, 2, none⟩ (.slice (some ⟨W5.heap.size + 1, 0, none⟩) 64 c2)).setCell ⟨rb, 3, none⟩ (.slice (some ⟨W5.heap.size + 1 + 1, 0, none⟩) 64 c3)).setCell ⟨rb, 4, none⟩ (.slice (some ⟨W5.heap.size + 1 + 1 + 1, 0, none⟩) 64 c4)).alloc O1).alloc O2).alloc O3).alloc O4) = W6 at *
  have hcc : W6.cell? ⟨pb, 0, none⟩ = some (.slice a l.length cap) := by rw [XB.out.cell hpl]; exact HC.out
  generalize hp : min (max P 0) 10000 = p at *
  have HPP := hid hp
  have hp01 : 0 ≤ p ∧ p ≤ 10000 := by omega
  have HP := hid hp01
  clear hp hp01
  go_upto_region 7 with (go_at_call 23; (refine (all_run w.heap.size rb p ⟨arf I' Q' M' R', 0, 0, [], 0, 0⟩ a l cap _ J (by exact VV.out) HSF.out HJ0.out (by intro w' hb'; exact HR.out.below (XB.out.trans (Below_same hb'))) hn rfl rfl HP.out).mono ?_); rintro e w7 ⟨rfl, hv7, hk7⟩)
  generalize hSF : VS.runs p l 0 ⟨arf I' Q' M' R', 0, 0, [], 0, 0⟩ = SF at *
  have HSFE := hid hSF
  obtain ⟨h0, q, c, v, blk, har, hop⟩ := hv7
  have x0 := hk7.2 _ _ _ (by exact X0.out) (by decide) (by decide)
  have x1 := hk7.2 _ _ _ (by exact X1.out) (by decide) (by decide)
  have x2 := hk7.2 _ _ _ (by exact X2.out) (by decide) (by decide)
  have BF := hid (XB.out.trans (Below_same hk7.1))
  have c5 : w7.cell? ⟨rb, 5, none⟩ = some (.int .i64 SF.kind) := blk.cell 5 _ rfl
  have c6 : w7.cell? ⟨rb, 6, none⟩ = some (.int .i64 SF.n) := blk.cell 6 _ rfl
  have c10 : w7.cell? ⟨rb, 10, none⟩ = some (.int .i64 0) := blk.cell 10 _ rfl
  have c11 : w7.cell? ⟨rb, 11, none⟩ = some (.int .i64 0) := blk.cell 11 _ rfl
  have f10 := blk.free 10
  have f11 := blk.free 11
  have BKF := hid blk
  have ARF := hid har
  have E0 := hid x0
  have E1 := hid x1
  have E2 := hid x2
  clear hSF hk7 hop blk har x0 x1 x2 X0 X1 X2 XB VV hcc
  go_region
  go_upto_region 8 with fail
  have bk8 := (BKF.out.set 10 (.int .i64 SF.kind)).set 11 (.int .i64 SF.n)
  have ar8 := (ARF.out.set BKF.out 10 (.int .i64 SF.kind)).set (BKF.out.set 10 (.int .i64 SF.kind)) 11 (.int .i64 SF.n)
  have z0 := (E0.out.other (a := ⟨rb, 10, none⟩) (by dsimp only; omega) (.int .i64 SF.kind)).other (a := ⟨rb, 11, none⟩) (by dsimp only; omega) (.int .i64 SF.n)
  have z1 := (E1.out.other (a := ⟨rb, 10, none⟩) (by dsimp only; omega) (.int .i64 SF.kind)).other (a := ⟨rb, 11, none⟩) (by dsimp only; omega) (.int .i64 SF.n)
  have z2 := (E2.out.other (a := ⟨rb, 10, none⟩) (by dsimp only; omega) (.int .i64 SF.kind)).other (a := ⟨rb, 11, none⟩) (by dsimp only; omega) (.int .i64 SF.n)
  have B8 := hid (bel_set (bel_set BF.out h0 10 (.int .i64 SF.kind)) h0 11 (.int .i64 SF.n))
  clear c5 c6 c10 c11 f10 f11 BKF ARF E0 E1 E2 BF
  generalize ((w7.setCell ⟨rb, 10, none⟩ (.int .i64 SF.kind)).setCell ⟨rb, 11, none⟩ (.int .i64 SF.n)) = W8 at *
  have c2 : W8.cell? ⟨rb, 2, none⟩ = some (.slice (some ⟨q 2, 0, none⟩) 64 (c 2)) := bk8.cell 2 _ rfl
  have c3 : W8.cell? ⟨rb, 3, none⟩ = some (.slice (some ⟨q 3, 0, none⟩) 64 (c 3)) := bk8.cell 3 _ rfl
  have c4 : W8.cell? ⟨rb, 4, none⟩ = some (.slice (some ⟨q 4, 0, none⟩) 64 (c 4)) := bk8.cell 4 _ rfl
  have c8 : W8.cell? ⟨rb, 8, none⟩ = some (.int .i64 SF.steps) := bk8.cell 8 _ rfl
  have c9 : W8.cell? ⟨rb, 9, none⟩ = some (.int .i64 SF.zero) := bk8.cell 9 _ rfl
  have c10 : W8.cell? ⟨rb, 10, none⟩ = some (.int .i64 SF.kind) := bk8.cell 10 _ rfl
  have c11 : W8.cell? ⟨rb, 11, none⟩ = some (.int .i64 SF.n) := bk8.cell 11 _ rfl
  have d0 : W8.cell? ⟨w.heap.size, 0, none⟩ = some (.string I') := z0.cell 0 _ rfl
  have r0 := z1.cell 0 _ rfl
  have r1 := z1.cell 1 _ rfl
  have r2 := z1.cell 2 _ rfl
  have r3 := z1.cell 3 _ rfl
  have s0 := z2.cell 0 _ rfl
  have s1 := z2.cell 1 _ rfl
  have s2 := z2.cell 2 _ rfl
  have s3 := z2.cell 3 _ rfl
  have f0 := z1.free 0
  have f1 := z1.free 1
  have f2 := z1.free 2
  have f3 := z1.free 3
  have g0 := z2.free 0
  have g1 := z2.free 1
  have g2 := z2.free 2
  have g3 := z2.free 3
  have y2 := ar8.1 2 (by omega) (by omega)
  have y3 := ar8.1 3 (by omega) (by omega)
  have y4 := ar8.1 4 (by omega) (by omega)
  have N2 := hid (And.intro (fun e => by have h := y2.2.1; rw [e] at h; exact h.type z1 : q 2 ≠ w.heap.size + 1) (fun e => by have h := y2.2.1; rw [e] at h; exact h.type z2 : q 2 ≠ w.heap.size + 1 + 1))
  have N3 := hid (And.intro (fun e => by have h := y3.2.1; rw [e] at h; exact h.type z1 : q 3 ≠ w.heap.size + 1) (fun e => by have h := y3.2.1; rw [e] at h; exact h.type z2 : q 3 ≠ w.heap.size + 1 + 1))
  have N4 := hid (And.intro (fun e => by have h := y4.2.1; rw [e] at h; exact h.type z1 : q 4 ≠ w.heap.size + 1) (fun e => by have h := y4.2.1; rw [e] at h; exact h.type z2 : q 4 ≠ w.heap.size + 1 + 1))
  have Y2 := hid y2.2
  have Y3 := hid y3.2
  have Y4 := hid y4.2
  clear bk8 ar8 z0 z1 z2 y2 y3 y4
  have HFIN : Hid (RetRun I (VS.runs (passI P) l 0 ⟨arf I' Q' M' R', 0, 0, [], 0, 0⟩) w = fun e w' => e = .returned (.tuple #[.agg #[.string I', .string (SF.ar 2), .string (SF.ar 3), .string (SF.ar 4)], .agg #[.int .i64 SF.steps, .int .i64 SF.zero, .int .i64 SF.kind, .int .i64 SF.n]]) ∧ Below w.heap.size w w') := by
    show _ = _
    unfold RetRun passI
    rw [HPP.out, HFI.out, HSFE.out]
  clear HPP HFI HFQ HFM HFR HSFE HCV HSF HJ0 HP HC HR SI SQ SM SR
  refine wp_region_held_drew (S := fun w' => w'.cell? ⟨w.heap.size, 0, none⟩ = some (.string I') ∧ w'.cell? ⟨rb, 2, none⟩ = some (.slice (some ⟨q 2, 0, none⟩) 64 (c 2)) ∧ w'.cell? ⟨rb, 3, none⟩ = some (.slice (some ⟨q 3, 0, none⟩) 64 (c 3)) ∧ w'.cell? ⟨rb, 4, none⟩ = some (.slice (some ⟨q 4, 0, none⟩) 64 (c 4)) ∧ w'.cell? ⟨rb, 8, none⟩ = some (.int .i64 SF.steps) ∧ w'.cell? ⟨rb, 9, none⟩ = some (.int .i64 SF.zero) ∧ w'.cell? ⟨rb, 10, none⟩ = some (.int .i64 SF.kind) ∧ w'.cell? ⟨rb, 11, none⟩ = some (.int .i64 SF.n) ∧ (convert 44 9 (.slice (some ⟨q 2, 0, none⟩) 64 (c 2))).run Try.prog w' = .ok (.string (SF.ar 2)) w' ∧ (convert 44 9 (.slice (some ⟨q 3, 0, none⟩) 64 (c 3))).run Try.prog w' = .ok (.string (SF.ar 3)) w' ∧ (convert 44 9 (.slice (some ⟨q 4, 0, none⟩) 64 (c 4))).run Try.prog w' = .ok (.string (SF.ar 4)) w') (by kernel_rfl) ?_ (fun hHeld => ?_)
  · have b2 := Y2.out.1
    have b3 := Y3.out.1
    have b4 := Y4.out.1
    exact ⟨cd2 d0, cd2 c2, cd2 c3, cd2 c4, cd2 c8, cd2 c9, cd2 c10, cd2 c11, ByB.back (ByB.drew (ByB.drew b2)) (c 2) 64 Y2.out.2, ByB.back (ByB.drew (ByB.drew b3)) (c 3) 64 Y3.out.2, ByB.back (ByB.drew (ByB.drew b4)) (c 4) 64 Y4.out.2⟩
  refine take0 (v := .pointer (some ⟨w.heap.size, 0, none⟩)) (by kernel_rfl) (by kernel_rfl) (by kernel_rfl) (fun _ _ _ h => h) (Or.inl ⟨by rfl, ?_⟩) hHeld ?_
  · intro w9 hSw
    try dsimp only at hSw
    go_simp
  try simp only [Act.put, List.setIfInBounds_toArray, List.set_cons_zero, List.set_cons_succ]
  refine take1 (v := .string I') (by kernel_rfl) (by kernel_rfl) (by kernel_rfl) (fun _ _ _ h => h) (Or.inl ⟨by rfl, ?_⟩) hHeld ?_
  · intro w9 hSw
    try dsimp only at hSw
    go_simp
  try simp only [Act.put, List.setIfInBounds_toArray, List.set_cons_zero, List.set_cons_succ]
  refine take2 (v := .pointer (some ⟨rb, 0, none⟩)) (by kernel_rfl) (by kernel_rfl) (by kernel_rfl) (fun _ _ _ h => h) (Or.inl ⟨by rfl, ?_⟩) hHeld ?_
  · intro w9 hSw
    try dsimp only at hSw
    go_simp
  try simp only [Act.put, List.setIfInBounds_toArray, List.set_cons_zero, List.set_cons_succ]
  refine take3 (v := .pointer (some ⟨rb, 0, none⟩)) (by kernel_rfl) (by kernel_rfl) (by kernel_rfl) (fun _ _ _ h => h) (Or.inl ⟨by rfl, ?_⟩) hHeld ?_
  · intro w9 hSw
    try dsimp only at hSw
    go_simp
  try simp only [Act.put, List.setIfInBounds_toArray, List.set_cons_zero, List.set_cons_succ]
  refine take4 (v := .pointer (some ⟨rb, 0, none⟩)) (by kernel_rfl) (by kernel_rfl) (by kernel_rfl) (fun _ _ _ h => h) (Or.inl ⟨by rfl, ?_⟩) hHeld ?_
  · intro w9 hSw
    try dsimp only at hSw
    go_simp
  try simp only [Act.put, List.setIfInBounds_toArray, List.set_cons_zero, List.set_cons_succ]
  refine take5 (v := .pointer (some ⟨rb, 2, none⟩)) (by kernel_rfl) (by kernel_rfl) (by kernel_rfl) (fun _ _ _ h => h) (Or.inl ⟨by rfl, ?_⟩) hHeld ?_
  · intro w9 hSw
    try dsimp only at hSw
    go_simp
  try simp only [Act.put, List.setIfInBounds_toArray, List.set_cons_zero, List.set_cons_succ]
  refine take6 (v := .slice (some ⟨q 2, 0, none⟩) 64 (c 2)) (by kernel_rfl) (by kernel_rfl) (by kernel_rfl) (fun _ _ _ h => h) (Or.inl ⟨by rfl, ?_⟩) hHeld ?_
  · intro w9 hSw
    try dsimp only at hSw
    go_simp
  try simp only [Act.put, List.setIfInBounds_toArray, List.set_cons_zero, List.set_cons_succ]
  refine take7 (v := .string (SF.ar 2)) (by kernel_rfl) (by kernel_rfl) (by kernel_rfl) (fun _ _ _ h => h) (Or.inl ⟨by rfl, ?_⟩) hHeld ?_
  · intro w9 hSw
    try dsimp only at hSw
    go_simp
  try simp only [Act.put, List.setIfInBounds_toArray, List.set_cons_zero, List.set_cons_succ]
  refine take8 (v := .pointer (some ⟨rb, 0, none⟩)) (by kernel_rfl) (by kernel_rfl) (by kernel_rfl) (fun _ _ _ h => h) (Or.inl ⟨by rfl, ?_⟩) hHeld ?_
  · intro w9 hSw
    try dsimp only at hSw
    go_simp
  try simp only [Act.put, List.setIfInBounds_toArray, List.set_cons_zero, List.set_cons_succ]
  refine take9 (v := .pointer (some ⟨rb, 0, none⟩)) (by kernel_rfl) (by kernel_rfl) (by kernel_rfl) (fun _ _ _ h => h) (Or.inl ⟨by rfl, ?_⟩) hHeld ?_
  · intro w9 hSw
    try dsimp only at hSw
    go_simp
  try simp only [Act.put, List.setIfInBounds_toArray, List.set_cons_zero, List.set_cons_succ]
  refine take10 (v := .pointer (some ⟨rb, 0, none⟩)) (by kernel_rfl) (by kernel_rfl) (by kernel_rfl) (fun _ _ _ h => h) (Or.inl ⟨by rfl, ?_⟩) hHeld ?_
  · intro w9 hSw
    try dsimp only at hSw
    go_simp
  try simp only [Act.put, List.setIfInBounds_toArray, List.set_cons_zero, List.set_cons_succ]
  refine take11 (v := .pointer (some ⟨rb, 3, none⟩)) (by kernel_rfl) (by kernel_rfl) (by kernel_rfl) (fun _ _ _ h => h) (Or.inl ⟨by rfl, ?_⟩) hHeld ?_
  · intro w9 hSw
    try dsimp only at hSw
    go_simp
  try simp only [Act.put, List.setIfInBounds_toArray, List.set_cons_zero, List.set_cons_succ]
  refine take12 (v := .slice (some ⟨q 3, 0, none⟩) 64 (c 3)) (by kernel_rfl) (by kernel_rfl) (by kernel_rfl) (fun _ _ _ h => h) (Or.inl ⟨by rfl, ?_⟩) hHeld ?_
  · intro w9 hSw
    try dsimp only at hSw
    go_simp
  try simp only [Act.put, List.setIfInBounds_toArray, List.set_cons_zero, List.set_cons_succ]
  refine take13 (v := .string (SF.ar 3)) (by kernel_rfl) (by kernel_rfl) (by kernel_rfl) (fun _ _ _ h => h) (Or.inl ⟨by rfl, ?_⟩) hHeld ?_
  · intro w9 hSw
    try dsimp only at hSw
    go_simp
  try simp only [Act.put, List.setIfInBounds_toArray, List.set_cons_zero, List.set_cons_succ]
  refine take14 (v := .pointer (some ⟨rb, 0, none⟩)) (by kernel_rfl) (by kernel_rfl) (by kernel_rfl) (fun _ _ _ h => h) (Or.inl ⟨by rfl, ?_⟩) hHeld ?_
  · intro w9 hSw
    try dsimp only at hSw
    go_simp
  try simp only [Act.put, List.setIfInBounds_toArray, List.set_cons_zero, List.set_cons_succ]
  refine take15 (v := .pointer (some ⟨rb, 0, none⟩)) (by kernel_rfl) (by kernel_rfl) (by kernel_rfl) (fun _ _ _ h => h) (Or.inl ⟨by rfl, ?_⟩) hHeld ?_
  · intro w9 hSw
    try dsimp only at hSw
    go_simp
  try simp only [Act.put, List.setIfInBounds_toArray, List.set_cons_zero, List.set_cons_succ]
  refine take16 (v := .pointer (some ⟨rb, 0, none⟩)) (by kernel_rfl) (by kernel_rfl) (by kernel_rfl) (fun _ _ _ h => h) (Or.inl ⟨by rfl, ?_⟩) hHeld ?_
  · intro w9 hSw
    try dsimp only at hSw
    go_simp
  try simp only [Act.put, List.setIfInBounds_toArray, List.set_cons_zero, List.set_cons_succ]
  refine take17 (v := .pointer (some ⟨rb, 4, none⟩)) (by kernel_rfl) (by kernel_rfl) (by kernel_rfl) (fun _ _ _ h => h) (Or.inl ⟨by rfl, ?_⟩) hHeld ?_
  · intro w9 hSw
    try dsimp only at hSw
    go_simp
  try simp only [Act.put, List.setIfInBounds_toArray, List.set_cons_zero, List.set_cons_succ]
  refine take18 (v := .slice (some ⟨q 4, 0, none⟩) 64 (c 4)) (by kernel_rfl) (by kernel_rfl) (by kernel_rfl) (fun _ _ _ h => h) (Or.inl ⟨by rfl, ?_⟩) hHeld ?_
  · intro w9 hSw
    try dsimp only at hSw
    go_simp
  try simp only [Act.put, List.setIfInBounds_toArray, List.set_cons_zero, List.set_cons_succ]
  refine take19 (v := .string (SF.ar 4)) (by kernel_rfl) (by kernel_rfl) (by kernel_rfl) (fun _ _ _ h => h) (Or.inl ⟨by rfl, ?_⟩) hHeld ?_
  · intro w9 hSw
    try dsimp only at hSw
    go_simp
  try simp only [Act.put, List.setIfInBounds_toArray, List.set_cons_zero, List.set_cons_succ]
  refine take20 (v := .agg #[.string I', .string (SF.ar 2), .string (SF.ar 3), .string (SF.ar 4)]) (by kernel_rfl) (by kernel_rfl) (by kernel_rfl) (fun _ _ _ h => h) (Or.inl ⟨by rfl, ?_⟩) hHeld ?_
  · intro w9 hSw
    try dsimp only at hSw
    go_simp
  try simp only [Act.put, List.setIfInBounds_toArray, List.set_cons_zero, List.set_cons_succ]
  refine take21 (v := .pointer (some ⟨rb, 0, none⟩)) (by kernel_rfl) (by kernel_rfl) (by kernel_rfl) (fun _ _ _ h => h) (Or.inl ⟨by rfl, ?_⟩) hHeld ?_
  · intro w9 hSw
    try dsimp only at hSw
    go_simp
  try simp only [Act.put, List.setIfInBounds_toArray, List.set_cons_zero, List.set_cons_succ]
  refine take22 (v := .pointer (some ⟨rb, 0, none⟩)) (by kernel_rfl) (by kernel_rfl) (by kernel_rfl) (fun _ _ _ h => h) (Or.inl ⟨by rfl, ?_⟩) hHeld ?_
  · intro w9 hSw
    try dsimp only at hSw
    go_simp
  try simp only [Act.put, List.setIfInBounds_toArray, List.set_cons_zero, List.set_cons_succ]
  refine take23 (v := .pointer (some ⟨rb, 8, none⟩)) (by kernel_rfl) (by kernel_rfl) (by kernel_rfl) (fun _ _ _ h => h) (Or.inl ⟨by rfl, ?_⟩) hHeld ?_
  · intro w9 hSw
    try dsimp only at hSw
    go_simp
  try simp only [Act.put, List.setIfInBounds_toArray, List.set_cons_zero, List.set_cons_succ]
  refine take24 (v := .agg #[.int .i64 SF.steps, .int .i64 SF.zero, .int .i64 SF.kind, .int .i64 SF.n]) (by kernel_rfl) (by kernel_rfl) (by kernel_rfl) (fun _ _ _ h => h) (Or.inl ⟨by rfl, ?_⟩) hHeld ?_
  · intro w9 hSw
    try dsimp only at hSw
    go_simp
  try simp only [Act.put, List.setIfInBounds_toArray, List.set_cons_zero, List.set_cons_succ]
  refine wpAnyH_ready (rs := [25]) (by kernel_rfl) (by simp) ?_
  refine step25 (fun K hK => ?_) AllReadyH.nil
  go_simp
  refine hK.out _ _ ?_ (fun hHeld => ?_)
  · have hh := (keepC8s (R := w.heap.size + 1) (o := 3) (keepC8s (R := w.heap.size + 1) (o := 2) (keepC8s (R := w.heap.size + 1) (o := 1) (keepC8s (R := w.heap.size + 1) (o := 0) ⟨d0, c2, c3, c4, c8, c9, c10, c11⟩ (.string I') (by dsimp only; omega) (by dsimp only; omega) (by dsimp only; omega) (by dsimp only; omega) (by dsimp only; omega) (by dsimp only; omega) (by dsimp only; omega) (by dsimp only; omega)) (.string (SF.ar 2)) (by dsimp only; omega) (by dsimp only; omega) (by dsimp only; omega) (by dsimp only; omega) (by dsimp only; omega) (by dsimp only; omega) (by dsimp only; omega) (by dsimp only; omega)) (.string (SF.ar 3)) (by dsimp only; omega) (by dsimp only; omega) (by dsimp only; omega) (by dsimp only; omega) (by dsimp only; omega) (by dsimp only; omega) (by dsimp only; omega) (by dsimp only; omega)) (.string (SF.ar 4)) (by dsimp only; omega) (by dsimp only; omega) (by dsimp only; omega) (by dsimp only; omega) (by dsimp only; omega) (by dsimp only; omega) (by dsimp only; omega) (by dsimp only; omega))
    have b2 := (ByB.other (a := ⟨w.heap.size + 1, 3, none⟩) (ByB.other (a := ⟨w.heap.size + 1, 2, none⟩) (ByB.other (a := ⟨w.heap.size + 1, 1, none⟩) (ByB.other (a := ⟨w.heap.size + 1, 0, none⟩) Y2.out.1 N2.out.1 (.string I')) N2.out.1 (.string (SF.ar 2))) N2.out.1 (.string (SF.ar 3))) N2.out.1 (.string (SF.ar 4)))
    have b3 := (ByB.other (a := ⟨w.heap.size + 1, 3, none⟩) (ByB.other (a := ⟨w.heap.size + 1, 2, none⟩) (ByB.other (a := ⟨w.heap.size + 1, 1, none⟩) (ByB.other (a := ⟨w.heap.size + 1, 0, none⟩) Y3.out.1 N3.out.1 (.string I')) N3.out.1 (.string (SF.ar 2))) N3.out.1 (.string (SF.ar 3))) N3.out.1 (.string (SF.ar 4)))
    have b4 := (ByB.other (a := ⟨w.heap.size + 1, 3, none⟩) (ByB.other (a := ⟨w.heap.size + 1, 2, none⟩) (ByB.other (a := ⟨w.heap.size + 1, 1, none⟩) (ByB.other (a := ⟨w.heap.size + 1, 0, none⟩) Y4.out.1 N4.out.1 (.string I')) N4.out.1 (.string (SF.ar 2))) N4.out.1 (.string (SF.ar 3))) N4.out.1 (.string (SF.ar 4)))
    exact ⟨cd2 hh.1, cd2 hh.2.1, cd2 hh.2.2.1, cd2 hh.2.2.2.1, cd2 hh.2.2.2.2.1, cd2 hh.2.2.2.2.2.1, cd2 hh.2.2.2.2.2.2.1, cd2 hh.2.2.2.2.2.2.2, ByB.back (ByB.drew (ByB.drew b2)) (c 2) 64 Y2.out.2, ByB.back (ByB.drew (ByB.drew b3)) (c 3) 64 Y3.out.2, ByB.back (ByB.drew (ByB.drew b4)) (c 4) 64 Y4.out.2⟩
  clear hK K
  try simp only [Act.put, List.setIfInBounds_toArray, List.set_cons_zero, List.set_cons_succ]
  refine wpAnyH_ready (rs := [26]) (by kernel_rfl) (by simp) ?_
  refine step26 (fun K hK => ?_) AllReadyH.nil
  go_simp
  refine hK.out _ _ ?_ (fun hHeld => ?_)
  · have hh := (keepC8s (R := w.heap.size + 1 + 1) (o := 3) (keepC8s (R := w.heap.size + 1 + 1) (o := 2) (keepC8s (R := w.heap.size + 1 + 1) (o := 1) (keepC8s (R := w.heap.size + 1 + 1) (o := 0) (keepC8s (R := w.heap.size + 1) (o := 3) (keepC8s (R := w.heap.size + 1) (o := 2) (keepC8s (R := w.heap.size + 1) (o := 1) (keepC8s (R := w.heap.size + 1) (o := 0) ⟨d0, c2, c3, c4, c8, c9, c10, c11⟩ (.string I') (by dsimp only; omega) (by dsimp only; omega) (by dsimp only; omega) (by dsimp only; omega) (by dsimp only; omega) (by dsimp only; omega) (by dsimp only; omega) (by dsimp only; omega)) (.string (SF.ar 2)) (by dsimp only; omega) (by dsimp only; omega) (by dsimp only; omega) (by dsimp only; omega) (by dsimp only; omega) (by dsimp only; omega) (by dsimp only; omega) (by dsimp only; omega)) (.string (SF.ar 3)) (by dsimp only; omega) (by dsimp only; omega) (by dsimp only; omega) (by dsimp only; omega) (by dsimp only; omega) (by dsimp only; omega) (by dsimp only; omega) (by dsimp only; omega)) (.string (SF.ar 4)) (by dsimp only; omega) (by dsimp only; omega) (by dsimp only; omega) (by dsimp only; omega) (by dsimp only; omega) (by dsimp only; omega) (by dsimp only; omega) (by dsimp only; omega)) (.int .i64 SF.steps) (by dsimp only; omega) (by dsimp only; omega) (by dsimp only; omega) (by dsimp only; omega) (by dsimp only; omega) (by dsimp only; omega) (by dsimp only; omega) (by dsimp only; omega)) (.int .i64 SF.zero) (by dsimp only; omega) (by dsimp only; omega) (by dsimp only; omega) (by dsimp only; omega) (by dsimp only; omega) (by dsimp only; omega) (by dsimp only; omega) (by dsimp only; omega)) (.int .i64 SF.kind) (by dsimp only; omega) (by dsimp only; omega) (by dsimp only; omega) (by dsimp only; omega) (by dsimp only; omega) (by dsimp only; omega) (by dsimp only; omega) (by dsimp only; omega)) (.int .i64 SF.n) (by dsimp only; omega) (by dsimp only; omega) (by dsimp only; omega) (by dsimp only; omega) (by dsimp only; omega) (by dsimp only; omega) (by dsimp only; omega) (by dsimp only; omega))
    have b2 := (ByB.other (a := ⟨w.heap.size + 1 + 1, 3, none⟩) (ByB.other (a := ⟨w.heap.size + 1 + 1, 2, none⟩) (ByB.other (a := ⟨w.heap.size + 1 + 1, 1, none⟩) (ByB.other (a := ⟨w.heap.size + 1 + 1, 0, none⟩) (ByB.other (a := ⟨w.heap.size + 1, 3, none⟩) (ByB.other (a := ⟨w.heap.size + 1, 2, none⟩) (ByB.other (a := ⟨w.heap.size + 1, 1, none⟩) (ByB.other (a := ⟨w.heap.size + 1, 0, none⟩) Y2.out.1 N2.out.1 (.string I')) N2.out.1 (.string (SF.ar 2))) N2.out.1 (.string (SF.ar 3))) N2.out.1 (.string (SF.ar 4))) N2.out.2 (.int .i64 SF.steps)) N2.out.2 (.int .i64 SF.zero)) N2.out.2 (.int .i64 SF.kind)) N2.out.2 (.int .i64 SF.n))
    have b3 := (ByB.other (a := ⟨w.heap.size + 1 + 1, 3, none⟩) (ByB.other (a := ⟨w.heap.size + 1 + 1, 2, none⟩) (ByB.other (a := ⟨w.heap.size + 1 + 1, 1, none⟩) (ByB.other (a := ⟨w.heap.size + 1 + 1, 0, none⟩) (ByB.other (a := ⟨w.heap.size + 1, 3, none⟩) (ByB.other (a := ⟨w.heap.size + 1, 2, none⟩) (ByB.other (a := ⟨w.heap.size + 1, 1, none⟩) (ByB.other (a := ⟨w.heap.size + 1, 0, none⟩) Y3.out.1 N3.out.1 (.string I')) N3.out.1 (.string (SF.ar 2))) N3.out.1 (.string (SF.ar 3))) N3.out.1 (.string (SF.ar 4))) N3.out.2 (.int .i64 SF.steps)) N3.out.2 (.int .i64 SF.zero)) N3.out.2 (.int .i64 SF.kind)) N3.out.2 (.int .i64 SF.n))
    have b4 := (ByB.other (a := ⟨w.heap.size + 1 + 1, 3, none⟩) (ByB.other (a := ⟨w.heap.size + 1 + 1, 2, none⟩) (ByB.other (a := ⟨w.heap.size + 1 + 1, 1, none⟩) (ByB.other (a := ⟨w.heap.size + 1 + 1, 0, none⟩) (ByB.other (a := ⟨w.heap.size + 1, 3, none⟩) (ByB.other (a := ⟨w.heap.size + 1, 2, none⟩) (ByB.other (a := ⟨w.heap.size + 1, 1, none⟩) (ByB.other (a := ⟨w.heap.size + 1, 0, none⟩) Y4.out.1 N4.out.1 (.string I')) N4.out.1 (.string (SF.ar 2))) N4.out.1 (.string (SF.ar 3))) N4.out.1 (.string (SF.ar 4))) N4.out.2 (.int .i64 SF.steps)) N4.out.2 (.int .i64 SF.zero)) N4.out.2 (.int .i64 SF.kind)) N4.out.2 (.int .i64 SF.n))
    exact ⟨cd2 hh.1, cd2 hh.2.1, cd2 hh.2.2.1, cd2 hh.2.2.2.1, cd2 hh.2.2.2.2.1, cd2 hh.2.2.2.2.2.1, cd2 hh.2.2.2.2.2.2.1, cd2 hh.2.2.2.2.2.2.2, ByB.back (ByB.drew (ByB.drew b2)) (c 2) 64 Y2.out.2, ByB.back (ByB.drew (ByB.drew b3)) (c 3) 64 Y3.out.2, ByB.back (ByB.drew (ByB.drew b4)) (c 4) 64 Y4.out.2⟩
  clear hK K
  try simp only [Act.put, List.setIfInBounds_toArray, List.set_cons_zero, List.set_cons_succ]
  refine wpAnyH_done (by kernel_rfl) ?_ _
  all_goals
    go_wp2_with fail
    refine bodyPost_ret (v := .tuple #[.agg #[.string I', .string (SF.ar 2), .string (SF.ar 3), .string (SF.ar 4)], .agg #[.int .i64 SF.steps, .int .i64 SF.zero, .int .i64 SF.kind, .int .i64 SF.n]]) (by simp [results, Try.results11, go_sem, r0, r1, r2, r3, s0, s1, s2, s3, f0, f1, f2, f3, g0, g1, g2, g3]) rfl ?_
    rw [HFIN.out]
    refine ⟨rfl, ?_⟩
    exact (bel_set (b := w.heap.size + 1 + 1) (bel_set (b := w.heap.size + 1 + 1) (bel_set (b := w.heap.size + 1 + 1) (bel_set (b := w.heap.size + 1 + 1) (bel_set (b := w.heap.size + 1) (bel_set (b := w.heap.size + 1) (bel_set (b := w.heap.size + 1) (bel_set (b := w.heap.size + 1) B8.out (by omega) _ _) (by omega) _ _) (by omega) _ _) (by omega) _ _) (by omega) _ _) (by omega) _ _) (by omega) _ _) (by omega) _ _).drew.drew
end Go.Proofs.Ytjnohalffffiaaa
