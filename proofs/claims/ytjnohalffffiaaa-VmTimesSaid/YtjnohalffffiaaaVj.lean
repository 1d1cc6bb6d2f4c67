/- verify: all's walk: the beginning. -/
import Derived.Test.YtjnohalffffiaaaVi
import Derived.Deep.OwnRows
import Derived.Deep.DeepCutAuto
set_option linter.unusedVariables false
set_option linter.unusedSimpArgs false
namespace Go.Proofs.Ytjnohalffffiaaa
open Go.RowKit

theorem infoAh : (Try.prog.info? 102).map (fun i => (i.zero, i.size, i.bytes)) = some (some (.pointer none), 1, 8) := by kernel_rfl
def nils (n : Nat) : Array Value := madeCells #[.pointer none] n
theorem nils_size (n : Nat) : (nils n).size = n := by simp [nils, madeCells]
theorem nils_at (n j : Nat) (h : j < n) : (nils n)[j]? = some (.pointer none) := by
  rw [Array.getElem?_eq_getElem (by rw [nils_size]; exact h)]
  simp [nils, madeCells, Nat.mod_one]
theorem run_mk (n : Nat) (hn : n ≤ 100000) (w : World) : (Instr.makeSlice 86 (.int .i64 ((n : Int) + 1)) (.int .i64 ((n : Int) + 1))).run Try.prog w = .ok (.slice (some ⟨w.heap.size, 0, none⟩) (n + 1) (n + 1)) (w.alloc (.cells (nils (n + 1)) 102)) := by
  have := run_make_row' (P := Try.prog) 86 102 (.pointer none) 8 Try.underlying86 infoAh rfl .i64 .i64 (n + 1) (by omega) (by omega) w
  unfold nils
  simpa using this

theorem tab_none (w : World) (base n : Nat) (hb : base ≤ w.heap.size) : TabAt (w.alloc (.cells (nils (n + 1)) 102)) base w.heap.size n (fun _ => none) :=
  ⟨hb, _, fun _ => 0, Blk.new _ _ _, nils_size _, fun j hj => nils_at _ _ (by omega), fun i j _ _ h => absurd rfl h⟩
theorem tab_start (w : World) (n : Nat) :
    TabAt (((w.alloc (.cells (nils (n + 1)) 102)).alloc (.cells #[.int .i64 0, .slice none 0 0] 105)).setCell ⟨w.heap.size, 0, none⟩ (.pointer (some ⟨w.heap.size + 1, 0, none⟩))) w.heap.size w.heap.size n startA := by
  have h1 := (tab_none w w.heap.size n (Nat.le_refl _)).below (bel_a1 _ (.cells #[.int .i64 0, .slice none 0 0] 105))
  have hb := Blk.new (w.alloc (.cells (nils (n + 1)) 102)) #[.int .i64 0, .slice none 0 0] 105
  rw [show (w.alloc (.cells (nils (n + 1)) 102)).heap.size = w.heap.size + 1 by simp] at hb
  refine h1.put (k := 0) (v := .slice none 0 0) (bs := []) (Nat.zero_le _) rfl hb (BrR.nil _) (by omega) ?_
  intro j hj e
  rcases h1.cell j hj with ⟨_, h⟩ | ⟨k, bs, q, v, h, _⟩
  · rw [h] at e; cases e
  · cases h

theorem tab_start' (w : World) (n : Nat) :
    TabAt ((w.alloc (.cells ((nils (n + 1)).setIfInBounds 0 (.pointer (some ⟨w.heap.size + 1, 0, none⟩))) 102)).alloc (.cells #[.int .i64 0, .slice none 0 0] 105)) w.heap.size w.heap.size n startA := by
  have := tab_start w n
  have he : ((w.alloc (.cells (nils (n + 1)) 102)).alloc (.cells #[.int .i64 0, .slice none 0 0] 105)).setCell ⟨w.heap.size, 0, none⟩ (.pointer (some ⟨w.heap.size + 1, 0, none⟩)) =
      (w.alloc (.cells ((nils (n + 1)).setIfInBounds 0 (.pointer (some ⟨w.heap.size + 1, 0, none⟩))) 102)).alloc (.cells #[.int .i64 0, .slice none 0 0] 105) := by
    go_simp
  rwa [he] at this
theorem bel_far {B : Nat} {w w1 w2 : World} (h : Below B w w1) (hB : B ≤ w1.heap.size) (k : Below w1.heap.size w1 w2) : Below B w w2 := h.trans (k.mono hB)
theorem allI_err {l : List Ins} {e p : Int} (hb : ¬ 200 < l.length) (h : runI l.length l 0 startA = .err e p) : allI l = .err e p := by
  unfold allI
  rw [if_neg hb, h]

theorem keep9 {w0 w1 w2 : World} {p1 p2 p3 p4 p5 p6 p7 p8 : Addr} {x1 x2 x3 x4 x5 x6 x7 x8 : Value} (h : w1.cell? p1 = some x1 ∧ w1.cell? p2 = some x2 ∧ w1.cell? p3 = some x3 ∧ w1.cell? p4 = some x4 ∧ w1.cell? p5 = some x5 ∧ w1.cell? p6 = some x6 ∧ w1.cell? p7 = some x7 ∧ w1.cell? p8 = some x8 ∧ Below w0.heap.size w0 w1) (hb : Below w1.heap.size w1 w2) :
    w2.cell? p1 = some x1 ∧ w2.cell? p2 = some x2 ∧ w2.cell? p3 = some x3 ∧ w2.cell? p4 = some x4 ∧ w2.cell? p5 = some x5 ∧ w2.cell? p6 = some x6 ∧ w2.cell? p7 = some x7 ∧ w2.cell? p8 = some x8 ∧ Below w0.heap.size w0 w2 := by
  obtain ⟨h1, h2, h3, h4, h5, h6, h7, h8, h9⟩ := h
  rw [hb.cell (World.block_lt_of_cell? _ _ h1), hb.cell (World.block_lt_of_cell? _ _ h2), hb.cell (World.block_lt_of_cell? _ _ h3), hb.cell (World.block_lt_of_cell? _ _ h4), hb.cell (World.block_lt_of_cell? _ _ h5), hb.cell (World.block_lt_of_cell? _ _ h6), hb.cell (World.block_lt_of_cell? _ _ h7), hb.cell (World.block_lt_of_cell? _ _ h8)]
  exact ⟨h1, h2, h3, h4, h5, h6, h7, h8, below_trans h9 hb⟩
theorem keep9s {w0 w1 : World} {p1 p2 p3 p4 p5 p6 p7 p8 : Addr} {x1 x2 x3 x4 x5 x6 x7 x8 : Value} (h : w1.cell? p1 = some x1 ∧ w1.cell? p2 = some x2 ∧ w1.cell? p3 = some x3 ∧ w1.cell? p4 = some x4 ∧ w1.cell? p5 = some x5 ∧ w1.cell? p6 = some x6 ∧ w1.cell? p7 = some x7 ∧ w1.cell? p8 = some x8 ∧ Below w0.heap.size w0 w1) {R : Nat} (a b : Value) (hR : w0.heap.size ≤ R)
    (n1 : p1.block ≠ R) (n2 : p2.block ≠ R) (n3 : p3.block ≠ R) (n4 : p4.block ≠ R) (n5 : p5.block ≠ R) (n6 : p6.block ≠ R) (n7 : p7.block ≠ R) (n8 : p8.block ≠ R) :
    ((w1.setCell ⟨R, 0, none⟩ a).setCell ⟨R, 1, none⟩ b).cell? p1 = some x1 ∧ ((w1.setCell ⟨R, 0, none⟩ a).setCell ⟨R, 1, none⟩ b).cell? p2 = some x2 ∧ ((w1.setCell ⟨R, 0, none⟩ a).setCell ⟨R, 1, none⟩ b).cell? p3 = some x3 ∧ ((w1.setCell ⟨R, 0, none⟩ a).setCell ⟨R, 1, none⟩ b).cell? p4 = some x4 ∧ ((w1.setCell ⟨R, 0, none⟩ a).setCell ⟨R, 1, none⟩ b).cell? p5 = some x5 ∧ ((w1.setCell ⟨R, 0, none⟩ a).setCell ⟨R, 1, none⟩ b).cell? p6 = some x6 ∧ ((w1.setCell ⟨R, 0, none⟩ a).setCell ⟨R, 1, none⟩ b).cell? p7 = some x7 ∧ ((w1.setCell ⟨R, 0, none⟩ a).setCell ⟨R, 1, none⟩ b).cell? p8 = some x8 ∧ Below w0.heap.size w0 ((w1.setCell ⟨R, 0, none⟩ a).setCell ⟨R, 1, none⟩ b) := by
  obtain ⟨h1, h2, h3, h4, h5, h6, h7, h8, h9⟩ := h
  rw [cell_set_far _ _ _ _ _ n1, cell_set_far _ _ _ _ _ n1, cell_set_far _ _ _ _ _ n2, cell_set_far _ _ _ _ _ n2, cell_set_far _ _ _ _ _ n3, cell_set_far _ _ _ _ _ n3, cell_set_far _ _ _ _ _ n4, cell_set_far _ _ _ _ _ n4, cell_set_far _ _ _ _ _ n5, cell_set_far _ _ _ _ _ n5, cell_set_far _ _ _ _ _ n6, cell_set_far _ _ _ _ _ n6, cell_set_far _ _ _ _ _ n7, cell_set_far _ _ _ _ _ n7, cell_set_far _ _ _ _ _ n8, cell_set_far _ _ _ _ _ n8]
  exact ⟨h1, h2, h3, h4, h5, h6, h7, h8, bel_set (bel_set h9 hR _ _) hR _ _⟩

theorem keep9a {w0 w1 : World} {o o' : Obj} {p1 p2 p3 p4 p5 p6 p7 p8 : Addr} {x1 x2 x3 x4 x5 x6 x7 x8 : Value} (h : (w1.alloc o).cell? p1 = some x1 ∧ (w1.alloc o).cell? p2 = some x2 ∧ (w1.alloc o).cell? p3 = some x3 ∧ (w1.alloc o).cell? p4 = some x4 ∧ (w1.alloc o).cell? p5 = some x5 ∧ (w1.alloc o).cell? p6 = some x6 ∧ (w1.alloc o).cell? p7 = some x7 ∧ (w1.alloc o).cell? p8 = some x8 ∧ Below w0.heap.size w0 (w1.alloc o)) (hR : w0.heap.size ≤ w1.heap.size)
    (n1 : p1.block < w0.heap.size) (n2 : p2.block < w0.heap.size) (n3 : p3.block < w0.heap.size) (n4 : p4.block < w0.heap.size) (n5 : p5.block < w0.heap.size) (n6 : p6.block < w0.heap.size) (n7 : p7.block < w0.heap.size) (n8 : p8.block < w0.heap.size) :
    (w1.alloc o').cell? p1 = some x1 ∧ (w1.alloc o').cell? p2 = some x2 ∧ (w1.alloc o').cell? p3 = some x3 ∧ (w1.alloc o').cell? p4 = some x4 ∧ (w1.alloc o').cell? p5 = some x5 ∧ (w1.alloc o').cell? p6 = some x6 ∧ (w1.alloc o').cell? p7 = some x7 ∧ (w1.alloc o').cell? p8 = some x8 ∧ Below w0.heap.size w0 (w1.alloc o') := by
  obtain ⟨h1, h2, h3, h4, h5, h6, h7, h8, h9⟩ := h
  have k : ∀ (p : Addr) (o : Obj), p.block < w0.heap.size → (w1.alloc o).cell? p = w1.cell? p := fun p o hp => (bel_a1 w1 o).cell (Nat.lt_of_lt_of_le hp hR)
  rw [k _ _ n1] at h1
  rw [k _ _ n2] at h2
  rw [k _ _ n3] at h3
  rw [k _ _ n4] at h4
  rw [k _ _ n5] at h5
  rw [k _ _ n6] at h6
  rw [k _ _ n7] at h7
  rw [k _ _ n8] at h8
  rw [k _ _ n1, k _ _ n2, k _ _ n3, k _ _ n4, k _ _ n5, k _ _ n6, k _ _ n7, k _ _ n8]
  refine ⟨h1, h2, h3, h4, h5, h6, h7, h8, h9.os, h9.tape, h9.output, by simp; omega, fun j hj => ?_⟩
  rw [← h9.block j hj, Below.heap_alloc w1 o' j (Nat.lt_of_lt_of_le hj hR), Below.heap_alloc w1 o j (Nat.lt_of_lt_of_le hj hR)]

theorem tab_notin {w w' : World} {base T n : Nat} {A : Nat → Option St} (h : TabAt w base T n A) {g : Nat} (hg : w.heap.size ≤ g) (hb : Below w.heap.size w w') : ∀ j, j ≤ n → w'.cell? ⟨T, j, none⟩ ≠ some (.pointer (some ⟨g, 0, none⟩)) := by
  intro j hj e
  rw [hb.cell (p := ⟨T, j, none⟩) h.lt] at e
  rcases h.cell j hj with ⟨_, h2⟩ | ⟨k', bs', q, v', h2, h3, h4, _⟩
  · rw [h2] at e; cases e
  · rw [h3] at e
    injection e with e
    injection e with e
    injection e with e
    injection e with e
    have := h4.lt
    omega
theorem notin_below {w w' : World} {T n g : Nat} (hT : T < w.heap.size) (h : ∀ j, j ≤ n → w.cell? ⟨T, j, none⟩ ≠ some (.pointer (some ⟨g, 0, none⟩))) (hb : Below w.heap.size w w') : ∀ j, j ≤ n → w'.cell? ⟨T, j, none⟩ ≠ some (.pointer (some ⟨g, 0, none⟩)) := by
  intro j hj
  rw [hb.cell (p := ⟨T, j, none⟩) hT]
  exact h j hj
theorem notin_frm {w w' : World} {T n g : Nat} (hg : g < w.heap.size) (h : ∀ j, j ≤ n → w.cell? ⟨T, j, none⟩ ≠ some (.pointer (some ⟨g, 0, none⟩))) (hf : Frm T n w w') : ∀ j, j ≤ n → w'.cell? ⟨T, j, none⟩ ≠ some (.pointer (some ⟨g, 0, none⟩)) := by
  intro j hj e
  rcases hf.2.1 j g hj e with e | e
  · exact h j hj e
  · omega

section
variable {n j : Nat} {A : Nat → Option St} {i : Ins} {k er kk : Int} {bs bb : List (Int × Int)}
theorem stepI_ej (hR : rightb i = true) (hA : A j = some (k, bs)) (hJ : jumpsb i = true ∧ (i.at_ ≤ j ∨ n < i.at_)) : stepI n j A i = .err 7 j := by
  unfold stepI
  rw [if_neg (by rw [hR]; simp), hA]
  dsimp only
  rw [if_pos hJ]
theorem stepI_eb (hR : rightb i = true) (hA : A j = some (k, bs)) (hJ : ¬ (jumpsb i = true ∧ (i.at_ ≤ j ∨ n < i.at_))) (hb : behI k bs i = (er, kk, bb)) (he : er ≠ 0) : stepI n j A i = .err er j := by
  unfold stepI
  rw [if_neg (by rw [hR]; simp), hA]
  dsimp only
  rw [if_neg hJ, hb, if_pos he]
theorem stepI_e1 (hR : rightb i = true) (hA : A j = some (k, bs)) (hJ : ¬ (jumpsb i = true ∧ (i.at_ ≤ j ∨ n < i.at_))) (hb : behI k bs i = (0, kk, bb)) (h1 : okIf (onb i) A (j + 1) (kk, bb) = false) : stepI n j A i = .err 7 j := by
  unfold stepI
  rw [if_neg (by rw [hR]; simp), hA]
  dsimp only
  rw [if_neg hJ, hb, if_neg (by simp), if_pos h1]
theorem stepI_e2 (hR : rightb i = true) (hA : A j = some (k, bs)) (hJ : ¬ (jumpsb i = true ∧ (i.at_ ≤ j ∨ n < i.at_))) (hb : behI k bs i = (0, kk, bb)) (h1 : okIf (onb i) A (j + 1) (kk, bb) = true)
    (h2 : okIf (jumpsb i) (leadIf (onb i) A (j + 1) (kk, bb)) i.at_.toNat (kk, bb) = false) : stepI n j A i = .err 7 j := by
  unfold stepI
  rw [if_neg (by rw [hR]; simp), hA]
  dsimp only
  rw [if_neg hJ, hb, if_neg (by simp), if_neg (by rw [h1]; simp), if_pos h2]
theorem stepI_ok (hR : rightb i = true) (hA : A j = some (k, bs)) (hJ : ¬ (jumpsb i = true ∧ (i.at_ ≤ j ∨ n < i.at_))) (hb : behI k bs i = (0, kk, bb)) (h1 : okIf (onb i) A (j + 1) (kk, bb) = true)
    (h2 : okIf (jumpsb i) (leadIf (onb i) A (j + 1) (kk, bb)) i.at_.toNat (kk, bb) = true) : stepI n j A i = .tab (leadIf (jumpsb i) (leadIf (onb i) A (j + 1) (kk, bb)) i.at_.toNat (kk, bb)) := by
  unfold stepI
  rw [if_neg (by rw [hR]; simp), hA]
  dsimp only
  rw [if_neg hJ, hb, if_neg (by simp), if_neg (by rw [h1]; simp), if_neg (by rw [h2]; simp)]
end

theorem allI_none {l : List Ins} {A : Nat → Option St} (hb : ¬ 200 < l.length) (h : runI l.length l 0 startA = .tab A) (hA : A l.length = none) : allI l = .tab A := by
  unfold allI
  rw [if_neg hb, h]
  dsimp only
  rw [hA]
theorem allI_some {l : List Ins} {A : Nat → Option St} {k : Int} {bs : List (Int × Int)} (hb : ¬ 200 < l.length) (h : runI l.length l 0 startA = .tab A) (hA : A l.length = some (k, bs)) (h0 : 0 < bs.length) : allI l = .err 3 l.length := by
  unfold allI
  rw [if_neg hb, h]
  dsimp only
  rw [hA]
  dsimp only
  rw [if_pos h0]
theorem allI_some' {l : List Ins} {A : Nat → Option St} {k : Int} {bs : List (Int × Int)} (hb : ¬ 200 < l.length) (h : runI l.length l 0 startA = .tab A) (hA : A l.length = some (k, bs)) (h0 : ¬ 0 < bs.length) : allI l = .tab A := by
  unfold allI
  rw [if_neg hb, h]
  dsimp only
  rw [hA]
  dsimp only
  rw [if_neg h0]
/-- verify.Check. -/
def chkI (l : List Ins) : Int × Int := match allI l with
  | .err e p => (e, p)
  | .tab _ => (0, 0)
def RetC (x y : Int) (w : World) (e : Ending) (w' : World) : Prop := e = .returned (.tuple #[.int .i64 x, .int .i64 y]) ∧ Below w.heap.size w w'

def RetAll (l : List Ins) (w : World) (e : Ending) (w' : World) : Prop :=
  match allI l with
  | .err er p => e = .returned (.tuple #[.slice none 0 0, .int .i64 er, .int .i64 p]) ∧ Below w.heap.size w w'
  | .tab A => ∃ T, e = .returned (.tuple #[.slice (some ⟨T, 0, none⟩) (l.length + 1) (l.length + 1), .int .i64 0, .int .i64 0]) ∧ TabAt w' w.heap.size T l.length A ∧ Below w.heap.size w w'

set_option maxRecDepth 100000 in
set_option maxHeartbeats 4000000 in
theorem all_calls (a : Option Addr) (l : List Ins) (cap : Nat) (w : World) (hr : RdIns w a l) (hc : l.length ≤ cap) (hm : cap ≤ 9223372036854775807) :
    Calls Try.prog 31 #[.slice a l.length cap] w (RetAll l w) := by
  by_cases hbig : 200 < l.length
  · have hall : allI l = .err 2 200 := by unfold allI; rw [if_pos hbig]
    have HALL := hid hall
    clear hall hr
    go_enter Try.func31, Try.ntmps31
    go_wp2_with fail
    go_ret3
    unfold RetAll
    rw [HALL.out]
    exact ⟨rfl, Below.refl _ _⟩
  have HR := hid hr
  have hmk := run_mk l.length (by omega)
  have hn0 := nils_at (l.length + 1) 0 (by omega)
  have HSTART := hid (tab_start' w l.length)
  clear hr
  go_enter Try.func31, Try.ntmps31
  go_wp2_with fail
  have hbs := bel_a2 w (.cells ((nils (l.length + 1)).setIfInBounds 0 (.pointer (some ⟨w.heap.size + 1, 0, none⟩))) 102) (.cells #[.int .i64 0, .slice none 0 0] 105)
  have HBS := hid hbs
  clear hbs hn0 hmk
  generalize ((w.alloc (.cells ((nils (l.length + 1)).setIfInBounds 0 (.pointer (some ⟨w.heap.size + 1, 0, none⟩))) 102)).alloc (.cells #[.int .i64 0, .slice none 0 0] 105)) = W0 at *
  obtain ⟨T, hT⟩ : ∃ T, w.heap.size = T := ⟨_, rfl⟩
  have HT := hid hT
  rw [hT] at HSTART HBS ⊢
  clear hT
  go_loopw [24] (fun i wr => ∃ (j : Nat) (A : Nat → Option St), j ≤ l.length ∧ i = .int .i64 j ∧ TabAt wr T T l.length A ∧ InvA A ∧ Below T w wr ∧ runI l.length (l.drop j) j A = runI l.length l 0 startA) (fun i _ => l.length - (intOf i).toNat)
  case atStart => exact ⟨0, startA, Nat.zero_le _, rfl, HSTART.out, startA_inv, HBS.out, rfl⟩
  case round =>
    clear HSTART HBS
    obtain ⟨j, A, hj, rfl, ht, hinv, hb, hrun⟩ := hrel
    have HINV := hid hinv
    have HRUN := hid hrun
    have hTs : T ≤ wr.heap.size := by have := hb.size; rw [HT.out] at this; exact this
    clear hinv hrun
    by_cases hlt : j < l.length
    · obtain ⟨cb, co, hae, hcb, x0, x1, x2, x3, x4⟩ := (HR.out.below (by rw [HT.out]; exact hb)).cell j hlt
      subst hae
      obtain ⟨i, hi⟩ : ∃ i, l[j] = i := ⟨_, rfl⟩
      have HSTEP := hid (runI_step (n := l.length) (A := A) hlt)
      rw [hi] at x0 x1 x2 x3 x4 HSTEP
      obtain ⟨op, kind, area, at_, nn⟩ := i
      dsimp only at x0 x1 x2 x3 x4
      have H0 := hid ht
      have HB0 := hid hb
      clear hi ht hb
      go_wp2_with fail
      refine (Right_at _ _ _ _ _ _).mono ?_
      rintro e w2 ⟨rfl, hb2⟩
      obtain ⟨B, hB⟩ : ∃ B, wr.heap.size = B := ⟨_, rfl⟩
      have hbx := (Blk.new wr #[.int .i64 op, .int .i64 kind, .int .i64 area, .int .i64 at_, .int .i64 nn] 48).below hb2
      have ht2 := (H0.out.below (bel_a1 wr (.cells #[.int .i64 op, .int .i64 kind, .int .i64 area, .int .i64 at_, .int .i64 nn] 48))).below hb2
      have hbe := bel_far (HB0.out.alloc hTs (.cells #[.int .i64 op, .int .i64 kind, .int .i64 area, .int .i64 at_, .int .i64 nn] 48)) (by simp; omega) hb2
      rw [hB] at hbx hTs ⊢
      have hzB : B < w2.heap.size := hbx.lt
      have HBX := hid hbx
      have HT2 := hid ht2
      have HBE := hid hbe
      have b0 := hbx.cell 0 _ rfl
      have b1 := hbx.cell 1 _ rfl
      have b2 := hbx.cell 2 _ rfl
      have b3 := hbx.cell 3 _ rfl
      have b4 := hbx.cell 4 _ rfl
      have i1 : (0 : Int) ≤ (j : Int) := Int.natCast_nonneg _
      have i2 : (j : Int) < (l.length : Int) + 1 := by omega
      clear hb2 hbx ht2 hbe hB x0 x1 x2 x3 x4 H0 HB0 hcb
      cases hR : rightb ⟨op, kind, area, at_, nn⟩ with
      | false =>
        have hall : allI l = .err 3 j := allI_err hbig (by rw [← HRUN.out, HSTEP.out]; unfold stepI; rw [if_pos hR])
        have HALL := hid hall
        clear hall hR
        go_wp2_with fail
        go_ret3
        unfold RetAll
        rw [HALL.out]
        exact ⟨rfl, by rw [HT.out]; exact HBE.out⟩
      | true =>
        rcases HT2.out.cell j hj with ⟨hA, hcell⟩ | ⟨k, bs, q, v, hA, hcell, hq, hv, hbq⟩
        · have hrun2 : runI l.length (l.drop (j + 1)) (j + 1) A = runI l.length l 0 startA := by
            rw [← HRUN.out, HSTEP.out]
            unfold stepI
            rw [if_neg (by rw [hR]; simp), hA]
          have HRUN2 := hid hrun2
          clear hrun2 hA hR
          go_wp2_with fail
          go_roundw
          case rel => exact ⟨j + 1, A, by omega, by go_num, HT2.out, HINV.out, HBE.out, HRUN2.out⟩
          case measure => simp [intOf]; omega
        · have HA := hid hA
          have HQ := hid hq
          have HV := hid hv
          have HRR := hid hR
          clear hA hq hv hR
          go_wp2_with fail
          refine (jumps_calls _ _ _ _ _ _).mono ?_
          rintro e w3 ⟨rfl, hb3⟩
          have hbx3 := HBX.out.below hb3
          have ht3 := HT2.out.below hb3
          have hbe3 := bel_far HBE.out (by omega) hb3
          have HQ3 := hid (HQ.out.below hb3)
          have HV3 := hid (HV.out.below hb3)
          have hc3 : w3.cell? ⟨T, j, none⟩ = some (.pointer (some ⟨q, 0, none⟩)) := by rw [hb3.cell (p := ⟨T, j, none⟩) HT2.out.lt]; exact hcell
          have hz3 : B < w3.heap.size := hbx3.lt
          have HBX3 := hid hbx3
          have HT3 := hid ht3
          have HBE3 := hid hbe3
          have b0 := hbx3.cell 0 _ rfl
          have b1 := hbx3.cell 1 _ rfl
          have b2 := hbx3.cell 2 _ rfl
          have b3 := hbx3.cell 3 _ rfl
          have b4 := hbx3.cell 4 _ rfl
          clear hb3 hbx3 ht3 hbe3 hcell HBX HT2 HBE HQ HV
          cases hJ : (decide (25 ≤ op) && decide (op ≤ 27)) with
          | false =>
            have HJ := hid hJ
            have HJB : Hid (¬ (jumpsb ⟨op, kind, area, at_, nn⟩ = true ∧ (at_ ≤ j ∨ (l.length : Int) < at_))) := by
              show ¬ _
              intro h
              have h1 := h.1
              unfold jumpsb at h1
              rw [hJ] at h1
              cases h1
            clear hJ
            go_wp2_with fail
            have hlen8 : bs.length ≤ 8 := HINV.out j (k, bs) HA.out
            obtain ⟨va, vc, rfl, -⟩ := HV3.out.form
            obtain ⟨er, kk, bb, hbeh⟩ : ∃ er kk bb, behI k bs ⟨op, kind, area, at_, nn⟩ = (er, kk, bb) := ⟨_, _, _, rfl⟩
            have HBEH := hid hbeh
            have PB : Hid (∀ W', Below w3.heap.size w3 W' → Calls Try.prog 49 #[.agg #[.int .i64 k, .slice va bs.length vc], .agg #[.int .i64 op, .int .i64 kind, .int .i64 area, .int .i64 at_, .int .i64 nn]] W' (RetA er kk bb W')) := hid (fun W' h => by
              have := behind_at op kind area at_ nn k _ bs W' (HV3.out.below h) hlen8
              rw [hbeh] at this
              exact this)
            have q0 := HQ3.out.cell 0 _ rfl
            have q1 := HQ3.out.cell 1 _ rfl
            have hq3 : q < w3.heap.size := HQ3.out.lt
            have hT3 : T < w3.heap.size := HT3.out.lt
            clear hbeh
            go_cut [8, 9] (fun s8 s9 wx => ∃ g v', s8 = .pointer (some ⟨g, 0, none⟩) ∧ s9 = .int .i64 er ∧ Blk wx g #[.int .i64 kk, v'] 105 ∧ BrR wx v' bb ∧ TabAt wx T T l.length A ∧ Blk wx B #[.int .i64 op, .int .i64 kind, .int .i64 area, .int .i64 at_, .int .i64 nn] 48 ∧ Below T w wx ∧ ∀ j, j ≤ l.length → wx.cell? ⟨T, j, none⟩ ≠ some (.pointer (some ⟨g, 0, none⟩)))
            case first =>
              go_region_held3 (fun w' => w'.cell? ⟨T, j, none⟩ = some (.pointer (some ⟨q, 0, none⟩)) ∧ w'.cell? ⟨q, 0, none⟩ = some (.int .i64 k) ∧ w'.cell? ⟨q, 1, none⟩ = some (.slice va bs.length vc) ∧ w'.cell? ⟨B, 0, none⟩ = some (.int .i64 op) ∧ w'.cell? ⟨B, 1, none⟩ = some (.int .i64 kind) ∧ w'.cell? ⟨B, 2, none⟩ = some (.int .i64 area) ∧ w'.cell? ⟨B, 3, none⟩ = some (.int .i64 at_) ∧ w'.cell? ⟨B, 4, none⟩ = some (.int .i64 nn) ∧ Below w3.heap.size w3 w')
                (first | (exact ⟨hc3, q0, q1, b0, b1, b2, b3, b4, (Below.refl _ _).drew⟩) | (exact keep9 (by assumption) (by assumption)) | assumption | (exact keep9 (by assumption) (bel_a1 _ _)) | (exact keep9a (by assumption) (by omega) (by dsimp only; omega) (by dsimp only; omega) (by dsimp only; omega) (by dsimp only; omega) (by dsimp only; omega) (by dsimp only; omega) (by dsimp only; omega) (by dsimp only; omega)) | (exact keep9s (by assumption) _ _ (by omega) (by dsimp only; omega) (by dsimp only; omega) (by dsimp only; omega) (by dsimp only; omega) (by dsimp only; omega) (by dsimp only; omega) (by dsimp only; omega) (by dsimp only; omega)) | go_keep)
                ((go_at_call 49; (refine (PB.out _ (by exact (‹_ ∧ _ ∧ _ ∧ _ ∧ _ ∧ _ ∧ _ ∧ _ ∧ Below w3.heap.size w3 _›).2.2.2.2.2.2.2.2)).mono ?_); rintro e w4 ⟨v', rfl, hbr, hb4⟩; obtain ⟨a', c', rfl, -⟩ := hbr.form; have hz4 : w3.heap.size ≤ w4.heap.size := (by have := hb4.size; simp at this; omega); first | (have qn : Blk w4 w3.heap.size #[.int .i64 0, .slice none 0 0] 105 := Blk.below (by exact Blk.new w3 _ _) hb4; have r0 := qn.cell 0 _ rfl; have r1 := qn.cell 1 _ rfl; have f0 := qn.free 0; have f1 := qn.free 1; have hqn := qn.lt) | skip))
              all_goals
                have hx := (‹_ ∧ _ ∧ _ ∧ _ ∧ _ ∧ _ ∧ _ ∧ _ ∧ Below w3.heap.size w3 _›).2.2.2.2.2.2.2.2
                go_wp2_with fail
                go_meet
                first
                  | exact ⟨_, _, rfl, rfl, Blk.new _ _ _, hbr.alloc _, HT3.out.below hx, HBX3.out.below hx, bel_far HBE3.out (by omega) hx, tab_notin HT3.out hz4 hx⟩
                  | exact ⟨_, _, rfl, rfl, (qn.set 0 _).set 1 _, (hbr.set qn (by decide) _ _).set (qn.set 0 _) (by decide) _ _, HT3.out.below hx, HBX3.out.below hx, bel_far HBE3.out (by omega) hx, tab_notin HT3.out (Nat.le_refl _) hx⟩
            case rest =>
              obtain ⟨g, v', rfl, rfl, hg, hbr, ht, hbx, hbe, hng⟩ := hcut
              obtain ⟨ga, gc, rfl, -⟩ := hbr.form
              have hlb : bb.length ≤ 8 := by have := behI_len k bs ⟨op, kind, area, at_, nn⟩ hlen8; rw [HBEH.out] at this; exact this
              have HGc := hid hg
              have HVc := hid hbr
              have HTc := hid ht
              have HXc := hid hbx
              have HBc := hid hbe
              have HNc := hid hng
              have b0 := hbx.cell 0 _ rfl
              have b1 := hbx.cell 1 _ rfl
              have b2 := hbx.cell 2 _ rfl
              have b3 := hbx.cell 3 _ rfl
              have b4 := hbx.cell 4 _ rfl
              clear hg hbr ht hbx hbe hng HT3 HBX3 HBE3 HQ3 HV3 hc3 q0 q1 hq3 hT3 PB hz3 hbq
              by_cases her : er = 0
              · subst her
                go_wp2_with fail
                refine (on_calls _ _ _ _ _ _).mono ?_
                rintro e w5 ⟨rfl, hb5⟩
                have HG5 := hid (HGc.out.below hb5)
                have HV5 := hid (HVc.out.below hb5)
                have HT5 := hid (HTc.out.below hb5)
                have HX5 := hid (HXc.out.below hb5)
                have HB5 := hid (bel_far HBc.out (by have := HTc.out.lt; omega) hb5)
                have HN5 := hid (notin_below HTc.out.lt HNc.out hb5)
                have b0 := HX5.out.cell 0 _ rfl
                have b3 := HX5.out.cell 3 _ rfl
                have b1 := HX5.out.cell 1 _ rfl
                have b2 := HX5.out.cell 2 _ rfl
                have b4 := HX5.out.cell 4 _ rfl
                have g0 := HG5.out.cell 0 _ rfl
                have g1 := HG5.out.cell 1 _ rfl
                have hgl := HG5.out.lt
                have hxl := HX5.out.lt
                clear hb5 HGc HVc HTc HXc HBc HNc
                cases hO : (op != 25 && op != 28) with
                | false =>
                  have HO := hid hO
                  clear hO
                  go_wp2_with fail
                  refine (jumps_calls _ _ _ _ _ _).mono ?_
                  rintro e w7 ⟨rfl, hb7⟩
                  rw [HJ.out]
                  have HG7 := hid (HG5.out.below hb7)
                  have HV7 := hid (HV5.out.below hb7)
                  have HT7 := hid (HT5.out.below hb7)
                  have HX7 := hid (HX5.out.below hb7)
                  have HB7 := hid (bel_far HB5.out (by have := HT5.out.lt; omega) hb7)
                  have HN7 := hid (notin_below HT5.out.lt HN5.out hb7)
                  have b0 := HX7.out.cell 0 _ rfl
                  have b3 := HX7.out.cell 3 _ rfl
                  have b1 := HX7.out.cell 1 _ rfl
                  have b2 := HX7.out.cell 2 _ rfl
                  have b4 := HX7.out.cell 4 _ rfl
                  have g0 := HG7.out.cell 0 _ rfl
                  have g1 := HG7.out.cell 1 _ rfl
                  have hgl := HG7.out.lt
                  have hxl := HX7.out.lt
                  clear hb7 HG5 HV5 HT5 HX5 HB5 HN5
                  have hrun2 : runI l.length (l.drop (j + 1)) (j + 1) A = runI l.length l 0 startA := by
                    rw [← HRUN.out, HSTEP.out, stepI_ok HRR.out HA.out HJB.out HBEH.out (by rw [show onb ⟨op, kind, area, at_, nn⟩ = false from HO.out]; rfl) (by rw [show jumpsb ⟨op, kind, area, at_, nn⟩ = false from HJ.out]; rfl), show jumpsb ⟨op, kind, area, at_, nn⟩ = false from HJ.out, show onb ⟨op, kind, area, at_, nn⟩ = false from HO.out]
                    rfl
                  have HRUN2 := hid hrun2
                  clear hrun2
                  go_wp2_with fail
                  go_roundw
                  case rel => exact ⟨j + 1, A , by omega, by go_num, HT7.out, HINV.out, HB7.out, HRUN2.out⟩
                  case measure => simp [intOf]; omega
                | true =>
                  have HO := hid hO
                  clear hO
                  go_wp2_with fail
                  refine (lead_at T T l.length A (j + 1) _ kk _ bb _ HT5.out (by omega) (by omega) (by omega) HV5.out (by have := HT5.out.lt; omega) (by omega) (fun s hs => by have := HINV.out _ s hs; omega)).mono ?_
                  rintro e w6 ⟨rfl, ht6, hb6, hf6⟩
                  cases h1 : leadB A (j + 1) bb with
                  | false =>
                    have HB6 := hid (HB5.out.trans hb6)
                    clear ht6 hb6 hf6
                    have hall : allI l = .err 7 j := allI_err hbig (by rw [← HRUN.out, HSTEP.out, stepI_e1 HRR.out HA.out HJB.out HBEH.out (by rw [show onb ⟨op, kind, area, at_, nn⟩ = true from HO.out]; exact h1)])
                    have HALL := hid hall
                    clear hall
                    go_wp2_with fail
                    go_ret3
                    unfold RetAll
                    rw [HALL.out]
                    exact ⟨rfl, by rw [HT.out]; exact HB6.out⟩
                  | true =>
                    have H1 : Hid (okIf (onb ⟨op, kind, area, at_, nn⟩) A (j + 1) (kk, bb) = true) := by show okIf _ _ _ _ = true; rw [show onb ⟨op, kind, area, at_, nn⟩ = true from HO.out]; exact h1
                    clear h1
                    have HG6 := hid (hf6.1 _ _ _ HG5.out (by decide) (.inr HN5.out))
                    have HV6 := hid (HV5.out.frm hf6)
                    have HX6 := hid (hf6.1 _ _ _ HX5.out (by decide) (.inl (by decide)))
                    have HN6 := hid (notin_frm HG5.out.lt HN5.out hf6)
                    have HT6 := hid ht6
                    have HB6 := hid (HB5.out.trans hb6)
                    have b0 := HX6.out.cell 0 _ rfl
                    have b1 := HX6.out.cell 1 _ rfl
                    have b2 := HX6.out.cell 2 _ rfl
                    have b3 := HX6.out.cell 3 _ rfl
                    have b4 := HX6.out.cell 4 _ rfl
                    have g0 := HG6.out.cell 0 _ rfl
                    have g1 := HG6.out.cell 1 _ rfl
                    have hgl := HG6.out.lt
                    have hxl := HX6.out.lt
                    clear hf6 ht6 hb6 HG5 HV5 HT5 HX5 HB5 HN5
                    go_wp2_with fail
                    refine (jumps_calls _ _ _ _ _ _).mono ?_
                    rintro e w7 ⟨rfl, hb7⟩
                    rw [HJ.out]
                    have HG7 := hid (HG6.out.below hb7)
                    have HV7 := hid (HV6.out.below hb7)
                    have HT7 := hid (HT6.out.below hb7)
                    have HX7 := hid (HX6.out.below hb7)
                    have HB7 := hid (bel_far HB6.out (by have := HT6.out.lt; omega) hb7)
                    have HN7 := hid (notin_below HT6.out.lt HN6.out hb7)
                    have b0 := HX7.out.cell 0 _ rfl
                    have b3 := HX7.out.cell 3 _ rfl
                    have b1 := HX7.out.cell 1 _ rfl
                    have b2 := HX7.out.cell 2 _ rfl
                    have b4 := HX7.out.cell 4 _ rfl
                    have g0 := HG7.out.cell 0 _ rfl
                    have g1 := HG7.out.cell 1 _ rfl
                    have hgl := HG7.out.lt
                    have hxl := HX7.out.lt
                    clear hb7 HG6 HV6 HT6 HX6 HB6 HN6
                    have hrun2 : runI l.length (l.drop (j + 1)) (j + 1) (leadA A (j + 1) (kk, bb)) = runI l.length l 0 startA := by
                      rw [← HRUN.out, HSTEP.out, stepI_ok HRR.out HA.out HJB.out HBEH.out H1.out (by rw [show jumpsb ⟨op, kind, area, at_, nn⟩ = false from HJ.out]; rfl), show jumpsb ⟨op, kind, area, at_, nn⟩ = false from HJ.out, show onb ⟨op, kind, area, at_, nn⟩ = true from HO.out]
                      rfl
                    have HRUN2 := hid hrun2
                    clear hrun2
                    go_wp2_with fail
                    go_roundw
                    case rel => exact ⟨j + 1, (leadA A (j + 1) (kk, bb)) , by omega, by go_num, HT7.out, leadA_inv HINV.out _ (kk, bb) hlb, HB7.out, HRUN2.out⟩
                    case measure => simp [intOf]; omega
              · have hne : (er != 0) = true := by simpa using her
                have HER := hid her
                clear her
                have hall : allI l = .err er j := allI_err hbig (by rw [← HRUN.out, HSTEP.out, stepI_eb HRR.out HA.out HJB.out HBEH.out HER.out])
                have HALL := hid hall
                clear hall
                go_wp2_with fail
                go_ret3
                unfold RetAll
                rw [HALL.out]
                exact ⟨rfl, by rw [HT.out]; exact HBc.out⟩
          | true =>
            have HJ := hid hJ
            clear hJ
            by_cases hbad : at_ ≤ (j : Int)
            · have HBAD : Hid (at_ ≤ (j : Int) ∨ (l.length : Int) < at_) := Or.inl hbad
              have hall : allI l = .err 7 j := allI_err hbig (by rw [← HRUN.out, HSTEP.out, stepI_ej HRR.out HA.out ⟨HJ.out, HBAD.out⟩])
              have HALL := hid hall
              clear hall
              go_wp2_with fail
              go_ret3
              unfold RetAll
              rw [HALL.out]
              exact ⟨rfl, by rw [HT.out]; exact HBE3.out⟩
            by_cases hbad2 : (l.length : Int) < at_
            · have HBAD : Hid (at_ ≤ (j : Int) ∨ (l.length : Int) < at_) := Or.inr hbad2
              have hall : allI l = .err 7 j := allI_err hbig (by rw [← HRUN.out, HSTEP.out, stepI_ej HRR.out HA.out ⟨HJ.out, HBAD.out⟩])
              have HALL := hid hall
              clear hall
              go_wp2_with fail
              go_ret3
              unfold RetAll
              rw [HALL.out]
              exact ⟨rfl, by rw [HT.out]; exact HBE3.out⟩
            have HJB : Hid (¬ (jumpsb ⟨op, kind, area, at_, nn⟩ = true ∧ (at_ ≤ j ∨ (l.length : Int) < at_))) := by
              show ¬ _
              intro h
              rcases h.2 with h | h <;> omega
            go_wp2_with fail
            have hlen8 : bs.length ≤ 8 := HINV.out j (k, bs) HA.out
            obtain ⟨va, vc, rfl, -⟩ := HV3.out.form
            obtain ⟨er, kk, bb, hbeh⟩ : ∃ er kk bb, behI k bs ⟨op, kind, area, at_, nn⟩ = (er, kk, bb) := ⟨_, _, _, rfl⟩
            have HBEH := hid hbeh
            have PB : Hid (∀ W', Below w3.heap.size w3 W' → Calls Try.prog 49 #[.agg #[.int .i64 k, .slice va bs.length vc], .agg #[.int .i64 op, .int .i64 kind, .int .i64 area, .int .i64 at_, .int .i64 nn]] W' (RetA er kk bb W')) := hid (fun W' h => by
              have := behind_at op kind area at_ nn k _ bs W' (HV3.out.below h) hlen8
              rw [hbeh] at this
              exact this)
            have q0 := HQ3.out.cell 0 _ rfl
            have q1 := HQ3.out.cell 1 _ rfl
            have hq3 : q < w3.heap.size := HQ3.out.lt
            have hT3 : T < w3.heap.size := HT3.out.lt
            clear hbeh
            go_cut [8, 9] (fun s8 s9 wx => ∃ g v', s8 = .pointer (some ⟨g, 0, none⟩) ∧ s9 = .int .i64 er ∧ Blk wx g #[.int .i64 kk, v'] 105 ∧ BrR wx v' bb ∧ TabAt wx T T l.length A ∧ Blk wx B #[.int .i64 op, .int .i64 kind, .int .i64 area, .int .i64 at_, .int .i64 nn] 48 ∧ Below T w wx ∧ ∀ j, j ≤ l.length → wx.cell? ⟨T, j, none⟩ ≠ some (.pointer (some ⟨g, 0, none⟩)))
            case first =>
              go_region_held3 (fun w' => w'.cell? ⟨T, j, none⟩ = some (.pointer (some ⟨q, 0, none⟩)) ∧ w'.cell? ⟨q, 0, none⟩ = some (.int .i64 k) ∧ w'.cell? ⟨q, 1, none⟩ = some (.slice va bs.length vc) ∧ w'.cell? ⟨B, 0, none⟩ = some (.int .i64 op) ∧ w'.cell? ⟨B, 1, none⟩ = some (.int .i64 kind) ∧ w'.cell? ⟨B, 2, none⟩ = some (.int .i64 area) ∧ w'.cell? ⟨B, 3, none⟩ = some (.int .i64 at_) ∧ w'.cell? ⟨B, 4, none⟩ = some (.int .i64 nn) ∧ Below w3.heap.size w3 w')
                (first | (exact ⟨hc3, q0, q1, b0, b1, b2, b3, b4, (Below.refl _ _).drew⟩) | (exact keep9 (by assumption) (by assumption)) | assumption | (exact keep9 (by assumption) (bel_a1 _ _)) | (exact keep9a (by assumption) (by omega) (by dsimp only; omega) (by dsimp only; omega) (by dsimp only; omega) (by dsimp only; omega) (by dsimp only; omega) (by dsimp only; omega) (by dsimp only; omega) (by dsimp only; omega)) | (exact keep9s (by assumption) _ _ (by omega) (by dsimp only; omega) (by dsimp only; omega) (by dsimp only; omega) (by dsimp only; omega) (by dsimp only; omega) (by dsimp only; omega) (by dsimp only; omega) (by dsimp only; omega)) | go_keep)
                ((go_at_call 49; (refine (PB.out _ (by exact (‹_ ∧ _ ∧ _ ∧ _ ∧ _ ∧ _ ∧ _ ∧ _ ∧ Below w3.heap.size w3 _›).2.2.2.2.2.2.2.2)).mono ?_); rintro e w4 ⟨v', rfl, hbr, hb4⟩; obtain ⟨a', c', rfl, -⟩ := hbr.form; have hz4 : w3.heap.size ≤ w4.heap.size := (by have := hb4.size; simp at this; omega); first | (have qn : Blk w4 w3.heap.size #[.int .i64 0, .slice none 0 0] 105 := Blk.below (by exact Blk.new w3 _ _) hb4; have r0 := qn.cell 0 _ rfl; have r1 := qn.cell 1 _ rfl; have f0 := qn.free 0; have f1 := qn.free 1; have hqn := qn.lt) | skip))
              all_goals
                have hx := (‹_ ∧ _ ∧ _ ∧ _ ∧ _ ∧ _ ∧ _ ∧ _ ∧ Below w3.heap.size w3 _›).2.2.2.2.2.2.2.2
                go_wp2_with fail
                go_meet
                first
                  | exact ⟨_, _, rfl, rfl, Blk.new _ _ _, hbr.alloc _, HT3.out.below hx, HBX3.out.below hx, bel_far HBE3.out (by omega) hx, tab_notin HT3.out hz4 hx⟩
                  | exact ⟨_, _, rfl, rfl, (qn.set 0 _).set 1 _, (hbr.set qn (by decide) _ _).set (qn.set 0 _) (by decide) _ _, HT3.out.below hx, HBX3.out.below hx, bel_far HBE3.out (by omega) hx, tab_notin HT3.out (Nat.le_refl _) hx⟩
            case rest =>
              obtain ⟨g, v', rfl, rfl, hg, hbr, ht, hbx, hbe, hng⟩ := hcut
              obtain ⟨ga, gc, rfl, -⟩ := hbr.form
              have hlb : bb.length ≤ 8 := by have := behI_len k bs ⟨op, kind, area, at_, nn⟩ hlen8; rw [HBEH.out] at this; exact this
              have HGc := hid hg
              have HVc := hid hbr
              have HTc := hid ht
              have HXc := hid hbx
              have HBc := hid hbe
              have HNc := hid hng
              have b0 := hbx.cell 0 _ rfl
              have b1 := hbx.cell 1 _ rfl
              have b2 := hbx.cell 2 _ rfl
              have b3 := hbx.cell 3 _ rfl
              have b4 := hbx.cell 4 _ rfl
              clear hg hbr ht hbx hbe hng HT3 HBX3 HBE3 HQ3 HV3 hc3 q0 q1 hq3 hT3 PB hz3 hbq
              by_cases her : er = 0
              · subst her
                go_wp2_with fail
                refine (on_calls _ _ _ _ _ _).mono ?_
                rintro e w5 ⟨rfl, hb5⟩
                have HG5 := hid (HGc.out.below hb5)
                have HV5 := hid (HVc.out.below hb5)
                have HT5 := hid (HTc.out.below hb5)
                have HX5 := hid (HXc.out.below hb5)
                have HB5 := hid (bel_far HBc.out (by have := HTc.out.lt; omega) hb5)
                have HN5 := hid (notin_below HTc.out.lt HNc.out hb5)
                have b0 := HX5.out.cell 0 _ rfl
                have b3 := HX5.out.cell 3 _ rfl
                have b1 := HX5.out.cell 1 _ rfl
                have b2 := HX5.out.cell 2 _ rfl
                have b4 := HX5.out.cell 4 _ rfl
                have g0 := HG5.out.cell 0 _ rfl
                have g1 := HG5.out.cell 1 _ rfl
                have hgl := HG5.out.lt
                have hxl := HX5.out.lt
                clear hb5 HGc HVc HTc HXc HBc HNc
                cases hO : (op != 25 && op != 28) with
                | false =>
                  have HO := hid hO
                  clear hO
                  go_wp2_with fail
                  refine (jumps_calls _ _ _ _ _ _).mono ?_
                  rintro e w7 ⟨rfl, hb7⟩
                  rw [HJ.out]
                  have HG7 := hid (HG5.out.below hb7)
                  have HV7 := hid (HV5.out.below hb7)
                  have HT7 := hid (HT5.out.below hb7)
                  have HX7 := hid (HX5.out.below hb7)
                  have HB7 := hid (bel_far HB5.out (by have := HT5.out.lt; omega) hb7)
                  have HN7 := hid (notin_below HT5.out.lt HN5.out hb7)
                  have b0 := HX7.out.cell 0 _ rfl
                  have b3 := HX7.out.cell 3 _ rfl
                  have b1 := HX7.out.cell 1 _ rfl
                  have b2 := HX7.out.cell 2 _ rfl
                  have b4 := HX7.out.cell 4 _ rfl
                  have g0 := HG7.out.cell 0 _ rfl
                  have g1 := HG7.out.cell 1 _ rfl
                  have hgl := HG7.out.lt
                  have hxl := HX7.out.lt
                  clear hb7 HG5 HV5 HT5 HX5 HB5 HN5
                  go_wp2_with fail
                  refine (lead_at T T l.length A at_.toNat at_ kk _ bb _ HT7.out (by omega) (by omega) (by omega) HV7.out (by have := HT7.out.lt; omega) (by omega) (fun s hs => by have := (HINV.out) _ s hs; omega)).mono ?_
                  rintro e w8 ⟨rfl, ht8, hb8, hf8⟩
                  have HT8 := hid ht8
                  have HB8 := hid (HB7.out.trans hb8)
                  clear ht8 hb8 hf8
                  cases h2 : leadB A at_.toNat bb with
                  | false =>
                    have hall : allI l = .err 7 j := allI_err hbig (by rw [← HRUN.out, HSTEP.out, stepI_e2 HRR.out HA.out HJB.out HBEH.out (by rw [show onb ⟨op, kind, area, at_, nn⟩ = false from HO.out]; rfl) (by rw [show onb ⟨op, kind, area, at_, nn⟩ = false from HO.out, show jumpsb ⟨op, kind, area, at_, nn⟩ = true from HJ.out]; exact h2)])
                    have HALL := hid hall
                    clear hall
                    go_wp2_with fail
                    go_ret3
                    unfold RetAll
                    rw [HALL.out]
                    exact ⟨rfl, by rw [HT.out]; exact HB8.out⟩
                  | true =>
                    have hrun2 : runI l.length (l.drop (j + 1)) (j + 1) (leadA A at_.toNat (kk, bb)) = runI l.length l 0 startA := by
                      rw [← HRUN.out, HSTEP.out, stepI_ok HRR.out HA.out HJB.out HBEH.out (by rw [show onb ⟨op, kind, area, at_, nn⟩ = false from HO.out]; rfl) (by rw [show onb ⟨op, kind, area, at_, nn⟩ = false from HO.out, show jumpsb ⟨op, kind, area, at_, nn⟩ = true from HJ.out]; exact h2), show jumpsb ⟨op, kind, area, at_, nn⟩ = true from HJ.out, show onb ⟨op, kind, area, at_, nn⟩ = false from HO.out]
                      rfl
                    have HRUN2 := hid hrun2
                    clear hrun2
                    go_wp2_with fail
                    go_roundw
                    case rel => exact ⟨j + 1, (leadA A at_.toNat (kk, bb)), by omega, by go_num, HT8.out, leadA_inv (HINV.out) _ _ hlb, HB8.out, HRUN2.out⟩
                    case measure => simp [intOf]; omega
                | true =>
                  have HO := hid hO
                  clear hO
                  go_wp2_with fail
                  refine (lead_at T T l.length A (j + 1) _ kk _ bb _ HT5.out (by omega) (by omega) (by omega) HV5.out (by have := HT5.out.lt; omega) (by omega) (fun s hs => by have := HINV.out _ s hs; omega)).mono ?_
                  rintro e w6 ⟨rfl, ht6, hb6, hf6⟩
                  cases h1 : leadB A (j + 1) bb with
                  | false =>
                    have HB6 := hid (HB5.out.trans hb6)
                    clear ht6 hb6 hf6
                    have hall : allI l = .err 7 j := allI_err hbig (by rw [← HRUN.out, HSTEP.out, stepI_e1 HRR.out HA.out HJB.out HBEH.out (by rw [show onb ⟨op, kind, area, at_, nn⟩ = true from HO.out]; exact h1)])
                    have HALL := hid hall
                    clear hall
                    go_wp2_with fail
                    go_ret3
                    unfold RetAll
                    rw [HALL.out]
                    exact ⟨rfl, by rw [HT.out]; exact HB6.out⟩
                  | true =>
                    have H1 : Hid (okIf (onb ⟨op, kind, area, at_, nn⟩) A (j + 1) (kk, bb) = true) := by show okIf _ _ _ _ = true; rw [show onb ⟨op, kind, area, at_, nn⟩ = true from HO.out]; exact h1
                    clear h1
                    have HG6 := hid (hf6.1 _ _ _ HG5.out (by decide) (.inr HN5.out))
                    have HV6 := hid (HV5.out.frm hf6)
                    have HX6 := hid (hf6.1 _ _ _ HX5.out (by decide) (.inl (by decide)))
                    have HN6 := hid (notin_frm HG5.out.lt HN5.out hf6)
                    have HT6 := hid ht6
                    have HB6 := hid (HB5.out.trans hb6)
                    have b0 := HX6.out.cell 0 _ rfl
                    have b1 := HX6.out.cell 1 _ rfl
                    have b2 := HX6.out.cell 2 _ rfl
                    have b3 := HX6.out.cell 3 _ rfl
                    have b4 := HX6.out.cell 4 _ rfl
                    have g0 := HG6.out.cell 0 _ rfl
                    have g1 := HG6.out.cell 1 _ rfl
                    have hgl := HG6.out.lt
                    have hxl := HX6.out.lt
                    clear hf6 ht6 hb6 HG5 HV5 HT5 HX5 HB5 HN5
                    go_wp2_with fail
                    refine (jumps_calls _ _ _ _ _ _).mono ?_
                    rintro e w7 ⟨rfl, hb7⟩
                    rw [HJ.out]
                    have HG7 := hid (HG6.out.below hb7)
                    have HV7 := hid (HV6.out.below hb7)
                    have HT7 := hid (HT6.out.below hb7)
                    have HX7 := hid (HX6.out.below hb7)
                    have HB7 := hid (bel_far HB6.out (by have := HT6.out.lt; omega) hb7)
                    have HN7 := hid (notin_below HT6.out.lt HN6.out hb7)
                    have b0 := HX7.out.cell 0 _ rfl
                    have b3 := HX7.out.cell 3 _ rfl
                    have b1 := HX7.out.cell 1 _ rfl
                    have b2 := HX7.out.cell 2 _ rfl
                    have b4 := HX7.out.cell 4 _ rfl
                    have g0 := HG7.out.cell 0 _ rfl
                    have g1 := HG7.out.cell 1 _ rfl
                    have hgl := HG7.out.lt
                    have hxl := HX7.out.lt
                    clear hb7 HG6 HV6 HT6 HX6 HB6 HN6
                    go_wp2_with fail
                    refine (lead_at T T l.length (leadA A (j + 1) (kk, bb)) at_.toNat at_ kk _ bb _ HT7.out (by omega) (by omega) (by omega) HV7.out (by have := HT7.out.lt; omega) (by omega) (fun s hs => by have := (leadA_inv HINV.out _ (kk, bb) hlb) _ s hs; omega)).mono ?_
                    rintro e w8 ⟨rfl, ht8, hb8, hf8⟩
                    have HT8 := hid ht8
                    have HB8 := hid (HB7.out.trans hb8)
                    clear ht8 hb8 hf8
                    cases h2 : leadB (leadA A (j + 1) (kk, bb)) at_.toNat bb with
                    | false =>
                      have hall : allI l = .err 7 j := allI_err hbig (by rw [← HRUN.out, HSTEP.out, stepI_e2 HRR.out HA.out HJB.out HBEH.out H1.out (by rw [show onb ⟨op, kind, area, at_, nn⟩ = true from HO.out, show jumpsb ⟨op, kind, area, at_, nn⟩ = true from HJ.out]; exact h2)])
                      have HALL := hid hall
                      clear hall
                      go_wp2_with fail
                      go_ret3
                      unfold RetAll
                      rw [HALL.out]
                      exact ⟨rfl, by rw [HT.out]; exact HB8.out⟩
                    | true =>
                      have hrun2 : runI l.length (l.drop (j + 1)) (j + 1) (leadA (leadA A (j + 1) (kk, bb)) at_.toNat (kk, bb)) = runI l.length l 0 startA := by
                        rw [← HRUN.out, HSTEP.out, stepI_ok HRR.out HA.out HJB.out HBEH.out H1.out (by rw [show onb ⟨op, kind, area, at_, nn⟩ = true from HO.out, show jumpsb ⟨op, kind, area, at_, nn⟩ = true from HJ.out]; exact h2), show jumpsb ⟨op, kind, area, at_, nn⟩ = true from HJ.out, show onb ⟨op, kind, area, at_, nn⟩ = true from HO.out]
                        rfl
                      have HRUN2 := hid hrun2
                      clear hrun2
                      go_wp2_with fail
                      go_roundw
                      case rel => exact ⟨j + 1, (leadA (leadA A (j + 1) (kk, bb)) at_.toNat (kk, bb)), by omega, by go_num, HT8.out, leadA_inv (leadA_inv HINV.out _ (kk, bb) hlb) _ _ hlb, HB8.out, HRUN2.out⟩
                      case measure => simp [intOf]; omega
              · have hne : (er != 0) = true := by simpa using her
                have HER := hid her
                clear her
                have hall : allI l = .err er j := allI_err hbig (by rw [← HRUN.out, HSTEP.out, stepI_eb HRR.out HA.out HJB.out HBEH.out HER.out])
                have HALL := hid hall
                clear hall
                go_wp2_with fail
                go_ret3
                unfold RetAll
                rw [HALL.out]
                exact ⟨rfl, by rw [HT.out]; exact HBc.out⟩
    · have HA0 := hid (HRUN.out.symm.trans (runI_done (n := l.length) (A := A) (by omega : l.length ≤ j)))
      have H0 := hid ht
      have HB0 := hid hb
      have hTl := ht.lt
      have hcl := ht.cell l.length (Nat.le_refl _)
      have hjl : decide ((j : Int) < (l.length : Int)) = false := by simp; omega
      have hjl2 : decide (j < l.length) = false := by simp; omega
      clear ht hb HR HRUN
      rcases hcl with ⟨hA, hcell⟩ | ⟨k, bs, q, v, hA, hcell, hq, hv, hbq⟩
      · have HALL := hid (allI_none hbig HA0.out hA)
        clear hA
        go_wp2_with fail
        go_ret3
        unfold RetAll
        rw [HALL.out]
        exact ⟨T, rfl, by rw [HT.out]; exact H0.out, by rw [HT.out]; exact HB0.out⟩
      · obtain ⟨va, vc, rfl, -⟩ := hv.form
        have q1 := hq.cell 1 _ rfl
        have hql := hq.lt
        by_cases hbs : 0 < bs.length
        · have HALL := hid (allI_some hbig HA0.out hA hbs)
          clear hA hq hv
          go_wp2_with fail
          go_ret3
          unfold RetAll
          rw [HALL.out]
          exact ⟨rfl, by rw [HT.out]; exact HB0.out⟩
        · have HALL := hid (allI_some' hbig HA0.out hA hbs)
          have hz : bs.length = 0 := by omega
          rw [hz] at q1
          clear hA hq hv hz hbs
          go_wp2_with fail
          go_ret3
          unfold RetAll
          rw [HALL.out]
          exact ⟨T, rfl, by rw [HT.out]; exact H0.out, by rw [HT.out]; exact HB0.out⟩

theorem all_err {a : Option Addr} {l : List Ins} {cap : Nat} {w : World} {er p : Int} (hr : RdIns w a l) (hc : l.length ≤ cap) (hm : cap ≤ 9223372036854775807) (hA : allI l = .err er p) :
    Calls Try.prog 31 #[.slice a l.length cap] w fun e w' => e = .returned (.tuple #[.slice none 0 0, .int .i64 er, .int .i64 p]) ∧ Below w.heap.size w w' :=
  (all_calls a l cap w hr hc hm).mono fun e w' h => by unfold RetAll at h; rw [hA] at h; exact h
theorem all_tab {a : Option Addr} {l : List Ins} {cap : Nat} {w : World} {A : Nat → Option St} (hr : RdIns w a l) (hc : l.length ≤ cap) (hm : cap ≤ 9223372036854775807) (hA : allI l = .tab A) :
    Calls Try.prog 31 #[.slice a l.length cap] w fun e w' => ∃ T, e = .returned (.tuple #[.slice (some ⟨T, 0, none⟩) (l.length + 1) (l.length + 1), .int .i64 0, .int .i64 0]) ∧ TabAt w' w.heap.size T l.length A ∧ Below w.heap.size w w' :=
  (all_calls a l cap w hr hc hm).mono fun e w' h => by unfold RetAll at h; rw [hA] at h; exact h
end Go.Proofs.Ytjnohalffffiaaa
