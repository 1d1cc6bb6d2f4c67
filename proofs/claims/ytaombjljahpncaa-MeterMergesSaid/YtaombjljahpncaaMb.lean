/- The meter: its block, and what New, keep, Add and the plain tellers do to it. -/
import Derived.Test.YtaombjljahpncaaOw
set_option linter.unusedVariables false
set_option linter.unusedSimpArgs false
namespace Go.Proofs.Ytaombjljahpncaa
open Go.RowKit

def cells72 (f : Nat → Int) : Array Value := Array.ofFn fun i : Fin 72 => Value.int .i64 (f i)
/-- Block b is a meter whose 72 numbers are f. -/
def MAt (w : World) (b : Nat) (f : Nat → Int) : Prop := Blk w b (cells72 f) 44
def upd (f : Nat → Int) (i : Nat) (v : Int) (j : Nat) : Int := if j = i then v else f j
theorem upd_at (f : Nat → Int) (i : Nat) (v : Int) : upd f i v i = v := by simp [upd]
theorem upd_ne (f : Nat → Int) (i : Nat) (v : Int) (j : Nat) (h : j ≠ i) : upd f i v j = f j := by simp [upd, h]

theorem cells72_get (f : Nat → Int) (j : Nat) : (cells72 f)[j]? = if j < 72 then some (.int .i64 (f j)) else none := by
  unfold cells72
  rw [Array.getElem?_ofFn]
  split <;> rfl
theorem cells72_set (f : Nat → Int) (i : Nat) (v : Int) : (cells72 f).setIfInBounds i (.int .i64 v) = cells72 (upd f i v) := by
  apply Array.ext_getElem?
  intro j
  rw [Array.getElem?_setIfInBounds, cells72_get, cells72_get]
  have hs : (cells72 f).size = 72 := by simp [cells72]
  rw [hs]
  unfold upd
  by_cases h : i = j
  · subst h; simp
  · simp [h, Ne.symm h]
section
variable {w w' : World} {b : Nat} {f : Nat → Int}
theorem MAt.cell (h : MAt w b f) (i : Nat) (hi : i < 72) : w.cell? ⟨b, i, none⟩ = some (.int .i64 (f i)) := by
  refine Blk.cell h i _ ?_
  unfold cells72
  rw [Array.getElem?_eq_getElem (by simpa using hi)]
  simp
theorem MAt.free (h : MAt w b f) (i : Nat) : w.frozen? ⟨b, i, none⟩ = false := Blk.free h i
theorem MAt.set (h : MAt w b f) (i : Nat) (v : Int) : MAt (w.setCell ⟨b, i, none⟩ (.int .i64 v)) b (upd f i v) := by
  have := Blk.set h i (.int .i64 v)
  rw [cells72_set] at this
  exact this
theorem MAt.below (h : MAt w b f) (hb : Below w.heap.size w w') : MAt w' b f := Blk.below h hb
theorem MAt.drewN (h : MAt w b f) (n : Nat) : MAt (w.drewN n) b f := h
theorem MAt.lt (h : MAt w b f) : b < w.heap.size := Blk.lt h
theorem MAt.grown {r : Option Nat} (h : MAt w b f) (hg : w.grownBy w' r) (hne : some b ≠ r) : MAt w' b f := by
  unfold MAt Blk at *
  rw [hg.block b (lt_of_block h) hne]
  exact h
end

def brg (x : Int) : Int := min (max x 0) 1048576
theorem brg_bd (x : Int) : 0 ≤ brg x ∧ brg x ≤ 1048576 := by unfold brg; omega

set_option maxHeartbeats 400000 in
theorem bring_calls (x : Int) (w : World) :
    Calls Try.prog 21 #[.int .i64 x] w fun e w' => e = .returned (.int .i64 (brg x)) ∧ w' = w := by
  go_enter Try.func21, Try.ntmps21
  go_wp2
  all_goals
    go_ret
    exact ⟨ret_int (by unfold brg; omega), rfl⟩
set_option maxHeartbeats 400000 in
theorem Bring_calls (x : Int) (w : World) :
    Calls Try.prog 8 #[.int .i64 x] w fun e w' => e = .returned (.int .i64 (brg x)) ∧ w' = w := by
  go_enter Try.func8, Try.ntmps8
  go_wp2
  all_goals
    go_ret
    exact ⟨ret_int (by unfold brg; omega), rfl⟩

/-- A meter that was told of nothing. -/
def fresh (L : Int) (i : Nat) : Int := if i = 0 then L else 0
theorem cells_fresh (L : Int) : cells72 (fresh L) = Try.zeroCells44.setIfInBounds 0 (.int .i64 L) := by kernel_rfl

set_option maxHeartbeats 400000 in
theorem New_calls (x : Int) (w : World) :
    Calls Try.prog 7 #[.int .i64 x] w fun e w' => e = .returned (.pointer (some ⟨w.heap.size, 0, none⟩)) ∧ w' = w.alloc (.cells (cells72 (fresh (brg x))) 44) := by
  have HC := hid (cells_fresh (brg x))
  go_enter Try.func7, Try.ntmps7
  go_wp2_with fail
  refine (bring_calls _ _).mono ?_
  rintro e w' ⟨rfl, rfl⟩
  go_wp2_with fail
  go_ret
  exact ⟨rfl, by rw [HC.out]⟩

/-- What keep makes of the numbers. -/
def keepf (f : Nat → Int) (x : Int) : Nat → Int := upd (upd (upd f (1 + (f 65).toNat) x) 65 ((f 65 + 1) % 64)) 71 (min (f 71 + 1) 64)

theorem grown_set {w : World} {p : Addr} (v : Value) : w.grownBy (w.setCell p v) (some p.block) :=
  ⟨rfl, rfl, rfl, by simp [World.setCell], fun k _ hne => Below.heap_setCell w p v k (fun e => hne (by rw [e]))⟩
theorem grown_refl (w : World) (r : Option Nat) : w.grownBy w r := ⟨rfl, rfl, rfl, Nat.le_refl _, fun _ _ _ => rfl⟩
theorem grown_trans {a b c : World} {r : Option Nat} (h : a.grownBy b r) (k : b.grownBy c r) : a.grownBy c r :=
  ⟨k.os.trans h.os, k.tape.trans h.tape, k.output.trans h.output, Nat.le_trans h.size k.size, fun i hi hne => (k.block i (Nat.lt_of_lt_of_le hi h.size) hne).trans (h.block i hi hne)⟩
theorem grown_drewN {a b : World} {r : Option Nat} (h : a.grownBy b r) (n : Nat) : a.grownBy (b.drewN n) r := ⟨h.os, h.tape, h.output, h.size, h.block⟩
theorem grown_drew {a b : World} {r : Option Nat} (h : a.grownBy b r) : a.grownBy b.drew r := ⟨h.os, h.tape, h.output, h.size, h.block⟩
theorem MAt.drew {w : World} {b : Nat} {f : Nat → Int} (h : MAt w b f) : MAt w.drew b f := h

/-- A call that turns the meter's numbers, and nothing else that was there. -/
def Turns (b : Nat) (g : Nat → Int) (w : World) (e : Ending) (w' : World) : Prop := e = .returned (.tuple #[]) ∧ MAt w' b g ∧ w.grownBy w' (some b)

set_option maxHeartbeats 1000000 in
theorem keep_calls (b : Nat) (f : Nat → Int) (x : Int) (w : World) (h : MAt w b f) (h65 : 0 ≤ f 65) (h65' : f 65 ≤ 63) (h71 : 0 ≤ f 71) (h71' : f 71 ≤ 64) :
    Calls Try.prog 27 #[.pointer (some ⟨b, 0, none⟩), .int .i64 x] w (Turns b (keepf f x) w) := by
  obtain ⟨n, hn⟩ : ∃ n : Nat, f 65 = n := ⟨(f 65).toNat, by omega⟩
  have hk : keepf f x = upd (upd (upd f (1 + n) x) 65 (((n : Int) + 1) % 64)) 71 (min (f 71 + 1) 64) := by
    unfold keepf
    rw [hn]
    simp
  have HK := hid hk
  have HM := hid h
  have c65 := h.cell 65 (by omega)
  have c71 := h.cell 71 (by omega)
  have cn := h.cell (1 + n) (by omega)
  have f1 := h.free (1 + n)
  have f2 := h.free 65
  have f3 := h.free 71
  rw [hn] at c65
  have hn64 : n ≤ 63 := by omega
  clear h hk hn h65 h65'
  generalize f 71 = y at *
  go_enter Try.func27, Try.ntmps27
  go_wp2_with fail
  go_region
  go_wp2_with fail
  · go_end0
    refine ⟨rfl, ?_, grown_drew (grown_trans (grown_trans (grown_set _) (grown_set _)) (grown_set _))⟩
    rw [HK.out, show min (y + 1) 64 = 64 from by omega]
    exact MAt.drew (((HM.out.set _ _).set _ _).set _ _)
  · go_end0
    refine ⟨rfl, ?_, grown_drew (grown_trans (grown_trans (grown_set _) (grown_set _)) (grown_set _))⟩
    rw [HK.out, show min (y + 1) 64 = y + 1 from by omega]
    exact MAt.drew (((HM.out.set _ _).set _ _).set _ _)

/-- What Add makes of the numbers, before keep. -/
def add0 (f : Nat → Int) (x : Int) : Nat → Int := if f 66 = 0 then upd (upd f 68 x) 69 x else f
def add1 (f : Nat → Int) (x : Int) : Nat → Int := upd (upd (add0 f x) 68 (min (add0 f x 68) x)) 69 (max (add0 f x 69) x)
def add2 (f : Nat → Int) (x : Int) : Nat → Int := upd (upd (add1 f x) 66 (f 66 + 1)) 67 (f 67 + x)
def add3 (f : Nat → Int) (x : Int) : Nat → Int := if f 0 < x then upd (add2 f x) 70 (f 70 + 1) else add2 f x
def addf (f : Nat → Int) (x : Int) : Nat → Int := keepf (add3 f (brg x)) (brg x)

/-- Bounds under which nothing goes round. -/
structure Fine (f : Nat → Int) : Prop where
  h65 : 0 ≤ f 65 ∧ f 65 ≤ 63
  h71 : 0 ≤ f 71 ∧ f 71 ≤ 64
  h66 : 0 ≤ f 66 ∧ f 66 ≤ 1000000
  h67 : 0 ≤ f 67 ∧ f 67 ≤ 1000000000000000
  h70 : 0 ≤ f 70 ∧ f 70 ≤ 1000000

theorem mat_late {w : World} {b : Nat} {f : Nat → Int} {z : Int} (h : MAt w b (add0 f z)) (p q : Int) (hp : p = min (add0 f z 68) z) (hq : q = max (add0 f z 69) z) (hl : f 0 < z) :
    MAt (((((w.setCell ⟨b, 68, none⟩ (.int .i64 p)).setCell ⟨b, 69, none⟩ (.int .i64 q)).setCell ⟨b, 66, none⟩ (.int .i64 (f 66 + 1))).setCell ⟨b, 67, none⟩ (.int .i64 (f 67 + z))).setCell ⟨b, 70, none⟩ (.int .i64 (f 70 + 1))).drew b (add3 f z) := by
  unfold add3
  rw [if_pos hl]
  unfold add2 add1
  rw [← hp, ← hq]
  exact MAt.drew (((((h.set 68 p).set 69 q).set 66 _).set 67 _).set 70 _)
theorem mat_soon {w : World} {b : Nat} {f : Nat → Int} {z : Int} (h : MAt w b (add0 f z)) (p q : Int) (hp : p = min (add0 f z 68) z) (hq : q = max (add0 f z 69) z) (hl : ¬ f 0 < z) :
    MAt ((((w.setCell ⟨b, 68, none⟩ (.int .i64 p)).setCell ⟨b, 69, none⟩ (.int .i64 q)).setCell ⟨b, 66, none⟩ (.int .i64 (f 66 + 1))).setCell ⟨b, 67, none⟩ (.int .i64 (f 67 + z))).drew b (add3 f z) := by
  unfold add3
  rw [if_neg hl]
  unfold add2 add1
  rw [← hp, ← hq]
  exact MAt.drew ((((h.set 68 p).set 69 q).set 66 _).set 67 _)
theorem add3_same (f : Nat → Int) (z : Int) (i : Nat) (h : i ≠ 68 ∧ i ≠ 69 ∧ i ≠ 66 ∧ i ≠ 67 ∧ i ≠ 70) : add3 f z i = f i := by
  obtain ⟨h1, h2, h3, h4, h5⟩ := h
  have h0 : add0 f z i = f i := by
    unfold add0
    split
    · rw [upd_ne _ _ _ _ h2, upd_ne _ _ _ _ h1]
    · rfl
  unfold add3 add2 add1
  split
  · rw [upd_ne _ _ _ _ h5, upd_ne _ _ _ _ h4, upd_ne _ _ _ _ h3, upd_ne _ _ _ _ h2, upd_ne _ _ _ _ h1, h0]
  · rw [upd_ne _ _ _ _ h4, upd_ne _ _ _ _ h3, upd_ne _ _ _ _ h2, upd_ne _ _ _ _ h1, h0]

set_option maxHeartbeats 2000000 in
theorem Add_calls (b : Nat) (f : Nat → Int) (x : Int) (w : World) (h : MAt w b f) (hf : Fine f) :
    Calls Try.prog 10 #[.pointer (some ⟨b, 0, none⟩), .int .i64 x] w (Turns b (addf f x) w) := by
  obtain ⟨⟨a1, a2⟩, ⟨a3, a4⟩, ⟨a5, a6⟩, ⟨a7, a8⟩, ⟨a9, a10⟩⟩ := hf
  have HM := hid h
  have HA := hid (And.intro (And.intro a1 a2) (And.intro a3 a4))
  clear h
  obtain ⟨z, hz⟩ : ∃ z, z = brg x := ⟨_, rfl⟩
  have hzb := brg_bd x
  rw [← hz] at hzb
  obtain ⟨z1, z2⟩ := hzb
  have HZ := hid hz
  have hap : addf f x = keepf (add3 f z) z := by unfold addf; rw [hz]
  rw [hap]
  clear hz hap a1 a2 a3 a4
  by_cases h0 : f 66 = 0
  · have e0 : (f 66 == 0) = true := beq_iff_eq.2 h0
    have he : add0 f z = upd (upd f 68 z) 69 z := by unfold add0; rw [if_pos h0]
    have HE : Hid (MAt ((w.setCell ⟨b, 68, none⟩ (.int .i64 z)).setCell ⟨b, 69, none⟩ (.int .i64 z)) b (add0 f z)) := by show MAt _ b (add0 f z); rw [he]; exact (HM.out.set 68 z).set 69 z
    have HV : Hid (add0 f z 68 = z ∧ add0 f z 69 = z) := by show _ ∧ _; rw [he]; exact ⟨rfl, rfl⟩
    clear h0 he
    have c0 := HM.out.cell 0 (by omega)
    have c66 := HM.out.cell 66 (by omega)
    have c67 := HM.out.cell 67 (by omega)
    have c68 := HM.out.cell 68 (by omega)
    have c69 := HM.out.cell 69 (by omega)
    have c70 := HM.out.cell 70 (by omega)
    have f66 := HM.out.free 66
    have f67 := HM.out.free 67
    have f68 := HM.out.free 68
    have f69 := HM.out.free 69
    have f70 := HM.out.free 70
    go_enter Try.func10, Try.ntmps10
    go_wp2_with fail
    refine (bring_calls _ _).mono ?_
    rintro e w' ⟨rfl, rfl⟩
    rw [← HZ.out]
    go_wp2_with fail
    go_region
    go_wp2_with fail
    all_goals
      refine (keep_calls b (add3 f z) z _ ?_ ?_ ?_ ?_ ?_).mono ?_
      · first
        | with_reducible exact mat_late HE.out _ _ (by rw [HV.out.1]; omega) (by rw [HV.out.2]; omega) (by omega)
        | with_reducible exact mat_soon HE.out _ _ (by rw [HV.out.1]; omega) (by rw [HV.out.2]; omega) (by omega)
      · rw [add3_same f z 65 (by decide)]; exact HA.out.1.1
      · rw [add3_same f z 65 (by decide)]; exact HA.out.1.2
      · rw [add3_same f z 71 (by decide)]; exact HA.out.2.1
      · rw [add3_same f z 71 (by decide)]; exact HA.out.2.2
      rintro e w2 ⟨rfl, hm2, hg2⟩
      have HM2 := hid hm2
      have HG2 := hid hg2
      clear hm2 hg2
      go_wp2_with fail
      go_end0
      refine ⟨rfl, HM2.out, grown_trans (grown_drew ?_) HG2.out⟩
      repeat (first | (with_reducible exact grown_refl _ _) | (with_reducible refine grown_trans ?_ (grown_set _)))
  · have e0 : (f 66 == 0) = false := beq_eq_false_iff_ne.2 h0
    have he : add0 f z = f := by unfold add0; rw [if_neg h0]
    have HE : Hid (MAt w b (add0 f z)) := by show MAt w b (add0 f z); rw [he]; exact HM.out
    have HV : Hid (add0 f z 68 = f 68 ∧ add0 f z 69 = f 69) := by show _ ∧ _; rw [he]; exact ⟨rfl, rfl⟩
    clear h0 he
    have c0 := HM.out.cell 0 (by omega)
    have c66 := HM.out.cell 66 (by omega)
    have c67 := HM.out.cell 67 (by omega)
    have c68 := HM.out.cell 68 (by omega)
    have c69 := HM.out.cell 69 (by omega)
    have c70 := HM.out.cell 70 (by omega)
    have f66 := HM.out.free 66
    have f67 := HM.out.free 67
    have f68 := HM.out.free 68
    have f69 := HM.out.free 69
    have f70 := HM.out.free 70
    go_enter Try.func10, Try.ntmps10
    go_wp2_with fail
    refine (bring_calls _ _).mono ?_
    rintro e w' ⟨rfl, rfl⟩
    rw [← HZ.out]
    go_wp2_with fail
    go_region
    go_wp2_with fail
    all_goals
      refine (keep_calls b (add3 f z) z _ ?_ ?_ ?_ ?_ ?_).mono ?_
      · first
        | with_reducible exact mat_late HE.out _ _ (by rw [HV.out.1]; omega) (by rw [HV.out.2]; omega) (by omega)
        | with_reducible exact mat_soon HE.out _ _ (by rw [HV.out.1]; omega) (by rw [HV.out.2]; omega) (by omega)
      · rw [add3_same f z 65 (by decide)]; exact HA.out.1.1
      · rw [add3_same f z 65 (by decide)]; exact HA.out.1.2
      · rw [add3_same f z 71 (by decide)]; exact HA.out.2.1
      · rw [add3_same f z 71 (by decide)]; exact HA.out.2.2
      rintro e w2 ⟨rfl, hm2, hg2⟩
      have HM2 := hid hm2
      have HG2 := hid hg2
      clear hm2 hg2
      go_wp2_with fail
      go_end0
      refine ⟨rfl, HM2.out, grown_trans (grown_drew ?_) HG2.out⟩
      repeat (first | (with_reducible exact grown_refl _ _) | (with_reducible refine grown_trans ?_ (grown_set _)))

end Go.Proofs.Ytaombjljahpncaa
