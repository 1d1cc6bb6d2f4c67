/- The meter's plain tellers and its window. -/
import Derived.Test.YtaombjljahpncaaMb
set_option linter.unusedVariables false
set_option linter.unusedSimpArgs false
namespace Go.Proofs.Ytaombjljahpncaa
open Go.RowKit

theorem wrap_quo {q p : Int} (h : 0 ≤ q) (h' : q ≤ 1000000000000000) (hp : 1 ≤ p) : wrap64 (q.tdiv p) = q / p := by
  rw [Int.tdiv_eq_ediv_of_nonneg h]
  have h1 : 0 ≤ q / p := Int.ediv_nonneg h (by omega)
  have h2 : q / p ≤ q := Int.ediv_le_self _ h
  exact wrap_id (by omega) (by omega)

def RetI (r : Int) (w : World) (e : Ending) (w' : World) : Prop := e = .returned (.int .i64 r) ∧ Below w.heap.size w w'

set_option maxHeartbeats 400000 in
theorem Count_calls (b : Nat) (f : Nat → Int) (w : World) (h : MAt w b f) :
    Calls Try.prog 18 #[.pointer (some ⟨b, 0, none⟩)] w fun e w' => e = .returned (.int .i64 (f 66)) ∧ w' = w := by
  have c66 := h.cell 66 (by omega)
  clear h
  go_enter Try.func18, Try.ntmps18
  go_wp2_with fail
  go_ret
  exact ⟨rfl, rfl⟩
set_option maxHeartbeats 400000 in
theorem Late_calls (b : Nat) (f : Nat → Int) (w : World) (h : MAt w b f) :
    Calls Try.prog 17 #[.pointer (some ⟨b, 0, none⟩)] w fun e w' => e = .returned (.int .i64 (f 70)) ∧ w' = w := by
  have c70 := h.cell 70 (by omega)
  clear h
  go_enter Try.func17, Try.ntmps17
  go_wp2_with fail
  go_ret
  exact ⟨rfl, rfl⟩
set_option maxHeartbeats 400000 in
theorem Range_calls (b : Nat) (f : Nat → Int) (w : World) (h : MAt w b f) :
    Calls Try.prog 12 #[.pointer (some ⟨b, 0, none⟩)] w fun e w' => e = .returned (.tuple #[.int .i64 (f 68), .int .i64 (f 69)]) ∧ Below w.heap.size w w' := by
  have c68 := h.cell 68 (by omega)
  have c69 := h.cell 69 (by omega)
  clear h
  go_enter Try.func12, Try.ntmps12
  go_wp2_with fail
  go_quiet (fail)
  go_wp2_with fail
  go_ret2
  exact ⟨rfl, bel_drewN (Below.refl _ _) _⟩
set_option maxHeartbeats 400000 in
theorem Mean_calls (b : Nat) (f : Nat → Int) (w : World) (h : MAt w b f) (h66 : 0 ≤ f 66) (h67 : 0 ≤ f 67) (h67' : f 67 ≤ 1000000000000000) :
    Calls Try.prog 13 #[.pointer (some ⟨b, 0, none⟩)] w (RetI (if f 66 = 0 then 0 else f 67 / f 66) w) := by
  have HM := hid h
  have c66 := h.cell 66 (by omega)
  have c67 := h.cell 67 (by omega)
  clear h
  by_cases h0 : f 66 = 0
  · have HI : Hid ((if f 66 = 0 then 0 else f 67 / f 66) = 0) := if_pos h0
    have e0 : (f 66 == 0) = true := beq_iff_eq.2 h0
    rw [HI.out]
    clear h0
    go_enter Try.func13, Try.ntmps13
    go_wp2_with fail
    refine (Count_calls _ _ _ HM.out).mono ?_
    rintro e w' ⟨rfl, rfl⟩
    go_wp2_with fail
    go_ret
    exact ⟨rfl, Below.refl _ _⟩
  · have HI : Hid ((if f 66 = 0 then 0 else f 67 / f 66) = f 67 / f 66) := if_neg h0
    have e0 : (f 66 == 0) = false := beq_eq_false_iff_ne.2 h0
    have h1 : 1 ≤ f 66 := by omega
    rw [HI.out]
    clear h0
    go_enter Try.func13, Try.ntmps13
    go_wp2_with fail
    refine (Count_calls _ _ _ HM.out).mono ?_
    rintro e w' ⟨rfl, rfl⟩
    go_wp2_with fail
    generalize f 66 = p at *
    generalize f 67 = q at *
    go_quiet (fail)
    go_wp2_with fail
    go_ret
    exact ⟨rfl, bel_drewN (Below.refl _ _) _⟩

/-- The window's numbers. -/
def win (f : Nat → Int) (i : Nat) : List Int := (List.range i).map fun j => f (1 + ((f 65).toNat + 64 - (f 71).toNat + j) % 64)
theorem win_len (f : Nat → Int) (i : Nat) : (win f i).length = i := by simp [win]
theorem win_succ (f : Nat → Int) (i : Nat) : win f (i + 1) = win f i ++ [f (1 + ((f 65).toNat + 64 - (f 71).toNat + i) % 64)] := by
  simp [win, List.range_succ]

def RetO (xs : List Int) (w : World) (e : Ending) (w' : World) : Prop := ∃ v, e = .returned v ∧ OwnI w' w.heap.size v xs ∧ Below w.heap.size w w'

set_option maxHeartbeats 2000000 in
theorem Window_calls (b : Nat) (f : Nat → Int) (w : World) (h : MAt w b f) (h65 : 0 ≤ f 65 ∧ f 65 ≤ 63) (h71 : 0 ≤ f 71 ∧ f 71 ≤ 64) :
    Calls Try.prog 16 #[.pointer (some ⟨b, 0, none⟩)] w (RetO (win f (f 71).toNat) w) := by
  obtain ⟨i0, hi, hz0, hz1, hz2⟩ := info_parts infoInt
  obtain ⟨nx, hnx⟩ : ∃ n : Nat, f 65 = n := ⟨(f 65).toNat, by omega⟩
  obtain ⟨hd, hhd⟩ : ∃ n : Nat, f 71 = n := ⟨(f 71).toNat, by omega⟩
  have hw : ∀ i, win f (i + 1) = win f i ++ [f (1 + (nx + 64 - hd + i) % 64)] := fun i => by rw [win_succ, hnx, hhd]; rfl
  have HW := hid hw
  have c71 := h.cell 71 (by omega)
  rw [hhd] at c71
  rw [show (f 71).toNat = hd from by omega]
  have hn1 : nx ≤ 63 := by omega
  have hd1 : hd ≤ 64 := by omega
  have HM := hid h
  have HNX := hid hnx
  have HHD := hid hhd
  clear h h65 h71 hnx hhd hw
  go_enter Try.func16, Try.ntmps16
  go_wp2_with (at_make; refine wpList_make_own _ rfl _ _ 22 rfl w.heap.size 3 i0 (.int .i64 0) 1 Try.underlying22 hi hz0 hz1 _ _ _ hd rfl rfl rfl ?b1 ?b2 (Nat.le_refl _) ?_)
  case b1 => rw [hz2]; omega
  case b2 => unfold maxLen; omega
  intro w1 ho hg
  have hbel : Below w.heap.size w w1 := (Below.refl _ _).grown hg (Nat.le_refl _) (fun k hk => by cases hk)
  have HO : Hid (OwnI w1 w.heap.size (.slice (some ⟨w.heap.size, 0, none⟩) 0 hd) []) := ho
  have hm1 := HM.out.below hbel
  have c71' := hm1.cell 71 (by omega)
  rw [HHD.out] at c71'
  have HM1 := hid hm1
  have HBEL := hid hbel
  clear ho hg hbel hm1 c71
  go_wp2_with fail
  go_loopw [3, 16] (fun v i wr => ∃ j : Nat, j ≤ hd ∧ i = .int .i64 j ∧ OwnI wr w.heap.size v (win f j) ∧ Below w.heap.size w wr) (fun _ i _ => hd - (intOf i).toNat)
  case atStart => exact ⟨0, Nat.zero_le _, rfl, HO.out, HBEL.out⟩
  case round =>
    obtain ⟨j, hj, rfl, ho, hbl⟩ := hrel
    have HO2 := hid ho
    have HBL := hid hbl
    have hm2 := HM.out.below hbl
    have HM2 := hid hm2
    clear ho hbl hm2
    by_cases hlt : j < hd
    · have c65 := HM2.out.cell 65 (by omega)
      have c71 := HM2.out.cell 71 (by omega)
      rw [HNX.out] at c65
      rw [HHD.out] at c71
      obtain ⟨q, hq⟩ : ∃ q, q = (nx + 64 - hd + j) % 64 := ⟨_, rfl⟩
      have cq := HM2.out.cell (1 + q) (by omega)
      have HQ := hid (show win f (j + 1) = win f j ++ [f (1 + q)] by rw [HW.out, hq])
      have e1 : IntKind.i64.wrap ((nx : Int) - (hd : Int)) = (nx : Int) - (hd : Int) := by rw [IntKind.wrap_i64]; omega
      have e2 : IntKind.i64.wrap ((nx : Int) - (hd : Int) + (j : Int)) = (nx : Int) - (hd : Int) + (j : Int) := by rw [IntKind.wrap_i64]; omega
      have e3 : IntKind.i64.wrap ((nx : Int) - (hd : Int) + (j : Int) + 64) = (nx : Int) - (hd : Int) + (j : Int) + 64 := by rw [IntKind.wrap_i64]; omega
      have e4 : ((nx : Int) - (hd : Int) + (j : Int) + 64).tmod 64 = (q : Int) := by rw [Int.tmod_eq_emod_of_nonneg (by omega)]; omega
      have e5 : IntKind.i64.wrap (q : Int) = (q : Int) := by rw [IntKind.wrap_i64]; omega
      have q0 : (0 : Int) ≤ (q : Int) := Int.natCast_nonneg _
      have q1 : (q : Int) < 64 := by omega
      have hsz := HBL.out.size
      have hlen : (win f j).length + 1 ≤ 17592186044416 := by rw [win_len]; omega
      have hne : some b ≠ u3.ownBlock := by
        intro e
        have h1 := (HO2.out.lt b e.symm).1
        have h2 := HM.out.lt
        omega
      clear hq
      go_wp2_with fail
      go_region_held3 (fun w' => w'.cell? ⟨b, 65, none⟩ = some (.int .i64 (nx : Int)) ∧ w'.cell? ⟨b, 71, none⟩ = some (.int .i64 (hd : Int)) ∧ w'.cell? ⟨b, 1 + q, none⟩ = some (.int .i64 (f (1 + q))))
        (first | go_keep | (exact ⟨by have := hmk.cell 65 (by omega); rw [HNX.out] at this; exact this, by have := hmk.cell 71 (by omega); rw [HHD.out] at this; exact this, hmk.cell (1 + q) (by omega)⟩))
        (first | ((refine step_app1 (by rfl) _ _ (by rfl) w.heap.size u3 (win f j) (f (1 + q)) wr.heap.size (wr.heap.size + 1) (by rfl) (by exact (HO2.out.alloc (.cells #[.int .i64 (f (1 + q))] 3))) (by rfl) (by exact (Blk.new wr #[.int .i64 (f (1 + q))] 3)) (by simp) hlen (by omega) ?_; intro g cap w2 ho2 hg2 hd2 hl2; have hmk : MAt w2 b f := MAt.grown (MAt.drew (Blk.alloc HM2.out _)) hg2 hne)))
      have hbl2 : Below w.heap.size w w2 := ((HBL.out.alloc hsz _).drew).grown hg2 (by simp; omega) (fun k hk => (HO2.out.lt k hk).1)
      have HO3 := hid ho2
      have HBL3 := hid hbl2
      clear ho2 hg2 hd2 hl2 hbl2 hmk e1 e2 e3 e4 e5
      go_wp2_with fail
      refine ⟨⟨j + 1, by omega, by go_num, ?_, HBL3.out⟩, by simp [intOf]; omega⟩
      rw [HQ.out]
      have := HO3.out
      simpa using this
    · obtain rfl : j = hd := by omega
      go_wp2_with fail
      go_ret
      exact ⟨_, rfl, HO2.out, HBL.out⟩

end Go.Proofs.Ytaombjljahpncaa
