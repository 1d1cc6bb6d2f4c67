/- The meter's beat, and what is above a share. -/
import Derived.Test.YtaombjljahpncaaMc
import Derived.Test.YtaombjljahpncaaSh
set_option linter.unusedVariables false
set_option linter.unusedSimpArgs false
namespace Go.Proofs.Ytaombjljahpncaa
open Go.RowKit

def Rge (xs : List Int) : Prop := ∀ i, i < xs.length → 0 ≤ xs.getD i 0 ∧ xs.getD i 0 ≤ 1048576
/-- The sum of the first i. -/
def sumT (xs : List Int) : Nat → Int
  | 0 => 0
  | i + 1 => sumT xs i + xs.getD i 0
theorem sumT_bd {xs : List Int} (h : Rge xs) (i : Nat) (hi : i ≤ xs.length) : 0 ≤ sumT xs i ∧ sumT xs i ≤ i * 1048576 := by
  induction i with
  | zero => simp [sumT]
  | succ i ih =>
    have h1 := ih (by omega)
    have h2 := h i (by omega)
    simp only [sumT]
    omega
def mean (xs : List Int) : Int := if xs.length = 0 then 0 else sumT xs xs.length / xs.length
/-- The first j less m. -/
def mix (xs : List Int) (m : Int) (j : Nat) : List Int := (List.range xs.length).map fun i => if i < j then xs.getD i 0 - m else xs.getD i 0
theorem mix_len (xs : List Int) (m : Int) (j : Nat) : (mix xs m j).length = xs.length := by simp [mix]
theorem mix_at (xs : List Int) (m : Int) (j i : Nat) (hi : i < xs.length) : (mix xs m j)[i]? = some (if i < j then xs.getD i 0 - m else xs.getD i 0) := by
  unfold mix
  rw [List.getElem?_map, List.getElem?_range hi]
  rfl
theorem mix_zero (xs : List Int) (m : Int) : mix xs m 0 = xs := by
  apply List.ext_getElem?
  intro i
  by_cases hi : i < xs.length
  · rw [mix_at xs m 0 i hi]; simp [List.getElem?_eq_getElem hi, List.getD_eq_getElem?_getD]
  · rw [List.getElem?_eq_none (by rw [mix_len]; omega), List.getElem?_eq_none (by omega)]
theorem mix_set (xs : List Int) (m : Int) (j : Nat) (hj : j < xs.length) : (mix xs m j).set j (xs.getD j 0 - m) = mix xs m (j + 1) := by
  apply List.ext_getElem?
  intro i
  rw [List.getElem?_set]
  by_cases hi : i < xs.length
  · rw [mix_at xs m (j + 1) i hi, mix_at xs m j i hi, mix_len]
    by_cases hij : j = i
    · subst hij; simp [hi]
    · by_cases h2 : i < j
      · simp [hij, h2, show i < j + 1 by omega]
      · simp [hij, h2, show ¬ i < j + 1 by omega]
  · rw [if_neg (by omega), List.getElem?_eq_none (by rw [mix_len]; omega), List.getElem?_eq_none (by rw [mix_len]; omega)]
/-- The beat of a window. -/
def beat (xs : List Int) : Int := strong (mix xs (mean xs) xs.length)

theorem OwnI.shape {w : World} {base : Nat} {v : Value} {xs : List Int} (h : OwnI w base v xs) (hne : 0 < xs.length) : ∃ g cap, v = .slice (some ⟨g, 0, none⟩) xs.length cap ∧ base ≤ g ∧ xs.length ≤ cap ∧ cap ≤ 9223372036854775807 := by
  rcases h.2 with ⟨rfl, hn⟩ | ⟨g, cap, cur, rfl, hb, hh, hle, hm, hsz, htk⟩
  · omega
  · exact ⟨g, cap, rfl, hb, hle, by simpa [maxLen] using hm⟩
theorem OwnI.cellAt {w : World} {base g cap : Nat} {xs : List Int} (h : OwnI w base (.slice (some ⟨g, 0, none⟩) xs.length cap) xs) (j : Nat) (hj : j < xs.length) : w.cell? ⟨g, j, none⟩ = some (.int .i64 (xs.getD j 0)) := by
  rw [World.ownsRow.cellAt h j (by omega)]
  simp [vals, List.getElem?_eq_getElem hj, List.getD_eq_getElem?_getD]
theorem OwnI.free {w : World} {base g cap : Nat} {xs : List Int} (h : OwnI w base (.slice (some ⟨g, 0, none⟩) xs.length cap) xs) (j : Nat) : w.frozen? ⟨g, j, none⟩ = false := World.ownsRow.frozenAt h j
theorem OwnI.stored {w : World} {base g cap : Nat} {xs : List Int} (h : OwnI w base (.slice (some ⟨g, 0, none⟩) xs.length cap) xs) (j : Nat) (hj : j < xs.length) (n : Int) :
    OwnI (w.setCell ⟨g, j, none⟩ (.int .i64 n)) base (.slice (some ⟨g, 0, none⟩) xs.length cap) (xs.set j n) := by
  have := (World.ownsRow.stored h j (.int .i64 n)).1
  unfold OwnI
  rw [List.length_set]
  simpa [vals, List.map_set] using this

set_option maxHeartbeats 2000000 in
theorem Beat_calls (b : Nat) (f : Nat → Int) (xs : List Int) (w : World) (h : MAt w b f) (h65 : 0 ≤ f 65 ∧ f 65 ≤ 63) (h71 : 0 ≤ f 71 ∧ f 71 ≤ 64) (hx : win f (f 71).toNat = xs) (hr : Rge xs) :
    Calls Try.prog 14 #[.pointer (some ⟨b, 0, none⟩)] w (RetI (beat xs) w) := by
  have hxl : xs.length ≤ 64 := by rw [← hx, win_len]; omega
  have HM := hid h
  have H65 := hid h65
  have H71 := hid h71
  have HX := hid hx
  have HR := hid hr
  clear h h65 h71 hx hr
  by_cases h0 : xs.length = 0
  · have hxn : xs = [] := List.eq_nil_of_length_eq_zero h0
    subst hxn
    go_enter Try.func14, Try.ntmps14
    go_wp2_with fail
    refine (Window_calls b f _ HM.out H65.out H71.out).mono ?_
    rw [HX.out]
    rintro e w1 ⟨v, rfl, ho, hb⟩
    obtain ⟨a, cap, rfl, _, hc, hm⟩ := ho.rd
    have HB := hid hb
    clear ho hb
    go_wp2_with fail
    go_ret
    exact ⟨rfl, HB.out⟩
  · have hxp : 0 < xs.length := by omega
    have e0 : ((xs.length : Int) == 0) = false := by rw [beq_eq_false_iff_ne]; omega
    have hmn : mean xs = sumT xs xs.length / xs.length := by unfold mean; rw [if_neg h0]
    have HMN := hid hmn
    clear h0 hmn
    go_enter Try.func14, Try.ntmps14
    go_wp2_with fail
    refine (Window_calls b f _ HM.out H65.out H71.out).mono ?_
    rw [HX.out]
    rintro e w1 ⟨v, rfl, ho, hb⟩
    obtain ⟨g, cap, rfl, hg, hc, hm⟩ := ho.shape hxp
    have HB := hid hb
    have HO := hid ho
    clear ho hb
    go_wp2_with fail
    go_loop [4, 15] (fun s i => ∃ j : Nat, j ≤ xs.length ∧ i = .int .i64 j ∧ s = .int .i64 (sumT xs j)) (fun _ i => xs.length - (intOf i).toNat)
    case atStart => exact ⟨0, Nat.zero_le _, rfl, rfl⟩
    case round =>
      obtain ⟨j, hj, rfl, rfl⟩ := hrel
      obtain ⟨s1, s2⟩ := sumT_bd HR.out j hj
      have s2' : sumT xs j ≤ 67108864 := by omega
      clear s2
      by_cases hlt : j < xs.length
      · have hcj := HO.out.cellAt j hlt
        obtain ⟨z, hz⟩ : ∃ z, z = xs.getD j 0 := ⟨_, rfl⟩
        have hzb := HR.out j hlt
        rw [← hz] at hcj hzb
        obtain ⟨z1, z2⟩ := hzb
        have HS := hid (show sumT xs (j + 1) = sumT xs j + z by rw [hz]; rfl)
        clear hz
        go_wp2_with fail
        go_round
        case rel => exact ⟨j + 1, by omega, by go_num, by rw [HS.out]⟩
        case measure => simp [intOf]; omega
      · obtain rfl : j = xs.length := by omega
        have hp : (1 : Int) ≤ (xs.length : Int) := by omega
        have hmb : 0 ≤ mean xs ∧ mean xs ≤ 67108864 := by
          rw [HMN.out]
          have h1 : 0 ≤ sumT xs xs.length / (xs.length : Int) := Int.ediv_nonneg s1 (by omega)
          have h2 : sumT xs xs.length / (xs.length : Int) ≤ sumT xs xs.length := Int.ediv_le_self _ s1
          omega
        have HBT := hid (show beat xs = strong (mix xs (sumT xs xs.length / (xs.length : Int)) xs.length) by unfold beat; rw [HMN.out])
        have hmn := HMN.out
        generalize sumT xs xs.length = S at *
        generalize mean xs = m at *
        subst hmn
        obtain ⟨m1, m2⟩ := hmb
        clear hlt hj
        go_wp2_with fail
        generalize S / (xs.length : Int) = m at *
        go_loopw [29] (fun i wr => ∃ j : Nat, j ≤ xs.length ∧ i = .int .i64 j ∧ OwnI wr w.heap.size (.slice (some ⟨g, 0, none⟩) (mix xs m j).length cap) (mix xs m j) ∧ Below w.heap.size w wr) (fun i _ => xs.length - (intOf i).toNat)
        case atStart => exact ⟨0, Nat.zero_le _, rfl, by rw [mix_zero]; exact HO.out, HB.out⟩
        case round =>
          obtain ⟨j, hj, rfl, ho2, hb2⟩ := hrel
          have HO2 := hid ho2
          have HB2 := hid hb2
          clear ho2 hb2
          by_cases hlt : j < xs.length
          · have hml : j < (mix xs m j).length := by rw [mix_len]; exact hlt
            have hcj := HO2.out.cellAt j hml
            have hfj := HO2.out.free j
            have hv : (mix xs m j).getD j 0 = xs.getD j 0 := by rw [List.getD_eq_getElem?_getD, mix_at xs m j j hlt]; simp
            rw [hv] at hcj
            obtain ⟨z, hz⟩ : ∃ z, z = xs.getD j 0 := ⟨_, rfl⟩
            have hzb := HR.out j hlt
            rw [← hz] at hcj hzb
            obtain ⟨z1, z2⟩ := hzb
            have HZ := hid hz
            clear hz hv
            go_wp2_with fail
            refine ⟨⟨j + 1, by omega, by go_num, ?_, HB2.out.setCell hg _⟩, by simp [intOf]; omega⟩
            have := HO2.out.stored j hml (z - m)
            rw [HZ.out, mix_set xs m j hlt, ← HZ.out, mix_len] at this
            rw [mix_len]
            exact this
          · obtain rfl : j = xs.length := by omega
            have hrd : RdI wr (some ⟨g, 0, none⟩) (mix xs m xs.length) := .inr ⟨g, 0, rfl, fun i hi => by rw [Nat.zero_add]; exact HO2.out.cellAt i hi⟩
            have HRD := hid hrd
            clear hrd
            go_wp2_with fail
            have hml := mix_len xs m xs.length
            rw [← hml]
            refine (Strongest_calls _ _ _ _ HRD.out (by rw [hml]; exact hc) hm).mono ?_
            rintro e w' ⟨rfl, rfl⟩
            clear hml
            go_wp2_with fail
            go_ret
            exact ⟨ret_int HBT.out.symm, HB2.out⟩

theorem OwnI.holds {w : World} {base g cap : Nat} {xs : List Int} (h : OwnI w base (.slice (some ⟨g, 0, none⟩) xs.length cap) xs) : Sort.Holds (Value.int .i64) w g 0 xs.toArray := by
  intro j hj
  have hj' : j < xs.length := by simpa using hj
  refine ⟨?_, ?_⟩
  · rw [Nat.zero_add, h.cellAt j hj']
    simp [List.getD_eq_getElem?_getD, List.getElem?_eq_getElem hj', getElem!_pos, hj']
  · rw [Nat.zero_add]; exact h.free j

def sorted (xs : List Int) : List Int := xs.mergeSort fun x y => decide (x ≤ y)
theorem sorted_len (xs : List Int) : (sorted xs).length = xs.length := List.length_mergeSort xs

def RetSort (g : Nat) (xs : List Int) (w : World) (e : Ending) (w' : World) : Prop := e = .returned (.tuple #[]) ∧ (∀ j, j < xs.length → w'.cell? ⟨g, j, none⟩ = some (.int .i64 ((sorted xs).getD j 0))) ∧ w.grownBy w' (some g)

theorem Sort_calls (base g cap : Nat) (xs : List Int) (w : World) (h : OwnI w base (.slice (some ⟨g, 0, none⟩) xs.length cap) xs) (hs : xs.length < 4611686018427387904) :
    Calls Try.prog 29 #[.slice (some ⟨g, 0, none⟩) xs.length cap] w (RetSort g xs w) := by
  have hlt := (h.lt g rfl).2
  have hH := h.holds
  refine (Try.slices_Sort_int g 0 cap xs w hH hlt hs).mono ?_
  rintro e w' ⟨rfl, n, os, rfl⟩
  have hsz : (sorted xs).toArray.size = xs.toArray.size := by simp [sorted_len]
  refine ⟨rfl, ?_, ?_⟩
  · intro j hj
    have hj2 : j < (sorted xs).toArray.size := by simpa [sorted_len] using hj
    have h1 := Sort.cell?_putRow (Value.int .i64) w g 0 xs.toArray (sorted xs).toArray hH hsz j hj2
    rw [Nat.zero_add] at h1
    rw [Sort.cell?_grow _ _ _ (by simpa [Sort.putRow, Sort.mapBlock, Sort.ahead] using hlt)]
    have h2 : (Sort.putRow (Value.int .i64) (Sort.ahead w n) g 0 (sorted xs).toArray).cell? ⟨g, j, none⟩ = (Sort.putRow (Value.int .i64) w g 0 (sorted xs).toArray).cell? ⟨g, j, none⟩ := rfl
    refine h2.trans (h1.trans ?_)
    have hj3 : j < (sorted xs).length := by rw [sorted_len]; exact hj
    simp [List.getD_eq_getElem?_getD, List.getElem?_eq_getElem hj3, getElem!_pos, hj3]
  · refine ⟨rfl, rfl, rfl, ?_, ?_⟩
    · simp [Sort.grow, Sort.putRow, Sort.mapBlock, Sort.ahead]
    · intro k hk hne
      have hk2 : k ≠ g := fun e => hne (by rw [e])
      rw [Sort.heap_grow_old _ _ (by simpa [Sort.putRow, Sort.mapBlock, Sort.ahead] using hk)]
      simp only [Sort.putRow, Sort.mapBlock, Sort.ahead, Array.getElem?_modify]
      rw [if_neg (by omega)]

end Go.Proofs.Ytaombjljahpncaa
