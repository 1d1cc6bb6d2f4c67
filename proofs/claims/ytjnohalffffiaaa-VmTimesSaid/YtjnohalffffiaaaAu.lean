/- VmTimes: what is kept from run to run. -/
import Derived.Test.YtjnohalffffiaaaAt
set_option linter.unusedVariables false
set_option linter.unusedSimpArgs false
namespace Go.Proofs.Ytjnohalffffiaaa
open Go.RowKit

structure TI (m s c u : Int) (M R : ByteArray) : Prop where
  ms : M.size = 64
  rs : R.size = 64
  mt : getk M 0 7 = min s m
  mu : getk M 9 1 = u
  rc : getk R 0 7 = min c m
  ru : getk R 4 1 = u

theorem wrap7 {v : Int} (h0 : 0 ≤ v) (h1 : v ≤ 4294967295) : wrapk 7 v = v := by
  rw [show wrapk 7 v = IntKind.u32.wrap v from rfl, u32_w]; omega
theorem wrap1 {v : Int} (h : v = 0 ∨ v = 1) : wrapk 1 v = v := by rcases h with rfl | rfl <;> rfl
theorem put7_get {M : ByteArray} (hM : M.size = 64) {v : Int} (h0 : 0 ≤ v) (h1 : v ≤ 4294967295) : getk (putk M 0 7 v) 0 7 = v := by
  rw [get_put M 0 7 v (by decide) (by decide) (by rw [hM]; decide), wrap7 h0 h1]
theorem byt_put1 {Q : ByteArray} (hQ : Q.size = 64) (i : Nat) (hi : i < 64) (b : Bool) (j : Nat) : byt (putk Q i 1 (yesI b)) j = if j = i then yesI b else byt Q j := by
  unfold putk
  rw [show (ksize 1).toNat = 1 from rfl, show ((i : Int)).toNat = i from rfl, byt_putB _ _ _ _ _ (by omega)]
  by_cases e : j = i
  · subst e
    rw [if_pos (by omega), if_pos rfl, show j + 1 - 1 - j = 0 by omega]
    cases b <;> rfl
  · rw [if_neg (by omega), if_neg e]

theorem ti_step {m s c u up p : Int} {A M R : ByteArray} (hm : 1 ≤ m ∧ m ≤ 500) (hs : 0 ≤ s ∧ s ≤ 1000000) (hc : 0 ≤ c ∧ c ≤ 1000000) (hp : 0 ≤ p ∧ p ≤ 10000) (hA0 : getk A 0 1 = 1) (hA1 : getk A 1 1 = up) (hup : up = 0 ∨ up = 1) (hu : u = 1 - up) (h : TI m s c u M R) :
    TI m (s + p) (c + up) up (tvM A M p m) (tvR A R m) ∧ tvt A M p m = min (s + p) m ∧ tvc A R m = min (c + up) m := by
  have ht : tvt A M p m = min (s + p) m := by
    unfold tvt
    rw [hA0, if_pos (by rfl), h.mt]
    omega
  have hr : tvr A R = (up == 1) := by
    unfold tvr
    rw [hA1, h.ru, hu]
    rcases hup with rfl | rfl <;> rfl
  have hcc : tvc A R m = min (c + up) m := by
    unfold tvc
    rw [hr, h.rc]
    rcases hup with rfl | rfl
    · rw [if_neg (by decide)]; omega
    · rw [if_pos (by decide)]; omega
  refine ⟨?_, ht, hcc⟩
  have hM1 : (putk M 0 7 (tvt A M p m)).size = 64 := by rw [putk_size]; exact h.ms
  have hR1 : (putk R 4 1 (getk A 1 1)).size = 64 := by rw [putk_size]; exact h.rs
  refine ⟨?_, ?_, ?_, ?_, ?_, ?_⟩
  · unfold tvM; rw [putk_size]; exact hM1
  · unfold tvR; split
    · rw [putk_size]; exact hR1
    · exact hR1
  · unfold tvM
    rw [get_put_ne _ 9 1 _ 0 7 (by decide) (by decide) (by rw [hM1]; decide) (by decide) (by decide) (.inl (by decide)), put7_get h.ms (by rw [ht]; omega) (by rw [ht]; omega), ht]
  · unfold tvM
    rw [get_put _ 9 1 _ (by decide) (by decide) (by rw [hM1]; decide), hA1, wrap1 hup]
  · unfold tvR
    rw [hr]
    rcases hup with rfl | rfl
    · rw [if_neg (by decide), get_put_ne _ 4 1 _ 0 7 (by decide) (by decide) (by rw [h.rs]; decide) (by decide) (by decide) (.inl (by decide)), h.rc]
      omega
    · rw [if_pos (by decide), put7_get hR1 (by rw [hcc]; omega) (by rw [hcc]; omega), hcc]
  · unfold tvR
    rw [hr]
    rcases hup with rfl | rfl
    · rw [if_neg (by decide), get_put _ 4 1 _ (by decide) (by decide) (by rw [h.rs]; decide), hA1]; rfl
    · rw [if_pos (by decide), get_put_ne _ 0 7 _ 4 1 (by decide) (by decide) (by rw [hR1]; decide) (by decide) (by decide) (.inr (by decide)), get_put _ 4 1 _ (by decide) (by decide) (by rw [h.rs]; decide), hA1]; rfl
theorem ti_q {m s c u up p : Int} {A Q M R : ByteArray} (hQ : Q.size = 64) (hm : 1 ≤ m ∧ m ≤ 500) (hs : 0 ≤ s ∧ s ≤ 1000000) (hc : 0 ≤ c ∧ c ≤ 1000000) (hp : 0 ≤ p ∧ p ≤ 10000) (hA0 : getk A 0 1 = 1) (hA1 : getk A 1 1 = up) (hup : up = 0 ∨ up = 1) (hu : u = 1 - up) (h : TI m s c u M R) :
    byt (tvQ A Q M R p m) 0 = yesI (decide (m ≤ s + p)) ∧ byt (tvQ A Q M R p m) 1 = yesI (decide (m ≤ c + up)) ∧ byt (tvQ A Q M R p m) 2 = up ∧ (tvQ A Q M R p m).size = 64 := by
  obtain ⟨_, ht, hcc⟩ := ti_step hm hs hc hp hA0 hA1 hup hu h
  have e3 : getk (putk M 0 7 (tvt A M p m)) 9 1 = u := by
    rw [get_put_ne _ 0 7 _ 9 1 (by decide) (by decide) (by rw [h.ms]; decide) (by decide) (by decide) (.inr (by decide)), h.mu]
  unfold tvQ
  rw [hA0, hA1, e3, ht, hcc]
  have q1 : (putk Q 0 1 (yesI ((1 : Int) == 1 && min (s + p) m == m))).size = 64 := by rw [putk_size]; exact hQ
  have q2 : (putk (putk Q 0 1 (yesI ((1 : Int) == 1 && min (s + p) m == m))) 1 1 (yesI (decide (m ≤ min (c + up) m)))).size = 64 := by rw [putk_size]; exact q1
  have b1 := fun j => byt_put1 hQ 0 (by omega) ((1 : Int) == 1 && min (s + p) m == m) j
  have b2 := fun j => byt_put1 q1 1 (by omega) (decide (m ≤ min (c + up) m)) j
  have b3 := fun j => byt_put1 q2 2 (by omega) (up == 1 && u == 0) j
  refine ⟨?_, ?_, ?_, by rw [putk_size]; exact q2⟩
  · refine (b3 0).trans ?_
    rw [if_neg (by omega)]
    refine (b2 0).trans ?_
    rw [if_neg (by omega)]
    refine (b1 0).trans ?_
    rw [if_pos rfl]
    congr 1
    by_cases hh : m ≤ s + p
    · rw [show min (s + p) m = m by omega]; simp [hh]
    · have : ((min (s + p) m == m) : Bool) = false := by simp; omega
      rw [this]; simp [hh]
  · refine (b3 1).trans ?_
    rw [if_neg (by omega)]
    refine (b2 1).trans ?_
    rw [if_pos rfl]
    congr 1
    rw [decide_eq_decide]
    omega
  · refine (b3 2).trans ?_
    rw [if_pos rfl, hu]
    rcases hup with rfl | rfl <;> rfl
/-- The last run: no inputs. -/
theorem ti_last {m s c u p : Int} {A Q M R : ByteArray} (hQ : Q.size = 64) (hm : 1 ≤ m ∧ m ≤ 500) (hc : 0 ≤ c ∧ c ≤ 1000000) (hA0 : getk A 0 1 = 0) (hA1 : getk A 1 1 = 0) (h : TI m s c u M R) :
    byt (tvQ A Q M R p m) 0 = 0 ∧ byt (tvQ A Q M R p m) 1 = yesI (decide (m ≤ c)) ∧ (tvQ A Q M R p m).size = 64 ∧ (tvM A M p m).size = 64 ∧ ∀ j, j < 4 → byt (tvM A M p m) j = 0 := by
  have ht : tvt A M p m = 0 := by
    unfold tvt
    rw [hA0, if_neg (by decide)]
  have hcc : tvc A R m = min c m := by
    unfold tvc tvr
    rw [hA1, if_neg (by simp), h.rc]
  unfold tvQ tvM
  rw [hA0, hA1, ht, hcc]
  have q1 : (putk Q 0 1 (yesI ((0 : Int) == 1 && (0 : Int) == m))).size = 64 := by rw [putk_size]; exact hQ
  have q2 : (putk (putk Q 0 1 (yesI ((0 : Int) == 1 && (0 : Int) == m))) 1 1 (yesI (decide (m ≤ min c m)))).size = 64 := by rw [putk_size]; exact q1
  have b1 := fun j => byt_put1 hQ 0 (by omega) ((0 : Int) == 1 && (0 : Int) == m) j
  have b2 := fun j => byt_put1 q1 1 (by omega) (decide (m ≤ min c m)) j
  have b3 := fun j => byt_put1 q2 2 (by omega) ((0 : Int) == 1 && getk (putk M 0 7 0) 9 1 == 0) j
  have hM1 : (putk M 0 7 0).size = 64 := by rw [putk_size]; exact h.ms
  refine ⟨?_, ?_, by rw [putk_size]; exact q2, by rw [putk_size]; exact hM1, fun j hj => ?_⟩
  · refine (b3 0).trans ?_
    rw [if_neg (by omega)]
    refine (b2 0).trans ?_
    rw [if_neg (by omega)]
    refine (b1 0).trans ?_
    rw [if_pos rfl]
    rfl
  · refine (b3 1).trans ?_
    rw [if_neg (by omega)]
    refine (b2 1).trans ?_
    rw [if_pos rfl]
    congr 1
    rw [decide_eq_decide]
    omega
  · show byt (putB (putB M 0 4 (wrapk 7 0)) 9 1 (wrapk 1 0)) j = 0
    rw [byt_putB _ _ _ _ _ (by rw [putB_size, h.ms]; omega), if_neg (by omega), byt_putB _ _ _ _ _ (by rw [h.ms]; omega), if_pos (by omega), show wrapk 7 0 = 0 from by decide]
    simp

/-- The inputs. -/
theorem fit_id (s : ByteArray) (h : s.size = 64) : fit s = s := by
  have hl : s.data.toList.length = 64 := by rw [Array.length_toList]; exact h
  unfold fit
  rw [hl, List.take_of_length_le (by omega)]
  apply ByteArray.ext
  apply Array.toList_inj.1
  simp
theorem get1_byt (s : ByteArray) (i : Nat) : getk s i 1 = wrapk 1 (byt s i) := by
  unfold getk
  rw [show (ksize 1).toNat = 1 from rfl, show ((i : Int)).toNat = i from rfl, getB, getB]
  simp
theorem in_up (up : Nat) (h : up < 2) : getk (fit ⟨#[1, UInt8.ofNat up]⟩) 0 1 = 1 ∧ getk (fit ⟨#[1, UInt8.ofNat up]⟩) 1 1 = up := by
  obtain rfl | rfl : up = 0 ∨ up = 1 := by omega
  · exact ⟨by kernel_rfl, by kernel_rfl⟩
  · exact ⟨by kernel_rfl, by kernel_rfl⟩
theorem in_no : getk (fit ⟨#[]⟩) 0 1 = 0 ∧ getk (fit ⟨#[]⟩) 1 1 = 0 ∧ getk (fit ⟨#[]⟩) 0 7 = 0 ∧ getk (fit ⟨#[]⟩) 9 1 = 0 ∧ getk (fit ⟨#[]⟩) 4 1 = 0 := ⟨by kernel_rfl, by kernel_rfl, by kernel_rfl, by kernel_rfl, by kernel_rfl⟩
theorem ti_start (m : Int) (h : 1 ≤ m) : TI m 0 0 0 (fit ⟨#[]⟩) (fit ⟨#[]⟩) :=
  ⟨fit_size _, fit_size _, by rw [in_no.2.2.1]; omega, in_no.2.2.2.1, by rw [in_no.2.2.1]; omega, in_no.2.2.2.2⟩
end Go.Proofs.Ytjnohalffffiaaa
