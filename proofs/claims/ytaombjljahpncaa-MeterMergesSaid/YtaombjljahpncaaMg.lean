/- The document's Above; that it is the meter's. -/
import Derived.Test.YtaombjljahpncaaMf
import Derived.Test.YtaombjljahpncaaPm
set_option linter.unusedVariables false
set_option linter.unusedSimpArgs false
namespace Go.Proofs.Ytaombjljahpncaa
open Go.RowKit

/-- How many of the first k are above x. -/
def gr (xs : List Int) (x : Int) : Nat → Nat
  | 0 => 0
  | k + 1 => if x < xs.getD k 0 then gr xs x k + 1 else gr xs x k
theorem gr_le (xs : List Int) (x : Int) (k : Nat) : gr xs x k ≤ k := by
  induction k with
  | zero => simp [gr]
  | succ k ih => simp only [gr]; split <;> omega
def bestT (xs : List Int) (c : Nat) : Nat → Int
  | 0 => -1
  | i + 1 => if 100 * gr xs (xs.getD i 0) xs.length ≤ c * xs.length ∧ (bestT xs c i < 0 ∨ xs.getD i 0 < bestT xs c i) then xs.getD i 0 else bestT xs c i

theorem bestT_bd {xs : List Int} (h : Rge xs) (c i : Nat) (hi : i ≤ xs.length) : -1 ≤ bestT xs c i ∧ bestT xs c i ≤ 1048576 := by
  induction i with
  | zero => simp [bestT]
  | succ i ih =>
    have h1 := ih (by omega)
    have h2 := h i (by omega)
    simp only [bestT]
    split <;> omega

set_option maxRecDepth 20000 in
set_option maxHeartbeats 4000000 in
theorem rAbove_calls (a : Option Addr) (xs : List Int) (cap : Nat) (s : Int) (w : World) (hr : RdI w a xs) (hl : xs.length ≤ 64) (hg : Rge xs) :
    Calls Try.prog 26 #[.slice a xs.length cap, .int .i64 s] w (RetI (max (bestT xs (clampS s).toNat xs.length) 0) w) := by
  have hcb : 0 ≤ clampS s ∧ clampS s ≤ 100 := by unfold clampS; omega
  obtain ⟨c, hc⟩ : ∃ c : Nat, clampS s = c := ⟨(clampS s).toNat, by omega⟩
  rw [show (clampS s).toNat = c by omega]
  have hmm : min (max s 0) 100 = (c : Int) := hc
  have hcl : c * xs.length ≤ 6400 := by
    have : c * xs.length ≤ 100 * 64 := Nat.mul_le_mul (by omega) hl
    exact this
  have hp0 : (0 : Int) ≤ (c : Int) * xs.length := by exact_mod_cast Nat.zero_le _
  have hp1 : (c : Int) * xs.length ≤ 6400 := by exact_mod_cast hcl
  have HPN := hid (show ((c * xs.length : Nat) : Int) = (c : Int) * xs.length from by simp)
  have HR := hid hr
  have HG := hid hg
  clear hr hg hc hcb hcl
  go_enter Try.func26, Try.ntmps26
  go_wp2_with fail
  clear hmm
  go_loopw [5, 6] (fun b i wr => ∃ (j n : Nat), j ≤ xs.length ∧ i = .int .i64 j ∧ b = .int .i64 (bestT xs c j) ∧ wr = w.drewN n) (fun _ i _ => xs.length - (intOf i).toNat)
  case atStart => exact ⟨0, 0, Nat.zero_le _, rfl, rfl, rfl⟩
  case round =>
    obtain ⟨j, n, hj, rfl, rfl, rfl⟩ := hrel
    have hb := bestT_bd HG.out c j hj
    have HBT := hid (show bestT xs c (j + 1) = if 100 * gr xs (xs.getD j 0) xs.length ≤ c * xs.length ∧ (bestT xs c j < 0 ∨ xs.getD j 0 < bestT xs c j) then xs.getD j 0 else bestT xs c j from rfl)
    obtain ⟨bst, hbst⟩ : ∃ bst, bestT xs c j = bst := ⟨_, rfl⟩
    rw [hbst] at HBT hb ⊢
    have HBV := hid hbst
    clear hbst
    obtain ⟨hb1, hb2⟩ := hb
    by_cases hlt : j < xs.length
    · obtain ⟨b1, o1, hae, hcj⟩ := HR.out.cell j hlt
      have HCK : Hid (∀ k, k < xs.length → w.cell? ⟨b1, o1 + k, none⟩ = some (.int .i64 (xs.getD k 0))) := by
        show ∀ k, _
        intro k hk
        obtain ⟨b', off', h1, h2⟩ := HR.out.cell k hk
        rw [hae] at h1
        cases h1
        exact h2
      subst hae
      have hzb := HG.out j hlt
      generalize xs.getD j 0 = z at *
      obtain ⟨z1, z2⟩ := hzb
      have i1 : (0 : Int) ≤ (j : Int) := Int.natCast_nonneg _
      have i2 : (j : Int) < (xs.length : Int) := by omega
      go_wp2_with fail
      obtain ⟨wo, rfl⟩ : ∃ wo : World, wo = w := ⟨_, rfl⟩
      go_loopw [7, 8] (fun g k wr => ∃ (q m : Nat), q ≤ xs.length ∧ k = .int .i64 q ∧ g = .int .i64 (gr xs z q) ∧ wr = wo.drewN m) (fun _ k _ => xs.length - (intOf k).toNat)
      case atStart => exact ⟨0, n, Nat.zero_le _, rfl, rfl, rfl⟩
      case round =>
        obtain ⟨q, m, hq, rfl, rfl, rfl⟩ := hrel
        have hgl := gr_le xs z q
        have HGR := hid (show gr xs z (q + 1) = if z < xs.getD q 0 then gr xs z q + 1 else gr xs z q from rfl)
        by_cases hql : q < xs.length
        · have hcq := HCK.out q hql
          generalize xs.getD q 0 = y at *
          generalize gr xs z q = G at *
          have k1 : (0 : Int) ≤ (q : Int) := Int.natCast_nonneg _
          have k2 : (q : Int) < (xs.length : Int) := by omega
          have hG64 : G ≤ 64 := by omega
          go_wp2_with fail
          go_quiet (fail)
          by_cases hzy : z < y
          · go_wp2_with fail
            exact ⟨⟨q + 1, m + nq, by omega, by go_num, by rw [HGR.out, if_pos hzy]; go_num, rfl⟩, by simp [intOf]; omega⟩
          · go_wp2_with fail
            exact ⟨⟨q + 1, m + nq, by omega, by go_num, by rw [HGR.out, if_neg hzy], rfl⟩, by simp [intOf]; omega⟩
        · obtain rfl : q = xs.length := by omega
          clear HGR
          generalize gr xs z xs.length = G at *
          have hG64 : G ≤ 64 := by omega
          have hpn := HPN.out
          by_cases ht : 100 * G ≤ c * xs.length
          · have ht' : 100 * (G : Int) ≤ (c : Int) * (xs.length : Int) := by omega
            by_cases hn : bst < 0
            · go_wp2_with fail
              exact ⟨⟨j + 1, m, by omega, by go_num, by rw [HBT.out, if_pos ⟨ht, .inl hn⟩], rfl⟩, by simp [intOf]; omega⟩
            · by_cases hz : z < bst
              · go_wp2_with fail
                exact ⟨⟨j + 1, m, by omega, by go_num, by rw [HBT.out, if_pos ⟨ht, .inr hz⟩], rfl⟩, by simp [intOf]; omega⟩
              · go_wp2_with fail
                exact ⟨⟨j + 1, m, by omega, by go_num, by rw [HBT.out, if_neg (by omega)], rfl⟩, by simp [intOf]; omega⟩
          · have ht' : ¬ 100 * (G : Int) ≤ (c : Int) * (xs.length : Int) := by omega
            go_wp2_with fail
            exact ⟨⟨j + 1, m, by omega, by go_num, by rw [HBT.out, if_neg (by omega)], rfl⟩, by simp [intOf]; omega⟩
    · obtain rfl : j = xs.length := by omega
      go_wp2_with fail
      go_ret
      exact ⟨ret_int (by rw [HBV.out]), bel_drewN (Below.refl _ _) _⟩

/-! The plain law: the least with few enough above it is the sorted window's element. -/
theorem gr_count (xs : List Int) (x : Int) (k : Nat) (hk : k ≤ xs.length) : gr xs x k = (xs.take k).countP fun y => decide (x < y) := by
  induction k with
  | zero => simp [gr]
  | succ k ih =>
    rw [take_snoc' xs k (by omega), List.countP_append, ← ih (by omega)]
    simp only [gr]
    by_cases h : x < xs.getD k 0
    · rw [if_pos h]; simp only [List.countP_cons, List.countP_nil, h, decide_true, if_true]
    · rw [if_neg h]; simp only [List.countP_cons, List.countP_nil, h, decide_false]; simp
theorem gr_full (xs : List Int) (x : Int) : gr xs x xs.length = xs.countP fun y => decide (x < y) := by
  rw [gr_count xs x xs.length (Nat.le_refl _), List.take_length]

theorem sorted_perm (xs : List Int) : (sorted xs).Perm xs := List.mergeSort_perm xs _
theorem sorted_pw (xs : List Int) : (sorted xs).Pairwise (· ≤ ·) := by
  have := List.pairwise_mergeSort (le := fun x y : Int => decide (x ≤ y)) (fun a b c h1 h2 => by simp at *; omega) (fun a b => by simp; omega) xs
  unfold sorted
  exact this.imp (fun h => by simpa using h)
theorem gr_sorted (xs : List Int) (x : Int) : gr xs x xs.length = (sorted xs).countP fun y => decide (x < y) := by
  rw [gr_full]
  exact ((sorted_perm xs).countP_eq _).symm

theorem gr_at (xs : List Int) (k : Nat) (hk : k < xs.length) : gr xs ((sorted xs).getD k 0) xs.length + k + 1 ≤ xs.length := by
  have hl := sorted_len xs
  have hks : k < (sorted xs).length := by omega
  rw [gr_sorted]
  rw [← List.take_append_drop (k + 1) (sorted xs), List.countP_append]
  rw [List.take_append_drop]
  have h1 : ((sorted xs).take (k + 1)).countP (fun y => decide ((sorted xs).getD k 0 < y)) = 0 := by
    rw [List.countP_eq_zero]
    intro y hy
    obtain ⟨i, hi, rfl⟩ := List.getElem_of_mem hy
    have hi' : i < k + 1 := by simp at hi; omega
    rw [List.getElem_take]
    rw [List.getD_eq_getElem?_getD, List.getElem?_eq_getElem hks]
    have := sorted_pw xs
    rw [List.pairwise_iff_getElem] at this
    by_cases hik : i = k
    · subst hik; simp
    · have := this i k (by omega) hks (by omega)
      simp; exact this
  have h2 : ((sorted xs).drop (k + 1)).countP (fun y => decide ((sorted xs).getD k 0 < y)) ≤ xs.length - (k + 1) := by
    have := List.countP_le_length (p := fun y => decide ((sorted xs).getD k 0 < y)) (l := (sorted xs).drop (k + 1))
    rw [List.length_drop, hl] at this
    exact this
  omega
theorem gr_below (xs : List Int) (k : Nat) (hk : k < xs.length) (x : Int) (hx : x < (sorted xs).getD k 0) : xs.length ≤ gr xs x xs.length + k := by
  have hl := sorted_len xs
  have hks : k < (sorted xs).length := by omega
  rw [gr_sorted]
  have h0 : (sorted xs).countP (fun y => decide (x < y)) = ((sorted xs).take k).countP (fun y => decide (x < y)) + ((sorted xs).drop k).countP (fun y => decide (x < y)) := by
    rw [← List.countP_append, List.take_append_drop]
  have h1 : ((sorted xs).drop k).countP (fun y => decide (x < y)) = xs.length - k := by
    rw [← hl, ← List.length_drop, List.countP_eq_length]
    intro y hy
    obtain ⟨i, hi, rfl⟩ := List.getElem_of_mem hy
    rw [List.getElem_drop]
    have hi' : k + i < (sorted xs).length := by simp at hi; omega
    rw [List.getD_eq_getElem?_getD, List.getElem?_eq_getElem hks] at hx
    simp at hx
    have := sorted_pw xs
    rw [List.pairwise_iff_getElem] at this
    by_cases h : i = 0
    · subst h; simpa using hx
    · have := this k (k + i) hks hi' (by omega)
      simp; omega
  omega

theorem bestT_spec (xs : List Int) (hg : Rge xs) (c : Nat) (i : Nat) (hi : i ≤ xs.length) :
    (∀ j, j < i → 100 * gr xs (xs.getD j 0) xs.length ≤ c * xs.length → 0 ≤ bestT xs c i ∧ bestT xs c i ≤ xs.getD j 0) ∧
    (0 ≤ bestT xs c i → ∃ j, j < i ∧ bestT xs c i = xs.getD j 0 ∧ 100 * gr xs (xs.getD j 0) xs.length ≤ c * xs.length) := by
  induction i with
  | zero => exact ⟨fun j hj => by omega, fun h => by simp [bestT] at h⟩
  | succ i ih =>
    obtain ⟨ih1, ih2⟩ := ih (by omega)
    have hx := hg i (by omega)
    simp only [bestT]
    by_cases hc : 100 * gr xs (xs.getD i 0) xs.length ≤ c * xs.length ∧ (bestT xs c i < 0 ∨ xs.getD i 0 < bestT xs c i)
    · rw [if_pos hc]
      refine ⟨fun j hj hs => ⟨hx.1, ?_⟩, fun _ => ⟨i, by omega, rfl, hc.1⟩⟩
      by_cases hji : j = i
      · subst hji; exact Int.le_refl _
      · have := ih1 j (by omega) hs
        omega
    · rw [if_neg hc]
      refine ⟨fun j hj hs => ?_, fun h => ?_⟩
      · by_cases hji : j = i
        · subst hji
          by_cases hn : bestT xs c j < 0
          · exact absurd ⟨hs, .inl hn⟩ hc
          · by_cases hlt : xs.getD j 0 < bestT xs c j
            · exact absurd ⟨hs, .inr hlt⟩ hc
            · omega
        · exact ih1 j (by omega) hs
      · obtain ⟨j, h1, h2, h3⟩ := ih2 h
        exact ⟨j, by omega, h2, h3⟩

theorem above_eq (xs : List Int) (hg : Rge xs) (s : Int) : max (bestT xs (clampS s).toNat xs.length) 0 = abv xs s := by
  unfold abv
  by_cases h0 : xs.length = 0
  · rw [if_pos h0, h0]; simp only [bestT]; omega
  rw [if_neg h0]
  have hcb : 0 ≤ clampS s ∧ clampS s ≤ 100 := by unfold clampS; omega
  obtain ⟨c, hc⟩ : ∃ c : Nat, clampS s = c := ⟨(clampS s).toNat, by omega⟩
  rw [show (clampS s).toNat = c by omega]
  have hfew : few xs.length s = c * xs.length / 100 := by
    unfold few
    rw [hc]
    have : ((c : Int) * (xs.length : Int) / 100) = ((c * xs.length / 100 : Nat) : Int) := by simp
    rw [this]; rfl
  rw [hfew]
  obtain ⟨k, hk⟩ : ∃ k, k = xs.length - 1 - c * xs.length / 100 := ⟨_, rfl⟩
  rw [← hk]
  have hkl : k < xs.length := by omega
  have h1 := gr_at xs k hkl
  have hsat : 100 * gr xs ((sorted xs).getD k 0) xs.length ≤ c * xs.length := by omega
  have hks : k < (sorted xs).length := by rw [sorted_len]; exact hkl
  obtain ⟨j, hj, hje⟩ : ∃ j, j < xs.length ∧ xs.getD j 0 = (sorted xs).getD k 0 := by
    have hm : (sorted xs)[k] ∈ xs := (sorted_perm xs).mem_iff.1 (List.getElem_mem hks)
    obtain ⟨j, hj, he⟩ := List.getElem_of_mem hm
    exact ⟨j, hj, by simp [List.getD_eq_getElem?_getD, List.getElem?_eq_getElem hj, List.getElem?_eq_getElem hks, he]⟩
  obtain ⟨hs1, hs2⟩ := bestT_spec xs hg c xs.length (Nat.le_refl _)
  have h2 := hs1 j hj (by rw [hje]; exact hsat)
  rw [hje] at h2
  obtain ⟨j2, hj2, he2, hsat2⟩ := hs2 h2.1
  have h3 : ¬ bestT xs c xs.length < (sorted xs).getD k 0 := by
    intro hlt
    have h4 := gr_below xs k hkl (bestT xs c xs.length) hlt
    obtain ⟨i2, hi2, he3⟩ : ∃ i2, i2 < xs.length ∧ (sorted xs).getD i2 0 = xs.getD j2 0 := by
      have hm : xs[j2] ∈ sorted xs := (sorted_perm xs).mem_iff.2 (List.getElem_mem hj2)
      obtain ⟨i, hi, he⟩ := List.getElem_of_mem hm
      refine ⟨i, by rw [sorted_len] at hi; exact hi, ?_⟩
      simp [List.getD_eq_getElem?_getD, List.getElem?_eq_getElem hj2, List.getElem?_eq_getElem hi, he]
    have h5 := gr_at xs i2 hi2
    rw [he3, ← he2] at h5
    rw [← he2] at hsat2
    have hF : c * xs.length < 100 * (c * xs.length / 100) + 100 := by omega
    generalize c * xs.length / 100 = F at *
    generalize c * xs.length = D at *
    generalize gr xs (bestT xs c xs.length) xs.length = G at *
    omega
  omega

end Go.Proofs.Ytaombjljahpncaa
