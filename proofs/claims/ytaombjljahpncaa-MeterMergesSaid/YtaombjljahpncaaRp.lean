/- What a meter's numbers say of all times and of the last ones. Plain law. -/
import Derived.Test.YtaombjljahpncaaMg
set_option linter.unusedVariables false
set_option linter.unusedSimpArgs false
namespace Go.Proofs.Ytaombjljahpncaa
open Go.RowKit

def trim (l : List Int) : List Int := if 64 < l.length then l.drop 1 else l

theorem win_get (f : Nat → Int) (n k m j : Nat) (h65 : f 65 = n) (h71 : f 71 = k) : (win f m)[j]? = if j < m then some (f (1 + (n + 64 - k + j) % 64)) else none := by
  unfold win
  rw [h65, h71, List.getElem?_map]
  by_cases h : j < m
  · rw [List.getElem?_range h, if_pos h]; simp
  · rw [if_neg h, List.getElem?_eq_none (by simpa using h)]; rfl

theorem keepf_ring (f : Nat → Int) (z : Int) (n : Nat) (h65 : f 65 = n) (i : Nat) (hi : i < 64) : keepf f z (1 + i) = if i = n then z else f (1 + i) := by
  unfold keepf
  rw [upd_ne _ _ _ _ (by omega), upd_ne _ _ _ _ (by omega), h65]
  by_cases h : i = n
  · subst h; rw [if_pos rfl]; exact upd_at _ _ _
  · rw [if_neg h, upd_ne _ _ _ _ (by simp; omega)]
theorem keepf_65 (f : Nat → Int) (z : Int) : keepf f z 65 = (f 65 + 1) % 64 := by
  unfold keepf
  rw [upd_ne _ _ _ _ (by omega), upd_at]
theorem keepf_71 (f : Nat → Int) (z : Int) : keepf f z 71 = min (f 71 + 1) 64 := by
  unfold keepf
  rw [upd_at]
theorem keepf_else (f : Nat → Int) (z : Int) (i : Nat) (h65 : 0 ≤ f 65 ∧ f 65 ≤ 63) (h : i = 0 ∨ (65 < i ∧ i ≠ 71)) : keepf f z i = f i := by
  unfold keepf
  rw [upd_ne _ _ _ _ (by omega), upd_ne _ _ _ _ (by omega), upd_ne _ _ _ _ (by omega)]

theorem keepf_win (f : Nat → Int) (z : Int) (last : List Int) (h65 : 0 ≤ f 65 ∧ f 65 ≤ 63) (h71 : f 71 = last.length) (hl : last.length ≤ 64) (hw : win f (f 71).toNat = last) :
    win (keepf f z) (keepf f z 71).toNat = trim (last ++ [z]) := by
  obtain ⟨n, hn⟩ : ∃ n : Nat, f 65 = n := ⟨(f 65).toNat, by omega⟩
  have hat : ∀ j, last[j]? = if j < last.length then some (f (1 + (n + 64 - last.length + j) % 64)) else none := by
    intro j
    have := win_get f n last.length last.length j hn h71
    rw [← this]
    rw [h71] at hw
    simp only [Int.toNat_natCast] at hw
    rw [hw]
  have g65 : keepf f z 65 = (((n + 1) % 64 : Nat) : Int) := by rw [keepf_65, hn]; omega
  have hnb : n ≤ 63 := by omega
  obtain ⟨k, hk⟩ : ∃ k, k = last.length := ⟨_, rfl⟩
  rw [← hk] at h71 hl hat
  by_cases h : k < 64
  · have g71 : keepf f z 71 = ((k + 1 : Nat) : Int) := by rw [keepf_71, h71]; omega
    apply List.ext_getElem?
    intro j
    rw [g71, Int.toNat_natCast, win_get _ _ _ _ _ g65 g71]
    have ht : trim (last ++ [z]) = last ++ [z] := by unfold trim; exact if_neg (by simp; omega)
    rw [ht, List.getElem?_append, ← hk]
    have hm : ((n + 1) % 64 + 64 - (k + 1) + j) % 64 = (n + 64 - k + j) % 64 := by omega
    rw [hm]
    by_cases hj : j < k
    · rw [if_pos (by omega), if_pos hj, hat, if_pos hj, keepf_ring f z n hn _ (by omega), if_neg (by omega)]
    · rw [if_neg hj]
      by_cases hj2 : j = k
      · subst hj2
        rw [if_pos (by omega), keepf_ring f z n hn _ (by omega), if_pos (by omega)]
        simp
      · rw [if_neg (by omega), List.getElem?_eq_none (by simp; omega)]
  · have hk64 : k = 64 := by omega
    have g71 : keepf f z 71 = ((64 : Nat) : Int) := by rw [keepf_71, h71]; omega
    apply List.ext_getElem?
    intro j
    rw [g71, Int.toNat_natCast, win_get _ _ _ _ _ g65 g71]
    have ht : trim (last ++ [z]) = (last ++ [z]).drop 1 := by unfold trim; exact if_pos (by simp; omega)
    rw [ht, List.getElem?_drop, List.getElem?_append, ← hk]
    have hm : ((n + 1) % 64 + 64 - 64 + j) % 64 = (n + 64 - k + (1 + j)) % 64 := by omega
    rw [hm]
    by_cases hj : 1 + j < k
    · rw [if_pos (by omega), if_pos hj, hat, if_pos hj, keepf_ring f z n hn _ (by omega), if_neg (by omega)]
    · rw [if_neg hj]
      by_cases hj2 : 1 + j = k
      · rw [if_pos (by omega), keepf_ring f z n hn _ (by omega), if_pos (by omega)]
        simp [hj2]
      · rw [if_neg (by omega), List.getElem?_eq_none (by simp; omega)]

theorem getD_snoc_lt (l : List Int) (z : Int) (i : Nat) (h : i < l.length) : (l ++ [z]).getD i 0 = l.getD i 0 := by
  simp [List.getD_eq_getElem?_getD, List.getElem?_append_left h]
theorem getD_snoc_end (l : List Int) (z : Int) : (l ++ [z]).getD l.length 0 = z := by
  simp [List.getD_eq_getElem?_getD]
theorem sumT_snoc (l : List Int) (z : Int) : sumT (l ++ [z]) (l ++ [z]).length = sumT l l.length + z := by
  have h : ∀ i, i ≤ l.length → sumT (l ++ [z]) i = sumT l i := by
    intro i hi
    induction i with
    | zero => rfl
    | succ i ih => rw [sumT, sumT, ih (by omega), getD_snoc_lt l z i (by omega)]
  rw [show (l ++ [z]).length = l.length + 1 by simp, sumT, h _ (Nat.le_refl _), getD_snoc_end]
theorem mnT_snoc (l : List Int) (z : Int) : mnT (l ++ [z]) (l ++ [z]).length = if l.length = 0 then z else min (mnT l l.length) z := by
  rw [show (l ++ [z]).length = l.length + 1 by simp, mnT, getD_snoc_end]
  by_cases h0 : l.length = 0
  · rw [if_pos h0]
    have := List.eq_nil_of_length_eq_zero h0
    subst this
    simp [mnT]
  · rw [if_neg h0]
    have h : ∀ i, i ≤ l.length → mnT (l ++ [z]) i = mnT l i := by
      intro i hi
      induction i with
      | zero => rw [mnT, mnT, getD_snoc_lt l z 0 (by omega)]
      | succ i ih => rw [mnT, mnT, ih (by omega), getD_snoc_lt l z i (by omega)]
    rw [h _ (Nat.le_refl _)]
theorem mxT_snoc (l : List Int) (z : Int) : mxT (l ++ [z]) (l ++ [z]).length = if l.length = 0 then z else max (mxT l l.length) z := by
  rw [show (l ++ [z]).length = l.length + 1 by simp, mxT, getD_snoc_end]
  by_cases h0 : l.length = 0
  · rw [if_pos h0]
    have := List.eq_nil_of_length_eq_zero h0
    subst this
    simp [mxT]
  · rw [if_neg h0]
    have h : ∀ i, i ≤ l.length → mxT (l ++ [z]) i = mxT l i := by
      intro i hi
      induction i with
      | zero => rw [mxT, mxT, getD_snoc_lt l z 0 (by omega)]
      | succ i ih => rw [mxT, mxT, ih (by omega), getD_snoc_lt l z i (by omega)]
    rw [h _ (Nat.le_refl _)]

theorem Rge.mem {l : List Int} (h : Rge l) (z : Int) (hz : z ∈ l) : 0 ≤ z ∧ z ≤ 1048576 := by
  obtain ⟨i, hi, rfl⟩ := List.mem_iff_getElem.1 hz
  have := h i hi
  simpa [List.getD_eq_getElem?_getD, List.getElem?_eq_getElem hi] using this
theorem Rge.of {l : List Int} (h : ∀ z, z ∈ l → 0 ≤ z ∧ z ≤ 1048576) : Rge l := by
  intro i hi
  have := h l[i] (List.getElem_mem hi)
  simpa [List.getD_eq_getElem?_getD, List.getElem?_eq_getElem hi] using this

theorem trim_mem {l : List Int} {z : Int} (h : z ∈ trim l) : z ∈ l := by
  unfold trim at h
  split at h
  · exact List.mem_of_mem_drop h
  · exact h
theorem trim_len (l : List Int) (h : l.length ≤ 65) : (trim l).length = min l.length 64 := by
  unfold trim
  split
  · simp; omega
  · omega
theorem trim_last (l : List Int) (z : Int) : (trim (l ++ [z])).getLast? = some z := by
  unfold trim
  split
  · rename_i h
    simp at h
    rw [List.getLast?_drop, if_neg (by rw [List.length_append, List.length_singleton]; omega)]
    simp
  · simp

/-- The meter's numbers tell of all times, the last ones, and how many were late. -/
structure Rep (f : Nat → Int) (all last : List Int) (late : Int) : Prop where
  h65 : 0 ≤ f 65 ∧ f 65 ≤ 63
  h71 : f 71 = last.length
  hl : last.length = min all.length 64
  hw : win f (f 71).toNat = last
  h66 : f 66 = all.length
  h67 : f 67 = sumT all all.length
  h68 : f 68 = mnT all all.length
  h69 : f 69 = mxT all all.length
  h70 : f 70 = late
  hla : 0 ≤ late ∧ late ≤ all.length
  rall : Rge all
  sub : ∀ z, z ∈ last → z ∈ all
  tail : last.getLast? = all.getLast?

theorem Rep.rlast {f : Nat → Int} {all last : List Int} {late : Int} (h : Rep f all last late) : Rge last := Rge.of fun z hz => h.rall.mem z (h.sub z hz)
theorem Rep.fine {f : Nat → Int} {all last : List Int} {late : Int} (h : Rep f all last late) (hl : all.length ≤ 1000) : Fine f := by
  have h1 := h.h71
  have h2 := h.hl
  have h3 := h.h66
  have h4 := h.h67
  have h5 := sumT_bd h.rall all.length (Nat.le_refl _)
  have h6 := h.h70
  have h7 := h.hla
  exact ⟨h.h65, by omega, by omega, by omega, by omega⟩
theorem fresh_rep (L : Int) : Rep (fresh L) [] [] 0 := by
  refine ⟨?_, rfl, rfl, rfl, rfl, rfl, rfl, rfl, rfl, by simp, ?_, ?_, rfl⟩
  · simp [fresh]
  · intro i hi; simp at hi
  · intro z hz; simp at hz

theorem add3_at (f : Nat → Int) (z : Int) : add3 f z 66 = f 66 + 1 ∧ add3 f z 67 = f 67 + z ∧ add3 f z 68 = (if f 66 = 0 then z else min (f 68) z) ∧ add3 f z 69 = (if f 66 = 0 then z else max (f 69) z) ∧ add3 f z 70 = if f 0 < z then f 70 + 1 else f 70 := by
  unfold add3 add2 add1 add0
  by_cases h : f 66 = 0 <;> by_cases h2 : f 0 < z <;> simp [h, h2, upd]

theorem addf_rep {f : Nat → Int} {all last : List Int} {late : Int} (h : Rep f all last late) (x : Int) :
    Rep (addf f x) (all ++ [brg x]) (trim (last ++ [brg x])) (if f 0 < brg x then late + 1 else late) := by
  have hb := brg_bd x
  obtain ⟨z, hz⟩ : ∃ z, z = brg x := ⟨_, rfl⟩
  unfold addf
  rw [← hz] at hb ⊢
  obtain ⟨a66, a67, a68, a69, a70⟩ := add3_at f z
  have s65 := add3_same f z 65 (by omega)
  have s71 := add3_same f z 71 (by omega)
  have b65 : 0 ≤ add3 f z 65 ∧ add3 f z 65 ≤ 63 := by rw [s65]; exact h.h65
  have hl := h.hl
  have h66 := h.h66
  have hw : win (add3 f z) (add3 f z 71).toNat = last := by
    rw [s71, ← h.hw]
    unfold win
    apply List.map_congr_left
    intro j hj
    rw [s65, s71]
    exact add3_same f z _ (by omega)
  have w1 := keepf_win (add3 f z) z last b65 (by rw [s71]; exact h.h71) (by omega) hw
  have hlen : (trim (last ++ [z])).length = min (all ++ [z]).length 64 := by
    rw [trim_len _ (by simp; omega)]
    simp
    omega
  refine ⟨?_, ?_, hlen, w1, ?_, ?_, ?_, ?_, ?_, ?_, ?_, ?_, ?_⟩
  · rw [keepf_65]; omega
  · rw [keepf_71, s71, h.h71, hlen]; simp; omega
  · rw [keepf_else _ _ _ b65 (by omega), a66, h66]; simp
  · rw [keepf_else _ _ _ b65 (by omega), a67, h.h67, sumT_snoc]
  · rw [keepf_else _ _ _ b65 (by omega), a68, h.h68, mnT_snoc, h66]; simp
  · rw [keepf_else _ _ _ b65 (by omega), a69, h.h69, mxT_snoc, h66]; simp
  · rw [keepf_else _ _ _ b65 (by omega), a70, h.h70]
  · have := h.hla; simp; split <;> omega
  · refine Rge.of fun y hy => ?_
    rcases List.mem_append.1 hy with hy | hy
    · exact h.rall.mem y hy
    · have : y = z := by simpa using hy
      omega
  · intro y hy
    rcases List.mem_append.1 (trim_mem hy) with hy | hy
    · exact List.mem_append.2 (.inl (h.sub y hy))
    · exact List.mem_append.2 (.inr hy)
  · rw [trim_last]; simp

theorem addf_0 {f : Nat → Int} {all last : List Int} {late : Int} (h : Rep f all last late) (x : Int) : addf f x 0 = f 0 := by
  unfold addf
  have s65 := add3_same f (brg x) 65 (by omega)
  rw [keepf_else _ _ _ (by rw [s65]; exact h.h65) (by omega), add3_same f _ 0 (by omega)]

/-- Of numbers, the mean lies between the least and the greatest. -/
theorem mnT_le (l : List Int) (i : Nat) : ∀ j, j < i → mnT l i ≤ l.getD j 0 := by
  induction i with
  | zero => intro j hj; omega
  | succ i ih =>
    intro j hj
    rw [mnT]
    by_cases h : j = i
    · subst h; omega
    · have := ih j (by omega); omega
theorem mxT_ge (l : List Int) (i : Nat) : ∀ j, j < i → l.getD j 0 ≤ mxT l i := by
  induction i with
  | zero => intro j hj; omega
  | succ i ih =>
    intro j hj
    rw [mxT]
    by_cases h : j = i
    · subst h; omega
    · have := ih j (by omega); omega
theorem sumT_between (l : List Int) (a b : Int) (i : Nat) (h : ∀ j, j < i → a ≤ l.getD j 0 ∧ l.getD j 0 ≤ b) : a * i ≤ sumT l i ∧ sumT l i ≤ b * i := by
  induction i with
  | zero => simp [sumT]
  | succ i ih =>
    have h1 := ih fun j hj => h j (by omega)
    have h2 := h i (by omega)
    rw [sumT]
    have e1 : a * ((i + 1 : Nat) : Int) = a * i + a := by rw [Int.natCast_add, Int.mul_add]; simp
    have e2 : b * ((i + 1 : Nat) : Int) = b * i + b := by rw [Int.natCast_add, Int.mul_add]; simp
    omega
theorem mean_between (l : List Int) (h0 : 0 < l.length) : mnT l l.length ≤ sumT l l.length / l.length ∧ sumT l l.length / l.length ≤ mxT l l.length := by
  obtain ⟨h1, h2⟩ := sumT_between l (mnT l l.length) (mxT l l.length) l.length fun j hj => ⟨mnT_le l _ j hj, mxT_ge l _ j hj⟩
  constructor
  · exact (Int.le_ediv_iff_mul_le (by omega)).2 h1
  · refine Int.le_of_lt_add_one ((Int.ediv_lt_iff_lt_mul (by omega)).2 ?_)
    rw [Int.add_mul]; omega

theorem few_le {n : Nat} {s : Int} : few n s ≤ n := by
  unfold few
  have h : 0 ≤ clampS s ∧ clampS s ≤ 100 := by unfold clampS; omega
  have h1 : clampS s * n ≤ 100 * n := Int.mul_le_mul_of_nonneg_right h.2 (by omega)
  have h2 : 0 ≤ clampS s * n := Int.mul_nonneg h.1 (by omega)
  omega
theorem few_mono {n : Nat} {s t : Int} (h : s ≤ t) : few n s ≤ few n t := by
  unfold few
  have h0 : clampS s ≤ clampS t := by unfold clampS; omega
  have h1 : clampS s * n ≤ clampS t * n := Int.mul_le_mul_of_nonneg_right h0 (by omega)
  omega
theorem few_zero (n : Nat) : few n 0 = 0 := by
  unfold few
  rw [show clampS 0 = 0 from rfl, Int.zero_mul]; rfl
theorem sorted_mono (xs : List Int) (i j : Nat) (h : i ≤ j) (hj : j < xs.length) : (sorted xs).getD i 0 ≤ (sorted xs).getD j 0 := by
  have hl := sorted_len xs
  rw [List.getD_eq_getElem?_getD, List.getD_eq_getElem?_getD, List.getElem?_eq_getElem (by omega), List.getElem?_eq_getElem (by omega)]
  simp only [Option.getD_some]
  by_cases e : i = j
  · subst e; omega
  · exact List.pairwise_iff_getElem.1 (sorted_pw xs) i j (by omega) (by omega) (by omega)
theorem sorted_mem (xs : List Int) (i : Nat) (h : i < xs.length) : (sorted xs).getD i 0 ∈ xs := by
  have hl := sorted_len xs
  rw [List.getD_eq_getElem?_getD, List.getElem?_eq_getElem (by omega)]
  exact (sorted_perm xs).mem_iff.1 (List.getElem_mem _)
/-- The share's number falls as the share rises. -/
theorem abv_anti (xs : List Int) {s t : Int} (h : s ≤ t) : abv xs t ≤ abv xs s := by
  unfold abv
  by_cases h0 : xs.length = 0
  · rw [if_pos h0, if_pos h0]; omega
  · rw [if_neg h0, if_neg h0]
    have := few_mono (n := xs.length) h
    exact sorted_mono xs _ _ (by omega) (by omega)
theorem abv_mem (xs : List Int) (s : Int) (h : 0 < xs.length) : abv xs s ∈ xs := by
  unfold abv
  rw [if_neg (by omega)]
  exact sorted_mem xs _ (by omega)
/-- The greatest, by the window's walk. -/
def gt (xs : List Int) : Nat → Int
  | 0 => xs.getD 0 0
  | i + 1 => max (gt xs i) (xs.getD i 0)
theorem gt_ge (xs : List Int) (i j : Nat) (hj : j < i) : xs.getD j 0 ≤ gt xs i := by
  induction i with
  | zero => omega
  | succ i ih =>
    rw [gt]
    by_cases h : j = i
    · subst h; omega
    · have := ih (by omega); omega
theorem gt_mem (xs : List Int) (h : 0 < xs.length) (i : Nat) (hi : i ≤ xs.length) : gt xs i ∈ xs := by
  have hm : ∀ j, j < xs.length → xs.getD j 0 ∈ xs := by
    intro j hj
    rw [List.getD_eq_getElem?_getD, List.getElem?_eq_getElem hj]
    exact List.getElem_mem _
  induction i with
  | zero => exact hm 0 h
  | succ i ih =>
    rw [gt]
    rcases Int.le_total (gt xs i) (xs.getD i 0) with h1 | h1
    · rw [Int.max_eq_right h1]; exact hm i (by omega)
    · rw [Int.max_eq_left h1]; exact ih (by omega)
theorem abv_zero (xs : List Int) (h : 0 < xs.length) : abv xs 0 = gt xs xs.length := by
  have h1 : abv xs 0 ≤ gt xs xs.length := by
    obtain ⟨i, hi, e⟩ := List.mem_iff_getElem.1 (abv_mem xs 0 h)
    rw [← e]
    have := gt_ge xs xs.length i hi
    rwa [List.getD_eq_getElem?_getD, List.getElem?_eq_getElem hi] at this
  have h2 : gt xs xs.length ≤ abv xs 0 := by
    have hm := gt_mem xs h xs.length (Nat.le_refl _)
    rw [← (sorted_perm xs).mem_iff] at hm
    obtain ⟨i, hi, e⟩ := List.mem_iff_getElem.1 hm
    have hl := sorted_len xs
    have := sorted_mono xs i (xs.length - 1) (by omega) (by omega)
    unfold abv
    rw [if_neg (by omega), few_zero, Nat.sub_zero]
    rw [← e]
    rwa [List.getD_eq_getElem?_getD, List.getElem?_eq_getElem hi] at this
  omega
theorem least_abv {f : Nat → Int} {all last : List Int} {late : Int} (h : Rep f all last late) (s : Int) (h0 : 0 < last.length) : mnT all all.length ≤ abv last s := by
  obtain ⟨i, hi, e⟩ := List.mem_iff_getElem.1 (h.sub _ (abv_mem last s h0))
  rw [← e]
  have := mnT_le all all.length i hi
  rwa [List.getD_eq_getElem?_getD, List.getElem?_eq_getElem hi] at this


def runf (L : Int) (l : List Int) : Nat → Nat → Int
  | 0 => fresh L
  | i + 1 => addf (runf L l i) (l.getD i 0)
def runa (l : List Int) : Nat → List Int
  | 0 => []
  | i + 1 => runa l i ++ [brg (l.getD i 0)]
def runl (l : List Int) : Nat → List Int
  | 0 => []
  | i + 1 => trim (runl l i ++ [brg (l.getD i 0)])
def runz (L : Int) (l : List Int) : Nat → Int
  | 0 => 0
  | i + 1 => if L < brg (l.getD i 0) then runz L l i + 1 else runz L l i
theorem runf_0 (L : Int) (l : List Int) (i : Nat) : runf L l i 0 = L ∧ Rep (runf L l i) (runa l i) (runl l i) (runz L l i) := by
  induction i with
  | zero => exact ⟨by simp [runf, fresh], fresh_rep L⟩
  | succ i ih =>
    refine ⟨by rw [runf, addf_0 ih.2, ih.1], ?_⟩
    have := addf_rep ih.2 (l.getD i 0)
    rw [ih.1] at this
    exact this
theorem run_rep (L : Int) (l : List Int) (i : Nat) : Rep (runf L l i) (runa l i) (runl l i) (runz L l i) := (runf_0 L l i).2
theorem runa_len (l : List Int) (i : Nat) : (runa l i).length = i := by
  induction i with
  | zero => rfl
  | succ i ih => rw [runa]; simp [ih]
theorem runa_last (l : List Int) (i : Nat) : (runa l (i + 1)).getLast? = some (brg (l.getD i 0)) := by rw [runa]; simp

theorem beat4 : beat [3, 9, 3, 9] = 2 := by decide
theorem abv4 : abv [3, 9, 3, 9] 50 = 3 := by
  rw [← above_eq _ (fun i hi => (show ∀ i, i < 4 → 0 ≤ ([3, 9, 3, 9] : List Int).getD i 0 ∧ ([3, 9, 3, 9] : List Int).getD i 0 ≤ 1048576 from by decide) i hi)]
  decide

end Go.Proofs.Ytaombjljahpncaa
