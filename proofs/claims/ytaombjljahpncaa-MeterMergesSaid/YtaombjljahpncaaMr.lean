/- What two meters made one tell. Plain law. -/
import Derived.Test.YtaombjljahpncaaMm
import Derived.Test.YtaombjljahpncaaMq
set_option linter.unusedVariables false
set_option linter.unusedSimpArgs false
namespace Go.Proofs.Ytaombjljahpncaa
open Go.RowKit

theorem getD_app_left (A B : List Int) (i : Nat) (h : i < A.length) : (A ++ B).getD i 0 = A.getD i 0 := by
  simp [List.getD_eq_getElem?_getD, List.getElem?_append_left h]
theorem getD_app_right (A B : List Int) (n : Nat) : (A ++ B).getD (A.length + n) 0 = B.getD n 0 := by
  simp [List.getD_eq_getElem?_getD, List.getElem?_append_right]
theorem sumT_app (A B : List Int) : sumT (A ++ B) (A ++ B).length = sumT A A.length + sumT B B.length := by
  have h0 : ∀ i, i ≤ A.length → sumT (A ++ B) i = sumT A i := by
    intro i hi
    induction i with
    | zero => rfl
    | succ i ih => rw [sumT, sumT, ih (by omega), getD_app_left A B i (by omega)]
  have h1 : ∀ n, sumT (A ++ B) (A.length + n) = sumT A A.length + sumT B n := by
    intro n
    induction n with
    | zero => rw [Nat.add_zero, h0 _ (Nat.le_refl _)]; simp [sumT]
    | succ n ih => rw [← Nat.add_assoc, sumT, sumT, ih, getD_app_right]; omega
  rw [List.length_append, h1]
theorem mnT_app (A B : List Int) (hB : 0 < B.length) : mnT (A ++ B) (A ++ B).length = if A.length = 0 then mnT B B.length else min (mnT A A.length) (mnT B B.length) := by
  by_cases hA : A.length = 0
  · rw [if_pos hA, List.eq_nil_of_length_eq_zero hA]; rfl
  · rw [if_neg hA]
    have h0 : ∀ i, i ≤ A.length → mnT (A ++ B) i = mnT A i := by
      intro i hi
      induction i with
      | zero => rw [mnT, mnT, getD_app_left A B 0 (by omega)]
      | succ i ih => rw [mnT, mnT, ih (by omega), getD_app_left A B i (by omega)]
    have h1 : ∀ n, mnT (A ++ B) (A.length + (n + 1)) = min (mnT A A.length) (mnT B (n + 1)) := by
      intro n
      induction n with
      | zero => rw [← Nat.add_assoc, mnT, Nat.add_zero, h0 _ (Nat.le_refl _)]; have := getD_app_right A B 0; rw [Nat.add_zero] at this; rw [this, mnT, mnT]; omega
      | succ n ih =>
        have e : mnT B (n + 1 + 1) = min (mnT B (n + 1)) (B.getD (n + 1) 0) := rfl
        rw [← Nat.add_assoc, mnT, ih, getD_app_right, e]; omega
    rw [List.length_append]
    obtain ⟨n, hn⟩ : ∃ n, B.length = n + 1 := ⟨B.length - 1, by omega⟩
    rw [hn, h1]
theorem mxT_app (A B : List Int) (hB : 0 < B.length) : mxT (A ++ B) (A ++ B).length = if A.length = 0 then mxT B B.length else max (mxT A A.length) (mxT B B.length) := by
  by_cases hA : A.length = 0
  · rw [if_pos hA, List.eq_nil_of_length_eq_zero hA]; rfl
  · rw [if_neg hA]
    have h0 : ∀ i, i ≤ A.length → mxT (A ++ B) i = mxT A i := by
      intro i hi
      induction i with
      | zero => rw [mxT, mxT, getD_app_left A B 0 (by omega)]
      | succ i ih => rw [mxT, mxT, ih (by omega), getD_app_left A B i (by omega)]
    have h1 : ∀ n, mxT (A ++ B) (A.length + (n + 1)) = max (mxT A A.length) (mxT B (n + 1)) := by
      intro n
      induction n with
      | zero => rw [← Nat.add_assoc, mxT, Nat.add_zero, h0 _ (Nat.le_refl _)]; have := getD_app_right A B 0; rw [Nat.add_zero] at this; rw [this, mxT, mxT]; omega
      | succ n ih =>
        have e : mxT B (n + 1 + 1) = max (mxT B (n + 1)) (B.getD (n + 1) 0) := rfl
        rw [← Nat.add_assoc, mxT, ih, getD_app_right, e]; omega
    rw [List.length_append]
    obtain ⟨n, hn⟩ : ∃ n, B.length = n + 1 := ⟨B.length - 1, by omega⟩
    rw [hn, h1]

theorem foldkeep_win (l : List Int) : ∀ (f : Nat → Int) (last : List Int), (0 ≤ f 65 ∧ f 65 ≤ 63) → f 71 = last.length → last.length ≤ 64 → win f (f 71).toNat = last →
    win (l.foldl keepf f) (l.foldl keepf f 71).toNat = l.foldl (fun acc x => trim (acc ++ [x])) last ∧ l.foldl keepf f 71 = (l.foldl (fun acc x => trim (acc ++ [x])) last).length := by
  induction l with
  | nil => intro f last h1 h2 h3 h4; exact ⟨h4, h2⟩
  | cons x r ih =>
    intro f last h1 h2 h3 h4
    have hw := keepf_win f x last h1 h2 h3 h4
    have hlen := trim_len (last ++ [x]) (by simp; omega)
    refine ih (keepf f x) (trim (last ++ [x])) ?_ ?_ ?_ hw
    · rw [keepf_65]; omega
    · rw [keepf_71, h2, hlen]; simp; omega
    · rw [hlen]; omega
theorem fold_trim (r : List Int) : ∀ (l : List Int), l.length ≤ 64 → r.foldl (fun acc x => trim (acc ++ [x])) l = last64 (l ++ r) := by
  induction r with
  | nil => intro l h; unfold last64; rw [List.append_nil, show l.length - 64 = 0 by omega]; rfl
  | cons x r ih =>
    intro l h
    have hlen := trim_len (l ++ [x]) (by simp; omega)
    rw [List.foldl_cons, ih _ (by omega)]
    have happ : l ++ x :: r = (l ++ [x]) ++ r := by simp
    rw [happ]
    by_cases h64 : l.length = 64
    · have ht : trim (l ++ [x]) = (l ++ [x]).drop 1 := by unfold trim; exact if_pos (by simp; omega)
      rw [ht]
      have hd : (l ++ [x]).drop 1 ++ r = ((l ++ [x]) ++ r).drop 1 := by
        cases l with
        | nil => simp at h64
        | cons y t => simp
      rw [hd]
      unfold last64
      rw [List.drop_drop]
      congr 1
      simp
      omega
    · have ht : trim (l ++ [x]) = l ++ [x] := by unfold trim; exact if_neg (by simp; omega)
      rw [ht]
theorem foldkeep_else (l : List Int) (i : Nat) (hi : i = 0 ∨ (65 < i ∧ i ≠ 71)) : ∀ (f : Nat → Int), (0 ≤ f 65 ∧ f 65 ≤ 63) → l.foldl keepf f i = f i := by
  induction l with
  | nil => intro f _; rfl
  | cons x r ih =>
    intro f h
    rw [List.foldl_cons, ih (keepf f x) (by rw [keepf_65]; omega), keepf_else f x i h hi]

theorem mrg4_vals (f g : Nat → Int) : mrg4 f g 66 = f 66 + g 66 ∧ mrg4 f g 67 = f 67 + g 67 ∧ mrg4 f g 68 = (if f 66 = 0 then g 68 else min (f 68) (g 68)) ∧ mrg4 f g 69 = (if f 66 = 0 then g 69 else max (f 69) (g 69)) ∧ mrg4 f g 70 = f 70 + g 70 := by
  unfold mrg4 mrg3 mrg2 mrg1 mrg0
  by_cases h : f 66 = 0 <;> simp [h, upd]

theorem mrg_rep {f g : Nat → Int} {A la B lb : List Int} {za zb : Int} (h : Rep f A la za) (k : Rep g B lb zb) : Rep (mrgf f g) (A ++ B) (last64 (la ++ lb)) (za + zb) := by
  have hl := h.hl
  have kl := k.hl
  have h66 := h.h66
  have k66 := k.h66
  have hla := h.hla
  have kla := k.hla
  by_cases h0 : g 66 = 0
  · have hB : B = [] := List.eq_nil_of_length_eq_zero (by omega)
    have hlb : lb = [] := List.eq_nil_of_length_eq_zero (by omega)
    have hz : zb = 0 := by omega
    subst hB hlb hz
    have e1 : mrgf f g = f := by unfold mrgf; exact if_pos h0
    have e2 : last64 (la ++ []) = la := by unfold last64; rw [List.append_nil, show la.length - 64 = 0 by omega]; rfl
    rw [e1, e2, List.append_nil, Int.add_zero]
    exact h
  · have hB : 0 < B.length := by omega
    have e1 : mrgf f g = lb.foldl keepf (mrg4 f g) := by unfold mrgf; rw [if_neg h0, k.hw]
    have b65 : 0 ≤ mrg4 f g 65 ∧ mrg4 f g 65 ≤ 63 := by rw [mrg4_at f g 65 (by omega)]; exact h.h65
    have w4 : win (mrg4 f g) (mrg4 f g 71).toNat = la := by
      rw [mrg4_at f g 71 (by omega), ← h.hw]
      unfold win
      apply List.map_congr_left
      intro j hj
      rw [mrg4_at f g 65 (by omega), mrg4_at f g 71 (by omega)]
      exact mrg4_at f g _ (by omega)
    have h71 : mrg4 f g 71 = la.length := by rw [mrg4_at f g 71 (by omega)]; exact h.h71
    obtain ⟨fw, f71⟩ := foldkeep_win lb (mrg4 f g) la b65 h71 (by omega) w4
    rw [fold_trim lb la (by omega)] at fw f71
    obtain ⟨v66, v67, v68, v69, v70⟩ := mrg4_vals f g
    have fb := foldkeep_bd lb (mrg4 f g) b65 (by omega)
    have hlen : (last64 (la ++ lb)).length = min (A ++ B).length 64 := by
      unfold last64
      rw [List.length_drop, List.length_append, List.length_append]
      omega
    rw [e1]
    refine ⟨fb.1, f71, hlen, fw, ?_, ?_, ?_, ?_, ?_, ?_, ?_, ?_, ?_⟩
    · rw [foldkeep_else lb 66 (by omega) _ b65, v66, h66, k66]; simp
    · rw [foldkeep_else lb 67 (by omega) _ b65, v67, h.h67, k.h67, sumT_app]
    · rw [foldkeep_else lb 68 (by omega) _ b65, v68, h.h68, k.h68, mnT_app A B hB, h66]; simp
    · rw [foldkeep_else lb 69 (by omega) _ b65, v69, h.h69, k.h69, mxT_app A B hB, h66]; simp
    · rw [foldkeep_else lb 70 (by omega) _ b65, v70, h.h70, k.h70]
    · simp; omega
    · refine Rge.of fun y hy => ?_
      rcases List.mem_append.1 hy with hy | hy
      · exact h.rall.mem y hy
      · exact k.rall.mem y hy
    · intro y hy
      rcases List.mem_append.1 (List.mem_of_mem_drop hy) with hy | hy
      · exact List.mem_append.2 (.inl (h.sub y hy))
      · exact List.mem_append.2 (.inr (k.sub y hy))
    · have hlb : lb ≠ [] := by intro e; rw [e] at kl; simp at kl; omega
      have hBn : B ≠ [] := by intro e; rw [e] at hB; simp at hB
      unfold last64
      have hlbl : 0 < lb.length := List.length_pos_iff.2 hlb
      rw [List.getLast?_drop, if_neg (by rw [List.length_append]; omega), List.getLast?_append, List.getLast?_append, k.tail]
      cases e : B.getLast? with
      | none => exact absurd (List.getLast?_eq_none_iff.1 e) hBn
      | some y => rfl

end Go.Proofs.Ytaombjljahpncaa
