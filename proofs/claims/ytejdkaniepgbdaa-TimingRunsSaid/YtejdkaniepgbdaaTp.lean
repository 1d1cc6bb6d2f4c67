/- What may run: each way goes on, as plain law. -/
import Derived.Test.YtejdkaniepgbdaaTe
set_option linter.unusedVariables false
set_option linter.unusedSimpArgs false
namespace Go.Proofs.Ytejdkaniepgbdaa
open Go.RowKit

theorem updA_some {A : Nat → Option St} {i : Nat} {s : St} {j : Nat} (h : A j ≠ none) : updA A i s j ≠ none := by
  unfold updA
  by_cases e : j = i
  · rw [if_pos e]; simp
  · rw [if_neg e]; exact h
theorem updA_self {A : Nat → Option St} {i : Nat} {s : St} : updA A i s i ≠ none := by
  unfold updA
  rw [if_pos rfl]; simp
theorem updA_far {A : Nat → Option St} {i : Nat} {s : St} {j : Nat} (h : j ≠ i) : updA A i s j = A j := by
  unfold updA
  rw [if_neg h]
theorem leadA_some {A : Nat → Option St} {i : Nat} {s : St} {j : Nat} (h : A j ≠ none) : leadA A i s j ≠ none := by
  unfold leadA
  cases hA : A i with
  | none => exact updA_some h
  | some t => exact updA_some h
theorem leadA_self {A : Nat → Option St} {i : Nat} {s : St} : leadA A i s i ≠ none := by
  unfold leadA
  cases hA : A i with
  | none => exact updA_self
  | some t => exact updA_self
theorem leadA_far {A : Nat → Option St} {i : Nat} {s : St} {j : Nat} (h : j ≠ i) : leadA A i s j = A j := by
  unfold leadA
  cases hA : A i with
  | none => exact updA_far h
  | some t => exact updA_far h
theorem leadIf_some {b : Bool} {A : Nat → Option St} {i : Nat} {s : St} {j : Nat} (h : A j ≠ none) : leadIf b A i s j ≠ none := by
  unfold leadIf
  cases b
  · exact h
  · exact leadA_some h
theorem leadIf_far {b : Bool} {A : Nat → Option St} {i : Nat} {s : St} {j : Nat} (h : b = true → j ≠ i) : leadIf b A i s j = A j := by
  unfold leadIf
  cases b
  · rfl
  · exact leadA_far (h rfl)

/-- What a step that errs not has shown. -/
theorem stepI_inv {n j : Nat} {A A1 : Nat → Option St} {i : Ins} (h : stepI n j A i = .tab A1) :
    rightb i = true ∧ (∀ q, A q ≠ none → A1 q ≠ none) ∧ (∀ q, q ≤ j → A1 q = A q) ∧
    (A j ≠ none → (onb i = true → A1 (j + 1) ≠ none) ∧ (jumpsb i = true → (j : Int) < i.at_ ∧ i.at_ ≤ n ∧ A1 i.at_.toNat ≠ none)) := by
  unfold stepI at h
  by_cases hR : rightb i = false
  · rw [if_pos hR] at h; cases h
  rw [if_neg hR] at h
  refine ⟨by simpa using hR, ?_⟩
  cases hA : A j with
  | none =>
    rw [hA] at h
    injection h with h
    subst h
    exact ⟨fun q hq => hq, fun q _ => rfl, fun h => absurd rfl h⟩
  | some s =>
    obtain ⟨k, bs⟩ := s
    rw [hA] at h
    dsimp only at h
    by_cases hJ : jumpsb i = true ∧ (i.at_ ≤ j ∨ n < i.at_)
    · rw [if_pos hJ] at h; cases h
    rw [if_neg hJ] at h
    by_cases he : (behI k bs i).1 ≠ 0
    · rw [if_pos he] at h; cases h
    rw [if_neg he] at h
    by_cases h1 : okIf (onb i) A (j + 1) (behI k bs i).2 = false
    · rw [if_pos h1] at h; cases h
    rw [if_neg h1] at h
    by_cases h2 : okIf (jumpsb i) (leadIf (onb i) A (j + 1) (behI k bs i).2) i.at_.toNat (behI k bs i).2 = false
    · rw [if_pos h2] at h; cases h
    rw [if_neg h2] at h
    injection h with h
    subst h
    refine ⟨fun q hq => leadIf_some (leadIf_some hq), fun q hq => ?_, fun _ => ⟨fun ho => leadIf_some ?_, fun hj => ?_⟩⟩
    · rw [leadIf_far (fun hj => ?_), leadIf_far (fun _ => by omega)]
      have : ¬ (i.at_ ≤ j ∨ n < i.at_) := fun h => hJ ⟨hj, h⟩
      omega
    · rw [ho]
      exact leadA_self
    · have : ¬ (i.at_ ≤ j ∨ n < i.at_) := fun h => hJ ⟨hj, h⟩
      refine ⟨by omega, by omega, ?_⟩
      rw [hj]
      exact leadA_self

theorem runI_cons {n j : Nat} {i : Ins} {l : List Ins} {A A' : Nat → Option St} (h : runI n (i :: l) j A = .tab A') : ∃ A1, stepI n j A i = .tab A1 ∧ runI n l (j + 1) A1 = .tab A' := by
  rw [runI] at h
  cases hs : stepI n j A i with
  | err e p => rw [hs] at h; cases h
  | tab A1 => rw [hs] at h; exact ⟨A1, rfl, h⟩
theorem runI_some {n : Nat} {l : List Ins} : ∀ {j : Nat} {A A' : Nat → Option St}, runI n l j A = .tab A' → (∀ q, A q ≠ none → A' q ≠ none) ∧ (∀ q, q ≤ j → A' q = A q) := by
  induction l with
  | nil =>
    intro j A A' h
    rw [runI] at h
    injection h with h
    subst h
    exact ⟨fun q hq => hq, fun q _ => rfl⟩
  | cons i l ih =>
    intro j A A' h
    obtain ⟨A1, h1, h2⟩ := runI_cons h
    obtain ⟨_, m1, m2, _⟩ := stepI_inv h1
    obtain ⟨m3, m4⟩ := ih h2
    exact ⟨fun q hq => m3 q (m1 q hq), fun q hq => by rw [m4 q (by omega), m2 q hq]⟩
theorem runI_all {n : Nat} {l : List Ins} : ∀ {j : Nat} {A A' : Nat → Option St}, runI n l j A = .tab A' → ∀ q (hq : q < l.length), rightb l[q] = true ∧
    (A' (j + q) ≠ none → (onb l[q] = true → A' (j + q + 1) ≠ none) ∧ (jumpsb l[q] = true → ((j + q : Nat) : Int) < l[q].at_ ∧ l[q].at_ ≤ n ∧ A' l[q].at_.toNat ≠ none)) := by
  induction l with
  | nil => intro j A A' _ q hq; simp at hq
  | cons i l ih =>
    intro j A A' h q hq
    obtain ⟨A1, h1, h2⟩ := runI_cons h
    obtain ⟨m0, m1, m2, m5⟩ := stepI_inv h1
    obtain ⟨m3, m4⟩ := runI_some h2
    cases q with
    | zero =>
      refine ⟨m0, fun hA => ?_⟩
      have hAj : A j ≠ none := by
        have e : A' j = A j := by rw [m4 j (by omega), m2 j (Nat.le_refl _)]
        rw [← e]
        exact hA
      obtain ⟨k1, k2⟩ := m5 hAj
      exact ⟨fun ho => m3 _ (k1 ho), fun hj => ⟨(k2 hj).1, (k2 hj).2.1, m3 _ (k2 hj).2.2⟩⟩
    | succ q =>
      have := ih h2 q (by simpa using hq)
      simpa [Nat.add_assoc, Nat.add_comm 1 q, Nat.add_left_comm] using this

/-- What a program that may run has. -/
structure Ok (l : List Ins) (A : Nat → Option St) : Prop where
  right : ∀ j (h : j < l.length), rightb l[j] = true
  go : ∀ j, j < l.length → A j ≠ none → ∀ t ∈ ldAt l j, (j : Int) < t ∧ t ≤ l.length ∧ (t < l.length → A t.toNat ≠ none)
  start : A 0 ≠ none
  pos : ∀ j, j < l.length → ∀ t ∈ ldAt l j, 0 ≤ t
  len : l.length ≤ 200

theorem right_jump {i : Ins} (h : rightb i = true) (hj : 25 ≤ i.op ∧ i.op ≤ 27) : 0 ≤ i.at_ := by
  have hc : cls i.op = 3 := by
    obtain ⟨op, kind, area, at_, n⟩ := i
    dsimp only at hj ⊢
    obtain rfl | rfl | rfl : op = 25 ∨ op = 26 ∨ op = 27 := by omega
    all_goals rfl
  unfold rightb at h
  rw [hc] at h
  simp at h
  exact h.2.2.1

theorem allI_ok {l : List Ins} {A : Nat → Option St} (h : allI l = .tab A) : Ok l A := by
  unfold allI at h
  by_cases hb : 200 < l.length
  · rw [if_pos hb] at h; cases h
  rw [if_neg hb] at h
  cases hr : runI l.length l 0 startA with
  | err e p => rw [hr] at h; cases h
  | tab A' =>
    rw [hr] at h
    dsimp only at h
    have e : A' = A := by
      cases hA : A' l.length with
      | none => rw [hA] at h; injection h
      | some s =>
        obtain ⟨k, bs⟩ := s
        rw [hA] at h
        dsimp only at h
        by_cases h0 : 0 < bs.length
        · rw [if_pos h0] at h; cases h
        · rw [if_neg h0] at h; injection h
    subst e
    have hall := runI_all hr
    have hst := (runI_some hr).1 0 (show startA 0 ≠ none from updA_self)
    have hgo : ∀ j (hj : j < l.length), A' j ≠ none → ∀ t ∈ ldI l.length j l[j], (j : Int) < t ∧ t ≤ l.length ∧ (t < l.length → A' t.toNat ≠ none) := by
      intro j hj hA t ht
      obtain ⟨h0, h1⟩ := hall j hj
      rw [Nat.zero_add] at h1
      obtain ⟨h2, h3⟩ := h1 hA
      generalize l[j] = i at *
      have hjn : (j : Int) < l.length := by omega
      have next : onb i = true → ∀ t : Int, t = j + 1 → (j : Int) < t ∧ t ≤ l.length ∧ (t < l.length → A' t.toNat ≠ none) := by
        intro ho t e
        subst e
        refine ⟨by omega, by omega, fun _ => ?_⟩
        rw [show ((j : Int) + 1).toNat = j + 1 by omega]
        exact h2 ho
      have last : ∀ t : Int, t = l.length → (j : Int) < t ∧ t ≤ l.length ∧ (t < l.length → A' t.toNat ≠ none) := by
        intro t e
        subst e
        exact ⟨hjn, Int.le_refl _, fun h => absurd h (by omega)⟩
      have jump : jumpsb i = true → ∀ t : Int, t = i.at_ → (j : Int) < t ∧ t ≤ l.length ∧ (t < l.length → A' t.toNat ≠ none) := by
        intro hj2 t e
        subst e
        obtain ⟨k1, k2, k3⟩ := h3 hj2
        exact ⟨k1, k2, fun _ => k3⟩
      unfold ldI at ht
      have hon : ∀ x : Int, i.op = x → x ≠ 25 → x ≠ 28 → onb i = true := by
        intro x e h1 h2
        unfold onb
        rw [e]
        simp [h1, h2]
      have hju : 25 ≤ i.op → i.op ≤ 27 → jumpsb i = true := by
        intro h1 h2
        unfold jumpsb
        simp [h1, h2]
      by_cases c1 : i.op = 25
      · rw [if_pos c1] at ht
        simp at ht
        exact jump (hju (by omega) (by omega)) t ht
      rw [if_neg c1] at ht
      by_cases c2 : i.op = 26 ∨ i.op = 27
      · rw [if_pos c2] at ht
        have ho : onb i = true := by rcases c2 with c | c <;> exact hon _ c (by decide) (by decide)
        split at ht
        · simp at ht
          exact next ho t ht
        · simp at ht
          rcases ht with ht | ht
          · exact next ho t ht
          · exact jump (hju (by omega) (by omega)) t ht
      rw [if_neg c2] at ht
      by_cases c3 : i.op = 28
      · rw [if_pos c3] at ht
        simp at ht
        exact last t ht
      rw [if_neg c3] at ht
      have ho : onb i = true := hon _ rfl c1 c3
      by_cases c4 : i.op = 29 ∨ i.op = 30
      · rw [if_pos c4] at ht
        split at ht
        · simp at ht
          exact next ho t ht
        · simp at ht
          rcases ht with ht | ht
          · exact next ho t ht
          · exact last t ht
      rw [if_neg c4] at ht
      simp at ht
      exact next ho t ht
    refine ⟨fun j hj => (hall j hj).1, fun j hj hA t ht => hgo j hj hA t (by rw [ldAt_eq l j hj]; exact ht), hst, fun j hj t ht => ?_, by omega⟩
    rw [← ldAt_eq l j hj] at ht
    have hR := (hall j hj).1
    generalize l[j] = i at *
    unfold ldI at ht
    by_cases c1 : i.op = 25
    · rw [if_pos c1] at ht
      simp at ht
      have := right_jump hR (by omega)
      omega
    rw [if_neg c1] at ht
    by_cases c2 : i.op = 26 ∨ i.op = 27
    · rw [if_pos c2] at ht
      have := right_jump hR (by omega)
      split at ht
      · simp at ht; omega
      · simp at ht; omega
    rw [if_neg c2] at ht
    by_cases c3 : i.op = 28
    · rw [if_pos c3] at ht
      simp at ht; omega
    rw [if_neg c3] at ht
    by_cases c4 : i.op = 29 ∨ i.op = 30
    · rw [if_pos c4] at ht
      split at ht
      · simp at ht; omega
      · simp at ht; omega
    rw [if_neg c4] at ht
    simp at ht; omega
end Go.Proofs.Ytejdkaniepgbdaa
