/- What verify's table says of a run. -/
import Derived.Test.YtjnohalffffiaaaNq
import Derived.Test.YtjnohalffffiaaaNt
set_option linter.unusedVariables false
set_option linter.unusedSimpArgs false
namespace Go.Proofs.Ytjnohalffffiaaa
open Go.RowKit

def Wk (s s' : St) : Prop := s'.2 = s.2 ∧ (s'.1 = s.1 ∨ s'.1 = 0)
theorem Wk.refl (s : St) : Wk s s := ⟨rfl, .inl rfl⟩
theorem Wk.trans {a b c : St} (h : Wk a b) (k : Wk b c) : Wk a c := by
  obtain ⟨h1, h2⟩ := h
  obtain ⟨k1, k2⟩ := k
  refine ⟨k1.trans h1, ?_⟩
  rcases k2 with k2 | k2
  · rw [k2]; exact h2
  · exact .inr k2
/-- One table is weaker than another. -/
def Wkr (A A' : Nat → Option St) : Prop := ∀ q s, A q = some s → ∃ s', A' q = some s' ∧ Wk s s'
theorem Wkr.refl (A : Nat → Option St) : Wkr A A := fun q s h => ⟨s, h, Wk.refl s⟩
theorem Wkr.trans {A B C : Nat → Option St} (h : Wkr A B) (k : Wkr B C) : Wkr A C := by
  intro q s hs
  obtain ⟨t, ht, w1⟩ := h q s hs
  obtain ⟨u, hu, w2⟩ := k q t ht
  exact ⟨u, hu, w1.trans w2⟩
theorem leadA_wk (A : Nat → Option St) (i : Nat) (s : St) (h : leadB A i s.2 = true) : Wkr A (leadA A i s) ∧ (∃ s', leadA A i s i = some s' ∧ Wk s s') ∧ ∀ q, q ≠ i → leadA A i s q = A q := by
  unfold leadB at h
  unfold leadA
  cases hA : A i with
  | none =>
    refine ⟨fun q t ht => ⟨t, ?_, Wk.refl t⟩, ⟨s, ?_, Wk.refl s⟩, fun q hq => ?_⟩
    · dsimp only [updA]
      rw [if_neg (fun e => by rw [e, hA] at ht; cases ht)]
      exact ht
    · dsimp only [updA]; rw [if_pos rfl]
    · dsimp only [updA]; rw [if_neg hq]
  | some t0 =>
    obtain ⟨k0, bs0⟩ := t0
    rw [hA] at h
    have hb : bs0 = s.2 := by simpa [brEq] using h
    refine ⟨fun q t ht => ?_, ⟨_, by dsimp only [updA]; rw [if_pos rfl], hb, ?_⟩, fun q hq => ?_⟩
    · by_cases e : q = i
      · subst e
        rw [hA] at ht
        injection ht with ht
        subst ht
        refine ⟨(if k0 = s.1 then k0 else 0, bs0), by dsimp only [updA]; rw [if_pos rfl], rfl, ?_⟩
        dsimp only
        split
        · exact .inl rfl
        · exact .inr rfl
      · refine ⟨t, ?_, Wk.refl t⟩
        dsimp only [updA]
        rw [if_neg e]
        exact ht
    · dsimp only
      split
      · rename_i e; exact .inl e
      · exact .inr rfl
    · dsimp only [updA]; rw [if_neg hq]
theorem leadIf_wk (b : Bool) (A : Nat → Option St) (i : Nat) (s : St) (h : okIf b A i s ≠ false) : Wkr A (leadIf b A i s) ∧ (b = true → ∃ s', leadIf b A i s i = some s' ∧ Wk s s') ∧ ∀ q, (b = true → q ≠ i) → leadIf b A i s q = A q := by
  cases b with
  | false => exact ⟨Wkr.refl A, (fun h => by cases h), fun q _ => rfl⟩
  | true =>
    have h' : leadB A i s.2 = true := by simpa [okIf] using h
    obtain ⟨h1, h2, h3⟩ := leadA_wk A i s h'
    exact ⟨h1, fun _ => h2, fun q hq => h3 q (hq rfl)⟩

/-- What a step that errs not has shown. -/
theorem stepI_tab {n j : Nat} {A A1 : Nat → Option St} {i : Ins} (h : stepI n j A i = .tab A1) :
    rightb i = true ∧ Wkr A A1 ∧ (∀ q, q ≤ j → A1 q = A q) ∧
    (∀ k bs, A j = some (k, bs) → (behI k bs i).1 = 0 ∧ (jumpsb i = true → (j : Int) < i.at_ ∧ i.at_ ≤ n) ∧ (onb i = true → ∃ s', A1 (j + 1) = some s' ∧ Wk (behI k bs i).2 s') ∧
      (jumpsb i = true → ∃ s', A1 i.at_.toNat = some s' ∧ Wk (behI k bs i).2 s')) := by
  unfold stepI at h
  by_cases hR : rightb i = false
  · rw [if_pos hR] at h; cases h
  rw [if_neg hR] at h
  refine ⟨by simpa using hR, ?_⟩
  cases hA : A j with
  | none =>
    rw [hA] at h
    injection h with h
    subst h
    exact ⟨Wkr.refl A, fun q _ => rfl, fun k bs e => by cases e⟩
  | some s =>
    obtain ⟨k, bs⟩ := s
    rw [hA] at h
    dsimp only at h
    by_cases hJ : jumpsb i = true ∧ (i.at_ ≤ j ∨ n < i.at_)
    · rw [if_pos hJ] at h; cases h
    rw [if_neg hJ] at h
    by_cases he : (behI k bs i).1 ≠ 0
    · rw [if_pos he] at h; cases h
    rw [if_neg he] at h
    by_cases h1 : okIf (onb i) A (j + 1) (behI k bs i).2 = false
    · rw [if_pos h1] at h; cases h
    rw [if_neg h1] at h
    by_cases h2 : okIf (jumpsb i) (leadIf (onb i) A (j + 1) (behI k bs i).2) i.at_.toNat (behI k bs i).2 = false
    · rw [if_pos h2] at h; cases h
    rw [if_neg h2] at h
    injection h with h
    obtain ⟨a1, a2, a3⟩ := leadIf_wk (onb i) A (j + 1) (behI k bs i).2 h1
    obtain ⟨b1, b2, b3⟩ := leadIf_wk (jumpsb i) (leadIf (onb i) A (j + 1) (behI k bs i).2) i.at_.toNat (behI k bs i).2 h2
    rw [h] at b1 b2 b3
    have hjj : jumpsb i = true → (j : Int) < i.at_ ∧ i.at_ ≤ n := fun hj => by
      have : ¬ (i.at_ ≤ j ∨ n < i.at_) := fun h => hJ ⟨hj, h⟩
      omega
    refine ⟨a1.trans b1, fun q hq => ?_, fun k' bs' e => ?_⟩
    · rw [b3 q (fun hj => by have := hjj hj; omega), a3 q (fun _ => by omega)]
    · injection e with e
      injection e with e1 e2
      subst e1 e2
      refine ⟨by simpa using he, hjj, fun ho => ?_, b2⟩
      obtain ⟨s1, q1, w1⟩ := a2 ho
      obtain ⟨s2, q2, w2⟩ := b1 _ _ q1
      exact ⟨s2, q2, w1.trans w2⟩

theorem runI_tab {n : Nat} {l : List Ins} : ∀ {j : Nat} {A A' : Nat → Option St}, runI n l j A = .tab A' → Wkr A A' ∧ (∀ q, q ≤ j → A' q = A q) ∧ ∀ q (hq : q < l.length), rightb l[q] = true ∧
    (∀ k bs, A' (j + q) = some (k, bs) → (behI k bs l[q]).1 = 0 ∧ (jumpsb l[q] = true → ((j + q : Nat) : Int) < l[q].at_ ∧ l[q].at_ ≤ n) ∧ (onb l[q] = true → ∃ s', A' (j + q + 1) = some s' ∧ Wk (behI k bs l[q]).2 s') ∧
      (jumpsb l[q] = true → ∃ s', A' l[q].at_.toNat = some s' ∧ Wk (behI k bs l[q]).2 s')) := by
  induction l with
  | nil =>
    intro j A A' h
    rw [runI] at h
    injection h with h
    subst h
    exact ⟨Wkr.refl A, fun q _ => rfl, fun q hq => by simp at hq⟩
  | cons i l ih =>
    intro j A A' h
    rw [runI] at h
    cases hs : stepI n j A i with
    | err e p => rw [hs] at h; cases h
    | tab A1 =>
      rw [hs] at h
      obtain ⟨m0, m1, m2, m3⟩ := stepI_tab hs
      obtain ⟨r1, r2, r3⟩ := ih h
      refine ⟨m1.trans r1, fun q hq => by rw [r2 q (by omega), m2 q hq], fun q hq => ?_⟩
      cases q with
      | zero =>
        refine ⟨m0, fun k bs e => ?_⟩
        have e2 : A j = some (k, bs) := by rw [← e, Nat.add_zero, r2 j (by omega), m2 j (Nat.le_refl _)]
        obtain ⟨t1, t2, t3, t4⟩ := m3 k bs e2
        refine ⟨t1, t2, fun ho => ?_, fun hj => ?_⟩
        · obtain ⟨s1, q1, w1⟩ := t3 ho
          obtain ⟨s2, q2, w2⟩ := r1 _ _ q1
          exact ⟨s2, q2, w1.trans w2⟩
        · obtain ⟨s1, q1, w1⟩ := t4 hj
          obtain ⟨s2, q2, w2⟩ := r1 _ _ q1
          exact ⟨s2, q2, w1.trans w2⟩
      | succ q =>
        have := r3 q (by simpa using hq)
        simpa [Nat.add_assoc, Nat.add_comm 1 q, Nat.add_left_comm] using this

/-- What a program that may run has. -/
structure TOk (l : List Ins) (A : Nat → Option St) : Prop where
  right : ∀ j (h : j < l.length), rightb l[j] = true
  err : ∀ j (h : j < l.length) k bs, A j = some (k, bs) → (behI k bs l[j]).1 = 0
  jump : ∀ j (h : j < l.length) k bs, A j = some (k, bs) → jumpsb l[j] = true → (j : Int) < l[j].at_ ∧ l[j].at_ ≤ l.length
  on : ∀ j (h : j < l.length) k bs, A j = some (k, bs) → onb l[j] = true → ∃ s', A (j + 1) = some s' ∧ Wk (behI k bs l[j]).2 s'
  goes : ∀ j (h : j < l.length) k bs, A j = some (k, bs) → jumpsb l[j] = true → ∃ s', A l[j].at_.toNat = some s' ∧ Wk (behI k bs l[j]).2 s'
  start : A 0 = some (0, [])
  done : ∀ k bs, A l.length = some (k, bs) → bs = []
  len : l.length ≤ 200

theorem allI_tok {l : List Ins} {A : Nat → Option St} (h : allI l = .tab A) : TOk l A := by
  unfold allI at h
  by_cases hb : 200 < l.length
  · rw [if_pos hb] at h; cases h
  rw [if_neg hb] at h
  cases hr : runI l.length l 0 startA with
  | err e p => rw [hr] at h; cases h
  | tab A' =>
    rw [hr] at h
    dsimp only at h
    have e : A' = A ∧ ∀ k bs, A' l.length = some (k, bs) → bs = [] := by
      cases hA : A' l.length with
      | none =>
        rw [hA] at h
        injection h with h
        exact ⟨h, fun k bs e => by cases e⟩
      | some s =>
        obtain ⟨k, bs⟩ := s
        rw [hA] at h
        dsimp only at h
        by_cases h0 : 0 < bs.length
        · rw [if_pos h0] at h; cases h
        · rw [if_neg h0] at h
          injection h with h
          refine ⟨h, fun k' bs' e => ?_⟩
          injection e with e
          injection e with e1 e2
          subst e2
          exact List.eq_nil_of_length_eq_zero (by omega)
    obtain ⟨rfl, hd⟩ := e
    obtain ⟨_, r2, r3⟩ := runI_tab hr
    have r3' := fun q hq => r3 q hq
    simp only [Nat.zero_add] at r3'
    exact ⟨fun j hj => (r3' j hj).1, fun j hj k bs e => ((r3' j hj).2 k bs e).1, fun j hj k bs e => ((r3' j hj).2 k bs e).2.1, fun j hj k bs e => ((r3' j hj).2 k bs e).2.2.1, fun j hj k bs e => ((r3' j hj).2 k bs e).2.2.2,
      by rw [r2 0 (Nat.le_refl _)]; rfl, hd, by omega⟩
end Go.Proofs.Ytjnohalffffiaaa
