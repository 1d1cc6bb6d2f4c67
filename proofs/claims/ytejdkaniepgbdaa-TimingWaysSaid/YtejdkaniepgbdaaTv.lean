/- timing: what TimingWays asks, as plain law. -/
import Derived.Test.YtejdkaniepgbdaaTu
set_option linter.unusedVariables false
set_option linter.unusedSimpArgs false
namespace Go.Proofs.Ytejdkaniepgbdaa
open Go.RowKit

def wG (l : List Ins) : Nat → Int := tabG l 1 mWays l.length
theorem wG_end (l : List Ins) : wG l l.length = 1 := tabG_end l 1 _ _
theorem wG_at {l : List Ins} {A : Nat → Option St} (h : Ok l A) {j : Nat} (hj : j < l.length) (hA : A j ≠ none) : wG l j = mWays ((ldAt l j).map fun t => wG l t.toNat) := tabG_at h 1 _ hj hA
theorem wG_bd (l : List Ins) (j : Nat) : 0 ≤ wG l j ∧ wG l j ≤ 1000000 := tabG_ways l l.length j

/-- At least one way; one way alone: one lead alone. -/
theorem wG_pos {l : List Ins} {A : Nat → Option St} (h : Ok l A) (d : Nat) : ∀ j, j + d = l.length → (j < l.length → A j ≠ none) → 1 ≤ wG l j ∧ (j < l.length → wG l j = 1 → ∃ x, ldAt l j = [x] ∧ wG l x.toNat = 1) := by
  induction d using Nat.strongRecOn with
  | _ d ih =>
    intro j hj hA
    by_cases hlt : j < l.length
    · have hA' := hA hlt
      have hw := wG_at h hlt hA'
      have hl := ldI_len l.length j (l.getD j default)
      change 1 ≤ (ldAt l j).length ∧ (ldAt l j).length ≤ 2 at hl
      have hpos : ∀ t ∈ ldAt l j, 1 ≤ wG l t.toNat := by
        intro t ht
        obtain ⟨t1, t2, t3⟩ := h.go j hlt hA' t ht
        exact (ih (l.length - t.toNat) (by omega) t.toNat (by omega) (fun e => t3 (by omega))).1
      match hL : ldAt l j, hl with
      | [x], _ =>
        rw [hL] at hw
        have h1 := hpos x (by rw [hL]; simp)
        have h2 := (wG_bd l x.toNat).2
        have e : wG l j = wG l x.toNat := by
          rw [hw]
          simp [mWays]
          omega
        exact ⟨by omega, fun _ e1 => ⟨x, rfl, by omega⟩⟩
      | [x, y], _ =>
        rw [hL] at hw
        have h1 := hpos x (by rw [hL]; simp)
        have h2 := hpos y (by rw [hL]; simp)
        have e : 2 ≤ wG l j := by
          rw [hw]
          simp [mWays]
          omega
        exact ⟨by omega, fun _ e1 => by omega⟩
    · have : j = l.length := by omega
      subst this
      exact ⟨by rw [wG_end]; omega, fun h => absurd h hlt⟩

theorem wayN_pos {l : List Ins} {A : Nat → Option St} (h : Ok l A) : 1 ≤ wayN l := (wG_pos h l.length 0 (by omega) (fun _ => h.start)).1

theorem one_way {l : List Ins} {A : Nat → Option St} (h : Ok l A) (d : Nat) : ∀ j, j + d = l.length → (j < l.length → A j ≠ none) → wG l j = 1 → farG l false j = farG l true j ∧ wayL l false (farG l false j).toNat j = wayL l true (farG l true j).toNat j := by
  induction d using Nat.strongRecOn with
  | _ d ih =>
    intro j hj hA hw
    by_cases hlt : j < l.length
    · have hA' := hA hlt
      obtain ⟨x, hL, hx⟩ := (wG_pos h d j hj hA).2 hlt hw
      obtain ⟨t1, t2, t3⟩ := h.go j hlt hA' x (by rw [hL]; simp)
      obtain ⟨i1, i2⟩ := ih (l.length - x.toNat) (by omega) x.toNat (by omega) (fun e => t3 (by omega)) hx
      have hn : ∀ b, nxt l b j = x.toNat := by
        intro b
        have h0 := (nxt_ok h b hlt hA').1
        rw [hL] at h0
        unfold nxt
        have : idx l b j = 0 := by simp at h0; exact h0
        rw [this, hL]
        rfl
      have hf : ∀ b, farG l b j = farG l b x.toNat + 1 := by
        intro b
        have := (nxt_ok h b hlt hA').2.1
        rw [hn b] at this
        omega
      have b1 := farG_bd l false x.toNat
      have b2 := farG_bd l true x.toNat
      refine ⟨by rw [hf, hf, i1], ?_⟩
      rw [hf, hf, show (farG l false x.toNat + 1).toNat = (farG l false x.toNat).toNat + 1 by omega, show (farG l true x.toNat + 1).toNat = (farG l true x.toNat).toNat + 1 by omega, wayL, wayL, hn, hn, i2]
    · have : j = l.length := by omega
      subst this
      rw [farG_end, farG_end]
      exact ⟨rfl, rfl⟩
theorem one_same {l : List Ins} {A : Nat → Option St} (h : Ok l A) (hw : wayN l = 1) : way l false = way l true := (one_way h l.length 0 (by omega) (fun _ => h.start) hw).2
theorem way_len {l : List Ins} (b : Bool) : ((way l b).length : Int) = farG l b 0 := by
  unfold way
  rw [wayL_len]
  have := farG_bd l b 0
  omega

/-- A lead of what is reached is one of the document's. -/
theorem on_mem {l : List Ins} {A : Nat → Option St} (h : Ok l A) {j : Nat} (hj : j < l.length) (hA : A j ≠ none) {t : Int} (ht : t ∈ ldAt l j) : t ∈ onI l.length j l[j] := by
  have hg := h.go j hj hA
  rw [← ldAt_eq l j hj] at hg ht
  generalize l[j] = i at *
  have htg : ∀ x ∈ ldI l.length j i, x = i.at_ → tgt l.length j i = i.at_ := by
    intro x hx e
    obtain ⟨h1, h2, _⟩ := hg x hx
    unfold tgt
    rw [if_neg (by omega)]
  unfold onI
  have hj' : (j : Int) < l.length := by omega
  by_cases c1 : i.op = 25
  · have e : ldI l.length j i = [i.at_] := by unfold ldI; rw [if_pos c1]
    rw [if_pos c1, htg i.at_ (by rw [e]; simp) rfl]
    rw [e] at ht
    exact ht
  rw [if_neg c1]
  by_cases c2 : i.op = 26 ∨ i.op = 27
  · have e : ldI l.length j i = (if i.at_ = (j : Int) + 1 then [(j : Int) + 1] else [(j : Int) + 1, i.at_]) := by unfold ldI; rw [if_neg c1, if_pos c2]
    have hm : i.at_ ∈ ldI l.length j i := by
      rw [e]
      by_cases c : i.at_ = (j : Int) + 1
      · rw [if_pos c, c]; simp
      · rw [if_neg c]; simp
    rw [if_pos c2, htg i.at_ hm rfl]
    rw [e] at ht
    by_cases c : i.at_ = (j : Int) + 1
    · rw [if_pos c] at ht ⊢
      rw [c]; exact ht
    · rw [if_neg c] at ht ⊢
      exact ht
  rw [if_neg c2]
  by_cases c3 : i.op = 28
  · rw [if_pos c3]
    unfold ldI at ht
    rw [if_neg c1, if_neg c2, if_pos c3] at ht
    exact ht
  rw [if_neg c3]
  by_cases c4 : i.op = 29 ∨ i.op = 30
  · rw [if_pos c4]
    unfold ldI at ht
    rw [if_neg c1, if_neg c2, if_neg c3, if_pos c4] at ht
    by_cases c : (l.length : Int) = (j : Int) + 1
    · rw [if_pos c] at ht
      rw [if_pos c.symm, c]
      exact ht
    · rw [if_neg c] at ht
      rw [if_neg (fun e => c e.symm)]
      exact ht
  rw [if_neg c4]
  unfold ldI at ht
  rw [if_neg c1, if_neg c2, if_neg c3, if_neg c4] at ht
  exact ht

/-- What stands at a place of a way, and what behind it. -/
structure At (l : List Ins) (A : Nat → Option St) (L : List Int) (i q : Nat) : Prop where
  val : L.getD i 0 = q
  lt : q < l.length
  here : A q ≠ none
  first : i = 0 → q = 0
  next : (if i + 1 < L.length then L.getD (i + 1) 0 else (l.length : Int)) ∈ ldAt l q ∧ (q : Int) < (if i + 1 < L.length then L.getD (i + 1) 0 else (l.length : Int))

theorem wayL_at {l : List Ins} {A : Nat → Option St} (h : Ok l A) (b : Bool) (k : Nat) : ∀ j, (farG l b j).toNat = k → j ≤ l.length → (j < l.length → A j ≠ none) → ∀ i, i < k → ∃ q, (wayL l b k j).getD i 0 = (q : Nat) ∧ q < l.length ∧ A q ≠ none ∧ (i = 0 → q = j) ∧
    (if i + 1 < k then (wayL l b k j).getD (i + 1) 0 else (l.length : Int)) ∈ ldAt l q ∧ (q : Int) < (if i + 1 < k then (wayL l b k j).getD (i + 1) 0 else (l.length : Int)) := by
  induction k with
  | zero => intro j _ _ _ i hi; omega
  | succ k ih =>
    intro j hk hj hA i hi
    have hlt : j < l.length := by
      rcases Nat.lt_or_ge j l.length with h | h
      · exact h
      · have : j = l.length := by omega
        rw [this, farG_end] at hk
        simp at hk
    have hA' := hA hlt
    obtain ⟨k1, k2, k3, k4⟩ := nxt_ok h b hlt hA'
    obtain ⟨m1, m2, m3, m4⟩ := nxt_le h b hlt hA'
    have hb := farG_bd l b j
    have hkn : (farG l b (nxt l b j)).toNat = k := by rw [k2]; omega
    cases i with
    | zero =>
      refine ⟨j, by simp [wayL], hlt, hA', fun _ => rfl, ?_⟩
      have hv : (if 0 + 1 < k + 1 then (wayL l b (k + 1) j).getD (0 + 1) 0 else (l.length : Int)) = (nxt l b j : Nat) := by
        cases k with
        | zero =>
          rw [if_neg (by omega)]
          have : nxt l b j = l.length := by
            rcases Nat.lt_or_ge (nxt l b j) l.length with h' | h'
            · have := farG_pos h b h' (m3 h')
              omega
            · omega
          rw [this]
        | succ k =>
          rw [if_pos (by omega)]
          simp [wayL]
      rw [hv, m4]
      rw [← m4]
      exact ⟨by rw [m4]; exact k4, by omega⟩
    | succ i =>
      obtain ⟨q, q1, q2, q3, q4, q5, q6⟩ := ih (nxt l b j) hkn m2 m3 i (by omega)
      refine ⟨q, by simpa [wayL] using q1, q2, q3, fun h => by omega, ?_⟩
      have hv : (if i + 1 + 1 < k + 1 then (wayL l b (k + 1) j).getD (i + 1 + 1) 0 else (l.length : Int)) = (if i + 1 < k then (wayL l b k (nxt l b j)).getD (i + 1) 0 else (l.length : Int)) := by
        by_cases c : i + 1 < k
        · rw [if_pos c, if_pos (by omega)]
          simp [wayL]
        · rw [if_neg c, if_neg (by omega)]
      rw [hv]
      exact ⟨q5, q6⟩
theorem way_at {l : List Ins} {A : Nat → Option St} (h : Ok l A) (b : Bool) (i : Nat) (hi : i < (way l b).length) : ∃ q, At l A (way l b) i q := by
  have hl : (way l b).length = (farG l b 0).toNat := by unfold way; rw [wayL_len]
  obtain ⟨q, q1, q2, q3, q4, q5⟩ := wayL_at h b (farG l b 0).toNat 0 rfl (Nat.zero_le _) (fun _ => h.start) i (by rw [← hl]; exact hi)
  exact ⟨q, q1, q2, q3, q4, by rw [hl]; exact q5⟩
end Go.Proofs.Ytejdkaniepgbdaa
