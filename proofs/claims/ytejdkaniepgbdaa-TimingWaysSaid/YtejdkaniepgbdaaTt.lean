/- timing: the ways, as plain law. -/
import Derived.Test.YtejdkaniepgbdaaTs
set_option linter.unusedVariables false
set_option linter.unusedSimpArgs false
namespace Go.Proofs.Ytejdkaniepgbdaa
open Go.RowKit

theorem tabG_stable {l : List Ins} {e : Int} {m : List Int → Int} {k : Nat} {j : Nat} (hj : l.length ≤ j + k) (d : Nat) : tabG l e m (k + d) j = tabG l e m k j := by
  induction d with
  | zero => rfl
  | succ d ih =>
    rw [← Nat.add_assoc, tabG, if_neg (by omega), ih]
theorem tabG_end (l : List Ins) (e : Int) (m : List Int → Int) (k : Nat) : tabG l e m k l.length = e := by
  have := tabG_stable (l := l) (e := e) (m := m) (k := 0) (j := l.length) (by omega) k
  rw [Nat.zero_add] at this
  rw [this, tabG]
theorem tabG_at {l : List Ins} {A : Nat → Option St} (h : Ok l A) (e : Int) (m : List Int → Int) {j : Nat} (hj : j < l.length) (hA : A j ≠ none) :
    tabG l e m l.length j = m ((ldAt l j).map fun t => tabG l e m l.length t.toNat) := by
  obtain ⟨k, hk⟩ : ∃ k, l.length = k + 1 + j := ⟨l.length - j - 1, by omega⟩
  have h1 := tabG_stable (l := l) (e := e) (m := m) (k := k + 1) (j := j) (by omega) j
  rw [← hk] at h1
  rw [h1, tabG, if_pos (by omega)]
  congr 1
  refine List.map_congr_left fun t ht => ?_
  obtain ⟨t1, t2, _⟩ := h.go j hj hA t ht
  have hc : cut l t = t.toNat := by unfold cut; omega
  rw [hc]
  have h2 := tabG_stable (l := l) (e := e) (m := m) (k := k) (j := t.toNat) (by omega) (1 + j)
  rw [← Nat.add_assoc, ← hk] at h2
  rw [h2]

theorem farG_end (l : List Ins) (b : Bool) : farG l b l.length = 0 := tabG_end l 0 _ _
theorem farG_at {l : List Ins} {A : Nat → Option St} (h : Ok l A) (b : Bool) {j : Nat} (hj : j < l.length) (hA : A j ≠ none) : farG l b j = mFar b ((ldAt l j).map fun t => farG l b t.toNat) := tabG_at h 0 _ hj hA
theorem farG_bd (l : List Ins) (b : Bool) (j : Nat) : 0 ≤ farG l b j ∧ farG l b j ≤ l.length := tabG_far l b l.length j
theorem farG_pos {l : List Ins} {A : Nat → Option St} (h : Ok l A) (b : Bool) {j : Nat} (hj : j < l.length) (hA : A j ≠ none) : 1 ≤ farG l b j := by
  rw [farG_at h b hj hA]
  have hl := ldI_len l.length j (l.getD j default)
  have := maxOf_bd b ((ldAt l j).map fun t => farG l b t.toNat) 0 l.length (by simpa [ldAt] using hl.1) (by simpa [ldAt] using hl.2) (by
    intro x hx
    obtain ⟨t, _, rfl⟩ := List.mem_map.1 hx
    exact farG_bd l b _)
  omega

/-- Which of those that an instruction leads to comes next. -/
def idx (l : List Ins) (b : Bool) (j : Nat) : Nat := if farG l b ((ldAt l j).getD 0 0).toNat = farG l b j - 1 then 0 else 1
def nxt (l : List Ins) (b : Bool) (j : Nat) : Nat := ((ldAt l j).getD (idx l b j) 0).toNat
theorem nxt_ok {l : List Ins} {A : Nat → Option St} (h : Ok l A) (b : Bool) {j : Nat} (hj : j < l.length) (hA : A j ≠ none) :
    idx l b j < (ldAt l j).length ∧ farG l b (nxt l b j) = farG l b j - 1 ∧ (∀ q, q < idx l b j → farG l b ((ldAt l j).getD q 0).toNat ≠ farG l b j - 1) ∧
    ((ldAt l j).getD (idx l b j) 0) ∈ ldAt l j := by
  have hf := farG_at h b hj hA
  have hl := ldI_len l.length j (l.getD j default)
  change 1 ≤ (ldAt l j).length ∧ (ldAt l j).length ≤ 2 at hl
  unfold nxt idx
  match hL : ldAt l j, hl with
  | [x], _ =>
    rw [hL] at hf
    have e : farG l b ([x].getD 0 0).toNat = farG l b j - 1 := by
      rw [hf]
      cases b <;> simp [mFar, Lib.maxOf, Lib.minOf]
    rw [if_pos e]
    exact ⟨by simp, e, fun q hq => by omega, by simp⟩
  | [x, y], _ =>
    rw [hL] at hf
    by_cases e : farG l b ([x, y].getD 0 0).toNat = farG l b j - 1
    · rw [if_pos e]
      exact ⟨by simp, e, fun q hq => by omega, by simp⟩
    · rw [if_neg e]
      have e2 : farG l b y.toNat = farG l b j - 1 := by
        have e' : ¬ farG l b x.toNat = farG l b j - 1 := e
        cases b <;> simp [mFar, Lib.maxOf, Lib.minOf] at hf <;> omega
      refine ⟨by simp, e2, fun q hq => ?_, by simp⟩
      have : q = 0 := by omega
      subst this
      exact e
theorem nxt_le {l : List Ins} {A : Nat → Option St} (h : Ok l A) (b : Bool) {j : Nat} (hj : j < l.length) (hA : A j ≠ none) :
    j < nxt l b j ∧ nxt l b j ≤ l.length ∧ (nxt l b j < l.length → A (nxt l b j) ≠ none) ∧ ((nxt l b j : Nat) : Int) = (ldAt l j).getD (idx l b j) 0 := by
  obtain ⟨_, _, _, hm⟩ := nxt_ok h b hj hA
  obtain ⟨t1, t2, t3⟩ := h.go j hj hA _ hm
  unfold nxt
  generalize (ldAt l j).getD (idx l b j) 0 = t at *
  exact ⟨by omega, by omega, fun h => t3 (by omega), by omega⟩
/-- A last step goes to the end, which stands last. -/
theorem last_ok {l : List Ins} {A : Nat → Option St} (h : Ok l A) (b : Bool) {j : Nat} (hj : j < l.length) (hA : A j ≠ none) (hf : farG l b j = 1) :
    (ldAt l j).getD ((ldAt l j).length - 1) 0 = l.length := by
  have hfa := farG_at h b hj hA
  rw [hf] at hfa
  have hl := ldI_len l.length j (l.getD j default)
  change 1 ≤ (ldAt l j).length ∧ (ldAt l j).length ≤ 2 at hl
  have key : ∀ t ∈ ldAt l j, farG l b t.toNat = 0 → t = l.length := by
    intro t ht h0
    obtain ⟨t1, t2, t3⟩ := h.go j hj hA t ht
    by_cases e : t < l.length
    · have := farG_pos h b (j := t.toNat) (by omega) (t3 e)
      omega
    · omega
  have hb := fun t => farG_bd l b t
  have hle : ∀ t ∈ ldAt l j, t ≤ l.length := fun t ht => (h.go j hj hA t ht).2.1
  have hsort : ∀ x y, ldAt l j = [x, y] → x ≤ y := by
    intro x y e
    have h1 := (h.go j hj hA y (by rw [e]; simp)).1
    unfold ldAt ldI at e
    repeat' split at e
    all_goals simp at e
    all_goals omega
  match hL : ldAt l j, hl with
  | [x], _ =>
    rw [hL] at hfa
    refine key x (by rw [hL]; simp) ?_
    cases b <;> simp [mFar, Lib.maxOf, Lib.minOf] at hfa <;> omega
  | [x, y], _ =>
    rw [hL] at hfa
    have hx := hb x.toNat
    have hy := hb y.toNat
    have hxy := hsort x y hL
    have hyl := hle y (by rw [hL]; simp)
    show y = l.length
    by_cases e : farG l b y.toNat = 0
    · exact key y (by rw [hL]; simp) e
    · have e2 : farG l b x.toNat = 0 := by
        cases b <;> simp [mFar, Lib.maxOf, Lib.minOf] at hfa <;> omega
      have := key x (by rw [hL]; simp) e2
      omega

def wayL (l : List Ins) (b : Bool) : Nat → Nat → List Int
  | 0, _ => []
  | k + 1, j => (j : Int) :: wayL l b k (nxt l b j)
def way (l : List Ins) (b : Bool) : List Int := wayL l b (farG l b 0).toNat 0
theorem wayL_len (l : List Ins) (b : Bool) (k : Nat) : ∀ j, (wayL l b k j).length = k := by
  induction k with
  | zero => intro j; rfl
  | succ k ih => intro j; simp [wayL, ih]
end Go.Proofs.Ytejdkaniepgbdaa
