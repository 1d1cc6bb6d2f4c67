/- verify: the table of what is ahead, and lead. -/
import Derived.Test.YtjnohalffffiaaaVf
set_option linter.unusedVariables false
set_option linter.unusedSimpArgs false
namespace Go.Proofs.Ytjnohalffffiaaa
open Go.RowKit

abbrev St := Int × List (Int × Int)
/-- What the table's cell j holds. -/
def CellAt (w : World) (base : Nat) (p : Nat → Nat) (x : Option Value) (j : Nat) : Option St → Prop
  | none => x = some (.pointer none)
  | some (k, bs) => x = some (.pointer (some ⟨p j, 0, none⟩)) ∧ base ≤ p j ∧ ∃ v, Blk w (p j) #[.int .i64 k, v] 105 ∧ BrR w v bs
/-- Block T is a table of n + 1 pointers to what is ahead of each instruction. -/
def TabAt (w : World) (base T n : Nat) (A : Nat → Option St) : Prop :=
  base ≤ T ∧ ∃ (cur : Array Value) (p : Nat → Nat), Blk w T cur 102 ∧ cur.size = n + 1 ∧ (∀ j, j ≤ n → CellAt w base p cur[j]? j (A j)) ∧ ∀ i j, i ≤ n → j ≤ n → A i ≠ none → A j ≠ none → p i = p j → i = j

theorem CellAt.move {w w1 : World} {base : Nat} {p : Nat → Nat} {x : Option Value} {j : Nat} {s : Option St} (h : CellAt w base p x j s) (hb : ∀ k bs v, s = some (k, bs) → Blk w (p j) #[.int .i64 k, v] 105 → Blk w1 (p j) #[.int .i64 k, v] 105)
    (hv : ∀ v bs, BrR w v bs → BrR w1 v bs) : CellAt w1 base p x j s := by
  match s, h with
  | none, h => exact h
  | some (k, bs), ⟨h1, h2, v, h3, h4⟩ => exact ⟨h1, h2, v, hb k bs v rfl h3, hv v bs h4⟩
theorem TabAt.below {w w1 : World} {base T n : Nat} {A : Nat → Option St} (h : TabAt w base T n A) (hb : Below w.heap.size w w1) : TabAt w1 base T n A := by
  obtain ⟨h0, cur, p, h1, h2, h3, h4⟩ := h
  exact ⟨h0, cur, p, h1.below hb, h2, fun j hj => (h3 j hj).move (fun k bs v _ h => h.below hb) (fun v bs h => h.below hb), h4⟩
theorem TabAt.cell {w : World} {base T n : Nat} {A : Nat → Option St} (h : TabAt w base T n A) (j : Nat) (hj : j ≤ n) :
    (A j = none ∧ w.cell? ⟨T, j, none⟩ = some (.pointer none)) ∨ ∃ k bs q v, A j = some (k, bs) ∧ w.cell? ⟨T, j, none⟩ = some (.pointer (some ⟨q, 0, none⟩)) ∧ Blk w q #[.int .i64 k, v] 105 ∧ BrR w v bs ∧ base ≤ q := by
  obtain ⟨h0, cur, p, h1, h2, h3, h4⟩ := h
  have h5 := h3 j hj
  have h6 : w.cell? ⟨T, j, none⟩ = cur[j]? := by
    unfold Blk at h1
    simp [World.cell?, h1]
  match hA : A j, h5 with
  | none, h => exact .inl ⟨rfl, by rw [h6]; exact h⟩
  | some (k, bs), ⟨e1, e0, v, e2, e3⟩ => exact .inr ⟨k, bs, p j, v, rfl, by rw [h6]; exact e1, e2, e3, e0⟩
theorem TabAt.lt {w : World} {base T n : Nat} {A : Nat → Option St} (h : TabAt w base T n A) : T < w.heap.size := by
  obtain ⟨h0, cur, p, h1, _⟩ := h
  exact h1.lt
theorem TabAt.free {w : World} {base T n : Nat} {A : Nat → Option St} (h : TabAt w base T n A) (o : Nat) : w.frozen? ⟨T, o, none⟩ = false := by
  obtain ⟨h0, cur, p, h1, _⟩ := h
  exact h1.free o

def updA (A : Nat → Option St) (i : Nat) (s : St) (j : Nat) : Option St := if j = i then some s else A j

/-- A new one. -/
theorem TabAt.put {w : World} {base T n : Nat} {A : Nat → Option St} (h : TabAt w base T n A) {i q : Nat} {k : Int} {v : Value} {bs : List (Int × Int)} (hi : i ≤ n) (hA : A i = none)
    (hq : Blk w q #[.int .i64 k, v] 105) (hv : BrR w v bs) (hbq : base ≤ q) (hnew : ∀ j, j ≤ n → w.cell? ⟨T, j, none⟩ ≠ some (.pointer (some ⟨q, 0, none⟩))) :
    TabAt (w.setCell ⟨T, i, none⟩ (.pointer (some ⟨q, 0, none⟩))) base T n (updA A i (k, bs)) := by
  obtain ⟨h0, cur, p, h1, h2, h3, h4⟩ := h
  have hT : ∀ b cs t, Blk w b cs t → t ≠ 102 → Blk (w.setCell ⟨T, i, none⟩ (.pointer (some ⟨q, 0, none⟩))) b cs t := fun b cs t hb ht => hb.other (fun e => ht (by subst e; exact Blk.inj hb h1)) _
  have hV : ∀ v bs, BrR w v bs → BrR (w.setCell ⟨T, i, none⟩ (.pointer (some ⟨q, 0, none⟩))) v bs := fun v bs hb => hb.set h1 (by decide) _ _
  have hcell : ∀ j, w.cell? ⟨T, j, none⟩ = cur[j]? := fun j => by
    unfold Blk at h1
    simp [World.cell?, h1]
  have hp : ∀ j, j ≤ n → A j ≠ none → p j ≠ q := fun j hj hAj e => by
    have h5 := h3 j hj
    match hA' : A j, h5 with
    | none, _ => exact hAj hA'
    | some (k', bs'), ⟨e1, _⟩ => exact hnew j hj (by rw [hcell, e1, e])
  refine ⟨h0, _, fun j => if j = i then q else p j, h1.set i _, by simpa using h2, fun j hj => ?_, fun a b ha hb hAa hAb e => ?_⟩
  · unfold updA
    by_cases e : j = i
    · subst e
      rw [if_pos rfl]
      refine ⟨?_, by simpa using hbq, v, ?_, hV v bs hv⟩
      · rw [Array.getElem?_setIfInBounds]
        simp [h2]
        omega
      · simpa using hT _ _ _ hq (by decide)
    · rw [if_neg e, Array.getElem?_setIfInBounds, if_neg (Ne.symm e)]
      have h5 := h3 j hj
      match A j, h5 with
      | none, h => exact h
      | some (k', bs'), ⟨e1, e0, v', e2, e3⟩ =>
        refine ⟨?_, by simpa [e] using e0, v', ?_, hV _ _ e3⟩
        · simpa [e] using e1
        · simpa [e] using hT _ _ _ e2 (by decide)
  · unfold updA at hAa hAb
    by_cases ea : a = i
    · by_cases eb : b = i
      · rw [ea, eb]
      · simp [ea, eb] at e hAb
        exact absurd e.symm (hp b hb hAb)
    · by_cases eb : b = i
      · simp [ea, eb] at e hAa
        exact absurd e (hp a ha hAa)
      · simp [ea, eb] at e hAa hAb
        exact h4 a b ha hb hAa hAb e

/-- Another kind. -/
theorem TabAt.turn {w : World} {base T n : Nat} {A : Nat → Option St} (h : TabAt w base T n A) {i q : Nat} {k k' : Int} {v : Value} {bs : List (Int × Int)} (hi : i ≤ n) (hA : A i = some (k, bs))
    (hc : w.cell? ⟨T, i, none⟩ = some (.pointer (some ⟨q, 0, none⟩))) (hq : Blk w q #[.int .i64 k, v] 105) :
    TabAt ((w.setCell ⟨q, 0, none⟩ (.int .i64 k')).setCell ⟨q, 1, none⟩ v) base T n (updA A i (k', bs)) := by
  obtain ⟨h0, cur, p, h1, h2, h3, h4⟩ := h
  have hcell : ∀ j, w.cell? ⟨T, j, none⟩ = cur[j]? := fun j => by
    unfold Blk at h1
    simp [World.cell?, h1]
  obtain ⟨hpi, hbv⟩ : p i = q ∧ BrR w v bs := by
    have h5 := h3 i hi
    rw [hA] at h5
    obtain ⟨e1, _, v', e2, e3⟩ := h5
    rw [hcell, e1] at hc
    injection hc with hc
    injection hc with hc
    injection hc with hc
    injection hc with hc
    refine ⟨hc, ?_⟩
    have e4 := e2
    rw [hc] at e4
    unfold Blk at e4 hq
    rw [e4] at hq
    injection hq with hq
    injection hq with hq
    simp at hq
    rw [← hq]
    exact e3
  subst hpi
  have hT : ∀ b cs t, Blk w b cs t → b ≠ p i → Blk ((w.setCell ⟨p i, 0, none⟩ (.int .i64 k')).setCell ⟨p i, 1, none⟩ v) b cs t := fun b cs t hb hne => (hb.other hne _).other hne _
  have hQ : Blk ((w.setCell ⟨p i, 0, none⟩ (.int .i64 k')).setCell ⟨p i, 1, none⟩ v) (p i) #[.int .i64 k', v] 105 := (hq.set 0 _).set 1 _
  have hV : ∀ u cs, BrR w u cs → BrR ((w.setCell ⟨p i, 0, none⟩ (.int .i64 k')).setCell ⟨p i, 1, none⟩ v) u cs := fun u cs hb => (hb.set hq (by decide) _ _).set (hq.set 0 _) (by decide) _ _
  refine ⟨h0, cur, p, hT _ _ _ h1 (fun e => by subst e; exact absurd (Blk.inj h1 hq) (by decide)), h2, fun j hj => ?_, fun a b ha hb hAa hAb e => ?_⟩
  · unfold updA
    have h5 := h3 j hj
    by_cases e : j = i
    · subst e
      rw [if_pos rfl]
      rw [hA] at h5
      obtain ⟨e1, e0, _⟩ := h5
      exact ⟨e1, e0, v, hQ, hV _ _ hbv⟩
    · rw [if_neg e]
      have hne := h4 j i hj hi
      match hAj : A j, h5 with
      | none, h => exact h
      | some (k2, bs2), ⟨e1, e0, v', e2, e3⟩ =>
        exact ⟨e1, e0, v', hT _ _ _ e2 (fun e' => e (hne (by rw [hAj]; simp) (by rw [hA]; simp) e')), hV _ _ e3⟩
  · have hn : ∀ j, updA A i (k', bs) j ≠ none → A j ≠ none := fun j hj => by
      unfold updA at hj
      by_cases ej : j = i
      · subst ej; rw [hA]; simp
      · rwa [if_neg ej] at hj
    exact h4 a b ha hb (hn a hAa) (hn b hAb) e

end Go.Proofs.Ytjnohalffffiaaa
