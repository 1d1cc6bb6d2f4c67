/- verify: all, as a function of the instructions. -/
import Derived.Test.YtjnohalffffiaaaVh
set_option linter.unusedVariables false
set_option linter.unusedSimpArgs false
namespace Go.Proofs.Ytjnohalffffiaaa
open Go.RowKit

def jumpsb (i : Ins) : Bool := decide (25 ≤ i.op) && decide (i.op ≤ 27)
def onb (i : Ins) : Bool := i.op != 25 && i.op != 28

/-- What a step answers: the error and where, or the table. -/
inductive Ans where
  | err (e at_ : Int)
  | tab (A : Nat → Option St)

/-- One that leads to an instruction, if it does at all. -/
def leadIf (b : Bool) (A : Nat → Option St) (i : Nat) (s : St) : Nat → Option St := if b then leadA A i s else A
def okIf (b : Bool) (A : Nat → Option St) (i : Nat) (s : St) : Bool := if b then leadB A i s.2 else true

def stepI (n at_ : Nat) (A : Nat → Option St) (i : Ins) : Ans :=
  if rightb i = false then .err 3 at_
  else match A at_ with
    | none => .tab A
    | some (k, bs) =>
      if jumpsb i = true ∧ (i.at_ ≤ at_ ∨ n < i.at_) then .err 7 at_
      else if (behI k bs i).1 ≠ 0 then .err (behI k bs i).1 at_
      else if okIf (onb i) A (at_ + 1) (behI k bs i).2 = false then .err 7 at_
      else if okIf (jumpsb i) (leadIf (onb i) A (at_ + 1) (behI k bs i).2) i.at_.toNat (behI k bs i).2 = false then .err 7 at_
      else .tab (leadIf (jumpsb i) (leadIf (onb i) A (at_ + 1) (behI k bs i).2) i.at_.toNat (behI k bs i).2)

def runI (n : Nat) : List Ins → Nat → (Nat → Option St) → Ans
  | [], at_, A => .tab A
  | i :: l, at_, A => match stepI n at_ A i with
    | .err e p => .err e p
    | .tab A' => runI n l (at_ + 1) A'

def startA : Nat → Option St := updA (fun _ => none) 0 (0, [])
/-- verify.all. -/
def allI (l : List Ins) : Ans :=
  if 200 < l.length then .err 2 200
  else match runI l.length l 0 startA with
    | .err e p => .err e p
    | .tab A => match A l.length with
      | some (k, bs) => if 0 < bs.length then .err 3 l.length else .tab A
      | none => .tab A

def InvA (A : Nat → Option St) : Prop := ∀ j s, A j = some s → s.2.length ≤ 8

theorem updA_inv {A : Nat → Option St} (h : InvA A) (i : Nat) (s : St) (hs : s.2.length ≤ 8) : InvA (updA A i s) := by
  intro j t ht
  unfold updA at ht
  by_cases e : j = i
  · rw [if_pos e] at ht; injection ht with ht; subst ht; exact hs
  · rw [if_neg e] at ht; exact h j t ht
theorem leadA_inv {A : Nat → Option St} (h : InvA A) (i : Nat) (s : St) (hs : s.2.length ≤ 8) : InvA (leadA A i s) := by
  unfold leadA
  match hA : A i with
  | none => exact updA_inv h i s hs
  | some (k0, bs0) => exact updA_inv h i _ (show bs0.length ≤ 8 from h i (k0, bs0) hA)
theorem leadIf_inv {A : Nat → Option St} (h : InvA A) (b : Bool) (i : Nat) (s : St) (hs : s.2.length ≤ 8) : InvA (leadIf b A i s) := by
  unfold leadIf
  cases b
  · exact h
  · exact leadA_inv h i s hs
theorem behI_len (k : Int) (bs : List (Int × Int)) (i : Ins) (h : bs.length ≤ 8) : (behI k bs i).2.2.length ≤ 8 := by
  have hp : (pushI k i.at_ bs).2.2.length ≤ 8 := by
    unfold pushI
    by_cases h1 : may i.at_ k = false
    · rw [if_pos h1]; exact h
    · rw [if_neg h1]
      by_cases h2 : bs.length = 8
      · rw [if_pos h2]; exact h
      · rw [if_neg h2]; simp; omega
  have hq : (popI k bs).2.2.length ≤ 8 := by
    unfold popI
    match bs.getLast? with
    | none => exact h
    | some b =>
      dsimp only
      by_cases h1 : b.2 = k
      · rw [if_pos h1]; simp; omega
      · rw [if_neg h1]; exact h
  have key : ∀ (c : Prop) [Decidable c] (x y : Int × Int × List (Int × Int)), x.2.2.length ≤ 8 → y.2.2.length ≤ 8 → (if c then x else y).2.2.length ≤ 8 := by
    intro c _ x y hx hy
    by_cases hc : c
    · rw [if_pos hc]; exact hx
    · rw [if_neg hc]; exact hy
  unfold behI
  repeat' (first | exact h | exact hp | exact hq | (refine key _ _ _ ?_ ?_))
theorem startA_inv : InvA startA := updA_inv (fun j s h => by cases h) 0 (0, []) (by simp)

/-- A slice of instructions that can be read. -/
def RdIns (w : World) (a : Option Addr) (l : List Ins) : Prop :=
  l = [] ∨ ∃ b off, a = some ⟨b, off, none⟩ ∧ ∀ j (h : j < l.length), w.cell? ⟨b, off + j * 5, none⟩ = some (.int .i64 l[j].op) ∧ w.cell? ⟨b, off + j * 5 + 1, none⟩ = some (.int .i64 l[j].kind) ∧
    w.cell? ⟨b, off + j * 5 + 2, none⟩ = some (.int .i64 l[j].area) ∧ w.cell? ⟨b, off + j * 5 + 3, none⟩ = some (.int .i64 l[j].at_) ∧ w.cell? ⟨b, off + j * 5 + 4, none⟩ = some (.int .i64 l[j].n)
theorem RdIns.below {w w1 : World} {a : Option Addr} {l : List Ins} (h : RdIns w a l) (hb : Below w.heap.size w w1) : RdIns w1 a l := by
  rcases h with h | ⟨b, off, rfl, h⟩
  · exact .inl h
  · refine .inr ⟨b, off, rfl, fun j hj => ?_⟩
    obtain ⟨h0, h1, h2, h3, h4⟩ := h j hj
    have hlt := World.block_lt_of_cell? w _ h0
    rw [hb.cell (p := ⟨b, off + j * 5, none⟩) hlt, hb.cell (p := ⟨b, off + j * 5 + 1, none⟩) hlt, hb.cell (p := ⟨b, off + j * 5 + 2, none⟩) hlt, hb.cell (p := ⟨b, off + j * 5 + 3, none⟩) hlt, hb.cell (p := ⟨b, off + j * 5 + 4, none⟩) hlt]
    exact ⟨h0, h1, h2, h3, h4⟩
theorem RdIns.cell {w : World} {a : Option Addr} {l : List Ins} (h : RdIns w a l) (j : Nat) (hj : j < l.length) :
    ∃ b off, a = some ⟨b, off, none⟩ ∧ b < w.heap.size ∧ w.cell? ⟨b, off + j * 5, none⟩ = some (.int .i64 l[j].op) ∧ w.cell? ⟨b, off + j * 5 + 1, none⟩ = some (.int .i64 l[j].kind) ∧
    w.cell? ⟨b, off + j * 5 + 2, none⟩ = some (.int .i64 l[j].area) ∧ w.cell? ⟨b, off + j * 5 + 3, none⟩ = some (.int .i64 l[j].at_) ∧ w.cell? ⟨b, off + j * 5 + 4, none⟩ = some (.int .i64 l[j].n) := by
  rcases h with rfl | ⟨b, off, rfl, h⟩
  · simp at hj
  · obtain ⟨h0, h1, h2, h3, h4⟩ := h j hj
    exact ⟨b, off, rfl, World.block_lt_of_cell? w _ h0, h0, h1, h2, h3, h4⟩

theorem Right_at (op kind area at_ n : Int) (w : World) : Calls Try.prog 47 #[.agg #[.int .i64 op, .int .i64 kind, .int .i64 area, .int .i64 at_, .int .i64 n]] w (RetB (rightb ⟨op, kind, area, at_, n⟩) w) :=
  Right_calls ⟨op, kind, area, at_, n⟩ w
theorem behind_at (op kind area at_ n : Int) (k : Int) (v : Value) (bs : List (Int × Int)) (w : World) (hv : BrR w v bs) (hn : bs.length ≤ 8) :
    Calls Try.prog 49 #[.agg #[.int .i64 k, v], .agg #[.int .i64 op, .int .i64 kind, .int .i64 area, .int .i64 at_, .int .i64 n]] w (RetA (behI k bs ⟨op, kind, area, at_, n⟩).1 (behI k bs ⟨op, kind, area, at_, n⟩).2.1 (behI k bs ⟨op, kind, area, at_, n⟩).2.2 w) :=
  behind_calls ⟨op, kind, area, at_, n⟩ k v bs w hv hn

theorem runI_step {n : Nat} {l : List Ins} {j : Nat} {A : Nat → Option St} (hj : j < l.length) : runI n (l.drop j) j A = match stepI n j A l[j] with
    | .err e p => .err e p
    | .tab A' => runI n (l.drop (j + 1)) (j + 1) A' := by
  rw [List.drop_eq_getElem_cons hj, runI]
theorem runI_done {n : Nat} {l : List Ins} {j : Nat} {A : Nat → Option St} (hj : l.length ≤ j) : runI n (l.drop j) j A = .tab A := by
  rw [List.drop_eq_nil_of_le hj, runI]

end Go.Proofs.Ytjnohalffffiaaa
