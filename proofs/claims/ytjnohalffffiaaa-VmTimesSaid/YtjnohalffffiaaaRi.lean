/- Slices of ints: what can be read; slices of the call's own: what they hold, and one more. -/
import Derived.Test.YtjnohalffffiaaaProg
import Derived.Test.YtjnohalffffiaaaBq
import Derived.WalkKit
import Derived.WalkSpells
import Derived.WalkLawsBesides
import Derived.KernelRfl
import Derived.Deep.AppendLies
import Derived.Laws.AppendOwnNone
import Derived.Deep.QuietTactic
import Derived.BigQuiet
import Derived.Deep.RegionHeld3
set_option linter.unusedVariables false
set_option linter.unusedSimpArgs false
namespace Go.Proofs.Ytjnohalffffiaaa
open Go.RowKit

theorem wrap_id {x : Int} (h : -9223372036854775808 ≤ x) (h' : x ≤ 9223372036854775807) : wrap64 x = x := by unfold wrap64; omega

/-- A slice of ints that can be read. -/
def RdI (w : World) (a : Option Addr) (xs : List Int) : Prop := xs = [] ∨ ∃ b off, a = some ⟨b, off, none⟩ ∧ ∀ j, j < xs.length → w.cell? ⟨b, off + j, none⟩ = some (.int .i64 (xs.getD j 0))
theorem RdI.below {w w1 : World} {a : Option Addr} {xs : List Int} (h : RdI w a xs) (hb : Below w.heap.size w w1) : RdI w1 a xs := by
  rcases h with h | ⟨b, off, rfl, h⟩
  · exact .inl h
  · refine .inr ⟨b, off, rfl, fun j hj => ?_⟩
    rw [hb.cell (World.block_lt_of_cell? w _ (h j hj)), h j hj]
theorem RdI.cell {w : World} {a : Option Addr} {xs : List Int} (h : RdI w a xs) (j : Nat) (hj : j < xs.length) : ∃ b off, a = some ⟨b, off, none⟩ ∧ w.cell? ⟨b, off + j, none⟩ = some (.int .i64 (xs.getD j 0)) := by
  rcases h with rfl | ⟨b, off, rfl, h⟩
  · simp at hj
  · exact ⟨b, off, rfl, h j hj⟩

theorem infoInt : (Try.prog.info? 3).map (fun i => (i.zero, i.size, i.bytes)) = some (some (.int .i64 0), 1, 8) := by kernel_rfl

def vals (xs : List Int) : List Value := xs.map fun x => .int .i64 x
/-- A slice of ints of the call's own. -/
def OwnI (w : World) (base : Nat) (v : Value) (xs : List Int) : Prop := w.ownsRow base 3 1 v xs.length (vals xs)

theorem OwnI.nil (w : World) (base : Nat) : OwnI w base (.slice none 0 0) [] := World.ownsRow_nil _ _ _ _
theorem OwnI.rd {w : World} {base : Nat} {v : Value} {xs : List Int} (h : OwnI w base v xs) :
    ∃ a cap, v = .slice a xs.length cap ∧ RdI w a xs ∧ xs.length ≤ cap ∧ cap ≤ 9223372036854775807 := by
  have h0 := h
  rcases h.2 with ⟨rfl, hn⟩ | ⟨g, cap, cur, rfl, hb, hh, hle, hm, hsz, htk⟩
  · have : xs = [] := List.eq_nil_of_length_eq_zero hn
    subst this
    exact ⟨none, 0, rfl, .inl rfl, by simp, by simp⟩
  · refine ⟨_, cap, rfl, .inr ⟨g, 0, rfl, fun j hj => ?_⟩, hle, by simpa [maxLen] using hm⟩
    have hc := World.ownsRow.cellAt h0 j (by omega)
    rw [Nat.zero_add, hc]
    simp [vals, List.getElem?_eq_getElem hj, List.getD_eq_getElem?_getD]
theorem OwnI.kept {w w1 : World} {base : Nat} {v : Value} {xs : List Int} {row : Option Nat} (h : OwnI w base v xs) (hg : w.grownBy w1 row) (hne : v.ownBlock = none ∨ v.ownBlock ≠ row) : OwnI w1 base v xs :=
  World.ownsRow.kept h hg hne
theorem OwnI.below {w w1 : World} {base : Nat} {v : Value} {xs : List Int} (h : OwnI w base v xs) (hb : Below w.heap.size w w1) : OwnI w1 base v xs := by
  refine OwnI.kept (row := none) h ⟨hb.os, hb.tape, hb.output, hb.size, fun i hi _ => hb.block i hi⟩ ?_
  cases v.ownBlock <;> simp
theorem OwnI.alloc {w : World} {base : Nat} {v : Value} {xs : List Int} (h : OwnI w base v xs) (o : Obj) : OwnI (w.alloc o) base v xs := World.ownsRow.alloc h o
theorem OwnI.drewN {w : World} {base : Nat} {v : Value} {xs : List Int} (h : OwnI w base v xs) (n : Nat) : OwnI (w.drewN n) base v xs := h
theorem OwnI.lt {w : World} {base : Nat} {v : Value} {xs : List Int} (h : OwnI w base v xs) : ∀ k, v.ownBlock = some k → base ≤ k ∧ k < w.heap.size := World.ownsRow.lt h

/-- append(v, n): one int more. -/
theorem wpl_app1 {ops : Array Oper} {rest : List Oper} {o : Oper} {a : Act} {Q : Exit → Act → World → Prop} (W : World) (hgd : o.guard = none) (s x : Operand)
    (ho : o.op = .call { callee := .builtin .append, args := #[s, x], argTypes := #[98, 98] }) (base : Nat) (v : Value) (xs : List Int) (n : Int)
    (hs : a.eval s = v) (hown : OwnI W base v xs) (hx : a.eval x = .slice (some ⟨W.heap.size, 0, none⟩) 1 1) (hlen : xs.length + 1 ≤ 17592186044416) (hbase : base ≤ W.heap.size)
    (hK : ∀ g cap w', OwnI w' base (.slice (some ⟨g, 0, none⟩) (xs.length + 1) cap) (xs ++ [n]) → (W.alloc (.cells #[.int .i64 n] 3)).grownBy w' v.ownBlock → (v.ownBlock = some g ∨ g = W.heap.size + 1) → g < w'.heap.size →
      wpList Try.prog ops Q rest (a.put o.dst (.slice (some ⟨g, 0, none⟩) (xs.length + 1) cap)) w') :
    wpList Try.prog ops Q (o :: rest) a (W.alloc (.cells #[.int .i64 n] 3)) := by
  obtain ⟨i0, hi, hz0, hz1, hz2⟩ := info_parts infoInt
  refine wpList_append_lies _ hgd s x 98 ho base 3 i0 (.int .i64 0) 1 8 Try.underlying98 hi hz0 hz1 hz2 rfl (by decide) v xs.length (vals xs) hs (hown.alloc _) ⟨W.heap.size, 0, none⟩ 1 1 [.int .i64 n] hx rfl ?_ ?_ (by decide) (by unfold maxLen; omega) (by omega) (by simp; omega) (W.heap.size + 1) (by simp) ?_
  · intro j u hj
    rw [add_pl]
    have : j = 0 := by
      rcases j with _ | j
      · rfl
      · simp at hj
    subst this
    simp at hj
    subst hj
    exact (Blk.new W #[.int .i64 n] 3).cell 0 _ rfl
  · intro u hu
    simp at hu
    subst hu
    rfl
  · intro g cap w' h1 h2 h3 h4
    refine hK g cap w' ?_ h2 h3 h4
    show w'.ownsRow base 3 1 _ (xs ++ [n]).length (vals (xs ++ [n]))
    simpa [vals] using h1

/-- append(v, ys...) of a slice that can be read. -/
theorem wpl_appl {ops : Array Oper} {rest : List Oper} {o : Oper} {a : Act} {Q : Exit → Act → World → Prop} (W : World) (hgd : o.guard = none) (s x : Operand)
    (ho : o.op = .call { callee := .builtin .append, args := #[s, x], argTypes := #[98, 98] }) (base : Nat) (v : Value) (xs ys : List Int) (ad : Option Addr) (c : Nat)
    (hs : a.eval s = v) (hown : OwnI W base v xs) (hx : a.eval x = .slice ad ys.length c) (hrd : RdI W ad ys) (hnil : ad = none → c = 0) (hlen : xs.length + ys.length ≤ 17592186044416) (hbase : base ≤ W.heap.size)
    (hK : ∀ v' w', OwnI w' base v' (xs ++ ys) → Below base W w' → wpList Try.prog ops Q rest (a.put o.dst v') w') (hb : ∀ k, v.ownBlock = some k → base ≤ k) :
    wpList Try.prog ops Q (o :: rest) a W := by
  obtain ⟨i0, hi, hz0, hz1, hz2⟩ := info_parts infoInt
  by_cases hz : ad = none
  · have hc := hnil hz
    subst hz hc
    have hys : ys = [] := by
      rcases hrd with h | ⟨b, off, h, _⟩
      · exact h
      · cases h
    subst hys
    refine wpList_append_own_none hgd s x 98 ho base 3 i0 1 Try.underlying98 hi v xs.length (vals xs) hs hown hx ?_
    exact hK v W (by simpa using hown) (Below.refl _ _)
  · obtain ⟨p, rfl⟩ : ∃ p, ad = some p := by cases ad with | none => exact absurd rfl hz | some p => exact ⟨p, rfl⟩
    refine wpList_append_own W hgd s x 98 ho base 3 i0 (.int .i64 0) 1 8 Try.underlying98 hi hz0 hz1 hz2 rfl (by decide) v xs.length (vals xs) hs hown p ys.length c (vals ys) hx (by simp [vals]) ?_ ?_ (by unfold maxLen; omega) (by omega) hbase ?_
    · intro j u hj
      rcases hrd with rfl | ⟨b, off, h, hcell⟩
      · simp [vals] at hj
      · cases h
        have hjl : j < ys.length := by
          have := (List.getElem?_eq_some_iff.1 hj).1
          simpa [vals] using this
        rw [add_pl, hcell j hjl]
        simp [vals, List.getElem?_eq_getElem hjl] at hj
        simp [List.getD_eq_getElem?_getD, List.getElem?_eq_getElem hjl, hj]
    · intro u hu
      simp [vals] at hu
      obtain ⟨_, _, rfl⟩ := hu
      rfl
    · intro v' w' h1 h2 _
      refine hK v' w' ?_ ⟨h2.os, h2.tape, h2.output, h2.size, fun k hk => h2.block k (by omega) fun e => ?_⟩
      · show w'.ownsRow base 3 1 _ (xs ++ ys).length (vals (xs ++ ys))
        simpa [vals] using h1
      · have := hb k e.symm
        omega

/-- The same at a step of a region that draws its order: the world as it stands. -/
theorem step_app1 {ops : Array Oper} {o : Oper} {a : Act} {K : Act → World → Prop} {Q : Exit → Act → World → Prop} {E : Prop} {W : World} (hgd : o.guard = none) (s x : Operand)
    (ho : o.op = .call { callee := .builtin .append, args := #[s, x], argTypes := #[98, 98] }) (base : Nat) (v : Value) (xs : List Int) (n : Int) (B H : Nat)
    (hs : a.eval s = v) (hown : OwnI W base v xs) (hx : a.eval x = .slice (some ⟨B, 0, none⟩) 1 1) (hB : Blk W B #[.int .i64 n] 3) (hH : W.heap.size = H) (hlen : xs.length + 1 ≤ 17592186044416) (hbase : base ≤ H)
    (hK : ∀ g cap w', OwnI w' base (.slice (some ⟨g, 0, none⟩) (xs.length + 1) cap) (xs ++ [n]) → W.grownBy w' v.ownBlock → (v.ownBlock = some g ∨ g = H) → g < w'.heap.size →
      K (a.put o.dst (.slice (some ⟨g, 0, none⟩) (xs.length + 1) cap)) w') :
    if Region.wanted o (yielded ops a.tmps) = true then Oper.wp Try.prog o a W K Q else E := by
  obtain ⟨i0, hi, hz0, hz1, hz2⟩ := info_parts infoInt
  refine step_append_lies _ hgd s x 98 ho base 3 i0 (.int .i64 0) 1 8 Try.underlying98 hi hz0 hz1 hz2 rfl (by decide) v xs.length (vals xs) hs hown ⟨B, 0, none⟩ 1 1 [.int .i64 n] hx rfl ?_ ?_ (by decide) (by unfold maxLen; omega) (by omega) (by omega) H hH ?_
  · intro j u hj
    rw [add_pl]
    have : j = 0 := by
      rcases j with _ | j
      · rfl
      · simp at hj
    subst this
    simp at hj
    subst hj
    exact hB.cell 0 _ rfl
  · intro u hu
    simp at hu
    subst hu
    rfl
  · intro g cap w' h1 h2 h3 h4
    refine hK g cap w' ?_ h2 h3 h4
    show w'.ownsRow base 3 1 _ (xs ++ [n]).length (vals (xs ++ [n]))
    simpa [vals] using h1

end Go.Proofs.Ytjnohalffffiaaa
