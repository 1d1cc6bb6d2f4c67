/- Slices of ints of the call's own that need not begin at their block's head. -/
import Derived.Test.YtaombjljahpncaaOw
import Derived.ArgAppend
set_option linter.unusedVariables false
set_option linter.unusedSimpArgs false
namespace Go.Proofs.Ytaombjljahpncaa
open Go.RowKit

def OwnO (w : World) (base : Nat) (v : Value) (xs : List Int) : Prop :=
  (v = .slice none 0 0 ∧ xs = []) ∨ ∃ g o cap cur, v = .slice (some ⟨g, o, none⟩) xs.length cap ∧ base ≤ g ∧ Blk w g cur 3 ∧ xs.length ≤ cap ∧ cap ≤ 9223372036854775807 ∧ o + cap ≤ cur.size ∧ ∀ j, j < xs.length → cur[o + j]? = some (.int .i64 (xs.getD j 0))

theorem OwnO.nil (w : World) (base : Nat) : OwnO w base (.slice none 0 0) [] := .inl ⟨rfl, rfl⟩
theorem OwnO.of {w : World} {base : Nat} {v : Value} {xs : List Int} (h : OwnI w base v xs) : OwnO w base v xs := by
  rcases h.2 with ⟨rfl, hn⟩ | ⟨g, cap, cur, rfl, hb, hh, hle, hm, hsz, htk⟩
  · exact .inl ⟨rfl, List.eq_nil_of_length_eq_zero hn⟩
  · refine .inr ⟨g, 0, cap, cur, rfl, hb, hh, hle, by simpa [maxLen] using hm, by omega, fun j hj => ?_⟩
    have h2 : (cur.toList.take (xs.length * 1))[j]? = (vals xs)[j]? := by rw [htk]
    rw [List.getElem?_take, if_pos (by omega)] at h2
    rw [Nat.zero_add, ← Array.getElem?_toList, h2]
    simp [vals, List.getElem?_eq_getElem hj, List.getD_eq_getElem?_getD]
theorem OwnO.rd {w : World} {base : Nat} {v : Value} {xs : List Int} (h : OwnO w base v xs) :
    ∃ a cap, v = .slice a xs.length cap ∧ RdI w a xs ∧ xs.length ≤ cap ∧ cap ≤ 9223372036854775807 ∧ (a = none → cap = 0) := by
  rcases h with ⟨rfl, rfl⟩ | ⟨g, o, cap, cur, rfl, hb, hh, hle, hm, hsz, hc⟩
  · exact ⟨none, 0, rfl, .inl rfl, by simp, by simp, fun _ => rfl⟩
  · exact ⟨_, cap, rfl, .inr ⟨g, o, rfl, fun j hj => hh.cell (o + j) _ (hc j hj)⟩, hle, hm, fun h => by cases h⟩
theorem OwnO.lt {w : World} {base : Nat} {v : Value} {xs : List Int} (h : OwnO w base v xs) : ∀ k, v.ownBlock = some k → base ≤ k ∧ ∃ cur, Blk w k cur 3 := by
  intro k hk
  rcases h with ⟨rfl, rfl⟩ | ⟨g, o, cap, cur, rfl, hb, hh, _⟩
  · simp [Value.ownBlock] at hk
  · simp [Value.ownBlock] at hk
    subst hk
    exact ⟨hb, cur, hh⟩
theorem OwnO.mono {w : World} {base base' : Nat} {v : Value} {xs : List Int} (h : OwnO w base v xs) (hb : base' ≤ base) : OwnO w base' v xs := by
  rcases h with h | ⟨g, o, cap, cur, h1, h2, h3⟩
  · exact .inl h
  · exact .inr ⟨g, o, cap, cur, h1, by omega, h3⟩
theorem OwnO.move {w w1 : World} {base : Nat} {v : Value} {xs : List Int} (h : OwnO w base v xs) (hm : ∀ k, v.ownBlock = some k → w1.heap[k]? = w.heap[k]?) : OwnO w1 base v xs := by
  rcases h with h | ⟨g, o, cap, cur, rfl, h2, hh, h3⟩
  · exact .inl h
  · refine .inr ⟨g, o, cap, cur, rfl, h2, ?_, h3⟩
    unfold Blk at *
    rw [hm g rfl]
    exact hh
theorem OwnO.below {w w1 : World} {base : Nat} {v : Value} {xs : List Int} (h : OwnO w base v xs) (hb : Below w.heap.size w w1) : OwnO w1 base v xs :=
  h.move fun k hk => by obtain ⟨_, cur, hc⟩ := h.lt k hk; exact hb.block k hc.lt
theorem OwnO.kept {w w1 : World} {base : Nat} {v : Value} {xs : List Int} {row : Option Nat} (h : OwnO w base v xs) (hg : w.grownBy w1 row) (hne : v.ownBlock = none ∨ v.ownBlock ≠ row) : OwnO w1 base v xs :=
  h.move fun k hk => by
    obtain ⟨_, cur, hc⟩ := h.lt k hk
    refine hg.block k hc.lt fun e => ?_
    rcases hne with h | h
    · rw [h] at hk; cases hk
    · exact h (by rw [hk, e])
theorem OwnO.alloc {w : World} {base : Nat} {v : Value} {xs : List Int} (h : OwnO w base v xs) (o : Obj) : OwnO (w.alloc o) base v xs := h.below ((Below.refl _ _).alloc (Nat.le_refl _) o)

/-- append(v, n) where v need not begin at its block's head. -/
theorem wpl_appO {ops : Array Oper} {rest : List Oper} {o : Oper} {a : Act} {Q : Exit → Act → World → Prop} (W : World) (hgd : o.guard = none) (s x : Operand)
    (ho : o.op = .call { callee := .builtin .append, args := #[s, x], argTypes := #[22, 22] }) (base : Nat) (v : Value) (xs : List Int) (n : Int)
    (B : Nat) (hB : W.heap.size = B) (hs : a.eval s = v) (hown : OwnO W base v xs) (hx : a.eval x = .slice (some ⟨B, 0, none⟩) 1 1) (hlen : xs.length + 1 ≤ 17592186044416) (hbase : base ≤ W.heap.size)
    (hK : ∀ v' w', OwnO w' base v' (xs ++ [n]) → (W.alloc (.cells #[.int .i64 n] 3)).grownBy w' v.ownBlock → (v'.ownBlock = v.ownBlock ∨ ∀ k, v'.ownBlock = some k → W.heap.size < k) →
      wpList Try.prog ops Q rest (a.put o.dst v') w') :
    wpList Try.prog ops Q (o :: rest) a (W.alloc (.cells #[.int .i64 n] 3)) := by
  subst hB
  rcases hown with ⟨rfl, rfl⟩ | ⟨g, off, cap, cur, rfl, hb, hh, hle, hm, hsz, hcell⟩
  · refine wpl_app1 W hgd s x ho base _ [] n hs (OwnI.nil _ _) hx (by simp) hbase ?_
    intro g cap w' h1 h2 h3 h4
    refine hK _ w' (OwnO.of h1) h2 (.inr ?_)
    intro k hk
    simp [Value.ownBlock] at hk h3
    omega
  · obtain ⟨i0, hi, hz0, hz1, hz2⟩ := info_parts infoInt
    have hh' := hh.alloc (.cells #[.int .i64 n] 3)
    refine wpList_append_arg _ hgd s x 22 ho 3 i0 (.int .i64 0) 1 8 Try.underlying22 hi hz0 hz1 hz2 rfl (by decide) g off xs.length cap (vals xs) hs (by simp [vals]) ?_ ⟨W.heap.size, 0, none⟩ 1 1 [.int .i64 n] hx rfl ?_ ?_ ?_ (by unfold maxLen; omega) (by omega) ?_ ?_
    · intro j u hj
      have hjl : j < xs.length := by
        have := (List.getElem?_eq_some_iff.1 hj).1
        simpa [vals] using this
      rw [hh'.cell (off + j) _ (hcell j hjl)]
      simp [vals, List.getElem?_eq_getElem hjl] at hj
      simp [List.getD_eq_getElem?_getD, List.getElem?_eq_getElem hjl, hj]
    · intro j u hj
      rw [add_pl]
      have : j = 0 := by
        rcases j with _ | j
        · rfl
        · simp at hj
      subst this
      simp at hj
      subst hj
      exact (Blk.new W #[.int .i64 n] 3).cell 0 _ rfl
    · intro u hu
      simp at hu
      subst hu
      rfl
    · intro hroom j hj
      have hj0 : j = 0 := by simpa using hj
      subst hj0
      refine ⟨?_, hh'.free _⟩
      have hlt : off + xs.length * 1 + 0 < cur.size := by omega
      rw [hh'.cell (off + xs.length * 1 + 0) (cur[off + xs.length * 1 + 0]) (by simp)]
      rfl
    · intro hroom
      have e : (W.alloc (.cells #[.int .i64 n] 3)).setCells g (off + xs.length * 1) [.int .i64 n] = (W.alloc (.cells #[.int .i64 n] 3)).setCell ⟨g, off + xs.length, none⟩ (.int .i64 n) := by
        rw [Nat.mul_one]; rfl
      rw [e]
      refine hK _ _ ?_ ?_ (.inl rfl)
      · refine .inr ⟨g, off, cap, cur.setIfInBounds (off + xs.length) (.int .i64 n), ?_, hb, hh'.set _ _, ?_, hm, ?_, ?_⟩
        · simp
        · simp; omega
        · simpa using hsz
        · intro j hj
          rw [Array.getElem?_setIfInBounds]
          by_cases hjl : j = xs.length
          · subst hjl
            rw [if_pos rfl, if_pos (by omega)]
            simp [List.getD_eq_getElem?_getD]
          · have hj2 : j < xs.length := by simp at hj; omega
            rw [if_neg (by omega), hcell j hj2]
            simp [List.getD_eq_getElem?_getD, List.getElem?_append_left hj2]
      · exact ⟨rfl, rfl, rfl, by simp [World.setCell], fun k _ hne => Below.heap_setCell _ _ _ _ (fun e => hne (by simp [Value.ownBlock, e]))⟩
    · intro hgrow v' w' h1 h2
      have h1' : OwnI w' (W.alloc (.cells #[.int .i64 n] 3)).heap.size v' (xs ++ [n]) := by
        show w'.ownsRow _ 3 1 _ (xs ++ [n]).length (vals (xs ++ [n]))
        simpa [vals] using h1
      refine hK v' w' ((OwnO.of h1').mono (by simp; omega)) ⟨h2.os, h2.tape, h2.output, h2.size, fun k hk _ => h2.block k hk (by simp)⟩ (.inr ?_)
      intro k hk
      have := (h1'.lt k hk).1
      simp at this
      omega

end Go.Proofs.Ytaombjljahpncaa
