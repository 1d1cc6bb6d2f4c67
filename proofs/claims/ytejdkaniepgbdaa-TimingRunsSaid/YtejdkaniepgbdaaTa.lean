/- timing: where an instruction leads, by the document. -/
import Derived.Test.YtejdkaniepgbdaaVk
set_option linter.unusedVariables false
set_option linter.unusedSimpArgs false
namespace Go.Proofs.Ytejdkaniepgbdaa
open Go.RowKit

/-- A slice of ints of the call's own is handed back. -/
def RetS (L : List Int) (w : World) (e : Ending) (w' : World) : Prop :=
  ∃ b cap, e = .returned (.slice (some ⟨b, 0, none⟩) L.length cap) ∧ RdI w' (some ⟨b, 0, none⟩) L ∧ L.length ≤ cap ∧ cap ≤ 9223372036854775807 ∧ Below w.heap.size w w'
theorem rdI_blk1 {w : World} {b : Nat} {x : Int} {t : TypeId} (h : Blk w b #[.int .i64 x] t) : RdI w (some ⟨b, 0, none⟩) [x] := by
  refine .inr ⟨b, 0, rfl, fun j hj => ?_⟩
  have : j = 0 := by simp at hj; omega
  subst this
  exact h.cell 0 _ rfl
theorem rdI_blk2 {w : World} {b : Nat} {x y : Int} {t : TypeId} (h : Blk w b #[.int .i64 x, .int .i64 y] t) : RdI w (some ⟨b, 0, none⟩) [x, y] := by
  refine .inr ⟨b, 0, rfl, fun j hj => ?_⟩
  have : j = 0 ∨ j = 1 := by simp at hj; omega
  rcases this with rfl | rfl
  · exact h.cell 0 _ rfl
  · exact h.cell 1 _ rfl

def tgt (n at_ : Int) (i : Ins) : Int := if i.at_ ≤ at_ ∨ n < i.at_ then n else i.at_
/-- On: where an instruction leads, by the document. -/
def onI (n at_ : Int) (i : Ins) : List Int :=
  if i.op = 25 then [tgt n at_ i] else if i.op = 26 ∨ i.op = 27 then (if tgt n at_ i = at_ + 1 then [tgt n at_ i] else [at_ + 1, tgt n at_ i])
  else if i.op = 28 then [n] else if i.op = 29 ∨ i.op = 30 then (if at_ + 1 = n then [n] else [at_ + 1, n]) else [at_ + 1]

set_option maxRecDepth 10000 in
set_option maxHeartbeats 4000000 in
theorem On_a (cb co n cap j : Nat) (op kind area at_ nn : Int) (w : World) (x0 : w.cell? ⟨cb, co + j * 5, none⟩ = some (.int .i64 op)) (x1 : w.cell? ⟨cb, co + j * 5 + 1, none⟩ = some (.int .i64 kind))
    (x2 : w.cell? ⟨cb, co + j * 5 + 2, none⟩ = some (.int .i64 area)) (x3 : w.cell? ⟨cb, co + j * 5 + 3, none⟩ = some (.int .i64 at_)) (x4 : w.cell? ⟨cb, co + j * 5 + 4, none⟩ = some (.int .i64 nn)) (hj : j < n) (hn : n ≤ 100000) (hb1 : at_ ≤ (j : Int)) :
    Calls Try.prog 10 #[.slice (some ⟨cb, co, none⟩) n cap, .int .i64 j] w (RetS (onI n j ⟨op, kind, area, at_, nn⟩) w) := by
  have hcb := World.block_lt_of_cell? w _ x0
  have i1 : (0 : Int) ≤ (j : Int) := Int.natCast_nonneg _
  have i2 : (j : Int) < (n : Int) := by omega
  have htg : ∀ {o k a m : Int}, tgt n j ⟨o, k, a, at_, m⟩ = n := by intros; unfold tgt; rw [if_pos (Or.inl hb1)]
  by_cases h25 : op = 25
  · subst h25
    rw [show onI n j ⟨25, kind, area, at_, nn⟩ = [(n : Int)] from by unfold onI; rw [if_pos rfl, show tgt n j ⟨25, kind, area, at_, nn⟩ = (n : Int) from htg]]
    clear htg
    go_enter Try.func10, Try.ntmps10
    go_wp2_with fail
    go_ret
    refine ⟨_, _, rfl, rdI_blk1 (t := 3) ?_, Nat.le_refl _, by simp, ?_⟩
    · exact (new2 _ _ _ _ _).2.1
    · exact bel_a2 _ _ _
  by_cases h26 : op = 26
  · subst h26
    by_cases ht1 : (n : Int) = (j : Int) + 1
    · have hb : ((n : Int) == (j : Int) + 1) = true := by simpa using ht1
      rw [show onI n j ⟨26, kind, area, at_, nn⟩ = [(n : Int)] from by unfold onI; rw [if_neg (by dsimp only; decide), if_pos (by dsimp only; decide), show tgt n j ⟨26, kind, area, at_, nn⟩ = (n : Int) from htg, if_pos ht1]]
      clear htg ht1
      go_enter Try.func10, Try.ntmps10
      go_wp2_with fail
      go_ret
      refine ⟨_, _, rfl, rdI_blk1 (t := 3) ?_, Nat.le_refl _, by simp, ?_⟩
      · exact (new2 _ _ _ _ _).2.1
      · exact bel_a2 _ _ _
    · have hb : ((n : Int) == (j : Int) + 1) = false := by simpa using ht1
      rw [show onI n j ⟨26, kind, area, at_, nn⟩ = [(j : Int) + 1, (n : Int)] from by unfold onI; rw [if_neg (by dsimp only; decide), if_pos (by dsimp only; decide), show tgt n j ⟨26, kind, area, at_, nn⟩ = (n : Int) from htg, if_neg ht1]]
      clear htg ht1
      go_enter Try.func10, Try.ntmps10
      go_wp2_with fail
      go_ret
      refine ⟨_, _, rfl, rdI_blk2 (t := 3) ?_, Nat.le_refl _, by simp, ?_⟩
      · exact (new2 _ _ _ _ _).2.1
      · exact bel_a2 _ _ _
  by_cases h27 : op = 27
  · subst h27
    by_cases ht1 : (n : Int) = (j : Int) + 1
    · have hb : ((n : Int) == (j : Int) + 1) = true := by simpa using ht1
      rw [show onI n j ⟨27, kind, area, at_, nn⟩ = [(n : Int)] from by unfold onI; rw [if_neg (by dsimp only; decide), if_pos (by dsimp only; decide), show tgt n j ⟨27, kind, area, at_, nn⟩ = (n : Int) from htg, if_pos ht1]]
      clear htg ht1
      go_enter Try.func10, Try.ntmps10
      go_wp2_with fail
      go_ret
      refine ⟨_, _, rfl, rdI_blk1 (t := 3) ?_, Nat.le_refl _, by simp, ?_⟩
      · exact (new2 _ _ _ _ _).2.1
      · exact bel_a2 _ _ _
    · have hb : ((n : Int) == (j : Int) + 1) = false := by simpa using ht1
      rw [show onI n j ⟨27, kind, area, at_, nn⟩ = [(j : Int) + 1, (n : Int)] from by unfold onI; rw [if_neg (by dsimp only; decide), if_pos (by dsimp only; decide), show tgt n j ⟨27, kind, area, at_, nn⟩ = (n : Int) from htg, if_neg ht1]]
      clear htg ht1
      go_enter Try.func10, Try.ntmps10
      go_wp2_with fail
      go_ret
      refine ⟨_, _, rfl, rdI_blk2 (t := 3) ?_, Nat.le_refl _, by simp, ?_⟩
      · exact (new2 _ _ _ _ _).2.1
      · exact bel_a2 _ _ _
  clear htg
  by_cases h28 : op = 28
  · subst h28
    rw [show onI n j ⟨28, kind, area, at_, nn⟩ = [(n : Int)] from by unfold onI; rw [if_neg (by dsimp only; decide), if_neg (by dsimp only; decide), if_pos rfl]]
    go_enter Try.func10, Try.ntmps10
    go_wp2_with fail
    go_ret
    refine ⟨_, _, rfl, rdI_blk1 (t := 3) ?_, Nat.le_refl _, by simp, ?_⟩
    · exact (new2 _ _ _ _ _).2.1
    · exact bel_a2 _ _ _
  by_cases h29 : op = 29
  · subst h29
    by_cases ht1 : (j : Int) + 1 = n
    · have hb : ((j : Int) + 1 == (n : Int)) = true := by simpa using ht1
      rw [show onI n j ⟨29, kind, area, at_, nn⟩ = [(n : Int)] from by unfold onI; rw [if_neg (by dsimp only; decide), if_neg (by dsimp only; decide), if_neg (by dsimp only; decide), if_pos (by dsimp only; decide), if_pos ht1]]
      clear ht1
      go_enter Try.func10, Try.ntmps10
      go_wp2_with fail
      go_ret
      refine ⟨_, _, rfl, rdI_blk1 (t := 3) ?_, Nat.le_refl _, by simp, ?_⟩
      · exact (new2 _ _ _ _ _).2.1
      · exact bel_a2 _ _ _
    · have hb : ((j : Int) + 1 == (n : Int)) = false := by simpa using ht1
      rw [show onI n j ⟨29, kind, area, at_, nn⟩ = [(j : Int) + 1, (n : Int)] from by unfold onI; rw [if_neg (by dsimp only; decide), if_neg (by dsimp only; decide), if_neg (by dsimp only; decide), if_pos (by dsimp only; decide), if_neg ht1]]
      clear ht1
      go_enter Try.func10, Try.ntmps10
      go_wp2_with fail
      go_ret
      refine ⟨_, _, rfl, rdI_blk2 (t := 3) ?_, Nat.le_refl _, by simp, ?_⟩
      · exact (new2 _ _ _ _ _).2.1
      · exact bel_a2 _ _ _
  by_cases h30 : op = 30
  · subst h30
    by_cases ht1 : (j : Int) + 1 = n
    · have hb : ((j : Int) + 1 == (n : Int)) = true := by simpa using ht1
      rw [show onI n j ⟨30, kind, area, at_, nn⟩ = [(n : Int)] from by unfold onI; rw [if_neg (by dsimp only; decide), if_neg (by dsimp only; decide), if_neg (by dsimp only; decide), if_pos (by dsimp only; decide), if_pos ht1]]
      clear ht1
      go_enter Try.func10, Try.ntmps10
      go_wp2_with fail
      go_ret
      refine ⟨_, _, rfl, rdI_blk1 (t := 3) ?_, Nat.le_refl _, by simp, ?_⟩
      · exact (new2 _ _ _ _ _).2.1
      · exact bel_a2 _ _ _
    · have hb : ((j : Int) + 1 == (n : Int)) = false := by simpa using ht1
      rw [show onI n j ⟨30, kind, area, at_, nn⟩ = [(j : Int) + 1, (n : Int)] from by unfold onI; rw [if_neg (by dsimp only; decide), if_neg (by dsimp only; decide), if_neg (by dsimp only; decide), if_pos (by dsimp only; decide), if_neg ht1]]
      clear ht1
      go_enter Try.func10, Try.ntmps10
      go_wp2_with fail
      go_ret
      refine ⟨_, _, rfl, rdI_blk2 (t := 3) ?_, Nat.le_refl _, by simp, ?_⟩
      · exact (new2 _ _ _ _ _).2.1
      · exact bel_a2 _ _ _
  rw [show onI n j ⟨op, kind, area, at_, nn⟩ = [(j : Int) + 1] from by unfold onI; rw [if_neg h25, if_neg (by dsimp only; omega), if_neg h28, if_neg (by dsimp only; omega)]]
  have k25 : (op == 25) = false := by simpa using h25
  have k26 : (op == 26) = false := by simpa using h26
  have k27 : (op == 27) = false := by simpa using h27
  have k28 : (op == 28) = false := by simpa using h28
  have k29 : (op == 29) = false := by simpa using h29
  have k30 : (op == 30) = false := by simpa using h30
  clear h25 h26 h27 h28 h29 h30
  go_enter Try.func10, Try.ntmps10
  go_wp2_with fail
  go_ret
  refine ⟨_, _, rfl, rdI_blk1 (t := 3) ?_, Nat.le_refl _, by simp, ?_⟩
  · exact (new2 _ _ _ _ _).2.1
  · exact bel_a2 _ _ _

set_option maxRecDepth 10000 in
set_option maxHeartbeats 4000000 in
theorem On_b (cb co n cap j : Nat) (op kind area at_ nn : Int) (w : World) (x0 : w.cell? ⟨cb, co + j * 5, none⟩ = some (.int .i64 op)) (x1 : w.cell? ⟨cb, co + j * 5 + 1, none⟩ = some (.int .i64 kind))
    (x2 : w.cell? ⟨cb, co + j * 5 + 2, none⟩ = some (.int .i64 area)) (x3 : w.cell? ⟨cb, co + j * 5 + 3, none⟩ = some (.int .i64 at_)) (x4 : w.cell? ⟨cb, co + j * 5 + 4, none⟩ = some (.int .i64 nn)) (hj : j < n) (hn : n ≤ 100000) (hb1 : (j : Int) < at_) (hb2 : (n : Int) < at_) :
    Calls Try.prog 10 #[.slice (some ⟨cb, co, none⟩) n cap, .int .i64 j] w (RetS (onI n j ⟨op, kind, area, at_, nn⟩) w) := by
  have hcb := World.block_lt_of_cell? w _ x0
  have i1 : (0 : Int) ≤ (j : Int) := Int.natCast_nonneg _
  have i2 : (j : Int) < (n : Int) := by omega
  have htg : ∀ {o k a m : Int}, tgt n j ⟨o, k, a, at_, m⟩ = n := by intros; unfold tgt; rw [if_pos (Or.inr hb2)]
  by_cases h25 : op = 25
  · subst h25
    rw [show onI n j ⟨25, kind, area, at_, nn⟩ = [(n : Int)] from by unfold onI; rw [if_pos rfl, show tgt n j ⟨25, kind, area, at_, nn⟩ = (n : Int) from htg]]
    clear htg
    go_enter Try.func10, Try.ntmps10
    go_wp2_with fail
    go_ret
    refine ⟨_, _, rfl, rdI_blk1 (t := 3) ?_, Nat.le_refl _, by simp, ?_⟩
    · exact (new2 _ _ _ _ _).2.1
    · exact bel_a2 _ _ _
  by_cases h26 : op = 26
  · subst h26
    by_cases ht1 : (n : Int) = (j : Int) + 1
    · have hb : ((n : Int) == (j : Int) + 1) = true := by simpa using ht1
      rw [show onI n j ⟨26, kind, area, at_, nn⟩ = [(n : Int)] from by unfold onI; rw [if_neg (by dsimp only; decide), if_pos (by dsimp only; decide), show tgt n j ⟨26, kind, area, at_, nn⟩ = (n : Int) from htg, if_pos ht1]]
      clear htg ht1
      go_enter Try.func10, Try.ntmps10
      go_wp2_with fail
      go_ret
      refine ⟨_, _, rfl, rdI_blk1 (t := 3) ?_, Nat.le_refl _, by simp, ?_⟩
      · exact (new2 _ _ _ _ _).2.1
      · exact bel_a2 _ _ _
    · have hb : ((n : Int) == (j : Int) + 1) = false := by simpa using ht1
      rw [show onI n j ⟨26, kind, area, at_, nn⟩ = [(j : Int) + 1, (n : Int)] from by unfold onI; rw [if_neg (by dsimp only; decide), if_pos (by dsimp only; decide), show tgt n j ⟨26, kind, area, at_, nn⟩ = (n : Int) from htg, if_neg ht1]]
      clear htg ht1
      go_enter Try.func10, Try.ntmps10
      go_wp2_with fail
      go_ret
      refine ⟨_, _, rfl, rdI_blk2 (t := 3) ?_, Nat.le_refl _, by simp, ?_⟩
      · exact (new2 _ _ _ _ _).2.1
      · exact bel_a2 _ _ _
  by_cases h27 : op = 27
  · subst h27
    by_cases ht1 : (n : Int) = (j : Int) + 1
    · have hb : ((n : Int) == (j : Int) + 1) = true := by simpa using ht1
      rw [show onI n j ⟨27, kind, area, at_, nn⟩ = [(n : Int)] from by unfold onI; rw [if_neg (by dsimp only; decide), if_pos (by dsimp only; decide), show tgt n j ⟨27, kind, area, at_, nn⟩ = (n : Int) from htg, if_pos ht1]]
      clear htg ht1
      go_enter Try.func10, Try.ntmps10
      go_wp2_with fail
      go_ret
      refine ⟨_, _, rfl, rdI_blk1 (t := 3) ?_, Nat.le_refl _, by simp, ?_⟩
      · exact (new2 _ _ _ _ _).2.1
      · exact bel_a2 _ _ _
    · have hb : ((n : Int) == (j : Int) + 1) = false := by simpa using ht1
      rw [show onI n j ⟨27, kind, area, at_, nn⟩ = [(j : Int) + 1, (n : Int)] from by unfold onI; rw [if_neg (by dsimp only; decide), if_pos (by dsimp only; decide), show tgt n j ⟨27, kind, area, at_, nn⟩ = (n : Int) from htg, if_neg ht1]]
      clear htg ht1
      go_enter Try.func10, Try.ntmps10
      go_wp2_with fail
      go_ret
      refine ⟨_, _, rfl, rdI_blk2 (t := 3) ?_, Nat.le_refl _, by simp, ?_⟩
      · exact (new2 _ _ _ _ _).2.1
      · exact bel_a2 _ _ _
  clear htg
  by_cases h28 : op = 28
  · subst h28
    rw [show onI n j ⟨28, kind, area, at_, nn⟩ = [(n : Int)] from by unfold onI; rw [if_neg (by dsimp only; decide), if_neg (by dsimp only; decide), if_pos rfl]]
    go_enter Try.func10, Try.ntmps10
    go_wp2_with fail
    go_ret
    refine ⟨_, _, rfl, rdI_blk1 (t := 3) ?_, Nat.le_refl _, by simp, ?_⟩
    · exact (new2 _ _ _ _ _).2.1
    · exact bel_a2 _ _ _
  by_cases h29 : op = 29
  · subst h29
    by_cases ht1 : (j : Int) + 1 = n
    · have hb : ((j : Int) + 1 == (n : Int)) = true := by simpa using ht1
      rw [show onI n j ⟨29, kind, area, at_, nn⟩ = [(n : Int)] from by unfold onI; rw [if_neg (by dsimp only; decide), if_neg (by dsimp only; decide), if_neg (by dsimp only; decide), if_pos (by dsimp only; decide), if_pos ht1]]
      clear ht1
      go_enter Try.func10, Try.ntmps10
      go_wp2_with fail
      go_ret
      refine ⟨_, _, rfl, rdI_blk1 (t := 3) ?_, Nat.le_refl _, by simp, ?_⟩
      · exact (new2 _ _ _ _ _).2.1
      · exact bel_a2 _ _ _
    · have hb : ((j : Int) + 1 == (n : Int)) = false := by simpa using ht1
      rw [show onI n j ⟨29, kind, area, at_, nn⟩ = [(j : Int) + 1, (n : Int)] from by unfold onI; rw [if_neg (by dsimp only; decide), if_neg (by dsimp only; decide), if_neg (by dsimp only; decide), if_pos (by dsimp only; decide), if_neg ht1]]
      clear ht1
      go_enter Try.func10, Try.ntmps10
      go_wp2_with fail
      go_ret
      refine ⟨_, _, rfl, rdI_blk2 (t := 3) ?_, Nat.le_refl _, by simp, ?_⟩
      · exact (new2 _ _ _ _ _).2.1
      · exact bel_a2 _ _ _
  by_cases h30 : op = 30
  · subst h30
    by_cases ht1 : (j : Int) + 1 = n
    · have hb : ((j : Int) + 1 == (n : Int)) = true := by simpa using ht1
      rw [show onI n j ⟨30, kind, area, at_, nn⟩ = [(n : Int)] from by unfold onI; rw [if_neg (by dsimp only; decide), if_neg (by dsimp only; decide), if_neg (by dsimp only; decide), if_pos (by dsimp only; decide), if_pos ht1]]
      clear ht1
      go_enter Try.func10, Try.ntmps10
      go_wp2_with fail
      go_ret
      refine ⟨_, _, rfl, rdI_blk1 (t := 3) ?_, Nat.le_refl _, by simp, ?_⟩
      · exact (new2 _ _ _ _ _).2.1
      · exact bel_a2 _ _ _
    · have hb : ((j : Int) + 1 == (n : Int)) = false := by simpa using ht1
      rw [show onI n j ⟨30, kind, area, at_, nn⟩ = [(j : Int) + 1, (n : Int)] from by unfold onI; rw [if_neg (by dsimp only; decide), if_neg (by dsimp only; decide), if_neg (by dsimp only; decide), if_pos (by dsimp only; decide), if_neg ht1]]
      clear ht1
      go_enter Try.func10, Try.ntmps10
      go_wp2_with fail
      go_ret
      refine ⟨_, _, rfl, rdI_blk2 (t := 3) ?_, Nat.le_refl _, by simp, ?_⟩
      · exact (new2 _ _ _ _ _).2.1
      · exact bel_a2 _ _ _
  rw [show onI n j ⟨op, kind, area, at_, nn⟩ = [(j : Int) + 1] from by unfold onI; rw [if_neg h25, if_neg (by dsimp only; omega), if_neg h28, if_neg (by dsimp only; omega)]]
  have k25 : (op == 25) = false := by simpa using h25
  have k26 : (op == 26) = false := by simpa using h26
  have k27 : (op == 27) = false := by simpa using h27
  have k28 : (op == 28) = false := by simpa using h28
  have k29 : (op == 29) = false := by simpa using h29
  have k30 : (op == 30) = false := by simpa using h30
  clear h25 h26 h27 h28 h29 h30
  go_enter Try.func10, Try.ntmps10
  go_wp2_with fail
  go_ret
  refine ⟨_, _, rfl, rdI_blk1 (t := 3) ?_, Nat.le_refl _, by simp, ?_⟩
  · exact (new2 _ _ _ _ _).2.1
  · exact bel_a2 _ _ _

set_option maxRecDepth 10000 in
set_option maxHeartbeats 4000000 in
theorem On_c (cb co n cap j : Nat) (op kind area at_ nn : Int) (w : World) (x0 : w.cell? ⟨cb, co + j * 5, none⟩ = some (.int .i64 op)) (x1 : w.cell? ⟨cb, co + j * 5 + 1, none⟩ = some (.int .i64 kind))
    (x2 : w.cell? ⟨cb, co + j * 5 + 2, none⟩ = some (.int .i64 area)) (x3 : w.cell? ⟨cb, co + j * 5 + 3, none⟩ = some (.int .i64 at_)) (x4 : w.cell? ⟨cb, co + j * 5 + 4, none⟩ = some (.int .i64 nn)) (hj : j < n) (hn : n ≤ 100000) (hb1 : (j : Int) < at_) (hb2 : at_ ≤ (n : Int)) :
    Calls Try.prog 10 #[.slice (some ⟨cb, co, none⟩) n cap, .int .i64 j] w (RetS (onI n j ⟨op, kind, area, at_, nn⟩) w) := by
  have hcb := World.block_lt_of_cell? w _ x0
  have i1 : (0 : Int) ≤ (j : Int) := Int.natCast_nonneg _
  have i2 : (j : Int) < (n : Int) := by omega
  have htg : ∀ {o k a m : Int}, tgt n j ⟨o, k, a, at_, m⟩ = at_ := by intros; unfold tgt; rw [if_neg (by dsimp only; omega)]
  by_cases h25 : op = 25
  · subst h25
    rw [show onI n j ⟨25, kind, area, at_, nn⟩ = [at_] from by unfold onI; rw [if_pos rfl, show tgt n j ⟨25, kind, area, at_, nn⟩ = at_ from htg]]
    clear htg
    go_enter Try.func10, Try.ntmps10
    go_wp2_with fail
    go_ret
    refine ⟨_, _, rfl, rdI_blk1 (t := 3) ?_, Nat.le_refl _, by simp, ?_⟩
    · exact (new2 _ _ _ _ _).2.1
    · exact bel_a2 _ _ _
  by_cases h26 : op = 26
  · subst h26
    by_cases ht1 : at_ = (j : Int) + 1
    · have hb : (at_ == (j : Int) + 1) = true := by simpa using ht1
      rw [show onI n j ⟨26, kind, area, at_, nn⟩ = [at_] from by unfold onI; rw [if_neg (by dsimp only; decide), if_pos (by dsimp only; decide), show tgt n j ⟨26, kind, area, at_, nn⟩ = at_ from htg, if_pos ht1]]
      clear htg ht1
      go_enter Try.func10, Try.ntmps10
      go_wp2_with fail
      go_ret
      refine ⟨_, _, rfl, rdI_blk1 (t := 3) ?_, Nat.le_refl _, by simp, ?_⟩
      · exact (new2 _ _ _ _ _).2.1
      · exact bel_a2 _ _ _
    · have hb : (at_ == (j : Int) + 1) = false := by simpa using ht1
      rw [show onI n j ⟨26, kind, area, at_, nn⟩ = [(j : Int) + 1, at_] from by unfold onI; rw [if_neg (by dsimp only; decide), if_pos (by dsimp only; decide), show tgt n j ⟨26, kind, area, at_, nn⟩ = at_ from htg, if_neg ht1]]
      clear htg ht1
      go_enter Try.func10, Try.ntmps10
      go_wp2_with fail
      go_ret
      refine ⟨_, _, rfl, rdI_blk2 (t := 3) ?_, Nat.le_refl _, by simp, ?_⟩
      · exact (new2 _ _ _ _ _).2.1
      · exact bel_a2 _ _ _
  by_cases h27 : op = 27
  · subst h27
    by_cases ht1 : at_ = (j : Int) + 1
    · have hb : (at_ == (j : Int) + 1) = true := by simpa using ht1
      rw [show onI n j ⟨27, kind, area, at_, nn⟩ = [at_] from by unfold onI; rw [if_neg (by dsimp only; decide), if_pos (by dsimp only; decide), show tgt n j ⟨27, kind, area, at_, nn⟩ = at_ from htg, if_pos ht1]]
      clear htg ht1
      go_enter Try.func10, Try.ntmps10
      go_wp2_with fail
      go_ret
      refine ⟨_, _, rfl, rdI_blk1 (t := 3) ?_, Nat.le_refl _, by simp, ?_⟩
      · exact (new2 _ _ _ _ _).2.1
      · exact bel_a2 _ _ _
    · have hb : (at_ == (j : Int) + 1) = false := by simpa using ht1
      rw [show onI n j ⟨27, kind, area, at_, nn⟩ = [(j : Int) + 1, at_] from by unfold onI; rw [if_neg (by dsimp only; decide), if_pos (by dsimp only; decide), show tgt n j ⟨27, kind, area, at_, nn⟩ = at_ from htg, if_neg ht1]]
      clear htg ht1
      go_enter Try.func10, Try.ntmps10
      go_wp2_with fail
      go_ret
      refine ⟨_, _, rfl, rdI_blk2 (t := 3) ?_, Nat.le_refl _, by simp, ?_⟩
      · exact (new2 _ _ _ _ _).2.1
      · exact bel_a2 _ _ _
  clear htg
  by_cases h28 : op = 28
  · subst h28
    rw [show onI n j ⟨28, kind, area, at_, nn⟩ = [(n : Int)] from by unfold onI; rw [if_neg (by dsimp only; decide), if_neg (by dsimp only; decide), if_pos rfl]]
    go_enter Try.func10, Try.ntmps10
    go_wp2_with fail
    go_ret
    refine ⟨_, _, rfl, rdI_blk1 (t := 3) ?_, Nat.le_refl _, by simp, ?_⟩
    · exact (new2 _ _ _ _ _).2.1
    · exact bel_a2 _ _ _
  by_cases h29 : op = 29
  · subst h29
    by_cases ht1 : (j : Int) + 1 = n
    · have hb : ((j : Int) + 1 == (n : Int)) = true := by simpa using ht1
      rw [show onI n j ⟨29, kind, area, at_, nn⟩ = [(n : Int)] from by unfold onI; rw [if_neg (by dsimp only; decide), if_neg (by dsimp only; decide), if_neg (by dsimp only; decide), if_pos (by dsimp only; decide), if_pos ht1]]
      clear ht1
      go_enter Try.func10, Try.ntmps10
      go_wp2_with fail
      go_ret
      refine ⟨_, _, rfl, rdI_blk1 (t := 3) ?_, Nat.le_refl _, by simp, ?_⟩
      · exact (new2 _ _ _ _ _).2.1
      · exact bel_a2 _ _ _
    · have hb : ((j : Int) + 1 == (n : Int)) = false := by simpa using ht1
      rw [show onI n j ⟨29, kind, area, at_, nn⟩ = [(j : Int) + 1, (n : Int)] from by unfold onI; rw [if_neg (by dsimp only; decide), if_neg (by dsimp only; decide), if_neg (by dsimp only; decide), if_pos (by dsimp only; decide), if_neg ht1]]
      clear ht1
      go_enter Try.func10, Try.ntmps10
      go_wp2_with fail
      go_ret
      refine ⟨_, _, rfl, rdI_blk2 (t := 3) ?_, Nat.le_refl _, by simp, ?_⟩
      · exact (new2 _ _ _ _ _).2.1
      · exact bel_a2 _ _ _
  by_cases h30 : op = 30
  · subst h30
    by_cases ht1 : (j : Int) + 1 = n
    · have hb : ((j : Int) + 1 == (n : Int)) = true := by simpa using ht1
      rw [show onI n j ⟨30, kind, area, at_, nn⟩ = [(n : Int)] from by unfold onI; rw [if_neg (by dsimp only; decide), if_neg (by dsimp only; decide), if_neg (by dsimp only; decide), if_pos (by dsimp only; decide), if_pos ht1]]
      clear ht1
      go_enter Try.func10, Try.ntmps10
      go_wp2_with fail
      go_ret
      refine ⟨_, _, rfl, rdI_blk1 (t := 3) ?_, Nat.le_refl _, by simp, ?_⟩
      · exact (new2 _ _ _ _ _).2.1
      · exact bel_a2 _ _ _
    · have hb : ((j : Int) + 1 == (n : Int)) = false := by simpa using ht1
      rw [show onI n j ⟨30, kind, area, at_, nn⟩ = [(j : Int) + 1, (n : Int)] from by unfold onI; rw [if_neg (by dsimp only; decide), if_neg (by dsimp only; decide), if_neg (by dsimp only; decide), if_pos (by dsimp only; decide), if_neg ht1]]
      clear ht1
      go_enter Try.func10, Try.ntmps10
      go_wp2_with fail
      go_ret
      refine ⟨_, _, rfl, rdI_blk2 (t := 3) ?_, Nat.le_refl _, by simp, ?_⟩
      · exact (new2 _ _ _ _ _).2.1
      · exact bel_a2 _ _ _
  rw [show onI n j ⟨op, kind, area, at_, nn⟩ = [(j : Int) + 1] from by unfold onI; rw [if_neg h25, if_neg (by dsimp only; omega), if_neg h28, if_neg (by dsimp only; omega)]]
  have k25 : (op == 25) = false := by simpa using h25
  have k26 : (op == 26) = false := by simpa using h26
  have k27 : (op == 27) = false := by simpa using h27
  have k28 : (op == 28) = false := by simpa using h28
  have k29 : (op == 29) = false := by simpa using h29
  have k30 : (op == 30) = false := by simpa using h30
  clear h25 h26 h27 h28 h29 h30
  go_enter Try.func10, Try.ntmps10
  go_wp2_with fail
  go_ret
  refine ⟨_, _, rfl, rdI_blk1 (t := 3) ?_, Nat.le_refl _, by simp, ?_⟩
  · exact (new2 _ _ _ _ _).2.1
  · exact bel_a2 _ _ _

theorem On_calls (a : Option Addr) (l : List Ins) (cap j : Nat) (w : World) (hr : RdIns w a l) (hj : j < l.length) (hn : l.length ≤ 100000) :
    Calls Try.prog 10 #[.slice a l.length cap, .int .i64 j] w (RetS (onI l.length j l[j]) w) := by
  obtain ⟨cb, co, rfl, hcb, x0, x1, x2, x3, x4⟩ := hr.cell j hj
  obtain ⟨i, hi⟩ : ∃ i, l[j] = i := ⟨_, rfl⟩
  rw [hi] at x0 x1 x2 x3 x4 ⊢
  obtain ⟨op, kind, area, at_, nn⟩ := i
  by_cases h1 : at_ ≤ (j : Int)
  · exact On_a cb co _ cap j op kind area at_ nn w x0 x1 x2 x3 x4 hj hn h1
  by_cases h2 : (l.length : Int) < at_
  · exact On_b cb co _ cap j op kind area at_ nn w x0 x1 x2 x3 x4 hj hn (by omega) h2
  · exact On_c cb co _ cap j op kind area at_ nn w x0 x1 x2 x3 x4 hj hn (by omega) (by omega)
end Go.Proofs.Ytejdkaniepgbdaa
