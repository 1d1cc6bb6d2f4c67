/- timing: leads. -/
import Derived.Test.YtejdkaniepgbdaaTa
import Derived.Test.YtejdkaniepgbdaaSh
import Derived.Deep.MidRow
set_option linter.unusedVariables false
set_option linter.unusedSimpArgs false
namespace Go.Proofs.Ytejdkaniepgbdaa
open Go.RowKit

theorem compact1 (x : Int) : Lib.compact [x] = [x] := by
  simp [Lib.compact, Lib.compactUpTo, Lib.keeps, List.range_succ]
theorem compact2 (x y : Int) : Lib.compact [x, y] = if y = x then [x] else [x, y] := by
  by_cases h : y = x
  · subst h
    simp [Lib.compact, Lib.compactUpTo, Lib.keeps, List.range_succ]
  · rw [if_neg h]
    simp [Lib.compact, Lib.compactUpTo, Lib.keeps, List.range_succ, h]
theorem bel_sets {B : Nat} {w0 : World} (b : Nat) (hb : B ≤ b) : ∀ (vs : List Value) (o : Nat) (w1 : World), Below B w0 w1 → Below B w0 (w1.setCells b o vs)
  | [], _, _, h => h
  | v :: vs, o, w1, h => bel_sets b hb vs (o + 1) _ (h.setCell hb v)

theorem Compact_list (b c : Nat) (L M : List Int) (w : World) (hr : ∀ j, j < L.length → w.cell? ⟨b, j, none⟩ = some (.int .i64 (L.getD j 0))) (hf : ∀ j, w.frozen? ⟨b, j, none⟩ = false) (hl : L.length ≤ 1000) (hc : L.length ≤ c) (hm : Lib.compact L = M) (hml : M.length ≤ L.length) :
    Calls Try.prog 29 #[.slice (some ⟨b, 0, none⟩) L.length c] w fun e w' => e = .returned (.slice (some ⟨b, 0, none⟩) M.length c) ∧ RdI w' (some ⟨b, 0, none⟩) M ∧ ∀ B w0, B ≤ b → Below B w0 w → Below B w0 w' := by
  have h := Try.slices_Compact_int_cells b 0 L.length c L w (Nat.le_refl _) (by omega) hc (fun j hj => by rw [Nat.zero_add]; exact hr j hj) (fun j hj => hf _)
  rw [List.take_of_length_le (Nat.le_refl _), hm] at h
  refine h.mono ?_
  rintro e w' ⟨rfl, q, rfl⟩
  refine ⟨rfl, .inr ⟨b, 0, rfl, fun j hj => ?_⟩, fun B w0 hB hb => bel_sets b hB _ _ _ (bel_drewN hb q)⟩
  have ht : (w.drewN q).there b 0 ((M ++ List.replicate (L.length - M.length) 0).map (Value.int .i64)).length := by
    intro i hi
    simp at hi
    have e : ((w.drewN q).cell? ⟨b, 0 + i, none⟩) = some (.int .i64 (L.getD i 0)) := by
      rw [Nat.zero_add]
      exact hr i (by omega)
    exact ⟨by rw [e]; rfl, hf _⟩
  have hs := World.rangeAt_setCells_same (w.drewN q) b 0 _ ht j (.int .i64 (M.getD j 0)) (by
    rw [List.map_append, List.getElem?_append_left (by simpa using hj)]
    simp [List.getD_eq_getElem?_getD, List.getElem?_eq_getElem hj])
  exact hs

def ldI (n at_ : Int) (i : Ins) : List Int :=
  if i.op = 25 then [i.at_] else if i.op = 26 ∨ i.op = 27 then (if i.at_ = at_ + 1 then [at_ + 1] else [at_ + 1, i.at_])
  else if i.op = 28 then [n] else if i.op = 29 ∨ i.op = 30 then (if n = at_ + 1 then [at_ + 1] else [at_ + 1, n]) else [at_ + 1]

theorem own1 (w : World) (x : Int) (b : Nat) (hb : Blk w b #[.int .i64 x] 3) : OwnI w 0 (.slice (some ⟨b, 0, none⟩) 1 1) [x] :=
  ⟨rfl, .inr ⟨b, 1, _, rfl, Nat.zero_le _, hb, Nat.le_refl _, by decide, rfl, rfl⟩⟩
theorem OwnI.free {w : World} {base : Nat} {b n c : Nat} {xs : List Int} (h : OwnI w base (.slice (some ⟨b, 0, none⟩) n c) xs) (j : Nat) : w.frozen? ⟨b, j, none⟩ = false := by
  rcases h.2 with ⟨h, _⟩ | ⟨g, cap, cur, h, hb, hh, _⟩
  · cases h
  · injection h with h1 h2 h3
    injection h1 with h1
    injection h1 with h1
    subst h1
    exact Blk.free hh j
theorem OwnI.at {w : World} {base : Nat} {b n c : Nat} {xs : List Int} (h : OwnI w base (.slice (some ⟨b, 0, none⟩) n c) xs) : n = xs.length ∧ xs.length ≤ c ∧ (∀ j, j < xs.length → w.cell? ⟨b, j, none⟩ = some (.int .i64 (xs.getD j 0))) := by
  obtain ⟨a, cap, e, hr, hc, _⟩ := h.rd
  injection e with e1 e2 e3
  subst e3
  refine ⟨e2, hc, fun j hj => ?_⟩
  obtain ⟨b', off, e4, h4⟩ := hr.cell j hj
  rw [← e1] at e4
  injection e4 with e4
  injection e4 with e5 e6
  subst e5
  rw [← e6, Nat.zero_add] at h4
  exact h4

theorem wpl_pair {ops : Array Oper} {rest : List Oper} {o : Oper} {a : Act} {Q : Exit → Act → World → Prop} (W w : World) (hgd : o.guard = none) (s x : Operand)
    (ho : o.op = .call { callee := .builtin .append, args := #[s, x], argTypes := #[28, 28] }) (b : Nat) (p q : Int) (H : Nat) (hs : a.eval s = .slice (some ⟨b, 0, none⟩) 1 1) (hb : Blk W b #[.int .i64 p] 3)
    (hx : a.eval x = .slice (some ⟨H, 0, none⟩) 1 1) (hH : W.heap.size = H) (hbel : Below w.heap.size w W) (hwb : w.heap.size ≤ b)
    (hK : ∀ g cap w', (∀ j, j < 2 → w'.cell? ⟨g, j, none⟩ = some (.int .i64 ([p, q].getD j 0))) → (∀ j, w'.frozen? ⟨g, j, none⟩ = false) → 2 ≤ cap → cap ≤ 9223372036854775807 → w.heap.size ≤ g → Below w.heap.size w w' →
      wpList Try.prog ops Q rest (a.put o.dst (.slice (some ⟨g, 0, none⟩) 2 cap)) w') :
    wpList Try.prog ops Q (o :: rest) a (W.alloc (.cells #[.int .i64 q] 3)) := by
  subst hH
  have hsz := hbel.size
  refine wpl_app1 W hgd s x ho 0 (.slice (some ⟨b, 0, none⟩) 1 1) [p] q hs (own1 W p b hb) hx (by simp) (Nat.zero_le _) ?_
  intro g cap w' hown hgrow hat hlt
  obtain ⟨h1, h2, h3⟩ := hown.at
  obtain ⟨_, cc, hcc, _, _, hmx⟩ := hown.rd
  injection hcc with _ _ hcc
  subst hcc
  refine hK g cap w' (fun j hj => h3 j (by simpa using hj)) (fun j => hown.free j) (by simpa using h2) hmx ?_ ?_
  · rcases hat with h | h
    · have h' : b = g := by simpa [Value.ownBlock] using h
      omega
    · omega
  · exact (hbel.alloc hsz _).grown hgrow (by simp; omega) (fun k hk => by
    have h' : b = k := by simpa [Value.ownBlock] using hk
    omega)

set_option maxRecDepth 10000 in
set_option maxHeartbeats 4000000 in
theorem leads_25 (cb co n cap j : Nat) (kind area at_ nn : Int) (w : World) (x0 : w.cell? ⟨cb, co + j * 5, none⟩ = some (.int .i64 25)) (x1 : w.cell? ⟨cb, co + j * 5 + 1, none⟩ = some (.int .i64 kind))
    (x2 : w.cell? ⟨cb, co + j * 5 + 2, none⟩ = some (.int .i64 area)) (x3 : w.cell? ⟨cb, co + j * 5 + 3, none⟩ = some (.int .i64 at_)) (x4 : w.cell? ⟨cb, co + j * 5 + 4, none⟩ = some (.int .i64 nn)) (hj : j < n) (hn : n ≤ 100000) :
    Calls Try.prog 18 #[.slice (some ⟨cb, co, none⟩) n cap, .int .i64 j] w (RetS ([at_]) w) := by
  have hcb := World.block_lt_of_cell? w _ x0
  have i1 : (0 : Int) ≤ (j : Int) := Int.natCast_nonneg _
  have i2 : (j : Int) < (n : Int) := by omega
  go_enter Try.func18, Try.ntmps18
  go_wp2_with fail
  have hb : Blk (((w.alloc (.cells #[.int .i64 25, .int .i64 kind, .int .i64 area, .int .i64 at_, .int .i64 nn] 48)).alloc (.cells #[.int .i64 ((j : Int) + 1)] 3)).alloc (.cells #[.int .i64 at_] 3)) (w.heap.size + 1 + 1) #[.int .i64 at_] 3 := by simpa using Blk.new ((w.alloc (.cells #[.int .i64 25, .int .i64 kind, .int .i64 area, .int .i64 at_, .int .i64 nn] 48)).alloc (.cells #[.int .i64 ((j : Int) + 1)] 3)) #[.int .i64 at_] 3
  have hbw := bel_a3 w (.cells #[.int .i64 25, .int .i64 kind, .int .i64 area, .int .i64 at_, .int .i64 nn] 48) (.cells #[.int .i64 ((j : Int) + 1)] 3) (.cells #[.int .i64 at_] 3)
  generalize (((w.alloc (.cells #[.int .i64 25, .int .i64 kind, .int .i64 area, .int .i64 at_, .int .i64 nn] 48)).alloc (.cells #[.int .i64 ((j : Int) + 1)] 3)).alloc (.cells #[.int .i64 at_] 3)) = W at *
  refine (Compact_list _ 1 [at_] [at_] _ (fun q hq => by have : q = 0 := (by simp at hq; omega); subst this; exact hb.cell 0 _ rfl) (fun q => hb.free q) (by simp) (by simp) (compact1 _) (by simp)).mono ?_
  rintro e w5 ⟨rfl, hr5, hb5⟩
  have HR5 := hid hr5
  have HB5 := hid (hb5 w.heap.size w (by omega) hbw)
  clear hr5 hb5 hb hbw
  go_wp2_with fail
  go_ret
  exact ⟨_, _, rfl, HR5.out, by simp, by simp, HB5.out⟩

set_option maxRecDepth 10000 in
set_option maxHeartbeats 4000000 in
theorem leads_26 (cb co n cap j : Nat) (kind area at_ nn : Int) (w : World) (x0 : w.cell? ⟨cb, co + j * 5, none⟩ = some (.int .i64 26)) (x1 : w.cell? ⟨cb, co + j * 5 + 1, none⟩ = some (.int .i64 kind))
    (x2 : w.cell? ⟨cb, co + j * 5 + 2, none⟩ = some (.int .i64 area)) (x3 : w.cell? ⟨cb, co + j * 5 + 3, none⟩ = some (.int .i64 at_)) (x4 : w.cell? ⟨cb, co + j * 5 + 4, none⟩ = some (.int .i64 nn)) (hj : j < n) (hn : n ≤ 100000) :
    Calls Try.prog 18 #[.slice (some ⟨cb, co, none⟩) n cap, .int .i64 j] w (RetS (if at_ = (j : Int) + 1 then [(j : Int) + 1] else [(j : Int) + 1, at_]) w) := by
  have hcb := World.block_lt_of_cell? w _ x0
  have i1 : (0 : Int) ≤ (j : Int) := Int.natCast_nonneg _
  have i2 : (j : Int) < (n : Int) := by omega
  obtain ⟨M, hM⟩ : ∃ M, Lib.compact [(j : Int) + 1, at_] = M := ⟨_, rfl⟩
  have hM2 : (if at_ = (j : Int) + 1 then [(j : Int) + 1] else [(j : Int) + 1, at_]) = M := by rw [← hM, compact2]
  have hM3 : M.length ≤ 2 := by rw [← hM, compact2]; split <;> simp
  have HM := hid hM
  rw [hM2]
  clear hM hM2
  have hb : Blk ((w.alloc (.cells #[.int .i64 26, .int .i64 kind, .int .i64 area, .int .i64 at_, .int .i64 nn] 48)).alloc (.cells #[.int .i64 ((j : Int) + 1)] 3)) (w.heap.size + 1) #[.int .i64 ((j : Int) + 1)] 3 := by simpa using Blk.new (w.alloc (.cells #[.int .i64 26, .int .i64 kind, .int .i64 area, .int .i64 at_, .int .i64 nn] 48)) #[.int .i64 ((j : Int) + 1)] 3
  have HBW := hid (bel_a2 w (.cells #[.int .i64 26, .int .i64 kind, .int .i64 area, .int .i64 at_, .int .i64 nn] 48) (.cells #[.int .i64 ((j : Int) + 1)] 3))
  have HB := hid hb
  clear hb
  go_enter Try.func18, Try.ntmps18
  go_wp2_with (at_builtin; refine wpl_pair ((w.alloc (.cells #[.int .i64 26, .int .i64 kind, .int .i64 area, .int .i64 at_, .int .i64 nn] 48)).alloc (.cells #[.int .i64 ((j : Int) + 1)] 3)) w rfl _ _ rfl (w.heap.size + 1) _ (at_) (w.heap.size + 1 + 1) rfl HB.out rfl (by simp) HBW.out (by omega) ?_)
  intro g cap' w4 h3 hf h2 hmx' hg hbw4
  have PC := hid (Compact_list g cap' [(j : Int) + 1, at_] M w4 h3 hf (by simp) h2 HM.out (by simpa using hM3))
  have HB4 := hid hbw4
  clear hbw4 h3 hf HBW HM HB
  go_wp2_with fail
  refine PC.out.mono ?_
  rintro e w5 ⟨rfl, hr5, hb5⟩
  have HR5 := hid hr5
  have HB5 := hid (hb5 w.heap.size w hg HB4.out)
  clear hr5 hb5
  go_wp2_with fail
  go_ret
  exact ⟨_, _, rfl, HR5.out, by omega, hmx', HB5.out⟩

set_option maxRecDepth 10000 in
set_option maxHeartbeats 4000000 in
theorem leads_27 (cb co n cap j : Nat) (kind area at_ nn : Int) (w : World) (x0 : w.cell? ⟨cb, co + j * 5, none⟩ = some (.int .i64 27)) (x1 : w.cell? ⟨cb, co + j * 5 + 1, none⟩ = some (.int .i64 kind))
    (x2 : w.cell? ⟨cb, co + j * 5 + 2, none⟩ = some (.int .i64 area)) (x3 : w.cell? ⟨cb, co + j * 5 + 3, none⟩ = some (.int .i64 at_)) (x4 : w.cell? ⟨cb, co + j * 5 + 4, none⟩ = some (.int .i64 nn)) (hj : j < n) (hn : n ≤ 100000) :
    Calls Try.prog 18 #[.slice (some ⟨cb, co, none⟩) n cap, .int .i64 j] w (RetS (if at_ = (j : Int) + 1 then [(j : Int) + 1] else [(j : Int) + 1, at_]) w) := by
  have hcb := World.block_lt_of_cell? w _ x0
  have i1 : (0 : Int) ≤ (j : Int) := Int.natCast_nonneg _
  have i2 : (j : Int) < (n : Int) := by omega
  obtain ⟨M, hM⟩ : ∃ M, Lib.compact [(j : Int) + 1, at_] = M := ⟨_, rfl⟩
  have hM2 : (if at_ = (j : Int) + 1 then [(j : Int) + 1] else [(j : Int) + 1, at_]) = M := by rw [← hM, compact2]
  have hM3 : M.length ≤ 2 := by rw [← hM, compact2]; split <;> simp
  have HM := hid hM
  rw [hM2]
  clear hM hM2
  have hb : Blk ((w.alloc (.cells #[.int .i64 27, .int .i64 kind, .int .i64 area, .int .i64 at_, .int .i64 nn] 48)).alloc (.cells #[.int .i64 ((j : Int) + 1)] 3)) (w.heap.size + 1) #[.int .i64 ((j : Int) + 1)] 3 := by simpa using Blk.new (w.alloc (.cells #[.int .i64 27, .int .i64 kind, .int .i64 area, .int .i64 at_, .int .i64 nn] 48)) #[.int .i64 ((j : Int) + 1)] 3
  have HBW := hid (bel_a2 w (.cells #[.int .i64 27, .int .i64 kind, .int .i64 area, .int .i64 at_, .int .i64 nn] 48) (.cells #[.int .i64 ((j : Int) + 1)] 3))
  have HB := hid hb
  clear hb
  go_enter Try.func18, Try.ntmps18
  go_wp2_with (at_builtin; refine wpl_pair ((w.alloc (.cells #[.int .i64 27, .int .i64 kind, .int .i64 area, .int .i64 at_, .int .i64 nn] 48)).alloc (.cells #[.int .i64 ((j : Int) + 1)] 3)) w rfl _ _ rfl (w.heap.size + 1) _ (at_) (w.heap.size + 1 + 1) rfl HB.out rfl (by simp) HBW.out (by omega) ?_)
  intro g cap' w4 h3 hf h2 hmx' hg hbw4
  have PC := hid (Compact_list g cap' [(j : Int) + 1, at_] M w4 h3 hf (by simp) h2 HM.out (by simpa using hM3))
  have HB4 := hid hbw4
  clear hbw4 h3 hf HBW HM HB
  go_wp2_with fail
  refine PC.out.mono ?_
  rintro e w5 ⟨rfl, hr5, hb5⟩
  have HR5 := hid hr5
  have HB5 := hid (hb5 w.heap.size w hg HB4.out)
  clear hr5 hb5
  go_wp2_with fail
  go_ret
  exact ⟨_, _, rfl, HR5.out, by omega, hmx', HB5.out⟩

set_option maxRecDepth 10000 in
set_option maxHeartbeats 4000000 in
theorem leads_28 (cb co n cap j : Nat) (kind area at_ nn : Int) (w : World) (x0 : w.cell? ⟨cb, co + j * 5, none⟩ = some (.int .i64 28)) (x1 : w.cell? ⟨cb, co + j * 5 + 1, none⟩ = some (.int .i64 kind))
    (x2 : w.cell? ⟨cb, co + j * 5 + 2, none⟩ = some (.int .i64 area)) (x3 : w.cell? ⟨cb, co + j * 5 + 3, none⟩ = some (.int .i64 at_)) (x4 : w.cell? ⟨cb, co + j * 5 + 4, none⟩ = some (.int .i64 nn)) (hj : j < n) (hn : n ≤ 100000) :
    Calls Try.prog 18 #[.slice (some ⟨cb, co, none⟩) n cap, .int .i64 j] w (RetS ([(n : Int)]) w) := by
  have hcb := World.block_lt_of_cell? w _ x0
  have i1 : (0 : Int) ≤ (j : Int) := Int.natCast_nonneg _
  have i2 : (j : Int) < (n : Int) := by omega
  go_enter Try.func18, Try.ntmps18
  go_wp2_with fail
  have hb : Blk (((w.alloc (.cells #[.int .i64 28, .int .i64 kind, .int .i64 area, .int .i64 at_, .int .i64 nn] 48)).alloc (.cells #[.int .i64 ((j : Int) + 1)] 3)).alloc (.cells #[.int .i64 (n : Int)] 3)) (w.heap.size + 1 + 1) #[.int .i64 (n : Int)] 3 := by simpa using Blk.new ((w.alloc (.cells #[.int .i64 28, .int .i64 kind, .int .i64 area, .int .i64 at_, .int .i64 nn] 48)).alloc (.cells #[.int .i64 ((j : Int) + 1)] 3)) #[.int .i64 (n : Int)] 3
  have hbw := bel_a3 w (.cells #[.int .i64 28, .int .i64 kind, .int .i64 area, .int .i64 at_, .int .i64 nn] 48) (.cells #[.int .i64 ((j : Int) + 1)] 3) (.cells #[.int .i64 (n : Int)] 3)
  generalize (((w.alloc (.cells #[.int .i64 28, .int .i64 kind, .int .i64 area, .int .i64 at_, .int .i64 nn] 48)).alloc (.cells #[.int .i64 ((j : Int) + 1)] 3)).alloc (.cells #[.int .i64 (n : Int)] 3)) = W at *
  refine (Compact_list _ 1 [(n : Int)] [(n : Int)] _ (fun q hq => by have : q = 0 := (by simp at hq; omega); subst this; exact hb.cell 0 _ rfl) (fun q => hb.free q) (by simp) (by simp) (compact1 _) (by simp)).mono ?_
  rintro e w5 ⟨rfl, hr5, hb5⟩
  have HR5 := hid hr5
  have HB5 := hid (hb5 w.heap.size w (by omega) hbw)
  clear hr5 hb5 hb hbw
  go_wp2_with fail
  go_ret
  exact ⟨_, _, rfl, HR5.out, by simp, by simp, HB5.out⟩

set_option maxRecDepth 10000 in
set_option maxHeartbeats 4000000 in
theorem leads_29 (cb co n cap j : Nat) (kind area at_ nn : Int) (w : World) (x0 : w.cell? ⟨cb, co + j * 5, none⟩ = some (.int .i64 29)) (x1 : w.cell? ⟨cb, co + j * 5 + 1, none⟩ = some (.int .i64 kind))
    (x2 : w.cell? ⟨cb, co + j * 5 + 2, none⟩ = some (.int .i64 area)) (x3 : w.cell? ⟨cb, co + j * 5 + 3, none⟩ = some (.int .i64 at_)) (x4 : w.cell? ⟨cb, co + j * 5 + 4, none⟩ = some (.int .i64 nn)) (hj : j < n) (hn : n ≤ 100000) :
    Calls Try.prog 18 #[.slice (some ⟨cb, co, none⟩) n cap, .int .i64 j] w (RetS (if (n : Int) = (j : Int) + 1 then [(j : Int) + 1] else [(j : Int) + 1, (n : Int)]) w) := by
  have hcb := World.block_lt_of_cell? w _ x0
  have i1 : (0 : Int) ≤ (j : Int) := Int.natCast_nonneg _
  have i2 : (j : Int) < (n : Int) := by omega
  obtain ⟨M, hM⟩ : ∃ M, Lib.compact [(j : Int) + 1, (n : Int)] = M := ⟨_, rfl⟩
  have hM2 : (if (n : Int) = (j : Int) + 1 then [(j : Int) + 1] else [(j : Int) + 1, (n : Int)]) = M := by rw [← hM, compact2]
  have hM3 : M.length ≤ 2 := by rw [← hM, compact2]; split <;> simp
  have HM := hid hM
  rw [hM2]
  clear hM hM2
  have hb : Blk ((w.alloc (.cells #[.int .i64 29, .int .i64 kind, .int .i64 area, .int .i64 at_, .int .i64 nn] 48)).alloc (.cells #[.int .i64 ((j : Int) + 1)] 3)) (w.heap.size + 1) #[.int .i64 ((j : Int) + 1)] 3 := by simpa using Blk.new (w.alloc (.cells #[.int .i64 29, .int .i64 kind, .int .i64 area, .int .i64 at_, .int .i64 nn] 48)) #[.int .i64 ((j : Int) + 1)] 3
  have HBW := hid (bel_a2 w (.cells #[.int .i64 29, .int .i64 kind, .int .i64 area, .int .i64 at_, .int .i64 nn] 48) (.cells #[.int .i64 ((j : Int) + 1)] 3))
  have HB := hid hb
  clear hb
  go_enter Try.func18, Try.ntmps18
  go_wp2_with (at_builtin; refine wpl_pair ((w.alloc (.cells #[.int .i64 29, .int .i64 kind, .int .i64 area, .int .i64 at_, .int .i64 nn] 48)).alloc (.cells #[.int .i64 ((j : Int) + 1)] 3)) w rfl _ _ rfl (w.heap.size + 1) _ ((n : Int)) (w.heap.size + 1 + 1) rfl HB.out rfl (by simp) HBW.out (by omega) ?_)
  intro g cap' w4 h3 hf h2 hmx' hg hbw4
  have PC := hid (Compact_list g cap' [(j : Int) + 1, (n : Int)] M w4 h3 hf (by simp) h2 HM.out (by simpa using hM3))
  have HB4 := hid hbw4
  clear hbw4 h3 hf HBW HM HB
  go_wp2_with fail
  refine PC.out.mono ?_
  rintro e w5 ⟨rfl, hr5, hb5⟩
  have HR5 := hid hr5
  have HB5 := hid (hb5 w.heap.size w hg HB4.out)
  clear hr5 hb5
  go_wp2_with fail
  go_ret
  exact ⟨_, _, rfl, HR5.out, by omega, hmx', HB5.out⟩

set_option maxRecDepth 10000 in
set_option maxHeartbeats 4000000 in
theorem leads_30 (cb co n cap j : Nat) (kind area at_ nn : Int) (w : World) (x0 : w.cell? ⟨cb, co + j * 5, none⟩ = some (.int .i64 30)) (x1 : w.cell? ⟨cb, co + j * 5 + 1, none⟩ = some (.int .i64 kind))
    (x2 : w.cell? ⟨cb, co + j * 5 + 2, none⟩ = some (.int .i64 area)) (x3 : w.cell? ⟨cb, co + j * 5 + 3, none⟩ = some (.int .i64 at_)) (x4 : w.cell? ⟨cb, co + j * 5 + 4, none⟩ = some (.int .i64 nn)) (hj : j < n) (hn : n ≤ 100000) :
    Calls Try.prog 18 #[.slice (some ⟨cb, co, none⟩) n cap, .int .i64 j] w (RetS (if (n : Int) = (j : Int) + 1 then [(j : Int) + 1] else [(j : Int) + 1, (n : Int)]) w) := by
  have hcb := World.block_lt_of_cell? w _ x0
  have i1 : (0 : Int) ≤ (j : Int) := Int.natCast_nonneg _
  have i2 : (j : Int) < (n : Int) := by omega
  obtain ⟨M, hM⟩ : ∃ M, Lib.compact [(j : Int) + 1, (n : Int)] = M := ⟨_, rfl⟩
  have hM2 : (if (n : Int) = (j : Int) + 1 then [(j : Int) + 1] else [(j : Int) + 1, (n : Int)]) = M := by rw [← hM, compact2]
  have hM3 : M.length ≤ 2 := by rw [← hM, compact2]; split <;> simp
  have HM := hid hM
  rw [hM2]
  clear hM hM2
  have hb : Blk ((w.alloc (.cells #[.int .i64 30, .int .i64 kind, .int .i64 area, .int .i64 at_, .int .i64 nn] 48)).alloc (.cells #[.int .i64 ((j : Int) + 1)] 3)) (w.heap.size + 1) #[.int .i64 ((j : Int) + 1)] 3 := by simpa using Blk.new (w.alloc (.cells #[.int .i64 30, .int .i64 kind, .int .i64 area, .int .i64 at_, .int .i64 nn] 48)) #[.int .i64 ((j : Int) + 1)] 3
  have HBW := hid (bel_a2 w (.cells #[.int .i64 30, .int .i64 kind, .int .i64 area, .int .i64 at_, .int .i64 nn] 48) (.cells #[.int .i64 ((j : Int) + 1)] 3))
  have HB := hid hb
  clear hb
  go_enter Try.func18, Try.ntmps18
  go_wp2_with (at_builtin; refine wpl_pair ((w.alloc (.cells #[.int .i64 30, .int .i64 kind, .int .i64 area, .int .i64 at_, .int .i64 nn] 48)).alloc (.cells #[.int .i64 ((j : Int) + 1)] 3)) w rfl _ _ rfl (w.heap.size + 1) _ ((n : Int)) (w.heap.size + 1 + 1) rfl HB.out rfl (by simp) HBW.out (by omega) ?_)
  intro g cap' w4 h3 hf h2 hmx' hg hbw4
  have PC := hid (Compact_list g cap' [(j : Int) + 1, (n : Int)] M w4 h3 hf (by simp) h2 HM.out (by simpa using hM3))
  have HB4 := hid hbw4
  clear hbw4 h3 hf HBW HM HB
  go_wp2_with fail
  refine PC.out.mono ?_
  rintro e w5 ⟨rfl, hr5, hb5⟩
  have HR5 := hid hr5
  have HB5 := hid (hb5 w.heap.size w hg HB4.out)
  clear hr5 hb5
  go_wp2_with fail
  go_ret
  exact ⟨_, _, rfl, HR5.out, by omega, hmx', HB5.out⟩

set_option maxRecDepth 10000 in
set_option maxHeartbeats 4000000 in
theorem leads_o (cb co n cap j : Nat) (op kind area at_ nn : Int) (w : World) (x0 : w.cell? ⟨cb, co + j * 5, none⟩ = some (.int .i64 op)) (x1 : w.cell? ⟨cb, co + j * 5 + 1, none⟩ = some (.int .i64 kind))
    (x2 : w.cell? ⟨cb, co + j * 5 + 2, none⟩ = some (.int .i64 area)) (x3 : w.cell? ⟨cb, co + j * 5 + 3, none⟩ = some (.int .i64 at_)) (x4 : w.cell? ⟨cb, co + j * 5 + 4, none⟩ = some (.int .i64 nn)) (hj : j < n) (hn : n ≤ 100000) (hop : op < 25 ∨ 30 < op) :
    Calls Try.prog 18 #[.slice (some ⟨cb, co, none⟩) n cap, .int .i64 j] w (RetS ([(j : Int) + 1]) w) := by
  have hcb := World.block_lt_of_cell? w _ x0
  have i1 : (0 : Int) ≤ (j : Int) := Int.natCast_nonneg _
  have i2 : (j : Int) < (n : Int) := by omega
  have k25 : (op == 25) = false := by simp; omega
  have k26 : (op == 26) = false := by simp; omega
  have k27 : (op == 27) = false := by simp; omega
  have k28 : (op == 28) = false := by simp; omega
  have k29 : (op == 29) = false := by simp; omega
  have k30 : (op == 30) = false := by simp; omega
  clear hop
  go_enter Try.func18, Try.ntmps18
  go_wp2_with fail
  have hb : Blk ((w.alloc (.cells #[.int .i64 op, .int .i64 kind, .int .i64 area, .int .i64 at_, .int .i64 nn] 48)).alloc (.cells #[.int .i64 ((j : Int) + 1)] 3)) (w.heap.size + 1) #[.int .i64 ((j : Int) + 1)] 3 := by simpa using Blk.new (w.alloc (.cells #[.int .i64 op, .int .i64 kind, .int .i64 area, .int .i64 at_, .int .i64 nn] 48)) #[.int .i64 ((j : Int) + 1)] 3
  have hbw := bel_a2 w (.cells #[.int .i64 op, .int .i64 kind, .int .i64 area, .int .i64 at_, .int .i64 nn] 48) (.cells #[.int .i64 ((j : Int) + 1)] 3)
  generalize ((w.alloc (.cells #[.int .i64 op, .int .i64 kind, .int .i64 area, .int .i64 at_, .int .i64 nn] 48)).alloc (.cells #[.int .i64 ((j : Int) + 1)] 3)) = W at *
  refine (Compact_list _ 1 [((j : Int) + 1)] [((j : Int) + 1)] _ (fun q hq => by have : q = 0 := (by simp at hq; omega); subst this; exact hb.cell 0 _ rfl) (fun q => hb.free q) (by simp) (by simp) (compact1 _) (by simp)).mono ?_
  rintro e w5 ⟨rfl, hr5, hb5⟩
  have HR5 := hid hr5
  have HB5 := hid (hb5 w.heap.size w (by omega) hbw)
  clear hr5 hb5 hb hbw
  go_wp2_with fail
  go_ret
  exact ⟨_, _, rfl, HR5.out, by simp, by simp, HB5.out⟩

theorem leads_calls (a : Option Addr) (l : List Ins) (cap j : Nat) (w : World) (hr : RdIns w a l) (hj : j < l.length) (hn : l.length ≤ 100000) :
    Calls Try.prog 18 #[.slice a l.length cap, .int .i64 j] w (RetS (ldI l.length j l[j]) w) := by
  obtain ⟨cb, co, rfl, hcb, x0, x1, x2, x3, x4⟩ := hr.cell j hj
  obtain ⟨i, hi⟩ : ∃ i, l[j] = i := ⟨_, rfl⟩
  rw [hi] at x0 x1 x2 x3 x4 ⊢
  obtain ⟨op, kind, area, at_, nn⟩ := i
  unfold ldI
  dsimp only
  by_cases h25 : op = 25
  · subst h25; rw [if_pos rfl]; exact leads_25 cb co _ cap j kind area at_ nn w x0 x1 x2 x3 x4 hj hn
  rw [if_neg h25]
  by_cases h26 : op = 26 ∨ op = 27
  · rw [if_pos h26]
    rcases h26 with rfl | rfl
    · exact leads_26 cb co _ cap j kind area at_ nn w x0 x1 x2 x3 x4 hj hn
    · exact leads_27 cb co _ cap j kind area at_ nn w x0 x1 x2 x3 x4 hj hn
  rw [if_neg h26]
  by_cases h28 : op = 28
  · subst h28; rw [if_pos rfl]; exact leads_28 cb co _ cap j kind area at_ nn w x0 x1 x2 x3 x4 hj hn
  rw [if_neg h28]
  by_cases h29 : op = 29 ∨ op = 30
  · rw [if_pos h29]
    rcases h29 with rfl | rfl
    · exact leads_29 cb co _ cap j kind area at_ nn w x0 x1 x2 x3 x4 hj hn
    · exact leads_30 cb co _ cap j kind area at_ nn w x0 x1 x2 x3 x4 hj hn
  rw [if_neg h29]
  exact leads_o cb co _ cap j op kind area at_ nn w x0 x1 x2 x3 x4 hj hn (by omega)

end Go.Proofs.Ytejdkaniepgbdaa
