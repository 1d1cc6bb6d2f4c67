/- verify: brackets, and the small functions. -/
import Derived.Test.YtjnohalffffiaaaIr
import Derived.Deep.RegionLawGrows
import Derived.Deep.DrawnRows
set_option linter.unusedVariables false
set_option linter.unusedSimpArgs false
namespace Go.Proofs.Ytjnohalffffiaaa
open Go.RowKit

theorem infoBr : (Try.prog.info? 144).map (fun i => (i.zero, i.size, i.bytes)) = some (some (.agg #[.int .i64 0, .int .i64 0]), 2, 16) := by kernel_rfl

def brCells : List (Int × Int) → List Value
  | [] => []
  | b :: l => .int .i64 b.1 :: .int .i64 b.2 :: brCells l
theorem brCells_len (l : List (Int × Int)) : (brCells l).length = l.length * 2 := by
  induction l with
  | nil => rfl
  | cons b l ih => simp [brCells, ih]; omega
theorem brCells_app (l m : List (Int × Int)) : brCells (l ++ m) = brCells l ++ brCells m := by
  induction l with
  | nil => rfl
  | cons b l ih => simp [brCells, ih]
theorem brCells_at (l : List (Int × Int)) (j : Nat) (hj : j < l.length) : (brCells l)[j * 2]? = some (.int .i64 (l.getD j (0, 0)).1) ∧ (brCells l)[j * 2 + 1]? = some (.int .i64 (l.getD j (0, 0)).2) := by
  induction l generalizing j with
  | nil => simp at hj
  | cons b l ih =>
    cases j with
    | zero => simp [brCells]
    | succ j =>
      have := ih j (by simpa using hj)
      rw [show (j + 1) * 2 = j * 2 + 2 by omega]
      simpa [brCells] using this

/-- A slice of brackets that can be read, and lies at the head of a block of its own. -/
def BrR (w : World) (v : Value) (bs : List (Int × Int)) : Prop := w.ownsRow 0 144 2 v bs.length (brCells bs)
theorem BrR.nil (w : World) : BrR w (.slice none 0 0) [] := World.ownsRow_nil _ _ _ _
theorem BrR.below {w w1 : World} {v : Value} {bs : List (Int × Int)} (h : BrR w v bs) (hb : Below w.heap.size w w1) : BrR w1 v bs := by
  refine World.ownsRow.kept (row := none) h ⟨hb.os, hb.tape, hb.output, hb.size, fun i hi _ => hb.block i hi⟩ ?_
  cases v.ownBlock <;> simp
theorem BrR.alloc {w : World} {v : Value} {bs : List (Int × Int)} (h : BrR w v bs) (o : Obj) : BrR (w.alloc o) v bs := h.below (bel_a1 w o)
theorem BrR.kept {w w1 : World} {v : Value} {bs : List (Int × Int)} {b : Nat} {cs : Array Value} {t : TypeId} (h : BrR w v bs) (hb : Blk w b cs t) (ht : t ≠ 144) (hg : w.grownBy w1 (some b)) : BrR w1 v bs := by
  refine World.ownsRow.kept (row := some b) h hg ?_
  have h0 := h
  rcases h.2 with ⟨rfl, hn⟩ | ⟨g, cap, cur, rfl, _, hh, _⟩
  · exact .inl rfl
  · refine .inr fun e => ?_
    injection e with e
    subst e
    exact ht (Blk.inj hb hh)
theorem BrR.set {w : World} {v : Value} {bs : List (Int × Int)} {b : Nat} {cs : Array Value} {t : TypeId} (h : BrR w v bs) (hb : Blk w b cs t) (ht : t ≠ 144) (o : Nat) (x : Value) : BrR (w.setCell ⟨b, o, none⟩ x) v bs :=
  h.kept hb ht (grown_set x)
theorem BrR.form {w : World} {v : Value} {bs : List (Int × Int)} (h : BrR w v bs) :
    ∃ a cap, v = .slice a bs.length cap ∧ bs.length ≤ cap ∧ cap ≤ 9223372036854775807 ∧ (a = none → bs = [] ∧ cap = 0) ∧ ∀ g, a = some g → ∃ b cur, g = ⟨b, 0, none⟩ ∧ Blk w b cur 144 := by
  rcases h.2 with ⟨rfl, hn⟩ | ⟨g, cap, cur, rfl, hb, hh, hle, hm, hsz, htk⟩
  · have : bs = [] := List.eq_nil_of_length_eq_zero hn
    subst this
    exact ⟨none, 0, rfl, by simp, by simp, fun _ => ⟨rfl, rfl⟩, fun g h => by cases h⟩
  · exact ⟨_, cap, rfl, hle, by simpa [maxLen] using hm, (fun h => by cases h), (fun a h => by cases h; exact ⟨g, cur, rfl, hh⟩)⟩
theorem BrR.cell {w : World} {v : Value} {bs : List (Int × Int)} (h : BrR w v bs) (j : Nat) (hj : j < bs.length) :
    ∃ g cap, v = .slice (some ⟨g, 0, none⟩) bs.length cap ∧ w.cell? ⟨g, j * 2, none⟩ = some (.int .i64 (bs.getD j (0, 0)).1) ∧ w.cell? ⟨g, j * 2 + 1, none⟩ = some (.int .i64 (bs.getD j (0, 0)).2) := by
  have h0 := h
  rcases h.2 with ⟨rfl, hn⟩ | ⟨g, cap, cur, rfl, hb, hh, hle, hm, hsz, htk⟩
  · omega
  · refine ⟨g, cap, rfl, ?_, ?_⟩
    · have hc := World.ownsRow.cellAt h0 (j * 2) (by omega)
      rw [hc]
      exact (brCells_at bs j hj).1
    · have hc := World.ownsRow.cellAt h0 (j * 2 + 1) (by omega)
      rw [hc]
      exact (brCells_at bs j hj).2

set_option maxHeartbeats 1000000 in
theorem jumps_calls (op kind area at_ n : Int) (w : World) : Calls Try.prog 48 #[.agg #[.int .i64 op, .int .i64 kind, .int .i64 area, .int .i64 at_, .int .i64 n]] w (RetB (decide (25 ≤ op) && decide (op ≤ 27)) w) := by
  go_enter Try.func48, Try.ntmps48
  go_wp2_with fail
  all_goals
    go_ret
    exact ⟨ret_bool (by first | (simp_all; done) | (simp_all; intros; omega)), bel_a1 _ _⟩

set_option maxHeartbeats 1000000 in
theorem on_calls (op kind area at_ n : Int) (w : World) : Calls Try.prog 50 #[.agg #[.int .i64 op, .int .i64 kind, .int .i64 area, .int .i64 at_, .int .i64 n]] w (RetB (op != 25 && op != 28) w) := by
  go_enter Try.func50, Try.ntmps50
  go_wp2_with fail
  all_goals
    go_ret
    exact ⟨ret_bool (by first | (simp_all; done) | (simp_all; intros; omega)), bel_a1 _ _⟩

def mustI (b : Bool) : Int := if b then 0 else 6
set_option maxHeartbeats 1000000 in
theorem must_calls (b : Bool) (w : World) : Calls Try.prog 80 #[.bool b] w fun e w' => e = .returned (.int .i64 (mustI b)) ∧ w' = w := by
  cases b
  all_goals
    go_enter Try.func80, Try.ntmps80
    go_wp2_with fail
    go_ret
    exact ⟨rfl, rfl⟩

set_option maxHeartbeats 1000000 in
theorem logic_calls (k : Int) (w : World) : Calls Try.prog 81 #[.int .i64 k] w (RetB (may 13 k) w) := by
  go_enter Try.func81, Try.ntmps81
  go_wp2_with fail
  refine (May_calls _ _ _).mono ?_
  rintro e w1 ⟨rfl, hb⟩
  have HB := hid hb
  clear hb
  go_wp2_with fail
  go_ret
  exact ⟨rfl, HB.out⟩

def madeI (op k : Int) : Int := if 19 ≤ op ∧ op ≤ 24 then 1 else k
set_option maxHeartbeats 1000000 in
theorem made_calls (op k : Int) (w : World) : Calls Try.prog 85 #[.int .i64 op, .int .i64 k] w fun e w' => e = .returned (.int .i64 (madeI op k)) ∧ w' = w := by
  by_cases h : 19 ≤ op ∧ op ≤ 24
  · rw [show madeI op k = 1 from by unfold madeI; rw [if_pos h]]
    obtain ⟨h1, h2⟩ := h
    go_enter Try.func85, Try.ntmps85
    go_wp2_with fail
    go_ret
    exact ⟨rfl, rfl⟩
  · rw [show madeI op k = k from by unfold madeI; rw [if_neg h]]
    by_cases h1 : 19 ≤ op
    · have h2 : 24 < op := by omega
      clear h
      go_enter Try.func85, Try.ntmps85
      go_wp2_with fail
      go_ret
      exact ⟨rfl, rfl⟩
    · clear h
      go_enter Try.func85, Try.ntmps85
      go_wp2_with fail
      go_ret
      exact ⟨rfl, rfl⟩

set_option maxHeartbeats 1000000 in
theorem with_calls (k k' : Int) (a : Option Addr) (n c : Nat) (w : World) :
    Calls Try.prog 79 #[.agg #[.int .i64 k, .slice a n c], .int .i64 k'] w fun e w' => e = .returned (.agg #[.int .i64 k', .slice a n c]) ∧ Below w.heap.size w w' := by
  go_enter Try.func79, Try.ntmps79
  go_wp2_with fail
  refine bodyPost_ret (v := .agg #[.int .i64 k', .slice a n c]) (by simp [results, Try.results79, go_sem]) rfl ⟨rfl, ?_⟩
  exact bel_a2 _ _ _

def retI (k : Int) (n : Nat) (op : Int) : Int := if op ≠ 28 ∧ k ≠ 1 then 6 else if 0 < n then 3 else 0
set_option maxHeartbeats 1000000 in
theorem ret_calls (k : Int) (a : Option Addr) (n c : Nat) (op : Int) (w : World) :
    Calls Try.prog 82 #[.agg #[.int .i64 k, .slice a n c], .int .i64 op] w fun e w' => e = .returned (.tuple #[.agg #[.int .i64 k, .slice a n c], .int .i64 (retI k n op)]) ∧ Below w.heap.size w w' := by
  go_enter Try.func82, Try.ntmps82
  go_wp2_with fail
  all_goals
    refine bodyPost_ret (v := .tuple #[.agg #[.int .i64 k, .slice a n c], .int .i64 (retI k n op)]) ?_ rfl ⟨rfl, bel_a2 _ _ _⟩
    simp_all [results, Try.results82, go_sem, retI]

theorem Clip_calls (a : Option Addr) (n c : Nat) (w : World) (hn : n ≤ c) (hc : c ≤ 9223372036854775807) (h0 : a = none → n = 0) :
    Calls Try.prog 100 #[.slice a n c] w fun e w' => e = .returned (.slice a n n) ∧ w' = w := by
  go_enter Try.func100, Try.ntmps100
  go_wp2_with fail
  go_ret
  exact ⟨rfl, rfl⟩

theorem pop_none (k : Int) (a : Option Addr) (c : Nat) (w : World) :
    Calls Try.prog 84 #[.agg #[.int .i64 k, .slice a 0 c]] w fun e w' => e = .returned (.tuple #[.agg #[.int .i64 k, .slice a 0 c], .int .i64 3]) ∧ Below w.heap.size w w' := by
  go_enter Try.func84, Try.ntmps84
  go_wp2_with fail
  refine bodyPost_ret (v := .tuple #[.agg #[.int .i64 k, .slice a 0 c], .int .i64 3]) (by simp [results, Try.results84, go_sem]) rfl ⟨rfl, bel_a2 _ _ _⟩

set_option maxHeartbeats 1000000 in
theorem pop_other (k o k2 : Int) (g m c : Nat) (w : World) (hk : (k2 == k) = false) (h1 : w.cell? ⟨g, m * 2, none⟩ = some (.int .i64 o)) (h2 : w.cell? ⟨g, m * 2 + 1, none⟩ = some (.int .i64 k2)) (hm : m ≤ 1000) (hc : m + 1 ≤ c) :
    Calls Try.prog 84 #[.agg #[.int .i64 k, .slice (some ⟨g, 0, none⟩) (m + 1) c]] w fun e w' => e = .returned (.tuple #[.agg #[.int .i64 k, .slice (some ⟨g, 0, none⟩) (m + 1) c], .int .i64 6]) ∧ Below w.heap.size w w' := by
  have hg : g < w.heap.size := World.block_lt_of_cell? w _ h1
  go_enter Try.func84, Try.ntmps84
  go_wp2_with fail
  refine bodyPost_ret (v := .tuple #[.agg #[.int .i64 k, .slice (some ⟨g, 0, none⟩) (m + 1) c], .int .i64 6]) (by simp [results, Try.results84, go_sem]) rfl ⟨rfl, bel_a3 _ _ _ _⟩

set_option maxHeartbeats 1000000 in
theorem pop_same (k o : Int) (g m c : Nat) (w : World) (h1 : w.cell? ⟨g, m * 2, none⟩ = some (.int .i64 o)) (h2 : w.cell? ⟨g, m * 2 + 1, none⟩ = some (.int .i64 k)) (hm : m ≤ 1000) (hc : m + 1 ≤ c) :
    Calls Try.prog 84 #[.agg #[.int .i64 k, .slice (some ⟨g, 0, none⟩) (m + 1) c]] w fun e w' => e = .returned (.tuple #[.agg #[.int .i64 (madeI o k), .slice (some ⟨g, 0, none⟩) m c], .int .i64 0]) ∧ Below w.heap.size w w' := by
  have hg : g < w.heap.size := World.block_lt_of_cell? w _ h1
  have hms : IntKind.i64.wrap ((m : Int) + 1 - 1) = (m : Int) := by rw [IntKind.wrap_i64]; omega
  have hms2 : IntKind.i64.wrap (m : Int) = (m : Int) := by rw [IntKind.wrap_i64]; omega
  have i1 : (0 : Int) ≤ (m : Int) := Int.natCast_nonneg _
  have i2 : (m : Int) ≤ (c : Int) := by omega
  go_enter Try.func84, Try.ntmps84
  go_wp2_with fail
  obtain ⟨B0, B1, B2, HB, HZ⟩ := new3 w #[.int .i64 k, .slice (some ⟨g, 0, none⟩) (m + 1) c] #[.int .i64 0, .slice none 0 0] #[.int .i64 o, .int .i64 k] 105 105 144
  generalize (((w.alloc (.cells #[.int .i64 k, .slice (some ⟨g, 0, none⟩) (m + 1) c] 105)).alloc (.cells #[.int .i64 0, .slice none 0 0] 105)).alloc (.cells #[.int .i64 o, .int .i64 k] 144)) = W at *
  have H1 := hid h1
  have H2 := hid h2
  have HBW := hid HB
  have HP := hid B1
  have a0 := B0.cell 1 _ rfl
  have l0 := B2.cell 0 _ rfl
  have l1 := B2.cell 1 _ rfl
  have r0 := B1.cell 0 _ rfl
  have r1 := B1.cell 1 _ rfl
  have f0 := B1.free 0
  have f1 := B1.free 1
  clear h1 h2 HB HZ B0 B1 B2
  go_region_held3 (fun w' => w'.cell? ⟨w.heap.size + 1 + 1, 0, none⟩ = some (.int .i64 o) ∧ w'.cell? ⟨w.heap.size + 1 + 1, 1, none⟩ = some (.int .i64 k) ∧ w'.cell? ⟨w.heap.size, 1, none⟩ = some (.slice (some ⟨g, 0, none⟩) (m + 1) c)) (go_keep)
    ((go_at_call 85; (with_reducible refine (made_calls _ _ _).mono ?_); rintro e w2 ⟨rfl, rfl⟩))
  go_wp2_with fail
  refine bodyPost_ret (v := .tuple #[.agg #[.int .i64 (madeI o k), .slice (some ⟨g, 0, none⟩) m c], .int .i64 0]) (by simp [results, Try.results84, go_sem, r0, r1, f0, f1]) rfl ⟨rfl, ?_⟩
  exact (bel_set (bel_set HBW.out (by omega) _ _) (by omega) _ _).drew

theorem BrR.holds {w : World} {a : Option Addr} {n c : Nat} {bs : List (Int × Int)} (h : BrR w (.slice a n c) bs) : ∀ b, a = some b → ∀ j u, (brCells bs)[j]? = some u → w.cell? (b.add j) = some u := by
  intro b hb j u hj
  subst hb
  have h0 := h
  rcases h.2 with ⟨h, _⟩ | ⟨g, cap, cur, h, hb, hh, hle, hm, hsz, htk⟩
  · cases h
  · injection h with h1 h2 h3
    injection h1 with h1
    subst h1 h2 h3
    have hjl : j < bs.length * 2 := by
      have := (List.getElem?_eq_some_iff.1 hj).1
      rwa [brCells_len] at this
    have hc := World.ownsRow.cellAt h0 j hjl
    rw [add_pl, Nat.zero_add, hc, hj]
theorem BrR.len {w : World} {a : Option Addr} {n c : Nat} {bs : List (Int × Int)} (h : BrR w (.slice a n c) bs) : n = bs.length ∧ (a = none → n = 0) := by
  rcases h.2 with ⟨h, h'⟩ | ⟨g, cap, cur, h, _⟩
  · injection h with h1 h2 h3
    exact ⟨by omega, fun _ => h2⟩
  · injection h with h1 h2 h3
    exact ⟨h2, fun e => by rw [e] at h1; cases h1⟩

theorem row_zero {w : World} {base : Nat} {e : TypeId} {size : Nat} {v : Value} {n : Nat} {xs : List Value} (h : w.ownsRow base e size v n xs) : w.ownsRow 0 e size v n xs := by
  refine ⟨h.1, ?_⟩
  rcases h.2 with h | ⟨g, cap, cur, hv, hb, r⟩
  · exact .inl h
  · exact .inr ⟨g, cap, cur, hv, Nat.zero_le _, r⟩
theorem keep2 {w1 w2 : World} {p q : Addr} {x y : Value} (h : w1.cell? p = some x ∧ w1.cell? q = some y) (hb : Below w1.heap.size w1 w2) : w2.cell? p = some x ∧ w2.cell? q = some y := by
  rw [hb.cell (World.block_lt_of_cell? _ _ h.1), hb.cell (World.block_lt_of_cell? _ _ h.2)]
  exact h

/-- append of one bracket onto a clipped slice, at a step of a drawn region. -/
theorem step_push {ops : Array Oper} {o : Oper} {a : Act} {K : Act → World → Prop} {Q : Exit → Act → World → Prop} {E : Prop} {W : World} (hgd : o.guard = none) (s x : Operand)
    (ho : o.op = .call { callee := .builtin .append, args := #[s, x], argTypes := #[103, 103] }) (ad : Option Addr) (n c : Nat) (bs : List (Int × Int)) (p q : Int) (B : Nat)
    (hs : a.eval s = .slice ad n n) (hv : BrR W (.slice ad n c) bs) (hx : a.eval x = .slice (some ⟨B, 0, none⟩) 1 1) (hB : Blk W B #[.int .i64 p, .int .i64 q] 144) (hn : n ≤ 1000)
    (hK : ∀ g cap w', BrR w' (.slice (some ⟨g, 0, none⟩) (n + 1) cap) (bs ++ [(p, q)]) → Below W.heap.size W w' → K (a.put o.dst (.slice (some ⟨g, 0, none⟩) (n + 1) cap)) w') :
    if Region.wanted o (yielded ops a.tmps) = true then Oper.wp Try.prog o a W K Q else E := by
  obtain ⟨i0, hi, hz0, hz1, hz2⟩ := info_parts infoBr
  obtain ⟨hl, hn0⟩ := hv.len
  refine step_append_grows hgd s x 103 ho 144 i0 (.agg #[.int .i64 0, .int .i64 0]) 2 16 Try.underlying103 hi hz0 hz1 hz2 rfl (by decide) ad n n (brCells bs) hs (fun h => ⟨hn0 h, hn0 h⟩) (by rw [brCells_len, hl]) hv.holds ⟨B, 0, none⟩ 1 1 [.int .i64 p, .int .i64 q] hx rfl ?_ ?_ (by omega) (by unfold maxLen; omega) (by omega) ?_
  · intro j u hj
    rw [add_pl, Nat.zero_add]
    rcases j with _ | j
    · simp at hj; subst hj; exact hB.cell 0 _ rfl
    · rcases j with _ | j
      · simp at hj; subst hj; exact hB.cell 1 _ rfl
      · simp at hj
  · intro u hu
    simp at hu
    rcases hu with rfl | rfl <;> rfl
  · intro v' w' hown hg
    have hb : Below W.heap.size W w' := ⟨hg.os, hg.tape, hg.output, hg.size, fun k hk => hg.block k hk (by simp)⟩
    obtain ⟨g, cap, rfl, _, _⟩ := hown.form (by omega)
    refine hK g cap w' ?_ hb
    have := row_zero hown
    unfold BrR
    rw [brCells_app]
    have e : (bs ++ [(p, q)]).length = n + 1 := by simp [hl]
    rw [e]
    exact this

/-- What is handed back: an ahead, and a number. -/
def RetA (er k : Int) (bs : List (Int × Int)) (w : World) (e : Ending) (w' : World) : Prop :=
  ∃ v, e = .returned (.tuple #[.agg #[.int .i64 k, v], .int .i64 er]) ∧ BrR w' v bs ∧ Below w.heap.size w w'

set_option maxHeartbeats 1000000 in
theorem push_type (k op : Int) (a : Option Addr) (n c : Nat) (w : World) (hm : may op k = false) :
    Calls Try.prog 83 #[.agg #[.int .i64 k, .slice a n c], .int .i64 op] w fun e w' => e = .returned (.tuple #[.agg #[.int .i64 k, .slice a n c], .int .i64 6]) ∧ Below w.heap.size w w' := by
  have HM := hid hm
  clear hm
  go_enter Try.func83, Try.ntmps83
  go_wp2_with fail
  refine (May_calls _ _ _).mono ?_
  rintro e w1 ⟨rfl, hb⟩
  rw [HM.out]
  obtain ⟨N0, N1, NB, NZ⟩ := new2 w #[.int .i64 k, .slice a n c] #[.int .i64 0, .slice none 0 0] 105 105
  have B0 := N0.below hb
  have B1 := N1.below hb
  have HB := hid (below_trans NB hb)
  have a0 := B0.cell 0 _ rfl
  have a1 := B0.cell 1 _ rfl
  have r0 := B1.cell 0 _ rfl
  have r1 := B1.cell 1 _ rfl
  have f0 := B1.free 0
  have f1 := B1.free 1
  clear hb B0 B1 N0 N1 NB NZ
  go_wp2_with fail
  refine bodyPost_ret (v := .tuple #[.agg #[.int .i64 k, .slice a n c], .int .i64 6]) (by simp [results, Try.results83, go_sem, r0, r1, f0, f1]) rfl ⟨rfl, ?_⟩
  exact bel_set (bel_set HB.out (by omega) _ _) (by omega) _ _

set_option maxHeartbeats 1000000 in
theorem push_full (k op : Int) (a : Option Addr) (c : Nat) (w : World) (hm : may op k = true) :
    Calls Try.prog 83 #[.agg #[.int .i64 k, .slice a 8 c], .int .i64 op] w fun e w' => e = .returned (.tuple #[.agg #[.int .i64 k, .slice a 8 c], .int .i64 8]) ∧ Below w.heap.size w w' := by
  have HM := hid hm
  clear hm
  go_enter Try.func83, Try.ntmps83
  go_wp2_with fail
  refine (May_calls _ _ _).mono ?_
  rintro e w1 ⟨rfl, hb⟩
  rw [HM.out]
  obtain ⟨N0, N1, NB, NZ⟩ := new2 w #[.int .i64 k, .slice a 8 c] #[.int .i64 0, .slice none 0 0] 105 105
  have B0 := N0.below hb
  have B1 := N1.below hb
  have HB := hid (below_trans NB hb)
  have a0 := B0.cell 0 _ rfl
  have a1 := B0.cell 1 _ rfl
  have r0 := B1.cell 0 _ rfl
  have r1 := B1.cell 1 _ rfl
  have f0 := B1.free 0
  have f1 := B1.free 1
  clear hb B0 B1 N0 N1 NB NZ
  go_wp2_with fail
  refine bodyPost_ret (v := .tuple #[.agg #[.int .i64 k, .slice a 8 c], .int .i64 8]) (by simp [results, Try.results83, go_sem, r0, r1, f0, f1]) rfl ⟨rfl, ?_⟩
  exact bel_set (bel_set HB.out (by omega) _ _) (by omega) _ _

set_option maxRecDepth 10000 in
set_option maxHeartbeats 2000000 in
theorem push_ok (k op : Int) (v : Value) (bs : List (Int × Int)) (w : World) (hm : may op k = true) (hv : BrR w v bs) (hn : bs.length < 8) :
    Calls Try.prog 83 #[.agg #[.int .i64 k, v], .int .i64 op] w (RetA 0 0 (bs ++ [(op, k)]) w) := by
  have HM := hid hm
  obtain ⟨a, c, rfl, h1, h2, h3, h4⟩ := hv.form
  have HV := hid hv
  have H3 := hid h3
  have H4 := hid h4
  have HRA := hid (show RetA 0 0 (bs ++ [(op, k)]) w = fun e w' => ∃ v, e = .returned (.tuple #[.agg #[.int .i64 0, v], .int .i64 0]) ∧ BrR w' v (bs ++ [(op, k)]) ∧ Below w.heap.size w w' from rfl)
  clear hm hv h3 h4
  have hnl : ((bs.length : Int) == 8) = false := by simp; omega
  generalize hN : bs.length = n at *
  have HN := hid hN
  clear hN
  go_enter Try.func83, Try.ntmps83
  go_wp2_with fail
  refine (May_calls _ _ _).mono ?_
  rintro e w1 ⟨rfl, hb⟩
  rw [HM.out]
  obtain ⟨N0, N1, NB, NZ⟩ := new2 w #[.int .i64 k, .slice a n c] #[.int .i64 0, .slice none 0 0] 105 105
  have B0 := N0.below hb
  have B1 := N1.below hb
  have HV1 := hid ((HV.out.below NB).below hb)
  have HB := hid (below_trans NB hb)
  have a0 := B0.cell 0 _ rfl
  have a1 := B0.cell 1 _ rfl
  have HB1 := hid B1
  have hz1 : w.heap.size + 1 < w1.heap.size := B1.lt
  clear hb B0 B1 N0 N1 NB NZ HV HM
  go_wp2_with fail
  generalize w.heap.size = H at *
  generalize w1 = W at *
  go_region_held3 (fun w' => w'.cell? ⟨H, 0, none⟩ = some (.int .i64 k) ∧ w'.cell? ⟨H, 1, none⟩ = some (.slice a n c)) (first | (exact keep2 (by assumption) (by assumption)) | go_keep)
    (first
      | (refine step_push (by rfl) _ _ (by rfl) a n c bs op k W.heap.size (by simp [Act.eval, Act.put]) (by exact HV1.out.alloc _) (by simp [Act.eval, Act.put]) (by exact Blk.new _ _ _) (by omega) ?_; intro g cap w3 hbr hb3; have q : Blk w3 (H + 1) #[.int .i64 0, .slice none 0 0] 105 := Blk.below (by exact Blk.alloc (by exact HB1.out) _) hb3; have r0 := q.cell 0 _ rfl; have r1 := q.cell 1 _ rfl; have f0 := q.free 0; have f1 := q.free 1; have hq := q.lt)
      | (go_at_call 100; (with_reducible refine (Clip_calls _ _ _ _ h1 h2 ?_).mono ?_); (intro e; have := (H3.out e).1; have := HN.out; simp_all); rintro e w2 ⟨rfl, rfl⟩))
  all_goals
    have hbw : Below H w w3 := HB.out.trans ((below_trans (bel_a1 W _).drew hb3).mono (by omega))
    have hbr2 := (hbr.set q (by decide) 0 (.int .i64 0)).set (q.set 0 (.int .i64 0)) (by decide) 1 (.slice (some ⟨g, 0, none⟩) (n + 1) cap)
    have HX := hid hbw
    have HY := hid hbr2
    clear hbw hbr2 hbr hb3
    go_wp2_with fail
    refine bodyPost_ret (v := .tuple #[.agg #[.int .i64 0, .slice (some ⟨g, 0, none⟩) (n + 1) cap], .int .i64 0]) (by simp [results, Try.results83, go_sem, r0, r1, f0, f1]) rfl ?_
    rw [HRA.out]
    refine ⟨_, rfl, ?_, ?_⟩
    · exact HY.out
    · exact bel_set (bel_set HX.out (by omega) _ _) (by omega) _ _
end Go.Proofs.Ytjnohalffffiaaa
