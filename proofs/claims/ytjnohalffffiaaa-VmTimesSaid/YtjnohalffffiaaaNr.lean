/- slices.Clone of instructions; vm.Load, Code. -/
import Derived.Test.YtjnohalffffiaaaNp
import Derived.Lib.SliceRun
set_option linter.unusedVariables false
set_option linter.unusedSimpArgs false
namespace Go.Proofs.Ytjnohalffffiaaa
open Go.RowKit

theorem infoIns : (Try.prog.info? 48).map (fun i => (i.zero, i.size, i.bytes)) = some (some (.agg #[.int .i64 0, .int .i64 0, .int .i64 0, .int .i64 0, .int .i64 0]), 5, 40) := by kernel_rfl
def insCells : List Ins → List Value
  | [] => []
  | i :: l => .int .i64 i.op :: .int .i64 i.kind :: .int .i64 i.area :: .int .i64 i.at_ :: .int .i64 i.n :: insCells l
theorem insCells_len (l : List Ins) : (insCells l).length = l.length * 5 := by
  induction l with
  | nil => rfl
  | cons b l ih => simp [insCells, ih]; omega
theorem insCells_at (l : List Ins) (j : Nat) (hj : j < l.length) : (insCells l)[j * 5]? = some (.int .i64 l[j].op) ∧ (insCells l)[j * 5 + 1]? = some (.int .i64 l[j].kind) ∧ (insCells l)[j * 5 + 2]? = some (.int .i64 l[j].area) ∧
    (insCells l)[j * 5 + 3]? = some (.int .i64 l[j].at_) ∧ (insCells l)[j * 5 + 4]? = some (.int .i64 l[j].n) := by
  induction l generalizing j with
  | nil => simp at hj
  | cons b l ih =>
    cases j with
    | zero => simp [insCells]
    | succ j =>
      have := ih j (by simpa using hj)
      rw [show (j + 1) * 5 = j * 5 + 5 by omega]
      simpa [insCells] using this
theorem insCells_one (l : List Ins) : ∀ u ∈ insCells l, u.oneCell' = true := by
  induction l with
  | nil => intro u hu; simp [insCells] at hu
  | cons b l ih =>
    intro u hu
    simp only [insCells, List.mem_cons] at hu
    rcases hu with rfl | rfl | rfl | rfl | rfl | hu
    all_goals first | rfl | exact ih u hu
theorem RdIns.holds {w : World} {b off : Nat} {l : List Ins} (h : RdIns w (some ⟨b, off, none⟩) l) : ∀ m u, (insCells l)[m]? = some u → w.cell? ⟨b, off + m, none⟩ = some u := by
  intro m u hm
  have hlt : m < l.length * 5 := by
    have := (List.getElem?_eq_some_iff.1 hm).1
    rwa [insCells_len] at this
  have hj : m / 5 < l.length := by omega
  rcases h with rfl | ⟨b', off', e, h⟩
  · simp at hj
  · injection e with e
    injection e with e1 e2
    subst e1 e2
    obtain ⟨h0, h1, h2, h3, h4⟩ := h (m / 5) hj
    obtain ⟨k0, k1, k2, k3, k4⟩ := insCells_at l (m / 5) hj
    have hm5 : m = m / 5 * 5 + m % 5 := by omega
    obtain hr | hr | hr | hr | hr : m % 5 = 0 ∨ m % 5 = 1 ∨ m % 5 = 2 ∨ m % 5 = 3 ∨ m % 5 = 4 := by omega
    · rw [show m = m / 5 * 5 by omega] at hm ⊢
      rw [k0] at hm; injection hm with hm; subst hm; exact h0
    · rw [show m = m / 5 * 5 + 1 by omega] at hm ⊢
      rw [k1] at hm; injection hm with hm; subst hm; exact h1
    · rw [show m = m / 5 * 5 + 2 by omega] at hm ⊢
      rw [k2] at hm; injection hm with hm; subst hm; exact h2
    · rw [show m = m / 5 * 5 + 3 by omega] at hm ⊢
      rw [k3] at hm; injection hm with hm; subst hm; exact h3
    · rw [show m = m / 5 * 5 + 4 by omega] at hm ⊢
      rw [k4] at hm; injection hm with hm; subst hm; exact h4
theorem RdIns.of_row {w : World} {base : Nat} {v : Value} {l : List Ins} (h : w.ownsRow base 48 5 v l.length (insCells l)) :
    ∃ a cap, v = .slice a l.length cap ∧ RdIns w a l ∧ (a = none → l = [] ∧ cap = 0) ∧ l.length ≤ cap ∧ cap ≤ 9223372036854775807 := by
  have h0 := h
  rcases h.2 with ⟨rfl, hn⟩ | ⟨g, cap, cur, rfl, hb, hh, hle, hm, hsz, htk⟩
  · have : l = [] := List.eq_nil_of_length_eq_zero hn
    subst this
    exact ⟨none, 0, rfl, .inl rfl, fun _ => ⟨rfl, rfl⟩, by simp, by simp⟩
  · refine ⟨_, cap, rfl, .inr ⟨g, 0, rfl, fun j hj => ?_⟩, (fun h => by cases h), hle, by simpa [maxLen] using hm⟩
    obtain ⟨k0, k1, k2, k3, k4⟩ := insCells_at l j hj
    have hc := fun m (hm : m < l.length * 5) => World.ownsRow.cellAt h0 m hm
    rw [Nat.zero_add]
    exact ⟨(hc _ (by omega)).trans k0, (hc _ (by omega)).trans k1, (hc _ (by omega)).trans k2, (hc _ (by omega)).trans k3, (hc _ (by omega)).trans k4⟩

/-- A slice of instructions that is handed back. -/
def RetIns (l : List Ins) (w : World) (e : Ending) (w' : World) : Prop :=
  ∃ a cap, e = .returned (.slice a l.length cap) ∧ RdIns w' a l ∧ (a = none → l = [] ∧ cap = 0) ∧ l.length ≤ cap ∧ cap ≤ 9223372036854775807 ∧ Below w.heap.size w w'

set_option maxRecDepth 10000 in
set_option maxHeartbeats 1000000 in
theorem Clone_calls (a : Option Addr) (l : List Ins) (cap : Nat) (w : World) (hr : RdIns w a l) (hn : l.length ≤ 100000) (h0 : a = none → l = [] ∧ cap = 0) :
    Calls Try.prog 22 #[.slice a l.length cap] w (RetIns l w) := by
  have hnil := fun (w : World) (a : Option Addr) (n c : Nat) => Lib.run_eql_slice_nil (P := Try.prog) w 22 48 a n c 0 0 Try.underlying22
  cases a with
  | none =>
    obtain ⟨rfl, rfl⟩ := h0 rfl
    go_enter Try.func22, Try.ntmps22
    go_wp2_with fail
    go_ret
    exact ⟨none, 0, rfl, .inl rfl, fun _ => ⟨rfl, rfl⟩, by simp, by simp, Below.refl _ _⟩
  | some ad =>
    obtain ⟨b, off, hb⟩ : ∃ b off, RdIns w (some ad) l ∧ (l ≠ [] → ad = ⟨b, off, none⟩) := by
      rcases hr with rfl | ⟨b, off, e, h⟩
      · exact ⟨0, 0, .inl rfl, fun h => absurd rfl h⟩
      · injection e with e
        exact ⟨b, off, .inr ⟨b, off, by rw [e], h⟩, fun _ => e⟩
    obtain ⟨hr2, hb⟩ := hb
    obtain ⟨i0, hi, hz0, hz1, hz2⟩ := info_parts infoIns
    have HRR := hid (show RetIns l w = fun e w' => ∃ a cap, e = .returned (.slice a l.length cap) ∧ RdIns w' a l ∧ (a = none → l = [] ∧ cap = 0) ∧ l.length ≤ cap ∧ cap ≤ 9223372036854775807 ∧ Below w.heap.size w w' from rfl)
    have HC : Hid (∀ (W : World), Below w.heap.size w W → ∀ m u, (insCells l)[m]? = some u → W.cell? (ad.add m) = some u) := by
      intro W hW m u hm
      by_cases hl : l = []
      · subst hl; simp [insCells] at hm
      · have e := hb hl
        subst e
        rw [add_pl]
        exact (hr2.below hW).holds m u hm
    have HI := hid hi
    have H0 := hid hz0
    have H1 := hid hz1
    have H2 := hid hz2
    clear hr hr2 hb hi hz0 hz1 hz2 h0
    go_enter Try.func22, Try.ntmps22
    go_wp2_with (at_builtin; go_must (refine wpList_append_own _ rfl _ _ 22 rfl w.heap.size 48 i0 (.agg #[.int .i64 0, .int .i64 0, .int .i64 0, .int .i64 0, .int .i64 0]) 5 40 Try.underlying22 HI.out H0.out H1.out H2.out rfl (by decide) (.slice (some ⟨w.heap.size, 0, none⟩) 0 0) 0 [] rfl ⟨rfl, .inr ⟨w.heap.size, 0, #[], rfl, Nat.le_refl _, by exact Blk.new w #[] 48, Nat.le_refl _, Nat.zero_le _, rfl, rfl⟩⟩ ad l.length cap (insCells l) rfl (insCells_len l) (by exact HC.out _ (bel_a1 w _)) (insCells_one l) (by unfold maxLen; omega) (by omega) (by simp) ?_))
    intro v' w' h1 h2 h3
    obtain ⟨a', cap', rfl, hr', hn0, hc1, hc2⟩ := RdIns.of_row h1
    have HX := hid hr'
    have HN0 := hid hn0
    have HY : Hid (Below w.heap.size w w') := ⟨h2.os, h2.tape, h2.output, Nat.le_trans (by simp) h2.size, fun k hk => (h2.block k (by simp; omega) (fun e => by injection e with e; simp at e; omega)).trans (Below.heap_alloc w _ k hk)⟩
    clear hr' hn0 h1 h2 h3
    go_wp2_with fail
    go_ret
    rw [HRR.out]
    exact ⟨a', cap', rfl, HX.out, HN0.out, hc1, hc2, HY.out⟩
theorem nr_stepI {n j : Nat} {A : Nat → Option St} {i : Ins} {e p : Int} (h : stepI n j A i = .err e p) : e ≠ 0 := by
  unfold stepI at h
  split at h
  · injection h with h; omega
  · split at h
    · cases h
    · split at h
      · injection h with h; omega
      · split at h
        · injection h with h; rw [← h]; assumption
        · split at h
          · injection h with h; omega
          · split at h
            · injection h with h; omega
            · cases h
theorem nr_runI {n : Nat} {l : List Ins} : ∀ {j : Nat} {A : Nat → Option St} {e p : Int}, runI n l j A = .err e p → e ≠ 0 := by
  induction l with
  | nil => intro j A e p h; rw [runI] at h; cases h
  | cons i l ih =>
    intro j A e p h
    rw [runI] at h
    cases hs : stepI n j A i with
    | err e' p' =>
      rw [hs] at h
      injection h with h
      rw [← h]
      exact nr_stepI hs
    | tab A1 => rw [hs] at h; exact ih h
theorem nr_allI {l : List Ins} {e p : Int} (h : allI l = .err e p) : e ≠ 0 := by
  unfold allI at h
  split at h
  · injection h with h; omega
  · cases hr : runI l.length l 0 startA with
    | err e' p' =>
      rw [hr] at h
      injection h with h
      rw [← h]
      exact nr_runI hr
    | tab A =>
      rw [hr] at h
      dsimp only at h
      split at h
      · split at h
        · injection h with h; omega
        · cases h
      · cases h

def RetLd (l : List Ins) (w : World) (e : Ending) (w' : World) : Prop :=
  ∃ pb a cap, e = .returned (.tuple #[.pointer (some ⟨pb, 0, none⟩), .int .i64 0, .int .i64 0]) ∧ w'.cell? ⟨pb, 0, none⟩ = some (.slice a l.length cap) ∧ RdIns w' a l ∧ (a = none → l = [] ∧ cap = 0) ∧ l.length ≤ cap ∧ w.heap.size ≤ pb ∧ Below w.heap.size w w'
theorem Load_err (a : Option Addr) (l : List Ins) (cap : Nat) (w : World) (hr : RdIns w a l) (hc : l.length ≤ cap) (hm : cap ≤ 9223372036854775807) (er p : Int) (hA : allI l = .err er p) :
    Calls Try.prog 10 #[.slice a l.length cap] w fun e w' => e = .returned (.tuple #[.pointer none, .int .i64 er, .int .i64 p]) ∧ Below w.heap.size w w' := by
  have hne : (er != 0) = true := by
    have := nr_allI hA
    simpa using this
  have hck : chkI l = (er, p) := by unfold chkI; rw [hA]
  have PC := hid (Check_calls a l cap w hr hc hm)
  rw [hck] at PC
  clear hck hr hA
  go_enter Try.func10, Try.ntmps10
  go_wp2_with fail
  refine PC.out.mono ?_
  rintro e w1 ⟨rfl, hb⟩
  have HB := hid hb
  clear hb
  go_wp2_with fail
  go_ret3
  exact ⟨rfl, HB.out⟩
theorem Load_ok (a : Option Addr) (l : List Ins) (cap : Nat) (w : World) (hr : RdIns w a l) (hc : l.length ≤ cap) (hm : cap ≤ 9223372036854775807) (h0 : a = none → l = [] ∧ cap = 0) (A : Nat → Option St) (hA : allI l = .tab A) (hn : l.length ≤ 100000) :
    Calls Try.prog 10 #[.slice a l.length cap] w (RetLd l w) := by
  have hck : chkI l = (0, 0) := by unfold chkI; rw [hA]
  have PC := hid (Check_calls a l cap w hr hc hm)
  rw [hck] at PC
  have HR := hid hr
  have H0 := hid h0
  have HRL := hid (show RetLd l w = fun e w' => ∃ pb a cap, e = .returned (.tuple #[.pointer (some ⟨pb, 0, none⟩), .int .i64 0, .int .i64 0]) ∧ w'.cell? ⟨pb, 0, none⟩ = some (.slice a l.length cap) ∧ RdIns w' a l ∧ (a = none → l = [] ∧ cap = 0) ∧ l.length ≤ cap ∧ w.heap.size ≤ pb ∧ Below w.heap.size w w' from rfl)
  clear hck hr hA h0
  go_enter Try.func10, Try.ntmps10
  go_wp2_with fail
  refine PC.out.mono ?_
  rintro e w1 ⟨rfl, hb⟩
  have HB := hid hb
  clear hb
  go_wp2_with fail
  refine (Clone_calls a l cap _ (HR.out.below HB.out) hn H0.out).mono ?_
  rintro e w2 ⟨a2, cap2, rfl, hr2, hn2, hc2, hm2, hb2⟩
  have HR2 := hid hr2
  have HN2 := hid hn2
  have HB2 := hid (below_trans HB.out hb2)
  clear hr2 hn2 hb2
  go_wp2_with fail
  go_ret3
  rw [HRL.out]
  exact ⟨w2.heap.size, a2, cap2, rfl, (Blk.new w2 #[.slice a2 l.length cap2] 61).cell 0 _ rfl, HR2.out.below (bel_a1 _ _), HN2.out, hc2, HB2.out.size, bel_al HB2.out _⟩
end Go.Proofs.Ytjnohalffffiaaa
