/- timing: runs, far, Spans, Ways. -/
import Derived.Test.YtejdkaniepgbdaaTp
import Derived.Deep.RegionWith
set_option linter.unusedVariables false
set_option linter.unusedSimpArgs false
namespace Go.Proofs.Ytejdkaniepgbdaa
open Go.RowKit

theorem stepI_err {n j : Nat} {A : Nat → Option St} {i : Ins} {e p : Int} (h : stepI n j A i = .err e p) : e ≠ 0 := by
  unfold stepI at h
  split at h
  · injection h with h; omega
  · split at h
    · cases h
    · split at h
      · injection h with h; omega
      · split at h
        · injection h with h; rw [← h]; assumption
        · split at h
          · injection h with h; omega
          · split at h
            · injection h with h; omega
            · cases h
theorem runI_err {n : Nat} {l : List Ins} : ∀ {j : Nat} {A : Nat → Option St} {e p : Int}, runI n l j A = .err e p → e ≠ 0 := by
  induction l with
  | nil => intro j A e p h; rw [runI] at h; cases h
  | cons i l ih =>
    intro j A e p h
    rw [runI] at h
    cases hs : stepI n j A i with
    | err e' p' =>
      rw [hs] at h
      injection h with h
      rw [← h]
      exact stepI_err hs
    | tab A1 => rw [hs] at h; exact ih h
theorem allI_ne {l : List Ins} {e p : Int} (h : allI l = .err e p) : e ≠ 0 := by
  unfold allI at h
  split at h
  · injection h with h; omega
  · cases hr : runI l.length l 0 startA with
    | err e' p' =>
      rw [hr] at h
      injection h with h
      rw [← h]
      exact runI_err hr
    | tab A =>
      rw [hr] at h
      dsimp only at h
      split at h
      · split at h
        · injection h with h; omega
        · cases h
      · cases h
def runsb (l : List Ins) : Bool := match allI l with
  | .err _ _ => false
  | .tab _ => true

theorem runs_calls (a : Option Addr) (l : List Ins) (cap : Nat) (w : World) (hr : RdIns w a l) (hc : l.length ≤ cap) (hm : cap ≤ 9223372036854775807) :
    Calls Try.prog 14 #[.slice a l.length cap] w (RetB (runsb l) w) := by
  have PC := hid (Check_calls a l cap w hr hc hm)
  have HB : Hid (((chkI l).1 == 0) = runsb l) := by
    show _ = _
    unfold chkI runsb
    cases h : allI l with
    | err e p => simpa using allI_ne h
    | tab A => rfl
  generalize (chkI l).1 = x at *
  generalize (chkI l).2 = y at *
  go_enter Try.func14, Try.ntmps14
  go_wp2_with fail
  refine PC.out.mono ?_
  rintro e w1 ⟨rfl, hb⟩
  have HB1 := hid hb
  clear hb
  go_wp2_with fail
  go_ret
  exact ⟨ret_bool HB.out, HB1.out⟩

theorem maxOf_bd (b : Bool) (L : List Int) (lo hi : Int) (h1 : 1 ≤ L.length) (h2 : L.length ≤ 2) (h : ∀ x ∈ L, lo ≤ x ∧ x ≤ hi) : lo + 1 ≤ mFar b L ∧ mFar b L ≤ hi + 1 := by
  match L, h1, h2 with
  | [x], _, _ =>
    have := h x (by simp)
    cases b <;> simp [mFar, Lib.maxOf, Lib.minOf] <;> omega
  | [x, y], _, _ =>
    have hx := h x (by simp)
    have hy := h y (by simp)
    cases b <;> simp [mFar, Lib.maxOf, Lib.minOf] <;> omega
theorem tabG_far (l : List Ins) (b : Bool) (k : Nat) : ∀ j, 0 ≤ tabG l 0 (mFar b) k j ∧ tabG l 0 (mFar b) k j ≤ k := by
  induction k with
  | zero => intro j; simp [tabG]
  | succ k ih =>
    intro j
    rw [tabG]
    by_cases e : j + k + 1 = l.length
    · rw [if_pos e]
      have hl := ldI_len l.length j (l.getD j default)
      have := maxOf_bd b ((ldAt l j).map fun t => tabG l 0 (mFar b) k (cut l t)) 0 k (by simpa [ldAt] using hl.1) (by simpa [ldAt] using hl.2) (by
        intro x hx
        obtain ⟨t, _, rfl⟩ := List.mem_map.1 hx
        exact ih _)
      omega
    · rw [if_neg e]
      have := ih j
      omega
theorem tabG_ways (l : List Ins) (k : Nat) : ∀ j, 0 ≤ tabG l 1 mWays k j ∧ tabG l 1 mWays k j ≤ 1000000 := by
  induction k with
  | zero => intro j; simp [tabG]
  | succ k ih =>
    intro j
    rw [tabG]
    by_cases e : j + k + 1 = l.length
    · rw [if_pos e]
      exact mWays_bd _ (by
        intro x hx
        obtain ⟨t, _, rfl⟩ := List.mem_map.1 hx
        exact ih _)
    · rw [if_neg e]
      exact ih j

def farG (l : List Ins) (b : Bool) : Nat → Int := tabG l 0 (mFar b) l.length
def RetF (l : List Ins) (b : Bool) (w : World) (en : Ending) (w' : World) : Prop :=
  ∃ T, en = .returned (.slice (some ⟨T, 0, none⟩) (l.length + 1) (l.length + 1)) ∧ Blk w' T (gcells (l.length + 1) (farG l b)) 3 ∧ w.heap.size ≤ T ∧ Below w.heap.size w w'

theorem far_calls (a : Option Addr) (l : List Ins) (cap : Nat) (lg : Bool) (w : World) (hr : RdIns w a l) (hc : l.length ≤ cap) (hn : l.length ≤ 200) (hpos : ∀ j, j < l.length → ∀ t ∈ ldAt l j, 0 ≤ t) :
    Calls Try.prog 15 #[.slice a l.length cap, .bool lg] w (RetF l lg w) := by
  have HR := hid hr
  have HPOS := hid hpos
  clear hr hpos
  have hmf : ∀ (fn : Fn) (first cap : Array Value) (w : World), (Instr.makeFunc fn first cap).run Try.prog w = .ok (.func fn first cap) w := fun _ _ _ _ => rfl
  go_enter Try.func15, Try.ntmps15
  go_wp2_with fail
  refine (table_f a l cap 0 w.heap.size _ (HR.out.below (bel_a1 w _)) hc hn (mFar lg) HPOS.out (fun k hk j => by have := tabG_far l lg k j; omega) ?_).mono ?_
  · intro W L b c hL h1 h2 h3 h4 h5 hb
    have hq : W.cell? ⟨w.heap.size, 0, none⟩ = some (.bool lg) := ((Blk.new w #[.bool lg] 4).below hb).cell 0 _ rfl
    refine far1_calls b c w.heap.size lg L W hL h1 h2 hq ?_
    obtain ⟨k, j, hk, e⟩ := h5
    have := tabG_far l lg (k + 1) j
    rw [e]
    omega
  · rintro en w1 ⟨T, rfl, hblk, hT, hb⟩
    have HK := hid hblk
    have HB := hid (below_trans (bel_a1 w _) hb)
    have hTw : w.heap.size ≤ T := by simp at hT; omega
    clear hblk hT hb
    go_wp2_with fail
    go_ret
    exact ⟨T, rfl, HK.out, hTw, HB.out⟩

def RetSp (x y : Int) (w : World) (e : Ending) (w' : World) : Prop := e = .returned (.tuple #[.int .i64 x, .int .i64 y, .bool true]) ∧ Below w.heap.size w w'

set_option maxRecDepth 10000 in
set_option maxHeartbeats 2000000 in
theorem Spans_calls (a : Option Addr) (l : List Ins) (cap : Nat) (w : World) (hr : RdIns w a l) (hc : l.length ≤ cap) (hm : cap ≤ 9223372036854775807) (hrun : runsb l = true) (hn : l.length ≤ 200) (hpos : ∀ j, j < l.length → ∀ t ∈ ldAt l j, 0 ≤ t) :
    Calls Try.prog 6 #[.slice a l.length cap] w (RetSp (farG l false 0) (farG l true 0) w) := by
  have PR := hid (runs_calls a l cap w hr hc hm)
  rw [hrun] at PR
  have HR := hid hr
  have HPOS := hid hpos
  clear hr hrun hpos
  go_enter Try.func6, Try.ntmps6
  go_wp2_with fail
  refine PR.out.mono ?_
  rintro e w1 ⟨rfl, hb1⟩
  have PF := hid (fun lg W (h : Below w1.heap.size w1 W) => far_calls a l cap lg W ((HR.out.below hb1).below h) hc hn HPOS.out)
  have HB1 := hid hb1
  clear hb1 PR HR HPOS
  go_wp2_with fail
  go_region_with ((go_at_call 15; (refine (PF.out _ _ (by first | exact (Below.refl _ _).drew | exact hx | exact hx.drew)).mono ?_); rintro e w2 ⟨T, rfl, hblk, hT, hb⟩; have c0 := hblk.cell 0 _ (gcells_at _ _ 0 (by omega)); have hx : Below w1.heap.size w1 w2 := (by first | exact below_trans (Below.refl _ _).drew hb | exact below_trans hx hb | exact below_trans hx.drew hb); obtain ⟨hcl, hfr⟩ := bcell hb; have hlt := hblk.lt; clear hblk hb))
  all_goals
    have HX := hid (below_trans HB1.out hx)
    clear hcl hfr hx c0
    go_wp2_with fail
    go_ret3
    exact ⟨rfl, HX.out⟩

set_option maxHeartbeats 1000000 in
theorem Spans_no (a : Option Addr) (l : List Ins) (cap : Nat) (w : World) (hr : RdIns w a l) (hc : l.length ≤ cap) (hm : cap ≤ 9223372036854775807) (hrun : runsb l = false) :
    Calls Try.prog 6 #[.slice a l.length cap] w fun e w' => e = .returned (.tuple #[.int .i64 0, .int .i64 0, .bool false]) ∧ Below w.heap.size w w' := by
  have PR := hid (runs_calls a l cap w hr hc hm)
  rw [hrun] at PR
  clear hr hrun
  go_enter Try.func6, Try.ntmps6
  go_wp2_with fail
  refine PR.out.mono ?_
  rintro e w1 ⟨rfl, hb1⟩
  have HB1 := hid hb1
  clear hb1
  go_wp2_with fail
  go_ret3
  exact ⟨rfl, HB1.out⟩

def wayN (l : List Ins) : Int := tabG l 1 mWays l.length 0
set_option maxHeartbeats 1000000 in
theorem Ways_calls (a : Option Addr) (l : List Ins) (cap : Nat) (w : World) (hr : RdIns w a l) (hc : l.length ≤ cap) (hm : cap ≤ 9223372036854775807) (hrun : runsb l = true) (hn : l.length ≤ 200) (hpos : ∀ j, j < l.length → ∀ t ∈ ldAt l j, 0 ≤ t) :
    Calls Try.prog 7 #[.slice a l.length cap] w fun e w' => e = .returned (.tuple #[.int .i64 (wayN l), .bool true]) ∧ Below w.heap.size w w' := by
  have PR := hid (runs_calls a l cap w hr hc hm)
  rw [hrun] at PR
  have HR := hid hr
  have HPOS := hid hpos
  clear hr hrun hpos
  go_enter Try.func7, Try.ntmps7
  go_wp2_with fail
  refine PR.out.mono ?_
  rintro e w1 ⟨rfl, hb1⟩
  have HB1 := hid hb1
  have HR1 := hid (HR.out.below hb1)
  clear hb1
  go_wp2_with fail
  refine (table_w a l cap 1 w1 HR1.out hc hn mWays HPOS.out (fun k hk j => tabG_ways l k j) (fun W L b c hL h1 h2 h3 h4 h5 hb => Ways1_calls b c L W hL h2 h4)).mono ?_
  rintro en w2 ⟨T, rfl, hblk, hT, hb2⟩
  have c0 := hblk.cell 0 _ (gcells_at _ _ 0 (by omega))
  have HX := hid (below_trans HB1.out hb2)
  have HW := hid (show tabG l 1 mWays l.length 0 = wayN l from rfl)
  rw [HW.out] at c0
  clear hblk hT hb2 HB1 HR1 HR
  go_wp2_with fail
  go_ret2
  exact ⟨rfl, HX.out⟩
end Go.Proofs.Ytejdkaniepgbdaa
