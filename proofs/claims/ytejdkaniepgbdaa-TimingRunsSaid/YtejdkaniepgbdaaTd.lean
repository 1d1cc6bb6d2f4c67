/- timing: what tables are made by. -/
import Derived.Test.YtejdkaniepgbdaaTc
set_option linter.unusedVariables false
set_option linter.unusedSimpArgs false
namespace Go.Proofs.Ytejdkaniepgbdaa
open Go.RowKit

def mWays (L : List Int) : Int := L.foldl (fun n x => min (n + x) 1000000) 0
theorem mWays_bd (L : List Int) (h : ∀ x ∈ L, 0 ≤ x ∧ x ≤ 1000000) : 0 ≤ mWays L ∧ mWays L ≤ 1000000 := by
  have key : ∀ (L : List Int) (n : Int), (∀ x ∈ L, 0 ≤ x ∧ x ≤ 1000000) → 0 ≤ n ∧ n ≤ 1000000 → 0 ≤ L.foldl (fun n x => min (n + x) 1000000) n ∧ L.foldl (fun n x => min (n + x) 1000000) n ≤ 1000000 := by
    intro L
    induction L with
    | nil => intro n _ h; exact h
    | cons x L ih =>
      intro n hx hn
      have := hx x (by simp)
      exact ih _ (fun y hy => hx y (by simp [hy])) (by dsimp only; omega)
  exact key L 0 h (by omega)
theorem mWays_snoc (L : List Int) (j : Nat) (hj : j < L.length) : mWays (L.take (j + 1)) = min (mWays (L.take j) + L.getD j 0) 1000000 := by
  unfold mWays
  rw [List.take_succ_eq_append_getElem hj, List.foldl_append]
  simp [List.getD_eq_getElem?_getD, List.getElem?_eq_getElem hj]

set_option maxHeartbeats 1000000 in
theorem Ways1_calls (b c : Nat) (L : List Int) (w : World) (hr : RdI w (some ⟨b, 0, none⟩) L) (h2 : L.length ≤ 2) (hx : ∀ x ∈ L, 0 ≤ x ∧ x ≤ 1000000) :
    Calls Try.prog 17 #[.slice (some ⟨b, 0, none⟩) L.length c] w fun e w' => e = .returned (.int .i64 (mWays L)) ∧ w' = w := by
  have HR := hid hr
  have HX := hid hx
  clear hr hx
  obtain ⟨n, hn⟩ : ∃ n, L.length = n := ⟨_, rfl⟩
  have HN := hid hn
  rw [hn] at h2 ⊢
  clear hn
  go_enter Try.func17, Try.ntmps17
  go_wp2_with fail
  go_loop [3, 8] (fun v i => ∃ j : Nat, j ≤ n ∧ i = .int .i64 j ∧ v = .int .i64 (mWays (L.take j))) (fun _ i => n - (intOf i).toNat)
  case atStart => exact ⟨0, Nat.zero_le _, rfl, rfl⟩
  case round =>
    obtain ⟨j, hj, rfl, rfl⟩ := hrel
    have hb := mWays_bd (L.take j) (fun x hx => HX.out x (List.mem_of_mem_take hx))
    by_cases hlt : j < n
    · have hjl : j < L.length := by rw [HN.out]; exact hlt
      obtain ⟨b', off, hae, hc⟩ := HR.out.cell j hjl
      injection hae with hae
      injection hae with hae1 hae2
      subst hae1 hae2
      rw [Nat.zero_add] at hc
      have hxb := HX.out (L.getD j 0) (by rw [List.getD_eq_getElem?_getD, List.getElem?_eq_getElem hjl]; simp)
      have HS := hid (mWays_snoc L j hjl)
      obtain ⟨h0, h1⟩ := hb
      obtain ⟨h3, h4⟩ := hxb
      have i1 : (0 : Int) ≤ (j : Int) := Int.natCast_nonneg _
      generalize L.getD j 0 = x at *
      obtain ⟨y, hy⟩ : ∃ y, mWays (L.take j) = y := ⟨_, rfl⟩
      rw [hy] at h0 h1 HS ⊢
      clear hy
      go_wp2_with fail
      all_goals
        go_round
        case rel => exact ⟨j + 1, by omega, by go_num, by first | (rw [HS.out]; done) | (rw [HS.out]; congr 2; omega) | (rw [HS.out]; congr 1; omega)⟩
        case measure => simp [intOf]; omega
    · obtain rfl : j = n := by omega
      have hd : decide ((j : Int) < (j : Int)) = false := by simp
      have HT := hid (show mWays (L.take j) = mWays L from by rw [← HN.out, List.take_of_length_le (Nat.le_refl _)])
      generalize mWays (L.take j) = y at *
      clear hb
      go_wp2_with fail
      go_ret
      exact ⟨ret_int HT.out, rfl⟩

def mFar (b : Bool) (L : List Int) : Int := (if b then Lib.maxOf L else Lib.minOf L) + 1

set_option maxHeartbeats 1000000 in
theorem far1_calls (b c q : Nat) (lg : Bool) (L : List Int) (w : World) (hr : RdI w (some ⟨b, 0, none⟩) L) (h1 : 1 ≤ L.length) (h2 : L.length ≤ 2) (hq : w.cell? ⟨q, 0, none⟩ = some (.bool lg)) (hb : mFar lg L ≤ 1000001 ∧ 0 ≤ mFar lg L) :
    Calls Try.prog 25 #[.slice (some ⟨b, 0, none⟩) L.length c, .pointer (some ⟨q, 0, none⟩)] w fun e w' => e = .returned (.int .i64 (mFar lg L)) ∧ w' = w := by
  have hc : ∀ j, j < L.length → w.cell? ⟨b, 0 + j, none⟩ = some (.int .i64 (L.getD j 0)) := fun j hj => by
    obtain ⟨b', off, hae, hc⟩ := hr.cell j hj
    injection hae with hae
    injection hae with hae1 hae2
    subst hae1 hae2
    exact hc
  cases lg with
  | true =>
    have PM := hid (Try.slices_Max_int b 0 L.length c L w h1 (Nat.le_refl _) (by omega) hc)
    rw [List.take_of_length_le (Nat.le_refl _)] at PM
    have e : mFar true L = Lib.maxOf L + 1 := rfl
    rw [e] at hb ⊢
    clear hc hr e
    generalize Lib.maxOf L = x at *
    obtain ⟨b1, b2⟩ := hb
    go_enter Try.func25, Try.ntmps25
    go_wp2_with fail
    refine PM.out.mono ?_
    rintro e w' ⟨rfl, rfl⟩
    go_wp2_with fail
    go_ret
    exact ⟨rfl, rfl⟩
  | false =>
    have PM := hid (Try.slices_Min_int b 0 L.length c L w h1 (Nat.le_refl _) (by omega) hc)
    rw [List.take_of_length_le (Nat.le_refl _)] at PM
    have e : mFar false L = Lib.minOf L + 1 := rfl
    rw [e] at hb ⊢
    clear hc hr e
    generalize Lib.minOf L = x at *
    obtain ⟨b1, b2⟩ := hb
    go_enter Try.func25, Try.ntmps25
    go_wp2_with fail
    refine PM.out.mono ?_
    rintro e w' ⟨rfl, rfl⟩
    go_wp2_with fail
    go_ret
    exact ⟨rfl, rfl⟩
end Go.Proofs.Ytejdkaniepgbdaa
