/- verify: behind an instruction (guards that are false). -/
import Derived.Test.YtjnohalffffiaaaVc
import Derived.Deep.DrawnRows
import Derived.Test.YtjnohalffffiaaaTk
set_option linter.unusedVariables false
set_option linter.unusedSimpArgs false
namespace Go.Proofs.Ytjnohalffffiaaa
open Go.RowKit

set_option maxRecDepth 10000 in
set_option maxHeartbeats 4000000 in
theorem beh_4b (k kind area at_ n : Int) (a : Option Addr) (m c : Nat) (bs : List (Int × Int)) (w : World) (hv : BrR w (.slice a m c) bs) (hk : (k == kind) = false) :
    Calls Try.prog 49 #[.agg #[.int .i64 k, .slice a m c], .agg #[.int .i64 4, .int .i64 kind, .int .i64 area, .int .i64 at_, .int .i64 n]] w (RetA (mustI false) (k) bs w) := by
  have HV := hid hv
  have HRA := hid (show RetA (mustI false) (k) bs w = fun e w' => ∃ v, e = .returned (.tuple #[.agg #[.int .i64 (k), v], .int .i64 (mustI false)]) ∧ BrR w' v bs ∧ Below w.heap.size w w' from rfl)
  clear hv
  go_enter Try.func49, Try.ntmps49
  go_wp2_with fail
  obtain ⟨B0, B1, B2, HB, HZ⟩ := new3 w #[.int .i64 k, .slice a m c] #[.int .i64 4, .int .i64 kind, .int .i64 area, .int .i64 at_, .int .i64 n] #[.int .i64 0, .slice none 0 0] 105 48 105
  generalize (((w.alloc (.cells #[.int .i64 k, .slice a m c] 105)).alloc (.cells #[.int .i64 4, .int .i64 kind, .int .i64 area, .int .i64 at_, .int .i64 n] 48)).alloc (.cells #[.int .i64 0, .slice none 0 0] 105)) = W at *
  have a0 := B0.cell 0 _ rfl
  have a1 := B0.cell 1 _ rfl
  have i0 := B1.cell 0 _ rfl
  have i1 := B1.cell 1 _ rfl
  have q := B2
  have r0 := B2.cell 0 _ rfl
  have r1 := B2.cell 1 _ rfl
  have f0 := B2.free 0
  have f1 := B2.free 1
  have hq : w.heap.size + 1 + 1 < W.heap.size := B2.lt
  clear B0 B1 B2 HZ
  refine wp_region_held_drew (S := (fun w' => w'.cell? ⟨w.heap.size, 0, none⟩ = some (.int .i64 k) ∧ w'.cell? ⟨w.heap.size, 1, none⟩ = some (.slice a m c) ∧ w'.cell? ⟨w.heap.size + 1, 0, none⟩ = some (.int .i64 4) ∧ w'.cell? ⟨w.heap.size + 1, 1, none⟩ = some (.int .i64 kind) ∧ Below w.heap.size w w')) (by kernel_rfl) ?_ (fun hHeld => ?_)
  · exact ⟨a0, a1, i0, i1, HB.drew⟩
  refine take0 (v := .agg #[.int .i64 k, .slice a m c]) (by kernel_rfl) (by kernel_rfl) (by kernel_rfl) (fun _ _ _ h => h) (Or.inl ⟨by rfl, ?_⟩) hHeld ?_
  · intro w9 hSw
    try dsimp only at hSw
    go_simp
  try simp only [Act.put, List.setIfInBounds_toArray, List.set_cons_zero, List.set_cons_succ]
  refine take1 (v := .pointer (some ⟨w.heap.size, 0, none⟩)) (by kernel_rfl) (by kernel_rfl) (by kernel_rfl) (fun _ _ _ h => h) (Or.inl ⟨by rfl, ?_⟩) hHeld ?_
  · intro w9 hSw
    try dsimp only at hSw
    go_simp
  try simp only [Act.put, List.setIfInBounds_toArray, List.set_cons_zero, List.set_cons_succ]
  refine take2 (v := .int .i64 k) (by kernel_rfl) (by kernel_rfl) (by kernel_rfl) (fun _ _ _ h => h) (Or.inl ⟨by rfl, ?_⟩) hHeld ?_
  · intro w9 hSw
    try dsimp only at hSw
    go_simp
  try simp only [Act.put, List.setIfInBounds_toArray, List.set_cons_zero, List.set_cons_succ]
  refine take3 (v := .pointer (some ⟨w.heap.size + 1, 1, none⟩)) (by kernel_rfl) (by kernel_rfl) (by kernel_rfl) (fun _ _ _ h => h) (Or.inl ⟨by rfl, ?_⟩) hHeld ?_
  · intro w9 hSw
    try dsimp only at hSw
    go_simp
  try simp only [Act.put, List.setIfInBounds_toArray, List.set_cons_zero, List.set_cons_succ]
  refine take4 (v := .int .i64 kind) (by kernel_rfl) (by kernel_rfl) (by kernel_rfl) (fun _ _ _ h => h) (Or.inl ⟨by rfl, ?_⟩) hHeld ?_
  · intro w9 hSw
    try dsimp only at hSw
    go_simp
  try simp only [Act.put, List.setIfInBounds_toArray, List.set_cons_zero, List.set_cons_succ]
  refine take5 (v := .bool false) (by kernel_rfl) (by kernel_rfl) (by kernel_rfl) (fun _ _ _ h => h) (Or.inl ⟨by rfl, ?_⟩) hHeld ?_
  · intro w9 hSw
    try dsimp only at hSw
    go_simp
  try simp only [Act.put, List.setIfInBounds_toArray, List.set_cons_zero, List.set_cons_succ]
  refine take6 (v := .bool false) (by kernel_rfl) (by kernel_rfl) (by kernel_rfl) (fun _ _ _ h => h) (Or.inl ⟨by rfl, ?_⟩) hHeld ?_
  · intro w9 hSw
    try dsimp only at hSw
    go_simp
  try simp only [Act.put, List.setIfInBounds_toArray, List.set_cons_zero, List.set_cons_succ]
  refine take7 (v := undef) (by kernel_rfl) (by kernel_rfl) (by kernel_rfl) (fun _ _ _ h => h) (Or.inr ⟨by rfl, rfl⟩) hHeld ?_
  try simp only [Act.put, List.setIfInBounds_toArray, List.set_cons_zero, List.set_cons_succ]
  refine take8 (v := undef) (by kernel_rfl) (by kernel_rfl) (by kernel_rfl) (fun _ _ _ h => h) (Or.inr ⟨by rfl, rfl⟩) hHeld ?_
  try simp only [Act.put, List.setIfInBounds_toArray, List.set_cons_zero, List.set_cons_succ]
  refine take9 (v := undef) (by kernel_rfl) (by kernel_rfl) (by kernel_rfl) (fun _ _ _ h => h) (Or.inr ⟨by rfl, rfl⟩) hHeld ?_
  try simp only [Act.put, List.setIfInBounds_toArray, List.set_cons_zero, List.set_cons_succ]
  refine take10 (v := .bool false) (by kernel_rfl) (by kernel_rfl) (by kernel_rfl) (fun _ _ _ h => h) (Or.inl ⟨by rfl, ?_⟩) hHeld ?_
  · intro w9 hSw
    try dsimp only at hSw
    go_simp
  try simp only [Act.put, List.setIfInBounds_toArray, List.set_cons_zero, List.set_cons_succ]
  refine wpAnyH_ready (rs := [11]) (by kernel_rfl) (by simp) ?_
  refine step11 (fun K hK => ?_) AllReadyH.nil
  go_simp
  refine (must_calls _ _).mono ?_
  rintro e w2 ⟨rfl, rfl⟩
  go_wp2_with fail
  refine hK.out _ _ ?_ (fun hHeld => ?_)
  · exact hHeld
  clear hK K
  try simp only [Act.put, List.setIfInBounds_toArray, List.set_cons_zero, List.set_cons_succ]
  refine wpAnyH_ready (rs := [12]) (by kernel_rfl) (by simp) ?_
  refine step12 (fun K hK => ?_) AllReadyH.nil
  go_simp
  refine hK.out _ _ ?_ (fun hHeld => ?_)
  · first | (exact keep5s (by assumption) _ _ (by omega) (by dsimp only; omega) (by dsimp only; omega) (by dsimp only; omega) (by dsimp only; omega)) | (exact keep5d (by assumption) _ _ (by omega) (by dsimp only; omega) (by dsimp only; omega) (by dsimp only; omega) (by dsimp only; omega))
  clear hK K
  try simp only [Act.put, List.setIfInBounds_toArray, List.set_cons_zero, List.set_cons_succ]
  refine take13 (v := .int .i64 (mustI false)) (by kernel_rfl) (by kernel_rfl) (by kernel_rfl) (fun _ _ _ h => h) (Or.inl ⟨by rfl, ?_⟩) hHeld ?_
  · intro w9 hSw
    try dsimp only at hSw
    go_simp
  try simp only [Act.put, List.setIfInBounds_toArray, List.set_cons_zero, List.set_cons_succ]
  refine wpAnyH_done (by kernel_rfl) ?_ _
  have HX := hid hHeld.2.2.2.2
  go_wp2_with fail
  refine bodyPost_ret (v := .tuple #[.agg #[.int .i64 (k), .slice a m c], .int .i64 (mustI false)]) (by simp [results, Try.results49, go_sem, r0, r1, f0, f1]) rfl ?_
  rw [HRA.out]
  exact ⟨_, rfl, HV.out.below HX.out, HX.out⟩

set_option maxRecDepth 10000 in
set_option maxHeartbeats 4000000 in
theorem beh_5b (k kind area at_ n : Int) (a : Option Addr) (m c : Nat) (bs : List (Int × Int)) (w : World) (hv : BrR w (.slice a m c) bs) (hk : (k == 1) = false) :
    Calls Try.prog 49 #[.agg #[.int .i64 k, .slice a m c], .agg #[.int .i64 5, .int .i64 kind, .int .i64 area, .int .i64 at_, .int .i64 n]] w (RetA (mustI false) (k) bs w) := by
  have HV := hid hv
  have HRA := hid (show RetA (mustI false) (k) bs w = fun e w' => ∃ v, e = .returned (.tuple #[.agg #[.int .i64 (k), v], .int .i64 (mustI false)]) ∧ BrR w' v bs ∧ Below w.heap.size w w' from rfl)
  clear hv
  go_enter Try.func49, Try.ntmps49
  go_wp2_with fail
  obtain ⟨B0, B1, B2, HB, HZ⟩ := new3 w #[.int .i64 k, .slice a m c] #[.int .i64 5, .int .i64 kind, .int .i64 area, .int .i64 at_, .int .i64 n] #[.int .i64 0, .slice none 0 0] 105 48 105
  generalize (((w.alloc (.cells #[.int .i64 k, .slice a m c] 105)).alloc (.cells #[.int .i64 5, .int .i64 kind, .int .i64 area, .int .i64 at_, .int .i64 n] 48)).alloc (.cells #[.int .i64 0, .slice none 0 0] 105)) = W at *
  have a0 := B0.cell 0 _ rfl
  have a1 := B0.cell 1 _ rfl
  have i0 := B1.cell 0 _ rfl
  have i1 := B1.cell 1 _ rfl
  have q := B2
  have r0 := B2.cell 0 _ rfl
  have r1 := B2.cell 1 _ rfl
  have f0 := B2.free 0
  have f1 := B2.free 1
  have hq : w.heap.size + 1 + 1 < W.heap.size := B2.lt
  clear B0 B1 B2 HZ
  refine wp_region_held_drew (S := (fun w' => w'.cell? ⟨w.heap.size, 0, none⟩ = some (.int .i64 k) ∧ w'.cell? ⟨w.heap.size, 1, none⟩ = some (.slice a m c) ∧ w'.cell? ⟨w.heap.size + 1, 0, none⟩ = some (.int .i64 5) ∧ w'.cell? ⟨w.heap.size + 1, 1, none⟩ = some (.int .i64 kind) ∧ Below w.heap.size w w')) (by kernel_rfl) ?_ (fun hHeld => ?_)
  · exact ⟨a0, a1, i0, i1, HB.drew⟩
  refine take0 (v := .agg #[.int .i64 k, .slice a m c]) (by kernel_rfl) (by kernel_rfl) (by kernel_rfl) (fun _ _ _ h => h) (Or.inl ⟨by rfl, ?_⟩) hHeld ?_
  · intro w9 hSw
    try dsimp only at hSw
    go_simp
  try simp only [Act.put, List.setIfInBounds_toArray, List.set_cons_zero, List.set_cons_succ]
  refine take1 (v := .bool false) (by kernel_rfl) (by kernel_rfl) (by kernel_rfl) (fun _ _ _ h => h) (Or.inl ⟨by rfl, ?_⟩) hHeld ?_
  · intro w9 hSw
    try dsimp only at hSw
    go_simp
  try simp only [Act.put, List.setIfInBounds_toArray, List.set_cons_zero, List.set_cons_succ]
  refine take2 (v := .bool false) (by kernel_rfl) (by kernel_rfl) (by kernel_rfl) (fun _ _ _ h => h) (Or.inl ⟨by rfl, ?_⟩) hHeld ?_
  · intro w9 hSw
    try dsimp only at hSw
    go_simp
  try simp only [Act.put, List.setIfInBounds_toArray, List.set_cons_zero, List.set_cons_succ]
  refine take3 (v := undef) (by kernel_rfl) (by kernel_rfl) (by kernel_rfl) (fun _ _ _ h => h) (Or.inr ⟨by rfl, rfl⟩) hHeld ?_
  try simp only [Act.put, List.setIfInBounds_toArray, List.set_cons_zero, List.set_cons_succ]
  refine take4 (v := undef) (by kernel_rfl) (by kernel_rfl) (by kernel_rfl) (fun _ _ _ h => h) (Or.inr ⟨by rfl, rfl⟩) hHeld ?_
  try simp only [Act.put, List.setIfInBounds_toArray, List.set_cons_zero, List.set_cons_succ]
  refine take5 (v := undef) (by kernel_rfl) (by kernel_rfl) (by kernel_rfl) (fun _ _ _ h => h) (Or.inr ⟨by rfl, rfl⟩) hHeld ?_
  try simp only [Act.put, List.setIfInBounds_toArray, List.set_cons_zero, List.set_cons_succ]
  refine take6 (v := .bool false) (by kernel_rfl) (by kernel_rfl) (by kernel_rfl) (fun _ _ _ h => h) (Or.inl ⟨by rfl, ?_⟩) hHeld ?_
  · intro w9 hSw
    try dsimp only at hSw
    go_simp
  try simp only [Act.put, List.setIfInBounds_toArray, List.set_cons_zero, List.set_cons_succ]
  refine wpAnyH_ready (rs := [7]) (by kernel_rfl) (by simp) ?_
  refine step7 (fun K hK => ?_) AllReadyH.nil
  go_simp
  refine (must_calls _ _).mono ?_
  rintro e w2 ⟨rfl, rfl⟩
  go_wp2_with fail
  refine hK.out _ _ ?_ (fun hHeld => ?_)
  · exact hHeld
  clear hK K
  try simp only [Act.put, List.setIfInBounds_toArray, List.set_cons_zero, List.set_cons_succ]
  refine wpAnyH_ready (rs := [8]) (by kernel_rfl) (by simp) ?_
  refine step8 (fun K hK => ?_) AllReadyH.nil
  go_simp
  refine hK.out _ _ ?_ (fun hHeld => ?_)
  · first | (exact keep5s (by assumption) _ _ (by omega) (by dsimp only; omega) (by dsimp only; omega) (by dsimp only; omega) (by dsimp only; omega)) | (exact keep5d (by assumption) _ _ (by omega) (by dsimp only; omega) (by dsimp only; omega) (by dsimp only; omega) (by dsimp only; omega))
  clear hK K
  try simp only [Act.put, List.setIfInBounds_toArray, List.set_cons_zero, List.set_cons_succ]
  refine take9 (v := .int .i64 (mustI false)) (by kernel_rfl) (by kernel_rfl) (by kernel_rfl) (fun _ _ _ h => h) (Or.inl ⟨by rfl, ?_⟩) hHeld ?_
  · intro w9 hSw
    try dsimp only at hSw
    go_simp
  try simp only [Act.put, List.setIfInBounds_toArray, List.set_cons_zero, List.set_cons_succ]
  refine wpAnyH_done (by kernel_rfl) ?_ _
  have HX := hid hHeld.2.2.2.2
  go_wp2_with fail
  refine bodyPost_ret (v := .tuple #[.agg #[.int .i64 (k), .slice a m c], .int .i64 (mustI false)]) (by simp [results, Try.results49, go_sem, r0, r1, f0, f1]) rfl ?_
  rw [HRA.out]
  exact ⟨_, rfl, HV.out.below HX.out, HX.out⟩

set_option maxRecDepth 10000 in
set_option maxHeartbeats 4000000 in
theorem beh_6b (k kind area at_ n : Int) (a : Option Addr) (m c : Nat) (bs : List (Int × Int)) (w : World) (hv : BrR w (.slice a m c) bs) (hk : (k == 1) = false) :
    Calls Try.prog 49 #[.agg #[.int .i64 k, .slice a m c], .agg #[.int .i64 6, .int .i64 kind, .int .i64 area, .int .i64 at_, .int .i64 n]] w (RetA (mustI false) (k) bs w) := by
  have HV := hid hv
  have HRA := hid (show RetA (mustI false) (k) bs w = fun e w' => ∃ v, e = .returned (.tuple #[.agg #[.int .i64 (k), v], .int .i64 (mustI false)]) ∧ BrR w' v bs ∧ Below w.heap.size w w' from rfl)
  clear hv
  go_enter Try.func49, Try.ntmps49
  go_wp2_with fail
  obtain ⟨B0, B1, B2, HB, HZ⟩ := new3 w #[.int .i64 k, .slice a m c] #[.int .i64 6, .int .i64 kind, .int .i64 area, .int .i64 at_, .int .i64 n] #[.int .i64 0, .slice none 0 0] 105 48 105
  generalize (((w.alloc (.cells #[.int .i64 k, .slice a m c] 105)).alloc (.cells #[.int .i64 6, .int .i64 kind, .int .i64 area, .int .i64 at_, .int .i64 n] 48)).alloc (.cells #[.int .i64 0, .slice none 0 0] 105)) = W at *
  have a0 := B0.cell 0 _ rfl
  have a1 := B0.cell 1 _ rfl
  have i0 := B1.cell 0 _ rfl
  have i1 := B1.cell 1 _ rfl
  have q := B2
  have r0 := B2.cell 0 _ rfl
  have r1 := B2.cell 1 _ rfl
  have f0 := B2.free 0
  have f1 := B2.free 1
  have hq : w.heap.size + 1 + 1 < W.heap.size := B2.lt
  clear B0 B1 B2 HZ
  refine wp_region_held_drew (S := (fun w' => w'.cell? ⟨w.heap.size, 0, none⟩ = some (.int .i64 k) ∧ w'.cell? ⟨w.heap.size, 1, none⟩ = some (.slice a m c) ∧ w'.cell? ⟨w.heap.size + 1, 0, none⟩ = some (.int .i64 6) ∧ w'.cell? ⟨w.heap.size + 1, 1, none⟩ = some (.int .i64 kind) ∧ Below w.heap.size w w')) (by kernel_rfl) ?_ (fun hHeld => ?_)
  · exact ⟨a0, a1, i0, i1, HB.drew⟩
  refine take0 (v := .agg #[.int .i64 k, .slice a m c]) (by kernel_rfl) (by kernel_rfl) (by kernel_rfl) (fun _ _ _ h => h) (Or.inl ⟨by rfl, ?_⟩) hHeld ?_
  · intro w9 hSw
    try dsimp only at hSw
    go_simp
  try simp only [Act.put, List.setIfInBounds_toArray, List.set_cons_zero, List.set_cons_succ]
  refine take1 (v := .bool false) (by kernel_rfl) (by kernel_rfl) (by kernel_rfl) (fun _ _ _ h => h) (Or.inl ⟨by rfl, ?_⟩) hHeld ?_
  · intro w9 hSw
    try dsimp only at hSw
    go_simp
  try simp only [Act.put, List.setIfInBounds_toArray, List.set_cons_zero, List.set_cons_succ]
  refine take2 (v := .bool false) (by kernel_rfl) (by kernel_rfl) (by kernel_rfl) (fun _ _ _ h => h) (Or.inl ⟨by rfl, ?_⟩) hHeld ?_
  · intro w9 hSw
    try dsimp only at hSw
    go_simp
  try simp only [Act.put, List.setIfInBounds_toArray, List.set_cons_zero, List.set_cons_succ]
  refine take3 (v := undef) (by kernel_rfl) (by kernel_rfl) (by kernel_rfl) (fun _ _ _ h => h) (Or.inr ⟨by rfl, rfl⟩) hHeld ?_
  try simp only [Act.put, List.setIfInBounds_toArray, List.set_cons_zero, List.set_cons_succ]
  refine take4 (v := undef) (by kernel_rfl) (by kernel_rfl) (by kernel_rfl) (fun _ _ _ h => h) (Or.inr ⟨by rfl, rfl⟩) hHeld ?_
  try simp only [Act.put, List.setIfInBounds_toArray, List.set_cons_zero, List.set_cons_succ]
  refine take5 (v := undef) (by kernel_rfl) (by kernel_rfl) (by kernel_rfl) (fun _ _ _ h => h) (Or.inr ⟨by rfl, rfl⟩) hHeld ?_
  try simp only [Act.put, List.setIfInBounds_toArray, List.set_cons_zero, List.set_cons_succ]
  refine take6 (v := .bool false) (by kernel_rfl) (by kernel_rfl) (by kernel_rfl) (fun _ _ _ h => h) (Or.inl ⟨by rfl, ?_⟩) hHeld ?_
  · intro w9 hSw
    try dsimp only at hSw
    go_simp
  try simp only [Act.put, List.setIfInBounds_toArray, List.set_cons_zero, List.set_cons_succ]
  refine wpAnyH_ready (rs := [7]) (by kernel_rfl) (by simp) ?_
  refine step7 (fun K hK => ?_) AllReadyH.nil
  go_simp
  refine (must_calls _ _).mono ?_
  rintro e w2 ⟨rfl, rfl⟩
  go_wp2_with fail
  refine hK.out _ _ ?_ (fun hHeld => ?_)
  · exact hHeld
  clear hK K
  try simp only [Act.put, List.setIfInBounds_toArray, List.set_cons_zero, List.set_cons_succ]
  refine wpAnyH_ready (rs := [8]) (by kernel_rfl) (by simp) ?_
  refine step8 (fun K hK => ?_) AllReadyH.nil
  go_simp
  refine hK.out _ _ ?_ (fun hHeld => ?_)
  · first | (exact keep5s (by assumption) _ _ (by omega) (by dsimp only; omega) (by dsimp only; omega) (by dsimp only; omega) (by dsimp only; omega)) | (exact keep5d (by assumption) _ _ (by omega) (by dsimp only; omega) (by dsimp only; omega) (by dsimp only; omega) (by dsimp only; omega))
  clear hK K
  try simp only [Act.put, List.setIfInBounds_toArray, List.set_cons_zero, List.set_cons_succ]
  refine take9 (v := .int .i64 (mustI false)) (by kernel_rfl) (by kernel_rfl) (by kernel_rfl) (fun _ _ _ h => h) (Or.inl ⟨by rfl, ?_⟩) hHeld ?_
  · intro w9 hSw
    try dsimp only at hSw
    go_simp
  try simp only [Act.put, List.setIfInBounds_toArray, List.set_cons_zero, List.set_cons_succ]
  refine wpAnyH_done (by kernel_rfl) ?_ _
  have HX := hid hHeld.2.2.2.2
  go_wp2_with fail
  refine bodyPost_ret (v := .tuple #[.agg #[.int .i64 (k), .slice a m c], .int .i64 (mustI false)]) (by simp [results, Try.results49, go_sem, r0, r1, f0, f1]) rfl ?_
  rw [HRA.out]
  exact ⟨_, rfl, HV.out.below HX.out, HX.out⟩

set_option maxRecDepth 10000 in
set_option maxHeartbeats 4000000 in
theorem beh_ob (op : Int) (k kind area at_ n : Int) (a : Option Addr) (m c : Nat) (bs : List (Int × Int)) (w : World) (hv : BrR w (.slice a m c) bs) (hk : (k == kind) = false) (hop : op ≠ 1 ∧ op ≠ 2 ∧ op ≠ 3 ∧ op ≠ 4 ∧ op ≠ 5 ∧ op ≠ 6 ∧ op ≠ 13 ∧ op ≠ 25 ∧ op ≠ 26 ∧ op ≠ 27 ∧ op ≠ 34 ∧ op ≠ 35 ∧ op ≠ 36 ∧ op ≠ 28 ∧ op ≠ 29 ∧ op ≠ 30 ∧ op ≠ 31 ∧ op ≠ 32 ∧ op ≠ 33) :
    Calls Try.prog 49 #[.agg #[.int .i64 k, .slice a m c], .agg #[.int .i64 op, .int .i64 kind, .int .i64 area, .int .i64 at_, .int .i64 n]] w (RetA (mustI false) (madeI op kind) bs w) := by
  have HV := hid hv
  have HRA := hid (show RetA (mustI false) (madeI op kind) bs w = fun e w' => ∃ v, e = .returned (.tuple #[.agg #[.int .i64 (madeI op kind), v], .int .i64 (mustI false)]) ∧ BrR w' v bs ∧ Below w.heap.size w w' from rfl)
  clear hv
  have n1 : (op == 1) = false := by simp; omega
  have n2 : (op == 2) = false := by simp; omega
  have n3 : (op == 3) = false := by simp; omega
  have n4 : (op == 4) = false := by simp; omega
  have n5 : (op == 5) = false := by simp; omega
  have n6 : (op == 6) = false := by simp; omega
  have n13 : (op == 13) = false := by simp; omega
  have n25 : (op == 25) = false := by simp; omega
  have n26 : (op == 26) = false := by simp; omega
  have n27 : (op == 27) = false := by simp; omega
  have n34 : (op == 34) = false := by simp; omega
  have n35 : (op == 35) = false := by simp; omega
  have n36 : (op == 36) = false := by simp; omega
  have n28 : (op == 28) = false := by simp; omega
  have n29 : (op == 29) = false := by simp; omega
  have n30 : (op == 30) = false := by simp; omega
  have n31 : (op == 31) = false := by simp; omega
  have n32 : (op == 32) = false := by simp; omega
  have n33 : (op == 33) = false := by simp; omega
  clear hop
  go_enter Try.func49, Try.ntmps49
  go_wp2_with fail
  obtain ⟨B0, B1, B2, HB, HZ⟩ := new3 w #[.int .i64 k, .slice a m c] #[.int .i64 op, .int .i64 kind, .int .i64 area, .int .i64 at_, .int .i64 n] #[.int .i64 0, .slice none 0 0] 105 48 105
  generalize (((w.alloc (.cells #[.int .i64 k, .slice a m c] 105)).alloc (.cells #[.int .i64 op, .int .i64 kind, .int .i64 area, .int .i64 at_, .int .i64 n] 48)).alloc (.cells #[.int .i64 0, .slice none 0 0] 105)) = W at *
  have a0 := B0.cell 0 _ rfl
  have a1 := B0.cell 1 _ rfl
  have i0 := B1.cell 0 _ rfl
  have i1 := B1.cell 1 _ rfl
  have q := B2
  have r0 := B2.cell 0 _ rfl
  have r1 := B2.cell 1 _ rfl
  have f0 := B2.free 0
  have f1 := B2.free 1
  have hq : w.heap.size + 1 + 1 < W.heap.size := B2.lt
  clear B0 B1 B2 HZ
  refine wp_region_held_drew (S := (fun w' => w'.cell? ⟨w.heap.size, 0, none⟩ = some (.int .i64 k) ∧ w'.cell? ⟨w.heap.size, 1, none⟩ = some (.slice a m c) ∧ w'.cell? ⟨w.heap.size + 1, 0, none⟩ = some (.int .i64 op) ∧ w'.cell? ⟨w.heap.size + 1, 1, none⟩ = some (.int .i64 kind) ∧ Below w.heap.size w w')) (by kernel_rfl) ?_ (fun hHeld => ?_)
  · exact ⟨a0, a1, i0, i1, HB.drew⟩
  refine take0 (v := .agg #[.int .i64 k, .slice a m c]) (by kernel_rfl) (by kernel_rfl) (by kernel_rfl) (fun _ _ _ h => h) (Or.inl ⟨by rfl, ?_⟩) hHeld ?_
  · intro w9 hSw
    try dsimp only at hSw
    go_simp
  try simp only [Act.put, List.setIfInBounds_toArray, List.set_cons_zero, List.set_cons_succ]
  refine take1 (v := .pointer (some ⟨w.heap.size + 1, 0, none⟩)) (by kernel_rfl) (by kernel_rfl) (by kernel_rfl) (fun _ _ _ h => h) (Or.inl ⟨by rfl, ?_⟩) hHeld ?_
  · intro w9 hSw
    try dsimp only at hSw
    go_simp
  try simp only [Act.put, List.setIfInBounds_toArray, List.set_cons_zero, List.set_cons_succ]
  refine take2 (v := .int .i64 op) (by kernel_rfl) (by kernel_rfl) (by kernel_rfl) (fun _ _ _ h => h) (Or.inl ⟨by rfl, ?_⟩) hHeld ?_
  · intro w9 hSw
    try dsimp only at hSw
    go_simp
  try simp only [Act.put, List.setIfInBounds_toArray, List.set_cons_zero, List.set_cons_succ]
  refine take3 (v := .pointer (some ⟨w.heap.size + 1, 1, none⟩)) (by kernel_rfl) (by kernel_rfl) (by kernel_rfl) (fun _ _ _ h => h) (Or.inl ⟨by rfl, ?_⟩) hHeld ?_
  · intro w9 hSw
    try dsimp only at hSw
    go_simp
  try simp only [Act.put, List.setIfInBounds_toArray, List.set_cons_zero, List.set_cons_succ]
  refine take4 (v := .int .i64 kind) (by kernel_rfl) (by kernel_rfl) (by kernel_rfl) (fun _ _ _ h => h) (Or.inl ⟨by rfl, ?_⟩) hHeld ?_
  · intro w9 hSw
    try dsimp only at hSw
    go_simp
  try simp only [Act.put, List.setIfInBounds_toArray, List.set_cons_zero, List.set_cons_succ]
  refine take7 (v := .pointer (some ⟨w.heap.size, 0, none⟩)) (by kernel_rfl) (by kernel_rfl) (by kernel_rfl) (fun _ _ _ h => h) (Or.inl ⟨by rfl, ?_⟩) hHeld ?_
  · intro w9 hSw
    try dsimp only at hSw
    go_simp
  try simp only [Act.put, List.setIfInBounds_toArray, List.set_cons_zero, List.set_cons_succ]
  refine take8 (v := .int .i64 k) (by kernel_rfl) (by kernel_rfl) (by kernel_rfl) (fun _ _ _ h => h) (Or.inl ⟨by rfl, ?_⟩) hHeld ?_
  · intro w9 hSw
    try dsimp only at hSw
    go_simp
  try simp only [Act.put, List.setIfInBounds_toArray, List.set_cons_zero, List.set_cons_succ]
  refine take9 (v := .pointer (some ⟨w.heap.size + 1, 1, none⟩)) (by kernel_rfl) (by kernel_rfl) (by kernel_rfl) (fun _ _ _ h => h) (Or.inl ⟨by rfl, ?_⟩) hHeld ?_
  · intro w9 hSw
    try dsimp only at hSw
    go_simp
  try simp only [Act.put, List.setIfInBounds_toArray, List.set_cons_zero, List.set_cons_succ]
  refine take10 (v := .int .i64 kind) (by kernel_rfl) (by kernel_rfl) (by kernel_rfl) (fun _ _ _ h => h) (Or.inl ⟨by rfl, ?_⟩) hHeld ?_
  · intro w9 hSw
    try dsimp only at hSw
    go_simp
  try simp only [Act.put, List.setIfInBounds_toArray, List.set_cons_zero, List.set_cons_succ]
  refine take11 (v := .bool false) (by kernel_rfl) (by kernel_rfl) (by kernel_rfl) (fun _ _ _ h => h) (Or.inl ⟨by rfl, ?_⟩) hHeld ?_
  · intro w9 hSw
    try dsimp only at hSw
    go_simp
  try simp only [Act.put, List.setIfInBounds_toArray, List.set_cons_zero, List.set_cons_succ]
  refine wpAnyH_ready (rs := [5]) (by kernel_rfl) (by simp) ?_
  refine step5 (fun K hK => ?_) AllReadyH.nil
  go_simp
  refine (made_calls _ _ _).mono ?_
  rintro e w2 ⟨rfl, rfl⟩
  go_wp2_with fail
  refine hK.out _ _ ?_ (fun hHeld => ?_)
  · exact hHeld
  clear hK K
  try simp only [Act.put, List.setIfInBounds_toArray, List.set_cons_zero, List.set_cons_succ]
  refine wpAnyH_ready (rs := [6]) (by kernel_rfl) (by simp) ?_
  refine step6 (fun K hK => ?_) AllReadyH.nil
  go_simp
  refine (with_calls _ _ _ _ _ _).mono ?_
  rintro e w2 ⟨rfl, hb2⟩
  have q := Blk.below (by exact q) hb2
  have r0 := q.cell 0 _ rfl
  have r1 := q.cell 1 _ rfl
  have f0 := q.free 0
  have f1 := q.free 1
  have hq := q.lt
  go_wp2_with fail
  refine hK.out _ _ ?_ (fun hHeld => ?_)
  · exact keep5 (by assumption) (by assumption)
  clear hK K
  try simp only [Act.put, List.setIfInBounds_toArray, List.set_cons_zero, List.set_cons_succ]
  refine take12 (v := .bool false) (by kernel_rfl) (by kernel_rfl) (by kernel_rfl) (fun _ _ _ h => h) (Or.inl ⟨by rfl, ?_⟩) hHeld ?_
  · intro w9 hSw
    try dsimp only at hSw
    go_simp
  try simp only [Act.put, List.setIfInBounds_toArray, List.set_cons_zero, List.set_cons_succ]
  refine take13 (v := undef) (by kernel_rfl) (by kernel_rfl) (by kernel_rfl) (fun _ _ _ h => h) (Or.inr ⟨by rfl, rfl⟩) hHeld ?_
  try simp only [Act.put, List.setIfInBounds_toArray, List.set_cons_zero, List.set_cons_succ]
  refine take14 (v := undef) (by kernel_rfl) (by kernel_rfl) (by kernel_rfl) (fun _ _ _ h => h) (Or.inr ⟨by rfl, rfl⟩) hHeld ?_
  try simp only [Act.put, List.setIfInBounds_toArray, List.set_cons_zero, List.set_cons_succ]
  refine take15 (v := undef) (by kernel_rfl) (by kernel_rfl) (by kernel_rfl) (fun _ _ _ h => h) (Or.inr ⟨by rfl, rfl⟩) hHeld ?_
  try simp only [Act.put, List.setIfInBounds_toArray, List.set_cons_zero, List.set_cons_succ]
  refine take16 (v := undef) (by kernel_rfl) (by kernel_rfl) (by kernel_rfl) (fun _ _ _ h => h) (Or.inr ⟨by rfl, rfl⟩) hHeld ?_
  try simp only [Act.put, List.setIfInBounds_toArray, List.set_cons_zero, List.set_cons_succ]
  refine take17 (v := undef) (by kernel_rfl) (by kernel_rfl) (by kernel_rfl) (fun _ _ _ h => h) (Or.inr ⟨by rfl, rfl⟩) hHeld ?_
  try simp only [Act.put, List.setIfInBounds_toArray, List.set_cons_zero, List.set_cons_succ]
  refine take18 (v := .bool false) (by kernel_rfl) (by kernel_rfl) (by kernel_rfl) (fun _ _ _ h => h) (Or.inl ⟨by rfl, ?_⟩) hHeld ?_
  · intro w9 hSw
    try dsimp only at hSw
    go_simp
  try simp only [Act.put, List.setIfInBounds_toArray, List.set_cons_zero, List.set_cons_succ]
  refine wpAnyH_ready (rs := [19]) (by kernel_rfl) (by simp) ?_
  refine step19 (fun K hK => ?_) AllReadyH.nil
  go_simp
  refine (must_calls _ _).mono ?_
  rintro e w2 ⟨rfl, rfl⟩
  go_wp2_with fail
  refine hK.out _ _ ?_ (fun hHeld => ?_)
  · exact hHeld
  clear hK K
  try simp only [Act.put, List.setIfInBounds_toArray, List.set_cons_zero, List.set_cons_succ]
  refine wpAnyH_ready (rs := [20]) (by kernel_rfl) (by simp) ?_
  refine step20 (fun K hK => ?_) AllReadyH.nil
  go_simp
  refine hK.out _ _ ?_ (fun hHeld => ?_)
  · first | (exact keep5s (by assumption) _ _ (by omega) (by dsimp only; omega) (by dsimp only; omega) (by dsimp only; omega) (by dsimp only; omega)) | (exact keep5d (by assumption) _ _ (by omega) (by dsimp only; omega) (by dsimp only; omega) (by dsimp only; omega) (by dsimp only; omega))
  clear hK K
  try simp only [Act.put, List.setIfInBounds_toArray, List.set_cons_zero, List.set_cons_succ]
  refine take21 (v := .int .i64 (mustI false)) (by kernel_rfl) (by kernel_rfl) (by kernel_rfl) (fun _ _ _ h => h) (Or.inl ⟨by rfl, ?_⟩) hHeld ?_
  · intro w9 hSw
    try dsimp only at hSw
    go_simp
  try simp only [Act.put, List.setIfInBounds_toArray, List.set_cons_zero, List.set_cons_succ]
  refine wpAnyH_done (by kernel_rfl) ?_ _
  have HX := hid hHeld.2.2.2.2
  go_wp2_with fail
  refine bodyPost_ret (v := .tuple #[.agg #[.int .i64 (madeI op kind), .slice a m c], .int .i64 (mustI false)]) (by simp [results, Try.results49, go_sem, r0, r1, f0, f1]) rfl ?_
  rw [HRA.out]
  exact ⟨_, rfl, HV.out.below HX.out, HX.out⟩
end Go.Proofs.Ytjnohalffffiaaa
