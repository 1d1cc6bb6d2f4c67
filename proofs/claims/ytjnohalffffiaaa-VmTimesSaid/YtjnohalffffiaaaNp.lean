/- vm: area, Fit, Blank; Clone, Load, Code. -/
import Derived.Test.YtjnohalffffiaaaNq
import Derived.Test.YtjnohalffffiaaaSh
set_option linter.unusedVariables false
set_option linter.unusedSimpArgs false
namespace Go.Proofs.Ytjnohalffffiaaa
open Go.RowKit

theorem repeat_zero (n : Nat) : Lib.repeatL ([0] : List UInt8) n = List.replicate n 0 := by
  induction n with
  | zero => rfl
  | succ n ih => rw [Lib.repeatL, ih]; rfl
theorem fit_long (s : ByteArray) (h : 64 ≤ s.size) : s.extract 0 64 = fit s := by
  have hl : 64 ≤ s.data.toList.length := by rw [Array.length_toList]; exact h
  unfold fit
  rw [show 64 - s.data.toList.length = 0 by omega]
  apply ByteArray.ext
  rw [ByteArray.data_extract]
  apply Array.toList_inj.1
  simp
theorem fit_short (s : ByteArray) (h : s.size < 64) : s ++ ⟨(List.replicate (64 - s.size) (0 : UInt8)).toArray⟩ = fit s := by
  have hl : s.data.toList.length = s.size := Array.length_toList
  unfold fit
  rw [hl, List.take_of_length_le (by omega)]
  apply ByteArray.ext
  apply Array.toList_inj.1
  rw [ByteArray.data_append]
  simp

theorem area_calls (s : ByteArray) (w : World) : Calls Try.prog 26 #[.string s] w fun e w' => e = .returned (.string (fit s)) ∧ Below w.heap.size w w' := by
  by_cases h : 64 ≤ s.size
  · rw [← fit_long s h]
    have h' : (64 : Int) ≤ (s.size : Int) := by omega
    go_enter Try.func26, Try.ntmps26
    go_wp2_with fail
    go_ret
    exact ⟨rfl, Below.refl _ _⟩
  · have hs := fit_short s (by omega)
    have HS := hid hs
    have h' : (s.size : Int) < 64 := by omega
    have hw : IntKind.i64.wrap (64 - (s.size : Int)) = ((64 - s.size : Nat) : Int) := by rw [IntKind.wrap_i64]; omega
    have HR := hid (Try.strings_Repeat ⟨#[0]⟩ (64 - s.size))
    clear hs h
    go_enter Try.func26, Try.ntmps26
    go_wp2_with fail
    refine (HR.out _ (by omega) (by show 1 * (64 - s.size) ≤ _; omega)).mono ?_
    rintro e w1 ⟨rfl, hb⟩
    have HB := hid hb
    clear hb
    rw [repeat_zero]
    go_wp2_with fail
    go_ret
    refine ⟨?_, HB.out⟩
    rw [← HS.out]
    rfl

theorem keepC4 {w1 w2 : World} {p0 p1 p2 p3 : Addr} {x0 x1 x2 x3 : Value} (h : w1.cell? p0 = some x0 ∧ w1.cell? p1 = some x1 ∧ w1.cell? p2 = some x2 ∧ w1.cell? p3 = some x3) (hb : Below w1.heap.size w1 w2) : w2.cell? p0 = some x0 ∧ w2.cell? p1 = some x1 ∧ w2.cell? p2 = some x2 ∧ w2.cell? p3 = some x3 := by
  obtain ⟨h0, h1, h2, h3⟩ := h
  exact ⟨(hb.cell (World.block_lt_of_cell? _ _ h0)).trans h0, (hb.cell (World.block_lt_of_cell? _ _ h1)).trans h1, (hb.cell (World.block_lt_of_cell? _ _ h2)).trans h2, (hb.cell (World.block_lt_of_cell? _ _ h3)).trans h3⟩
theorem keepC4s {w1 : World} {p0 p1 p2 p3 : Addr} {x0 x1 x2 x3 : Value} (h : w1.cell? p0 = some x0 ∧ w1.cell? p1 = some x1 ∧ w1.cell? p2 = some x2 ∧ w1.cell? p3 = some x3) {R o : Nat} (a : Value) (n0 : p0.block ≠ R) (n1 : p1.block ≠ R) (n2 : p2.block ≠ R) (n3 : p3.block ≠ R) : (w1.setCell ⟨R, o, none⟩ a).cell? p0 = some x0 ∧ (w1.setCell ⟨R, o, none⟩ a).cell? p1 = some x1 ∧ (w1.setCell ⟨R, o, none⟩ a).cell? p2 = some x2 ∧ (w1.setCell ⟨R, o, none⟩ a).cell? p3 = some x3 := by
  obtain ⟨h0, h1, h2, h3⟩ := h
  exact ⟨(World.cell?_setCell_block _ _ _ _ n0).trans h0, (World.cell?_setCell_block _ _ _ _ n1).trans h1, (World.cell?_setCell_block _ _ _ _ n2).trans h2, (World.cell?_setCell_block _ _ _ _ n3).trans h3⟩

def imgV (I Q M R : ByteArray) : Value := .agg #[.string I, .string Q, .string M, .string R]
set_option maxRecDepth 10000 in
set_option maxHeartbeats 4000000 in
theorem Fit_calls (I Q M R : ByteArray) (w : World) :
    Calls Try.prog 14 #[.agg #[.string I, .string Q, .string M, .string R]] w fun e w' => e = .returned (.agg #[.string (fit I), .string (fit Q), .string (fit M), .string (fit R)]) ∧ Below w.heap.size w w' := by
  go_enter Try.func14, Try.ntmps14
  go_wp2_with fail
  obtain ⟨B0, B1, HB, HZ⟩ := new2 w #[.string I, .string Q, .string M, .string R] #[.string ⟨#[]⟩, .string ⟨#[]⟩, .string ⟨#[]⟩, .string ⟨#[]⟩] 24 24
  generalize ((w.alloc (.cells #[.string I, .string Q, .string M, .string R] 24)).alloc (.cells #[.string ⟨#[]⟩, .string ⟨#[]⟩, .string ⟨#[]⟩, .string ⟨#[]⟩] 24)) = W at *
  have d0 : W.cell? ⟨w.heap.size, 0, none⟩ = some (.string I) := B0.cell 0 _ rfl
  have d1 : W.cell? ⟨w.heap.size, 1, none⟩ = some (.string Q) := B0.cell 1 _ rfl
  have d2 : W.cell? ⟨w.heap.size, 2, none⟩ = some (.string M) := B0.cell 2 _ rfl
  have d3 : W.cell? ⟨w.heap.size, 3, none⟩ = some (.string R) := B0.cell 3 _ rfl
  have q := B1
  have HBW := hid HB
  clear B0 B1 HB HZ
  have r0 := q.cell 0 _ rfl
  have r1 := q.cell 1 _ rfl
  have r2 := q.cell 2 _ rfl
  have r3 := q.cell 3 _ rfl
  have f0 := q.free 0
  have f1 := q.free 1
  have f2 := q.free 2
  have f3 := q.free 3
  go_region_held3 (fun w' => w'.cell? ⟨w.heap.size, 0, none⟩ = some (.string I) ∧ w'.cell? ⟨w.heap.size, 1, none⟩ = some (.string Q) ∧ w'.cell? ⟨w.heap.size, 2, none⟩ = some (.string M) ∧ w'.cell? ⟨w.heap.size, 3, none⟩ = some (.string R))
    (first | (with_reducible exact ⟨d0, d1, d2, d3⟩) | (exact ⟨d0, d1, d2, d3⟩) | (exact keepC4s (R := w.heap.size + 1) (keepC4s (R := w.heap.size + 1) (keepC4s (R := w.heap.size + 1) (keepC4s (R := w.heap.size + 1) ⟨d0, d1, d2, d3⟩ _ (by dsimp only; omega) (by dsimp only; omega) (by dsimp only; omega) (by dsimp only; omega)) _ (by dsimp only; omega) (by dsimp only; omega) (by dsimp only; omega) (by dsimp only; omega)) _ (by dsimp only; omega) (by dsimp only; omega) (by dsimp only; omega) (by dsimp only; omega)) _ (by dsimp only; omega) (by dsimp only; omega) (by dsimp only; omega) (by dsimp only; omega)))
    ((go_at_call 26; (with_reducible refine (area_calls _ _).mono ?_); rintro e w2 ⟨rfl, hb2⟩; have q := Blk.below (by exact q) hb2; have HBW := hid (Below.trans (by first | exact HBW.out | exact HBW.out.drew) (hb2.mono (by have := HBW.out.size; first | omega | (simp; omega)))); have r0 := q.cell 0 _ rfl; have r1 := q.cell 1 _ rfl; have r2 := q.cell 2 _ rfl; have r3 := q.cell 3 _ rfl; have f0 := q.free 0; have f1 := q.free 1; have f2 := q.free 2; have f3 := q.free 3; have d0 := (hb2.cell (World.block_lt_of_cell? _ _ (by exact d0))).trans (by exact d0); have d1 := (hb2.cell (World.block_lt_of_cell? _ _ (by exact d1))).trans (by exact d1); have d2 := (hb2.cell (World.block_lt_of_cell? _ _ (by exact d2))).trans (by exact d2); have d3 := (hb2.cell (World.block_lt_of_cell? _ _ (by exact d3))).trans (by exact d3); clear hb2))
  all_goals
    go_wp2_with fail
    refine bodyPost_ret (v := .agg #[.string (fit I), .string (fit Q), .string (fit M), .string (fit R)]) (by simp [results, Try.results14, go_sem, r0, r1, r2, r3, f0, f1, f2, f3]) rfl ⟨rfl, ?_⟩
    exact bel_set (bel_set (bel_set (bel_set (by first | exact HBW.out | exact HBW.out.drew) (by omega) _ _) (by omega) _ _) (by omega) _ _) (by omega) _ _

end Go.Proofs.Ytjnohalffffiaaa
