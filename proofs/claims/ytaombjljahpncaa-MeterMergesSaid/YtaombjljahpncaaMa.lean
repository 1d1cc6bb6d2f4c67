/- A meter that is awake. -/
import Derived.Test.YtaombjljahpncaaRp
import Derived.Deep.QuietTactic
import Derived.BigQuiet
set_option linter.unusedVariables false
set_option linter.unusedSimpArgs false
namespace Go.Proofs.Ytaombjljahpncaa
open Go.RowKit

def Same (w w' : World) : Prop := Below w.heap.size w w'
theorem turns_below {b base : Nat} {g : Nat → Int} {w0 w w' : World} {e : Ending} (h : Turns b g w e w') (hb : base ≤ b) (h0 : Below base w0 w) (hs : base ≤ w.heap.size) : Below base w0 w' :=
  h0.grown h.2.2 hs (fun k hk => by cases hk; exact hb)

theorem RdI.grown {w w' : World} {r : Option Nat} {a : Option Addr} {xs : List Int} (h : RdI w a xs) (hg : w.grownBy w' r) (hne : ∀ b off, a = some ⟨b, off, none⟩ → some b ≠ r) : RdI w' a xs := by
  rcases h with rfl | ⟨b, off, rfl, h⟩
  · exact .inl rfl
  · refine .inr ⟨b, off, rfl, fun j hj => ?_⟩
    have hc := h j hj
    exact hg.cell hc (fun e => hne b off rfl (by rw [← e]))

set_option maxHeartbeats 1000000 in
theorem mawake_calls (w : World) :
    Calls Try.prog 6 #[] w fun e w' => e = .returned (.bool true) ∧ Below w.heap.size w w' := by
  go_enter Try.func6, Try.ntmps6
  go_wp2_with fail
  refine (New_calls _ _).mono ?_
  rintro e w' ⟨rfl, rfl⟩
  rw [show brg 5 = 5 from rfl]
  have hm : MAt (w.alloc (.cells (cells72 (fresh 5)) 44)) w.heap.size (fresh 5) := Blk.new _ _ _
  have hb0 : Below w.heap.size w (w.alloc (.cells (cells72 (fresh 5)) 44)) := (Below.refl _ _).alloc (Nat.le_refl _) _
  have hs0 : (w.alloc (.cells (cells72 (fresh 5)) 44)).heap.size = w.heap.size + 1 := by simp
  generalize (w.alloc (.cells (cells72 (fresh 5)) 44)) = w1 at *
  have HM := hid hm
  have HB := hid hb0
  have HS := hid hs0
  clear hm hb0
  go_wp2_with fail
  go_loopw [9] (fun i wr => ∃ j : Nat, j ≤ 4 ∧ i = .int .i64 j ∧ MAt wr w.heap.size (runf 5 [3, 9, 3, 9] j) ∧ RdI wr (some ⟨w.heap.size + 1, 0, none⟩) [3, 9, 3, 9] ∧ Below w.heap.size w wr ∧ w.heap.size < wr.heap.size) (fun i _ => 4 - (intOf i).toNat)
  case atStart =>
    refine ⟨0, Nat.zero_le _, rfl, HM.out.below ((Below.refl _ _).alloc (Nat.le_refl _) _), .inr ⟨_, 0, rfl, fun j hj => ?_⟩, HB.out.alloc (by have := HS.out; omega) _, by have := HS.out; simp; omega⟩
    have hj4 : j = 0 ∨ j = 1 ∨ j = 2 ∨ j = 3 := by simp at hj; omega
    have hcell := fun k v hk => (Blk.new w1 #[.int .i64 3, .int .i64 9, .int .i64 3, .int .i64 9] 3).cell k v hk
    rw [HS.out] at hcell
    rcases hj4 with rfl | rfl | rfl | rfl <;> exact hcell _ _ rfl
  case round =>
    obtain ⟨j, hj, rfl, hm, hr, hb, hsz⟩ := hrel
    by_cases hlt : j < 4
    · obtain ⟨cb, co, hae, hcj⟩ := hr.cell j hlt
      have HM := hid hm
      have HR := hid hr
      have HB := hid hb
      injection hae with hae
      injection hae with h1 h2
      subst h1 h2
      obtain ⟨x, hx⟩ : ∃ x, x = ([3, 9, 3, 9] : List Int).getD j 0 := ⟨_, rfl⟩
      rw [← hx, Nat.zero_add] at hcj
      have HX := hid hx
      clear hm hr hb hx
      go_wp2_with fail
      refine (Add_calls _ _ x _ HM.out ((run_rep 5 _ j).fine (by rw [runa_len]; omega))).mono ?_
      rintro e w' ht
      obtain rfl := ht.1
      have hm2 := ht.2.1
      have hb2 := turns_below ht (Nat.le_refl _) HB.out (by omega)
      have hs2 := ht.2.2.size
      have hr2 : RdI w' (some ⟨w.heap.size + 1, 0, none⟩) [3, 9, 3, 9] := RdI.grown HR.out ht.2.2 (fun b o h => by cases h; simp)
      clear ht
      go_wp2_with fail
      exact ⟨⟨j + 1, by omega, by go_num, by rw [runf, ← HX.out]; exact hm2, hr2, hb2, by omega⟩, by simp [intOf]; omega⟩
    · obtain rfl : j = 4 := by omega
      have HM := hid hm
      have HB := hid hb
      have hrep := run_rep 5 [3, 9, 3, 9] 4
      have HREP := hid hrep
      clear hm hr hb
      go_wp2_with fail
      refine (Range_calls _ _ _ HM.out).mono ?_
      rintro e w' ⟨rfl, hb1⟩
      rw [HREP.out.h68, HREP.out.h69, show mnT (runa [3, 9, 3, 9] 4) (runa [3, 9, 3, 9] 4).length = 3 by decide, show mxT (runa [3, 9, 3, 9] 4) (runa [3, 9, 3, 9] 4).length = 9 by decide]
      have HM1 := hid (HM.out.below hb1)
      have HB1 := hid (HB.out.trans (hb1.mono (Nat.le_of_lt hsz)))
      clear hb1
      have hw4 : win (runf 5 [3, 9, 3, 9] 4) (runf 5 [3, 9, 3, 9] 4 71).toNat = [3, 9, 3, 9] := by rw [HREP.out.hw]; decide
      have HW4 := hid hw4
      have hr4 : Rge [3, 9, 3, 9] := (show runl [3, 9, 3, 9] 4 = [3, 9, 3, 9] by decide) ▸ HREP.out.rlast
      have HR4 := hid hr4
      clear hw4 hr4
      go_wp2_with fail
      refine (Beat_calls _ _ _ _ HM1.out HREP.out.h65 (by rw [HREP.out.h71]; decide) HW4.out HR4.out).mono ?_
      rintro e w'' ⟨rfl, hb1⟩
      rw [beat4]
      have HM2 := hid (HM1.out.below hb1)
      have HB2 := hid (HB1.out.trans (hb1.mono HB1.out.size))
      clear hb1
      go_wp2_with fail
      refine (Mean_calls _ _ _ HM2.out (by rw [HREP.out.h66]; decide) (by rw [HREP.out.h67]; decide) (by rw [HREP.out.h67]; decide)).mono ?_
      rintro e w3 ⟨rfl, hb1⟩
      rw [show (if runf 5 [3, 9, 3, 9] 4 66 = 0 then (0 : Int) else runf 5 [3, 9, 3, 9] 4 67 / runf 5 [3, 9, 3, 9] 4 66) = 6 by rw [HREP.out.h66, HREP.out.h67]; decide]
      have HM3 := hid (HM2.out.below hb1)
      have HB3 := hid (HB2.out.trans (hb1.mono HB2.out.size))
      clear hb1
      go_wp2_with fail
      refine (Late_calls _ _ _ HM3.out).mono ?_
      rintro e w4 ⟨rfl, rfl⟩
      rw [HREP.out.h70, show runz 5 [3, 9, 3, 9] 4 = 2 by decide]
      go_wp2_with fail
      refine (Above_calls _ _ _ _ _ HM3.out HREP.out.h65 (by rw [HREP.out.h71]; decide) HW4.out).mono ?_
      rintro e w5 ⟨rfl, hb1⟩
      rw [abv4]
      have HB4 := hid (HB3.out.trans (hb1.mono HB3.out.size))
      clear hb1
      go_wp2_with fail
      go_ret
      exact ⟨rfl, HB4.out⟩

end Go.Proofs.Ytaombjljahpncaa
