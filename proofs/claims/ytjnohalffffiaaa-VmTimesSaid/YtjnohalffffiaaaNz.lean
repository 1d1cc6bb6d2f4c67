/- vm: Blank, Code. -/
import Derived.Test.YtjnohalffffiaaaNw
set_option linter.unusedVariables false
set_option linter.unusedSimpArgs false
namespace Go.Proofs.Ytjnohalffffiaaa
open Go.RowKit

theorem Blank_calls (w : World) :
    Calls Try.prog 17 #[] w fun e w' => e = .returned (.agg #[.string (fit ⟨#[]⟩), .string (fit ⟨#[]⟩), .string (fit ⟨#[]⟩), .string (fit ⟨#[]⟩)]) ∧ Below w.heap.size w w' := by
  generalize hz : fit ⟨#[]⟩ = z
  have HZ := hid hz
  clear hz
  go_enter Try.func17, Try.ntmps17
  go_wp2_with fail
  refine (Fit_calls _ _ _ _ _).mono ?_
  rintro e w1 ⟨rfl, hb⟩
  rw [HZ.out]
  have q := (Blk.new w #[.string ⟨#[]⟩, .string ⟨#[]⟩, .string ⟨#[]⟩, .string ⟨#[]⟩] 24).below hb
  have HB := hid (below_trans (bel_a1 w _) hb)
  have r0 := q.cell 0 _ rfl
  have r1 := q.cell 1 _ rfl
  have r2 := q.cell 2 _ rfl
  have r3 := q.cell 3 _ rfl
  have f0 := q.free 0
  have f1 := q.free 1
  have f2 := q.free 2
  have f3 := q.free 3
  clear hb q
  go_wp2_with fail
  refine bodyPost_ret (v := .agg #[.string z, .string z, .string z, .string z]) (by simp [results, Try.results17, go_sem, r0, r1, r2, r3, f0, f1, f2, f3]) rfl ⟨rfl, ?_⟩
  exact bel_set (bel_set (bel_set (bel_set HB.out (by omega) _ _) (by omega) _ _) (by omega) _ _) (by omega) _ _

theorem Code_nil (w : World) : Calls Try.prog 19 #[.pointer none] w fun e w' => e = .returned (.slice none 0 0) ∧ w' = w := by
  go_enter Try.func19, Try.ntmps19
  go_wp2_with fail
  go_ret
  exact ⟨rfl, rfl⟩
theorem Code_calls (pb : Nat) (a : Option Addr) (l : List Ins) (cap : Nat) (w : World) (hp : w.cell? ⟨pb, 0, none⟩ = some (.slice a l.length cap)) (hr : RdIns w a l) (h0 : a = none → l = [] ∧ cap = 0) (hn : l.length ≤ 100000) :
    Calls Try.prog 19 #[.pointer (some ⟨pb, 0, none⟩)] w (RetIns l w) := by
  have PC := hid (Clone_calls a l cap w hr hn h0)
  clear hr h0
  go_enter Try.func19, Try.ntmps19
  go_wp2_with fail
  refine PC.out.mono ?_
  rintro e w1 ⟨a2, cap2, rfl, h⟩
  have H := hid h
  clear h
  go_wp2_with fail
  go_ret
  exact ⟨a2, cap2, rfl, H.out⟩
end Go.Proofs.Ytjnohalffffiaaa
