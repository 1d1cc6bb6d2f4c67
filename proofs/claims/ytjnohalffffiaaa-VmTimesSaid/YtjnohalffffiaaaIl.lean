/- il: the operations' classes, and which instructions may be. -/
import Derived.Test.YtjnohalffffiaaaIe
set_option linter.unusedVariables false
set_option linter.unusedSimpArgs false
namespace Go.Proofs.Ytjnohalffffiaaa
open Go.RowKit

def oclasses : List Int := [0, 1, 1, 2, 2, 2, 2, 1, 1, 1, 1, 1, 1, 4, 1, 1, 1, 1, 1, 1, 1, 1, 1, 1, 1, 3, 3, 3, 4, 4, 4, 5, 6, 4, 7, 7, 8]
def onames : List ByteArray := [⟨#[]⟩, ⟨#[76, 68]⟩, ⟨#[76, 68, 78]⟩, ⟨#[83, 84]⟩, ⟨#[83, 84, 78]⟩, ⟨#[83]⟩, ⟨#[82]⟩, ⟨#[65, 78, 68]⟩, ⟨#[79, 82]⟩, ⟨#[88, 79, 82]⟩, ⟨#[65, 78, 68, 78]⟩, ⟨#[79, 82, 78]⟩, ⟨#[88, 79, 82, 78]⟩, ⟨#[78, 79, 84]⟩, ⟨#[65, 68, 68]⟩, ⟨#[83, 85, 66]⟩, ⟨#[77, 85, 76]⟩, ⟨#[68, 73, 86]⟩, ⟨#[77, 79, 68]⟩, ⟨#[71, 84]⟩, ⟨#[71, 69]⟩, ⟨#[69, 81]⟩, ⟨#[78, 69]⟩, ⟨#[76, 69]⟩, ⟨#[76, 84]⟩, ⟨#[74, 77, 80]⟩, ⟨#[74, 77, 80, 67]⟩, ⟨#[74, 77, 80, 67, 78]⟩, ⟨#[82, 69, 84]⟩, ⟨#[82, 69, 84, 67]⟩, ⟨#[82, 69, 84, 67, 78]⟩, ⟨#[67, 79, 78, 86]⟩, ⟨#[]⟩, ⟨#[]⟩, ⟨#[84, 79, 78]⟩, ⟨#[67, 84, 85]⟩, ⟨#[84, 82, 73, 71]⟩]
def OPS : Array Value := #[.string ⟨#[]⟩, .int .i64 0, .string ⟨#[76, 68]⟩, .int .i64 1, .string ⟨#[76, 68, 78]⟩, .int .i64 1, .string ⟨#[83, 84]⟩, .int .i64 2, .string ⟨#[83, 84, 78]⟩, .int .i64 2, .string ⟨#[83]⟩, .int .i64 2, .string ⟨#[82]⟩, .int .i64 2, .string ⟨#[65, 78, 68]⟩, .int .i64 1, .string ⟨#[79, 82]⟩, .int .i64 1, .string ⟨#[88, 79, 82]⟩, .int .i64 1, .string ⟨#[65, 78, 68, 78]⟩, .int .i64 1, .string ⟨#[79, 82, 78]⟩, .int .i64 1, .string ⟨#[88, 79, 82, 78]⟩, .int .i64 1, .string ⟨#[78, 79, 84]⟩, .int .i64 4, .string ⟨#[65, 68, 68]⟩, .int .i64 1, .string ⟨#[83, 85, 66]⟩, .int .i64 1, .string ⟨#[77, 85, 76]⟩, .int .i64 1, .string ⟨#[68, 73, 86]⟩, .int .i64 1, .string ⟨#[77, 79, 68]⟩, .int .i64 1, .string ⟨#[71, 84]⟩, .int .i64 1, .string ⟨#[71, 69]⟩, .int .i64 1, .string ⟨#[69, 81]⟩, .int .i64 1, .string ⟨#[78, 69]⟩, .int .i64 1, .string ⟨#[76, 69]⟩, .int .i64 1, .string ⟨#[76, 84]⟩, .int .i64 1, .string ⟨#[74, 77, 80]⟩, .int .i64 3, .string ⟨#[74, 77, 80, 67]⟩, .int .i64 3, .string ⟨#[74, 77, 80, 67, 78]⟩, .int .i64 3, .string ⟨#[82, 69, 84]⟩, .int .i64 4, .string ⟨#[82, 69, 84, 67]⟩, .int .i64 4, .string ⟨#[82, 69, 84, 67, 78]⟩, .int .i64 4, .string ⟨#[67, 79, 78, 86]⟩, .int .i64 5, .string ⟨#[]⟩, .int .i64 6, .string ⟨#[]⟩, .int .i64 4, .string ⟨#[84, 79, 78]⟩, .int .i64 7, .string ⟨#[67, 84, 85]⟩, .int .i64 7, .string ⟨#[84, 82, 73, 71]⟩, .int .i64 8]

theorem OPS_at (n : Nat) (h : n < 37) : OPS[n * 2]? = some (.string (onames.getD n ⟨#[]⟩)) ∧ OPS[n * 2 + 1]? = some (.int .i64 (oclasses.getD n 0)) := by
  obtain rfl | rfl | rfl | rfl | rfl | rfl | rfl | rfl | rfl | rfl | rfl | rfl | rfl | rfl | rfl | rfl | rfl | rfl | rfl | rfl | rfl | rfl | rfl | rfl | rfl | rfl | rfl | rfl | rfl | rfl | rfl | rfl | rfl | rfl | rfl | rfl | rfl : n = 0 ∨ n = 1 ∨ n = 2 ∨ n = 3 ∨ n = 4 ∨ n = 5 ∨ n = 6 ∨ n = 7 ∨ n = 8 ∨ n = 9 ∨ n = 10 ∨ n = 11 ∨ n = 12 ∨ n = 13 ∨ n = 14 ∨ n = 15 ∨ n = 16 ∨ n = 17 ∨ n = 18 ∨ n = 19 ∨ n = 20 ∨ n = 21 ∨ n = 22 ∨ n = 23 ∨ n = 24 ∨ n = 25 ∨ n = 26 ∨ n = 27 ∨ n = 28 ∨ n = 29 ∨ n = 30 ∨ n = 31 ∨ n = 32 ∨ n = 33 ∨ n = 34 ∨ n = 35 ∨ n = 36 := by omega
  all_goals exact ⟨rfl, rfl⟩

set_option maxRecDepth 10000 in
set_option maxHeartbeats 1000000 in
theorem ops_calls (w : World) :
    Calls Try.prog 99 #[] w fun e w' => e = .returned (.slice (some ⟨w.heap.size, 0, none⟩) 37 37) ∧ w' = w.alloc (.cells OPS 134) := by
  go_enter Try.func99, Try.ntmps99
  go_wp2
  go_ret
  exact ⟨rfl, rfl⟩

/-- The class of an operation. -/
def cls (op : Int) : Int := if 0 ≤ op ∧ op < 37 then oclasses.getD op.toNat 0 else 0
def onm (op : Int) : ByteArray := if 0 ≤ op ∧ op < 37 then onames.getD op.toNat ⟨#[]⟩ else ⟨#[]⟩

def RetOp (op : Int) (w : World) (e : Ending) (w' : World) : Prop := e = .returned (.agg #[.string (onm op), .int .i64 (cls op)]) ∧ Below w.heap.size w w'

set_option maxHeartbeats 1000000 in
theorem opof_calls (op : Int) (w : World) : Calls Try.prog 73 #[.int .i64 op] w (RetOp op w) := by
  by_cases h : 0 ≤ op ∧ op < 37
  · obtain ⟨n, rfl⟩ : ∃ n : Nat, op = n := ⟨op.toNat, by omega⟩
    have hn : n < 37 := by omega
    obtain ⟨q0, q1⟩ := OPS_at n hn
    have hv : cls n = oclasses.getD n 0 ∧ onm n = onames.getD n ⟨#[]⟩ := by unfold cls onm; rw [if_pos h, if_pos h]; exact ⟨rfl, rfl⟩
    rw [← hv.1] at q1
    rw [← hv.2] at q0
    have hlt : ¬ ((n : Int) < 0) := by omega
    have hlt2 : (n : Int) < 37 := by omega
    clear h hv
    go_enter Try.func73, Try.ntmps73
    go_wp2_with fail
    refine (ops_calls _).mono ?_
    rintro e w' ⟨rfl, rfl⟩
    go_wp2_with fail
    refine bodyPost_ret (v := .agg #[.string (onm n), .int .i64 (cls n)]) (by simp [results, Try.results73, go_sem]) rfl ⟨rfl, ?_⟩
    exact bel_a2 _ _ _
  · have hz : cls op = 0 ∧ onm op = ⟨#[]⟩ := by unfold cls onm; rw [if_neg h, if_neg h]; exact ⟨rfl, rfl⟩
    unfold RetOp
    rw [hz.1, hz.2]
    clear hz
    by_cases h1 : op < 0
    · clear h
      go_enter Try.func73, Try.ntmps73
      go_wp2_with fail
      refine (ops_calls _).mono ?_
      rintro e w' ⟨rfl, rfl⟩
      go_wp2_with fail
      refine bodyPost_ret (v := .agg #[.string ⟨#[]⟩, .int .i64 0]) (by simp [results, Try.results73, go_sem]) rfl ⟨rfl, ?_⟩
      exact bel_a2 _ _ _
    · have h2 : 37 ≤ op := by omega
      clear h
      go_enter Try.func73, Try.ntmps73
      go_wp2_with fail
      refine (ops_calls _).mono ?_
      rintro e w' ⟨rfl, rfl⟩
      go_wp2_with fail
      refine bodyPost_ret (v := .agg #[.string ⟨#[]⟩, .int .i64 0]) (by simp [results, Try.results73, go_sem]) rfl ⟨rfl, ?_⟩
      exact bel_a2 _ _ _
end Go.Proofs.Ytjnohalffffiaaa
