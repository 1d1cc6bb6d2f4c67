/- Arguments: an image, instructions. -/
import Derived.Test.YtejdkaniepgbdaaTo
import Derived.ChangeMaps5
import Derived.WideShapes
namespace Go.Proofs.Ytejdkaniepgbdaa
open Go.ChangeShapes Go.WideShapes Go.Deep Go.RowKit
set_option linter.unusedVariables false
set_option maxRecDepth 100000 in
theorem open_img {H : Type} {enc : TypeId × Value → H} {w : World} {base : Nat} {spare : Nat → Bool} {held : Bool} {r : Reach} {b0 : Nat} {v : Value} {d : DataW H} {p : List MemPlace}
    (hv : Value.okWide Try.prog w r b0 36 v) (h : DataW.Trod enc Try.prog w base spare held 36 v d p) :
    ∃ I Q M R : ByteArray, v = .agg #[.string I, .string Q, .string M, .string R] := by
  obtain ⟨cs, rfl, hsz⟩ := okWide_struct Try.underlying36 hv
  rw [show Try.prog.cellsOf 36 = 4 from by kernel_rfl] at hsz
  have ks : Try.prog.cellsOf 9 = 1 := by kernel_rfl
  obtain ⟨fuel, hf⟩ := h
  obtain ⟨ys, m, _, _, _, hyl, hg⟩ := DataW.trod_struct Try.underlying36 (by simpa [Value.cells] using hf)
  obtain ⟨cs⟩ := cs
  match cs, hsz, ys, hyl with
  | [c0, c1, c2, c3], _, [y0, y1, y2, y3], _ =>
    obtain ⟨s0, e0, _⟩ := DataW.trod_string (x := y0) Try.underlying9 (by simpa using hg 0 _ rfl)
    obtain ⟨s1, e1, _⟩ := DataW.trod_string (x := y1) Try.underlying9 (by simpa using hg 1 _ rfl)
    obtain ⟨s2, e2, _⟩ := DataW.trod_string (x := y2) Try.underlying9 (by simpa using hg 2 _ rfl)
    obtain ⟨s3, e3, _⟩ := DataW.trod_string (x := y3) Try.underlying9 (by simpa using hg 3 _ rfl)
    rw [ks] at e0 e1 e2 e3
    obtain rfl : c0 = .string s0 := by simpa using e0
    obtain rfl : c1 = .string s1 := by simpa using e1
    obtain rfl : c2 = .string s2 := by simpa using e2
    obtain rfl : c3 = .string s3 := by simpa using e3
    exact ⟨s0, s1, s2, s3, rfl⟩

set_option maxRecDepth 100000 in
theorem open_instrs0 {H : Type} {enc : TypeId × Value → H} {w : World} {base : Nat} {spare : Nat → Bool} {held : Bool} {a : Option Addr} {len cap : Nat} {d : DataW H} {p : List MemPlace}
    (h : DataW.Trod enc Try.prog w base spare held 22 (.slice a len cap) d p) :
    ∃ l : List Ins, l.length = len ∧ len ≤ cap ∧ cap ≤ maxLen ∧ RdIns w a l ∧ (a = none → l = [] ∧ cap = 0) := by
  obtain ⟨l, h1, h2, h3, h4⟩ := open_instrs h
  refine ⟨l, h1, h2, h3, h4, fun ha => ?_⟩
  subst ha
  obtain ⟨fuel, hf⟩ := h
  rcases open_slice Try.underlying22 hf with ⟨hcs, _⟩ | ⟨x, l', c, m, n, D, Pl, hcs, _⟩
  · simp [Value.cells] at hcs
    obtain ⟨rfl, rfl⟩ := hcs
    exact ⟨List.eq_nil_of_length_eq_zero (by omega), rfl⟩
  · simp [Value.cells] at hcs
end Go.Proofs.Ytejdkaniepgbdaa
