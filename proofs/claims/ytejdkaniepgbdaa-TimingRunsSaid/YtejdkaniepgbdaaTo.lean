/- A slice of instructions as an argument. -/
import Derived.Test.YtejdkaniepgbdaaVi
import Derived.Deep.Slices
import Derived.Deep.Fields
import Derived.ChangeSame
import Derived.OpenShut
namespace Go.Proofs.Ytejdkaniepgbdaa
open Go.ChangeShapes Go.WideShapes Go.Deep Go.RowKit
set_option linter.unusedVariables false
set_option maxRecDepth 100000 in
/-- One instruction's five cells, read as ints. -/
theorem instr_row {H : Type} {enc : TypeId × Value → H} {w : World} {base n : Nat} {spare : Nat → Bool} {held : Bool} {x : Addr} {cs : List Value} {y : DataW H × List MemPlace}
    (hc : w.cells? base x (Try.prog.cellsOf 48) = some cs) (ht : DataW.trod enc Try.prog w base spare held n 48 cs = some y) :
    ∃ i : Ins, w.cell? (x.add 0) = some (.int .i64 i.op) ∧ w.cell? (x.add 1) = some (.int .i64 i.kind) ∧ w.cell? (x.add 2) = some (.int .i64 i.area) ∧ w.cell? (x.add 3) = some (.int .i64 i.at_) ∧ w.cell? (x.add 4) = some (.int .i64 i.n) := by
  rw [show Try.prog.cellsOf 48 = 5 from by kernel_rfl] at hc
  have ki : Try.prog.cellsOf 3 = 1 := by kernel_rfl
  have kl : Try.prog.cellsOf 2 = 1 := by kernel_rfl
  obtain ⟨_, hcl, hat⟩ := World.cells?_some hc
  obtain ⟨ys, m, _, _, _, hyl, hf⟩ := DataW.trod_struct Try.underlying48 ht
  match cs, hcl, ys, hyl with
  | [c0, c1, c2, c3, c4], _, [y0, y1, y2, y3, y4], _ =>
    obtain ⟨n0, e0, _⟩ := DataW.trod_int (x := y0) Try.underlying3 (by simpa using hf 0 _ rfl)
    obtain ⟨n1, e1, _⟩ := DataW.trod_int (x := y1) Try.underlying3 (by simpa using hf 1 _ rfl)
    obtain ⟨n2, e2, _⟩ := DataW.trod_int (x := y2) Try.underlying3 (by simpa using hf 2 _ rfl)
    obtain ⟨n3, e3, _⟩ := DataW.trod_int (x := y3) Try.underlying3 (by simpa using hf 3 _ rfl)
    obtain ⟨n4, e4, _⟩ := DataW.trod_int (x := y4) Try.underlying2 (by simpa using hf 4 _ rfl)
    rw [ki] at e0 e1 e2 e3
    rw [kl] at e4
    obtain rfl : c0 = .int .i64 n0 := by simpa using e0
    obtain rfl : c1 = .int .i64 n1 := by simpa using e1
    obtain rfl : c2 = .int .i64 n2 := by simpa using e2
    obtain rfl : c3 = .int .i64 n3 := by simpa using e3
    obtain rfl : c4 = .int .i64 n4 := by simpa using e4
    exact ⟨⟨n0, n1, n2, n3, n4⟩, hat 0 (by omega), hat 1 (by omega), hat 2 (by omega), hat 3 (by omega), hat 4 (by omega)⟩

theorem insList (n : Nat) (P : Nat → Ins → Prop) (h : ∀ i, i < n → ∃ x, P i x) : ∃ l : List Ins, l.length = n ∧ ∀ j (hj : j < l.length), P j l[j] := by
  induction n with
  | zero => exact ⟨[], rfl, fun j hj => by simp at hj⟩
  | succ n ih =>
    obtain ⟨l, hl, hp⟩ := ih fun i hi => h i (by omega)
    obtain ⟨x, hx⟩ := h n (by omega)
    refine ⟨l ++ [x], by simp [hl], fun j hj => ?_⟩
    by_cases hjn : j < l.length
    · rw [List.getElem_append_left hjn]
      exact hp j hjn
    · obtain rfl : j = n := by simp at hj; omega
      rw [List.getElem_append_right (by omega)]
      simpa [hl] using hx
theorem spot_no (b off : Nat) (sp : Option Nat) (W : World) (v : Value) (h : W.cell? ((⟨b, off, sp⟩ : Addr).add 0) = some v) : sp = none := by
  cases sp with
  | none => rfl
  | some s =>
    exfalso
    unfold World.cell? at h
    split at h <;> simp_all [Addr.add]
theorem addr_at (b off j : Nat) : (⟨b, off, none⟩ : Addr).add j = ⟨b, off + j, none⟩ := by
  unfold Addr.add
  split <;> simp_all

set_option maxRecDepth 100000 in
theorem open_instrs {H : Type} {enc : TypeId × Value → H} {w : World} {base : Nat} {spare : Nat → Bool} {held : Bool} {a : Option Addr} {len cap : Nat} {d : DataW H} {p : List MemPlace}
    (h : DataW.Trod enc Try.prog w base spare held 22 (.slice a len cap) d p) :
    ∃ l : List Ins, l.length = len ∧ len ≤ cap ∧ cap ≤ maxLen ∧ RdIns w a l := by
  obtain ⟨fuel, hf⟩ := h
  rcases open_slice Try.underlying22 hf with ⟨hcs, _⟩ | ⟨x, l, c, m, n, D, Pl, hcs, _, hl, hm, hmm, _, hi⟩
  · simp [Value.cells] at hcs
    obtain ⟨rfl, rfl, rfl⟩ := hcs
    exact ⟨[], rfl, Nat.le_refl _, Nat.zero_le _, .inl rfl⟩
  · simp [Value.cells] at hcs
    obtain ⟨rfl, rfl, rfl⟩ := hcs
    have hlm : len ≤ m := by split at hmm <;> omega
    by_cases h0 : len = 0
    · exact ⟨[], h0.symm, hl, hm, .inl rfl⟩
    · obtain ⟨xb, xo, xs⟩ := x
      have hsp : xs = none := by
        obtain ⟨cs, hc, ht⟩ := hi 0 (by omega)
        obtain ⟨i, hc, _⟩ := instr_row hc ht
        rw [Nat.zero_mul, show (⟨xb, xo, xs⟩ : Addr).add 0 = ⟨xb, xo, xs⟩ from by cases xs <;> simp [Addr.add]] at hc
        exact spot_no xb xo xs w _ hc
      subst hsp
      have hall : ∀ i, i < len → ∃ x : Ins, w.cell? ⟨xb, xo + i * 5, none⟩ = some (.int .i64 x.op) ∧ w.cell? ⟨xb, xo + i * 5 + 1, none⟩ = some (.int .i64 x.kind) ∧
          w.cell? ⟨xb, xo + i * 5 + 2, none⟩ = some (.int .i64 x.area) ∧ w.cell? ⟨xb, xo + i * 5 + 3, none⟩ = some (.int .i64 x.at_) ∧ w.cell? ⟨xb, xo + i * 5 + 4, none⟩ = some (.int .i64 x.n) := by
        intro i hlt
        obtain ⟨cs, hc, ht⟩ := hi i (by omega)
        obtain ⟨y, c0, c1, c2, c3, c4⟩ := instr_row hc ht
        rw [show Try.prog.cellsOf 48 = 5 from by kernel_rfl] at c0 c1 c2 c3 c4
        rw [addr_at, addr_at] at c0 c1 c2 c3 c4
        refine ⟨y, ?_, ?_, ?_, ?_, ?_⟩
        · simpa [Nat.add_assoc] using c0
        · simpa [Nat.add_assoc] using c1
        · simpa [Nat.add_assoc] using c2
        · simpa [Nat.add_assoc] using c3
        · simpa [Nat.add_assoc] using c4
      obtain ⟨l, hln, hp⟩ := insList len _ hall
      exact ⟨l, hln, hl, hm, .inr ⟨xb, xo, rfl, hp⟩⟩
end Go.Proofs.Ytejdkaniepgbdaa
