/- A slice of instructions as an argument. -/
import Derived.Test.YtejdkaniepgbdaaVi
import Derived.Deep.Slices
import Derived.Deep.Fields
import Derived.ChangeSame
import Derived.OpenShut
namespace Go.Proofs.Ytejdkaniepgbdaa
open Go.ChangeShapes Go.WideShapes Go.Deep Go.RowKit
set_option linter.unusedVariables false
section
variable {H : Type} {enc : TypeId × Value → H} {P : Program} {w : World} {base : Nat} {spare : Nat → Bool} {held : Bool}
theorem open_slice_fields {t e : TypeId} {fs : Array Field} {fuel : Nat} {cs : List Value} {x : DataW H × List MemPlace} (ht : P.underlying t = some (.slice e)) (he : P.underlying e = some (.struct fs))
    (hone : oneCellFields P fs = true) (hC : P.cellsOf e = fs.size) (h : DataW.trod enc P w base spare held fuel t cs = some x) :
    (cs = [.slice none 0 0] ∧ x = (.nil, [])) ∨
    ∃ (a : Addr) (len cap m : Nat) (D : Nat → DataW H) (Pl : Nat → List MemPlace), cs = [.slice (some a) len cap] ∧ base ≤ a.block ∧ len ≤ cap ∧ cap ≤ maxLen ∧ m = (if spare a.block then cap else len) ∧
      x = (.slice ((List.range len).map D) ((List.range (m - len)).map fun j => D (len + j)), MemPlace.row a (m * fs.size) ++ (List.range m).flatMap Pl) ∧
      ∀ i, i < m → ∃ (ys : List (DataW H × List MemPlace)) (n : Nat), D i = .agg (ys.map (·.1)) ∧ Pl i = ys.flatMap (·.2) ∧ ys.length = fs.size ∧
        ∀ (j : Nat) (f : Field), fs[j]? = some f → ∃ (v : Value) (y : DataW H × List MemPlace), w.cell? (a.add (i * fs.size + j)) = some v ∧ ys[j]? = some y ∧ DataW.trod enc P w base spare held n f.type [v] = some y := by
  rcases open_slice ht h with h0 | ⟨a, len, cap, m, n, D, Pl, hcs, hb, hl, hm, hmm, hx, hi⟩
  · exact .inl h0
  · refine .inr ⟨a, len, cap, m, D, Pl, hcs, hb, hl, hm, hmm, by rw [hC] at hx; exact hx, fun i him => ?_⟩
    obtain ⟨cs', hc, ht'⟩ := hi i him
    rw [hC] at hc
    obtain ⟨ys, n', hn', hy, hlen, hyl, hf⟩ := DataW.trod_struct he ht'
    obtain ⟨_, hcl, hat⟩ := World.cells?_some hc
    simp only [Prod.mk.injEq] at hy
    refine ⟨ys, n', hy.1, hy.2, hyl, fun j f hj => ?_⟩
    obtain ⟨ho, hk⟩ := hone_of hone j f hj
    have hjl : j < fs.size := (Array.getElem?_eq_some_iff.1 hj).1
    have hcell := hat j hjl
    have hv : cs'[j]? = some (cs'[j]'(by omega)) := List.getElem?_eq_getElem (by omega)
    have h1 := hf j f hj
    rw [ho, hk] at h1
    have hone' : (cs'.drop j).take 1 = [cs'[j]'(by omega)] := by
      rw [List.drop_eq_getElem_cons (by omega)]
      rfl
    rw [hone'] at h1
    have hys : ys[j]? = some (ys[j]'(by omega)) := List.getElem?_eq_getElem (by omega)
    refine ⟨_, _, ?_, hys, h1.trans hys⟩
    rw [← Go.Deep.add_add, hcell, hv]
end

theorem insList (n : Nat) (P : Nat → Ins → Prop) (h : ∀ i, i < n → ∃ x, P i x) : ∃ l : List Ins, l.length = n ∧ ∀ j (hj : j < l.length), P j l[j] := by
  induction n with
  | zero => exact ⟨[], rfl, fun j hj => by simp at hj⟩
  | succ n ih =>
    obtain ⟨l, hl, hp⟩ := ih fun i hi => h i (by omega)
    obtain ⟨x, hx⟩ := h n (by omega)
    refine ⟨l ++ [x], by simp [hl], fun j hj => ?_⟩
    by_cases hjn : j < l.length
    · rw [List.getElem_append_left hjn]
      exact hp j hjn
    · obtain rfl : j = n := by simp at hj; omega
      rw [List.getElem_append_right (by omega)]
      simpa [hl] using hx
theorem spot_no (b off : Nat) (sp : Option Nat) (W : World) (v : Value) (h : W.cell? ((⟨b, off, sp⟩ : Addr).add 0) = some v) : sp = none := by
  cases sp with
  | none => rfl
  | some s =>
    exfalso
    unfold World.cell? at h
    split at h <;> simp_all [Addr.add]
theorem addr_at (b off j : Nat) : (⟨b, off, none⟩ : Addr).add j = ⟨b, off + j, none⟩ := by
  unfold Addr.add
  split <;> simp_all

theorem open_instrs {H : Type} {enc : TypeId × Value → H} {w : World} {base : Nat} {spare : Nat → Bool} {held : Bool} {a : Option Addr} {len cap : Nat} {d : DataW H} {p : List MemPlace}
    (h : DataW.Trod enc Try.prog w base spare held 22 (.slice a len cap) d p) :
    ∃ l : List Ins, l.length = len ∧ len ≤ cap ∧ cap ≤ maxLen ∧ RdIns w a l := by
  obtain ⟨fuel, hf⟩ := h
  rcases open_slice_fields Try.underlying22 Try.underlying48 (by kernel_rfl) (by kernel_rfl) hf with ⟨hcs, _⟩ | ⟨x, l, c, m, D, Pl, hcs, _, hl, hm, hmm, _, hi⟩
  · simp [Value.cells] at hcs
    obtain ⟨rfl, rfl, rfl⟩ := hcs
    exact ⟨[], rfl, Nat.le_refl _, Nat.zero_le _, .inl rfl⟩
  · simp [Value.cells] at hcs
    obtain ⟨rfl, rfl, rfl⟩ := hcs
    have hlm : len ≤ m := by split at hmm <;> omega
    by_cases h0 : len = 0
    · exact ⟨[], h0.symm, hl, hm, .inl rfl⟩
    · obtain ⟨xb, xo, xs⟩ := x
      have hsp : xs = none := by
        obtain ⟨ys, n, _, _, _, hfd⟩ := hi 0 (by omega)
        obtain ⟨v, y, hc, _, _⟩ := hfd 0 _ rfl
        exact spot_no xb xo xs w v (by simpa using hc)
      subst hsp
      have hall : ∀ i, i < len → ∃ x : Ins, w.cell? ⟨xb, xo + i * 5, none⟩ = some (.int .i64 x.op) ∧ w.cell? ⟨xb, xo + i * 5 + 1, none⟩ = some (.int .i64 x.kind) ∧
          w.cell? ⟨xb, xo + i * 5 + 2, none⟩ = some (.int .i64 x.area) ∧ w.cell? ⟨xb, xo + i * 5 + 3, none⟩ = some (.int .i64 x.at_) ∧ w.cell? ⟨xb, xo + i * 5 + 4, none⟩ = some (.int .i64 x.n) := by
        intro i hlt
        obtain ⟨ys, n, _, _, _, hfd⟩ := hi i (by omega)
        obtain ⟨v0, y0, c0, _, t0⟩ := hfd 0 _ rfl
        obtain ⟨v1, y1, c1, _, t1⟩ := hfd 1 _ rfl
        obtain ⟨v2, y2, c2, _, t2⟩ := hfd 2 _ rfl
        obtain ⟨v3, y3, c3, _, t3⟩ := hfd 3 _ rfl
        obtain ⟨v4, y4, c4, _, t4⟩ := hfd 4 _ rfl
        obtain ⟨n0, e0, _, _⟩ := DataW.trod_int Try.underlying3 t0
        obtain ⟨n1, e1, _, _⟩ := DataW.trod_int Try.underlying3 t1
        obtain ⟨n2, e2, _, _⟩ := DataW.trod_int Try.underlying3 t2
        obtain ⟨n3, e3, _, _⟩ := DataW.trod_int Try.underlying3 t3
        obtain ⟨n4, e4, _, _⟩ := DataW.trod_int Try.underlying2 t4
        injection e0 with e0 _; injection e1 with e1 _; injection e2 with e2 _; injection e3 with e3 _; injection e4 with e4 _
        subst e0 e1 e2 e3 e4
        rw [addr_at] at c0 c1 c2 c3 c4
        refine ⟨⟨n0, n1, n2, n3, n4⟩, ?_, ?_, ?_, ?_, ?_⟩
        · simpa [Nat.add_assoc] using c0
        · simpa [Nat.add_assoc] using c1
        · simpa [Nat.add_assoc] using c2
        · simpa [Nat.add_assoc] using c3
        · simpa [Nat.add_assoc] using c4
      obtain ⟨l, hln, hp⟩ := insList len _ hall
      exact ⟨l, hln, hl, hm, .inr ⟨xb, xo, rfl, hp⟩⟩
end Go.Proofs.Ytejdkaniepgbdaa
