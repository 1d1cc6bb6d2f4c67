/- Opening arguments: an array of ints by value. -/
import Derived.ProofKit
import Derived.OpenShut
import Derived.KernelRfl
set_option linter.unusedVariables false
set_option linter.unusedSimpArgs false
namespace Go.Proofs.Ytaombjljahpncaa
open Go.ChangeShapes Go.WideShapes Go.ChangeAt Go.RowKit Go.WideMaps Go.WideElems

theorem open_arr_ints {H : Type} {enc : TypeId × Value → H} {P : Program} {w : World} {base : Nat} {spare : Nat → Bool} {held : Bool} {r : Reach} {b0 : Nat} {t e : TypeId} {n : Nat} {k : IntKind} {v : Value} {d : DataW H} {p : List MemPlace}
    (ht : P.underlying t = some (.array n e)) (he : P.underlying e = some (.int k)) (hC : P.cellsOf t = n) (hE : P.cellsOf e = 1)
    (hv : Value.okWide P w r b0 t v) (h : DataW.Trod enc P w base spare held t v d p) :
    ∃ xs : List Int, xs.length = n ∧ v = .agg (xs.map fun x => .int k x).toArray ∧ ∀ x ∈ xs, (Lit.int k x).wf = true := by
  unfold Value.okWide at hv
  rw [ht] at hv
  obtain ⟨cs, rfl, hsz, _⟩ := hv
  rw [hC] at hsz
  obtain ⟨fuel, hf⟩ := h
  obtain ⟨ys, m, rfl, hx, hl, hyl, hall⟩ := DataW.trod_array ht (by simpa [Value.cells] using hf)
  rw [hE] at hall
  have key : ∀ i, i < n → ∃ z, cs[i]? = some (.int k z) ∧ (Lit.int k z).wf = true := by
    intro i hi
    have hi' : i < cs.size := by omega
    have h1 := hall i hi
    rw [Nat.mul_one] at h1
    have h2 : (cs.toList.drop i).take 1 = [cs[i]] := by
      rw [List.drop_eq_getElem_cons (by simpa using hi')]
      simp
    rw [h2] at h1
    have h3 : ∃ y, ys[i]? = some y := ⟨ys[i]'(by omega), by simp [hyl, hi]⟩
    obtain ⟨y, hy⟩ := h3
    rw [hy] at h1
    obtain ⟨z, hz, _, hw⟩ := DataW.trod_int he h1
    simp at hz
    exact ⟨z, by rw [Array.getElem?_eq_getElem hi', hz], hw⟩
  refine ⟨cs.toList.map intOf, by simpa using hsz, ?_, ?_⟩
  · congr 1
    apply Array.ext
    · simp
    · intro i h1 h2
      obtain ⟨z, hz, _⟩ := key i (by omega)
      rw [Array.getElem?_eq_getElem h1] at hz
      simp at hz
      simp [hz, intOf]
  · intro x hx
    obtain ⟨v, hv, rfl⟩ := List.mem_map.1 hx
    obtain ⟨i, hi, rfl⟩ := List.getElem_of_mem hv
    obtain ⟨z, hz, hw⟩ := key i (by simpa [hsz] using hi)
    rw [Array.getElem?_eq_getElem (by simpa using hi)] at hz
    simp at hz
    simp [hz, intOf, hw]

section
variable {H : Type} {enc : TypeId × Value → H} {P : Program} {w : World} {base : Nat} {spare : Nat → Bool} {held : Bool} {r : Reach} {b0 : Nat} {t e : TypeId} {k : IntKind} {v : Value} {d : DataW H} {p : List MemPlace}
theorem open_arr2 (ht : P.underlying t = some (.array 2 e)) (he : P.underlying e = some (.int k)) (hC : P.cellsOf t = 2) (hE : P.cellsOf e = 1)
    (hv : Value.okWide P w r b0 t v) (h : DataW.Trod enc P w base spare held t v d p) : ∃ x y : Int, v = .agg #[.int k x, .int k y] ∧ (Lit.int k x).wf = true ∧ (Lit.int k y).wf = true := by
  obtain ⟨xs, hl, rfl, hw⟩ := open_arr_ints ht he hC hE hv h
  match xs, hl with
  | [x, y], _ => exact ⟨x, y, rfl, hw _ (by simp), hw _ (by simp)⟩
theorem open_arr4 (ht : P.underlying t = some (.array 4 e)) (he : P.underlying e = some (.int k)) (hC : P.cellsOf t = 4) (hE : P.cellsOf e = 1)
    (hv : Value.okWide P w r b0 t v) (h : DataW.Trod enc P w base spare held t v d p) : ∃ x y z u : Int, v = .agg #[.int k x, .int k y, .int k z, .int k u] := by
  obtain ⟨xs, hl, rfl, hw⟩ := open_arr_ints ht he hC hE hv h
  match xs, hl with
  | [x, y, z, u], _ => exact ⟨x, y, z, u, rfl⟩
end

end Go.Proofs.Ytaombjljahpncaa
