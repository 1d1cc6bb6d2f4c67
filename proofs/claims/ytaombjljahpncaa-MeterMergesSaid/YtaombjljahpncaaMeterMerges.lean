/- MeterMerges holds: the law returns true for every input, and nothing that was in memory is changed. No condition. -/
import Derived.Test.YtaombjljahpncaaRows
import Derived.Test.YtaombjljahpncaaOp
import Derived.Test.YtaombjljahpncaaMv
import Derived.ProofKit
import Derived.OpenShut
import Derived.ShutString
namespace Go.Proofs.Ytaombjljahpncaa.meterMerges
open Go.ChangeShapes Go.WideShapes Go.ChangeAt Go.RowKit Go.WideMaps Go.WideElems
open Go.ChangeMaps (open_string shut_string)
set_option linter.unusedVariables false

theorem own : ownKnob Try.prog.godebug = none := by kernel_rfl
theorem laidOut : laidOutB Try.prog = true := by kernel_rfl

theorem spot_none (b off : Nat) (sp : Option Nat) (W : World) (v : Value) (h : W.cell? ((⟨b, off, sp⟩ : Addr).add 0) = some v) : sp = none := by
  cases sp with
  | none => rfl
  | some s =>
    exfalso
    unfold World.cell? at h
    split at h <;> simp_all [Addr.add]
theorem add_at (b off j : Nat) : (⟨b, off, none⟩ : Addr).add j = ⟨b, off + j, none⟩ := by
  unfold Addr.add
  split <;> simp_all

set_option maxRecDepth 100000 in
theorem lifted (os : Os) (started : os.Started) (H : Type) (enc : TypeId × Value → H) :
    ReturnsInHanded {} Try.checked os 5 .any (Rows.meterMergesSpec.pre6 enc Try.prog Try.f5 Rows.meterMergesRow.domain false) (Rows.meterMergesSpec.post enc Try.prog Try.f5 false true false false) := by
  refine returnsInHanded_of_change (C := Try.checked) own started (by kernel_rfl) Try.func5
    (ChangeSpec.witness6 (enc := enc) (C := Try.checked) false ⟨#[], #[.agg #[.int .i64 0, .int .i64 0], .slice none 0 0, .slice none 0 0], []⟩ 8 (by kernel_rfl) (by kernel_rfl) (by kernel_rfl) (by kernel_rfl)) ?_
  intro W base args ds gs before hval0 hW hcnd _
  have hval : ∀ (j : Nat) t v, Try.f5.params[j]? = some t → args[j]? = some v → Value.okWide Try.prog W .any base t v := hval0
  have hW' := hW
  obtain ⟨p, q, hA0, hV, rfl, hfz, hnd⟩ := hW
  have hA : DataW.TrodAll enc Try.prog W 0 (fun _ => true) true Try.f5.params.toList args.toList ds p := hA0
  rw [Try.params5] at hA hval
  obtain ⟨v0, vs0, d0, ds0, p0, q0, hargs, rfl, rfl, h0, r0⟩ := trodAll_cons hA
  obtain ⟨v1, vs1, d1, ds1, p1, q1, rfl, rfl, rfl, h1, r1⟩ := trodAll_cons r0
  obtain ⟨v2, vs2, d2, ds2, p2, q2, rfl, rfl, rfl, h2, r2⟩ := trodAll_cons r1
  obtain ⟨rfl, rfl, rfl⟩ := trodAll_nil r2
  obtain rfl : args = #[v0, v1, v2] := by cases args; simp_all
  obtain ⟨rfl, rfl⟩ := trodVars_none hV
  have k0 := h0
  have lt0 : ∀ x ∈ p0, x.block < W.heap.size := by obtain ⟨m, hm⟩ := k0; exact DataW.trod_lt m _ _ _ hm
  obtain ⟨a0a, a0b, rfl, _, _⟩ := open_arr2 Try.underlying33 Try.underlying3 (by kernel_rfl) (by kernel_rfl) (hval 0 33 v0 rfl rfl) h0
  obtain ⟨a1, len1, cap1, rfl⟩ := okWide_slice Try.underlying22 (hval 1 22 v1 rfl rfl)
  have k1 := h1
  have lt1 : ∀ x ∈ p1, x.block < W.heap.size := by obtain ⟨m, hm⟩ := k1; exact DataW.trod_lt m _ _ _ hm
  obtain ⟨z1, hl1, hc1, hm1, n1, w1, f1⟩ : ∃ zs : List Int, zs.length = len1 ∧ len1 ≤ cap1 ∧ cap1 ≤ maxLen ∧ (a1 = Option.none → cap1 = 0) ∧ RdI W a1 zs ∧ ∀ n ∈ zs, (Lit.int .i64 n).wf = true := by
    obtain ⟨fuel, hf⟩ := h1
    rcases open_ints Try.underlying22 Try.underlying3 (by kernel_rfl) hf with ⟨hcs, _⟩ | ⟨x, l, c, zs, hcs, _, hl, hm, hz, _, hcell, hwz⟩
    · simp [Value.cells] at hcs
      obtain ⟨rfl, rfl, rfl⟩ := hcs
      exact ⟨[], rfl, Nat.le_refl _, Nat.zero_le _, fun _ => rfl, .inl rfl, by simp⟩
    · simp [Value.cells] at hcs
      obtain ⟨rfl, rfl, rfl⟩ := hcs
      have hzl : zs.length = cap1 := by simpa using hz
      refine ⟨zs.take len1, by simp; omega, hl, hm, (fun h => by cases h), ?_, fun n hn => hwz n (List.mem_of_mem_take hn)⟩
      by_cases h0 : len1 = 0
      · exact .inl (by simp [h0])
      · obtain ⟨xb, xo, xs⟩ := x
        obtain rfl := spot_none xb xo xs W _ (hcell 0 (by omega))
        refine .inr ⟨xb, xo, rfl, fun i hi => ?_⟩
        have hi2 : i < len1 := by simp at hi; omega
        rw [show (zs.take len1).getD i 0 = zs.getD i 0 from by simp [List.getD, hi2], ← add_at]
        exact hcell i (by omega)
  unfold maxLen at hm1
  subst hl1
  obtain ⟨a2, len2, cap2, rfl⟩ := okWide_slice Try.underlying22 (hval 2 22 v2 rfl rfl)
  have k2 := h2
  have lt2 : ∀ x ∈ p2, x.block < W.heap.size := by obtain ⟨m, hm⟩ := k2; exact DataW.trod_lt m _ _ _ hm
  obtain ⟨z2, hl2, hc2, hm2, n2, w2, f2⟩ : ∃ zs : List Int, zs.length = len2 ∧ len2 ≤ cap2 ∧ cap2 ≤ maxLen ∧ (a2 = Option.none → cap2 = 0) ∧ RdI W a2 zs ∧ ∀ n ∈ zs, (Lit.int .i64 n).wf = true := by
    obtain ⟨fuel, hf⟩ := h2
    rcases open_ints Try.underlying22 Try.underlying3 (by kernel_rfl) hf with ⟨hcs, _⟩ | ⟨x, l, c, zs, hcs, _, hl, hm, hz, _, hcell, hwz⟩
    · simp [Value.cells] at hcs
      obtain ⟨rfl, rfl, rfl⟩ := hcs
      exact ⟨[], rfl, Nat.le_refl _, Nat.zero_le _, fun _ => rfl, .inl rfl, by simp⟩
    · simp [Value.cells] at hcs
      obtain ⟨rfl, rfl, rfl⟩ := hcs
      have hzl : zs.length = cap2 := by simpa using hz
      refine ⟨zs.take len2, by simp; omega, hl, hm, (fun h => by cases h), ?_, fun n hn => hwz n (List.mem_of_mem_take hn)⟩
      by_cases h0 : len2 = 0
      · exact .inl (by simp [h0])
      · obtain ⟨xb, xo, xs⟩ := x
        obtain rfl := spot_none xb xo xs W _ (hcell 0 (by omega))
        refine .inr ⟨xb, xo, rfl, fun i hi => ?_⟩
        have hi2 : i < len2 := by simp at hi; omega
        rw [show (zs.take len2).getD i 0 = zs.getD i 0 from by simp [List.getD, hi2], ← add_at]
        exact hcell i (by omega)
  unfold maxLen at hm2
  subst hl2
  clear hA0 hval0
  refine (MeterMerges_calls a0a a0b a1 z1 cap1 a2 z2 cap2 W w1 hc1 (by omega) w2 hc2 (by omega)).mono fun e W' ⟨he, bel⟩ => ?_
  subst he
  exact ⟨_, rfl, _, _, _, [], _, [], hW', trodAll_mk1 (shut_bool Try.underlying4 _), (trodAll_cons_mk (Below.trod laidOut (by kernel_rfl) (of_decide_eq_true (by kernel_rfl)) k0 bel lt0) (trodAll_cons_mk (Below.trod laidOut (by kernel_rfl) (of_decide_eq_true (by kernel_rfl)) k1 bel lt1) (trodAll_cons_mk (Below.trod laidOut (by kernel_rfl) (of_decide_eq_true (by kernel_rfl)) k2 bel lt2) trodAll_mk0))), rfl, bel.frame _, fun h => by cases h⟩

theorem over : Rows.meterMergesRow.holds Try.pinned (OpenSpec.ofChange Rows.meterMergesSpec) :=
  OpenClaim.holds_of_wide 5 Try.f5 rfl rfl rfl rfl rfl rfl rfl ⟨rfl, rfl, rfl, rfl, rfl⟩ rfl rfl rfl rfl rfl (by kernel_rfl) Try.func5 (by kernel_rfl)
    (of_decide_eq_true (by kernel_rfl)) (by unfold Func.isWrapper; first | (rw [if_pos (by decide +kernel)]; kernel_rfl) | (rw [if_neg (by decide +kernel)]; exact ⟨rfl, rfl⟩))
    (fun os started H enc _ => lifted os started H enc)
end Go.Proofs.Ytaombjljahpncaa.meterMerges

namespace Go.Proofs.Ytaombjljahpncaa
theorem MeterMerges_holds : Rows.MeterMergesSaid := meterMerges.over
end Go.Proofs.Ytaombjljahpncaa
