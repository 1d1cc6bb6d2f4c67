/- vm: step, whole; all. -/
import Derived.Test.YtjnohalffffiaaaNl
import Derived.Test.YtjnohalffffiaaaNm
import Derived.Test.YtjnohalffffiaaaNn
set_option linter.unusedVariables false
set_option linter.unusedSimpArgs false
namespace Go.Proofs.Ytjnohalffffiaaa
open Go.RowKit

theorem cls_lt {op : Int} (h : cls op ≠ 0) : 1 ≤ op ∧ op ≤ 36 := by
  by_cases h0 : 0 ≤ op ∧ op < 37
  · by_cases h1 : op = 0
    · subst h1; exact absurd rfl h
    · omega
  · unfold cls at h
    rw [if_neg h0] at h
    exact absurd rfl h
theorem right_op {i : Ins} (h : rightb i = true) : 1 ≤ i.op ∧ i.op ≤ 36 := by
  refine cls_lt fun e => ?_
  unfold rightb at h
  rw [e] at h
  simp at h
theorem stands_of {i : Ins} {least : Int} (h : standsb i least = true) : 0 < ksize i.kind ∧ least ≤ i.area ∧ i.area ≤ 4 ∧ 0 ≤ i.at_ ∧ i.at_ + ksize i.kind ≤ 64 ∧ i.n = 0 := by
  unfold standsb at h
  simp only [Bool.and_eq_true, decide_eq_true_eq, beq_iff_eq] at h
  omega
theorem right_reads {i : Ins} (h : rightb i = true) (hc : cls i.op = 1) : opdOk i := by
  unfold rightb at h
  rw [if_pos hc] at h
  by_cases h0 : i.area = 0
  · exact .inl h0
  · rw [if_neg h0] at h
    obtain ⟨h1, h2, h3, h4, h5, _⟩ := stands_of h
    exact .inr ⟨h2, h3, h1, h4, h5⟩
theorem right_writes {i : Ins} (h : rightb i = true) (hc : cls i.op = 2) : 2 ≤ i.area ∧ i.area ≤ 4 ∧ 0 < ksize i.kind ∧ 0 ≤ i.at_ ∧ i.at_ + ksize i.kind ≤ 64 := by
  unfold rightb at h
  rw [if_neg (by omega), if_pos hc] at h
  obtain ⟨h1, h2, h3, h4, h5, _⟩ := stands_of h
  exact ⟨h2, h3, h1, h4, h5⟩
theorem keep_of {a : Int} (h : keepb a = true) : 3 ≤ a ∧ a ≤ 4 := by
  unfold keepb at h
  simp at h
  omega
theorem right_blocks {i : Ins} (h : rightb i = true) (hc : cls i.op = 7) : 3 ≤ i.area ∧ i.area ≤ 4 ∧ 0 ≤ i.at_ ∧ i.at_ ≤ 59 ∧ 1 ≤ i.n ∧ i.n ≤ 9999 := by
  unfold rightb at h
  rw [if_neg (by omega), if_neg (by omega), if_neg (by omega), if_neg (by omega), if_neg (by omega), if_neg (by omega), if_pos hc] at h
  simp only [Bool.and_eq_true, decide_eq_true_eq, beq_iff_eq] at h
  have := keep_of h.2.1
  omega
theorem right_trigs {i : Ins} (h : rightb i = true) (hc : cls i.op = 8) : 3 ≤ i.area ∧ i.area ≤ 4 ∧ 0 ≤ i.at_ ∧ i.at_ ≤ 63 := by
  unfold rightb at h
  rw [if_neg (by omega), if_neg (by omega), if_neg (by omega), if_neg (by omega), if_neg (by omega), if_neg (by omega), if_neg (by omega), if_pos hc] at h
  simp only [Bool.and_eq_true, decide_eq_true_eq, beq_iff_eq] at h
  have := keep_of h.2.1
  omega
theorem cls_reads {op : Int} (h : 7 ≤ op ∧ op ≤ 24 ∧ op ≠ 13) : cls op = 1 := by
  obtain ⟨h1, h2, h3⟩ := h
  obtain rfl | rfl | rfl | rfl | rfl | rfl | rfl | rfl | rfl | rfl | rfl | rfl | rfl | rfl | rfl | rfl | rfl : op = 7 ∨ op = 8 ∨ op = 9 ∨ op = 10 ∨ op = 11 ∨ op = 12 ∨ op = 14 ∨ op = 15 ∨ op = 16 ∨ op = 17 ∨ op = 18 ∨ op = 19 ∨ op = 20 ∨ op = 21 ∨ op = 22 ∨ op = 23 ∨ op = 24 := by omega
  all_goals rfl

theorem step_calls (base rb : Nat) (p : Int) (S : VS) (op kind area at_ n : Int) (w : World) (h : VmAt w base rb p S) (hr : rightb ⟨op, kind, area, at_, n⟩ = true) (hj : jumpsb ⟨op, kind, area, at_, n⟩ = false) (ht : retb ⟨op, kind, area, at_, n⟩ = false)
    (hcl : op = 33 → S.op ≠ []) (hn : S.op.length ≤ 1000) (hz : 0 ≤ S.zero ∧ S.zero ≤ 1000000) (hp : 0 ≤ p ∧ p ≤ 10000) :
    Calls Try.prog 33 #[.pointer (some ⟨rb, 0, none⟩), .agg #[.int .i64 op, .int .i64 kind, .int .i64 area, .int .i64 at_, .int .i64 n]] w (RetV base rb p (S.step p ⟨op, kind, area, at_, n⟩) w) := by
  have ho := right_op hr
  dsimp only at ho
  have hj' : ¬ (25 ≤ op ∧ op ≤ 30) := by
    unfold jumpsb at hj
    unfold retb at ht
    simp at hj ht
    omega
  clear hj ht
  by_cases hd : 7 ≤ op ∧ op ≤ 24 ∧ op ≠ 13
  · have e : S.step p ⟨op, kind, area, at_, n⟩ = S.does op S.kind S.n (S.opd ⟨op, kind, area, at_, n⟩) := by
      unfold VS.step
      dsimp only
      repeat rw [if_neg (by omega)]
    rw [e]
    exact step_do base rb p S op kind area at_ n w h (right_reads hr (cls_reads hd)) hd hz
  · obtain rfl | rfl | rfl | rfl | rfl | rfl | rfl | rfl | rfl | rfl | rfl | rfl | rfl : op = 1 ∨ op = 2 ∨ op = 3 ∨ op = 4 ∨ op = 5 ∨ op = 6 ∨ op = 13 ∨ op = 31 ∨ op = 32 ∨ op = 33 ∨ op = 34 ∨ op = 35 ∨ op = 36 := by omega
    · exact step_1 base rb p S kind area at_ n w h (right_reads hr rfl)
    · exact step_2 base rb p S kind area at_ n w h (right_reads hr rfl)
    · obtain ⟨h1, h2, h3, h4, h5⟩ := right_writes hr rfl
      exact step_3 base rb p S kind area at_ n w h (by dsimp only at h1; omega) h2 h3 h4 h5
    · obtain ⟨h1, h2, h3, h4, h5⟩ := right_writes hr rfl
      exact step_4 base rb p S kind area at_ n w h (by dsimp only at h1; omega) h2 h3 h4 h5
    · obtain ⟨h1, h2, h3, h4, h5⟩ := right_writes hr rfl
      cases hs : (S.n == 1) with
      | true =>
        rw [show S.step p ⟨5, kind, area, at_, n⟩ = S.put area at_ 1 1 from by show (if S.is then S.put area at_ 1 (6 - 5) else S) = _; unfold VS.is; rw [hs]; rfl]
        exact step_5y base rb p S kind area at_ n w h hs (by dsimp only at h1; omega) h2 h3 h4 h5
      | false =>
        rw [show S.step p ⟨5, kind, area, at_, n⟩ = S from by show (if S.is then S.put area at_ 1 (6 - 5) else S) = _; unfold VS.is; rw [hs]; rfl]
        exact step_5n base rb p S kind area at_ n w h hs
    · obtain ⟨h1, h2, h3, h4, h5⟩ := right_writes hr rfl
      cases hs : (S.n == 1) with
      | true =>
        rw [show S.step p ⟨6, kind, area, at_, n⟩ = S.put area at_ 1 0 from by show (if S.is then S.put area at_ 1 (6 - 6) else S) = _; unfold VS.is; rw [hs]; rfl]
        exact step_6y base rb p S kind area at_ n w h hs (by dsimp only at h1; omega) h2 h3 h4 h5
      | false =>
        rw [show S.step p ⟨6, kind, area, at_, n⟩ = S from by show (if S.is then S.put area at_ 1 (6 - 6) else S) = _; unfold VS.is; rw [hs]; rfl]
        exact step_6n base rb p S kind area at_ n w h hs
    · exact step_13 base rb p S kind area at_ n w h
    · exact step_31 base rb p S kind area at_ n w h
    · exact step_32 base rb p S kind area at_ n w h hn
    · have hne := hcl rfl
      obtain ⟨l, b, hlb⟩ : ∃ l b, S.op = l ++ [b] := ⟨S.op.dropLast, S.op.getLast hne, (List.dropLast_concat_getLast hne).symm⟩
      obtain ⟨ob, kb, nb⟩ := b
      have e : S.step p ⟨33, kind, area, at_, n⟩ = ({ S with op := l }.does ob kb nb S.n) := by
        show (match S.op.getLast? with
          | some (o, k, n) => { S with op := S.op.dropLast }.does o k n S.n
          | none => S) = _
        rw [hlb]
        simp
      rw [e]
      refine step_33 base rb p S kind area at_ n w h l ob kb nb hlb ?_ hz
      rw [hlb] at hn
      simp at hn
      omega
    · obtain ⟨h1, h2, h3, h4, h5, h6⟩ := right_blocks hr rfl
      exact step_34 base rb p S kind area at_ n w h (by dsimp only at h1; omega) h2 h3 h4 hp.1 hp.2
    · obtain ⟨h1, h2, h3, h4, h5, h6⟩ := right_blocks hr rfl
      exact step_35 base rb p S kind area at_ n w h (by dsimp only at h1; omega) h2 h3 h4
    · obtain ⟨h1, h2, h3, h4⟩ := right_trigs hr rfl
      exact step_36 base rb p S kind area at_ n w h (by dsimp only at h1; omega) h2 h3 h4
end Go.Proofs.Ytjnohalffffiaaa
