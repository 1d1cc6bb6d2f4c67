/- VmTimes: the plain law. -/
import Derived.Test.YtjnohalffffiaaaAx
set_option linter.unusedVariables false
set_option linter.unusedSimpArgs false
namespace Go.Proofs.Ytjnohalffffiaaa
open Go.RowKit

def TV (m : Int) : List Ins := [⟨1, 1, 1, 0, 0⟩, ⟨34, 0, 3, 0, m⟩, ⟨3, 1, 2, 0, 0⟩, ⟨1, 1, 1, 1, 0⟩, ⟨35, 0, 4, 0, m⟩, ⟨3, 1, 2, 1, 0⟩, ⟨1, 1, 1, 1, 0⟩, ⟨36, 0, 3, 9, 0⟩, ⟨3, 1, 2, 2, 0⟩]
theorem tv_all : ((List.range 500).all fun m => (chkI (TV (1 + (m : Int)))).1 == 0) = true := by kernel_rfl
theorem tv_chk (m : Nat) (h : m < 500) : (chkI (TV (1 + (m : Int)))).1 = 0 := by
  have := List.all_eq_true.1 tv_all m (List.mem_range.2 h)
  simpa using this

def tvt (A M : ByteArray) (p m : Int) : Int := if (getk A 0 1 == 1) = true then min (getk M 0 7 + p) m else 0
def tvr (A R : ByteArray) : Bool := getk A 1 1 == 1 && getk R 4 1 == 0
def tvc (A R : ByteArray) (m : Int) : Int := if tvr A R = true then min (getk R 0 7 + 1) m else getk R 0 7
def tvM (A M : ByteArray) (p m : Int) : ByteArray := putk (putk M 0 7 (tvt A M p m)) 9 1 (getk A 1 1)
def tvR (A R : ByteArray) (m : Int) : ByteArray := if tvr A R = true then putk (putk R 4 1 (getk A 1 1)) 0 7 (tvc A R m) else putk R 4 1 (getk A 1 1)
def tvQ (A Q M R : ByteArray) (p m : Int) : ByteArray :=
  putk (putk (putk Q 0 1 (yesI (getk A 0 1 == 1 && tvt A M p m == m))) 1 1 (yesI (decide (m ≤ tvc A R m)))) 2 1 (yesI (getk A 1 1 == 1 && getk (putk M 0 7 (tvt A M p m)) 9 1 == 0))

theorem tv_eq (I Q M R : ByteArray) (P m : Int) : runv (TV m) I Q M R P = ((((((((((VS.start I Q M R).tick.step (passI P) ⟨1, 1, 1, 0, 0⟩).tick.step (passI P) ⟨34, 0, 3, 0, m⟩).tick.step (passI P) ⟨3, 1, 2, 0, 0⟩).tick.step (passI P) ⟨1, 1, 1, 1, 0⟩).tick.step (passI P) ⟨35, 0, 4, 0, m⟩).tick.step (passI P) ⟨3, 1, 2, 1, 0⟩).tick.step (passI P) ⟨1, 1, 1, 1, 0⟩).tick.step (passI P) ⟨36, 0, 3, 9, 0⟩).tick.step (passI P) ⟨3, 1, 2, 2, 0⟩) := by
  unfold runv
  generalize passI P = p
  rw [VS.runs_on p (TV m) 0 _ (by show 0 < 9; decide) rfl rfl, VS.runs_on p (TV m) 1 _ (by show 1 < 9; decide) rfl rfl, VS.runs_on p (TV m) 2 _ (by show 2 < 9; decide) rfl rfl, VS.runs_on p (TV m) 3 _ (by show 3 < 9; decide) rfl rfl, VS.runs_on p (TV m) 4 _ (by show 4 < 9; decide) rfl rfl,
    VS.runs_on p (TV m) 5 _ (by show 5 < 9; decide) rfl rfl, VS.runs_on p (TV m) 6 _ (by show 6 < 9; decide) rfl rfl, VS.runs_on p (TV m) 7 _ (by show 7 < 9; decide) rfl rfl, VS.runs_on p (TV m) 8 _ (by show 8 < 9; decide) rfl rfl, VS.runs_done p (TV m) 9 _ (by show 9 ≤ 9; decide)]
  rfl

section
variable (S : VS) (p : Int)
set_option maxRecDepth 20000 in
theorem st_ld (at_ : Int) : S.tick.step p ⟨1, 1, 1, at_, 0⟩ = { S.tick with kind := 1, n := getk (S.ar 1) at_ 1 } := by
  unfold VS.step VS.opd
  rw [if_pos rfl, if_neg (show ¬ ((1 : Int) = 0) by decide)]
  rfl
set_option maxRecDepth 20000 in
theorem st_ton (m : Int) : S.tick.step p ⟨34, 0, 3, 0, m⟩ = S.tick.timer p ⟨34, 0, 3, 0, m⟩ := rfl
set_option maxRecDepth 20000 in
theorem st_ctu (m : Int) : S.tick.step p ⟨35, 0, 4, 0, m⟩ = S.tick.counter ⟨35, 0, 4, 0, m⟩ := rfl
set_option maxRecDepth 20000 in
theorem st_st (at_ : Int) : S.tick.step p ⟨3, 1, 2, at_, 0⟩ = S.tick.put 2 at_ 1 S.n := rfl
set_option maxRecDepth 20000 in
theorem st_tr : S.tick.step p ⟨36, 0, 3, 9, 0⟩ = (S.tick.put 3 9 1 S.n).says (S.tick.rise 3 9) := rfl
end

theorem tv_run (I Q M R : ByteArray) (P m : Int) : (runv (TV m) I Q M R P).ar 2 = tvQ (fit I) (fit Q) (fit M) (fit R) (passI P) m ∧ (runv (TV m) I Q M R P).ar 3 = tvM (fit I) (fit M) (passI P) m ∧
    (runv (TV m) I Q M R P).ar 4 = tvR (fit I) (fit R) m := by
  rw [tv_eq]
  generalize passI P = p
  generalize hS : VS.start I Q M R = S
  have a1 : S.ar 1 = fit I := by rw [← hS]; rfl
  have a2 : S.ar 2 = fit Q := by rw [← hS]; rfl
  have a3 : S.ar 3 = fit M := by rw [← hS]; rfl
  have a4 : S.ar 4 = fit R := by rw [← hS]; rfl
  clear hS
  generalize fit I = A at *
  generalize fit Q = Q at *
  generalize fit M = M at *
  generalize fit R = R at *
  rw [st_ld S p 0, a1]
  obtain ⟨S1, hS1⟩ : ∃ S1, ({ S.tick with kind := 1, n := getk A 0 1 } : VS) = S1 := ⟨_, rfl⟩
  have b1 : S1.ar 1 = A := by rw [← hS1]; exact a1
  have b2 : S1.ar 2 = Q := by rw [← hS1]; exact a2
  have b3 : S1.ar 3 = M := by rw [← hS1]; exact a3
  have b4 : S1.ar 4 = R := by rw [← hS1]; exact a4
  have bn : S1.n = getk A 0 1 := by rw [← hS1]
  rw [hS1]
  clear hS1 a1 a2 a3 a4
  rw [st_ton S1 p m]
  obtain ⟨S2, hS2⟩ : ∃ S2, S1.tick.timer p ⟨34, 0, 3, 0, m⟩ = S2 := ⟨_, rfl⟩
  have ht : (if S1.tick.is = true then min (S1.tick.get 3 0 7 + p) m else 0) = tvt A M p m := by
    unfold tvt
    rw [show S1.tick.is = (getk A 0 1 == 1) from by show (S1.n == 1) = _; rw [bn], show S1.tick.get 3 0 7 = getk M 0 7 from by show getk (S1.ar 3) 0 7 = _; rw [b3]]
  have c1 : S2.ar 1 = A := by rw [← hS2]; exact b1
  have c2 : S2.ar 2 = Q := by rw [← hS2]; exact b2
  have c3 : S2.ar 3 = putk M 0 7 (tvt A M p m) := by rw [← hS2, ← ht]; show putk (S1.ar 3) 0 7 _ = _; rw [b3]
  have c4 : S2.ar 4 = R := by rw [← hS2]; exact b4
  have cn : S2.n = yesI (getk A 0 1 == 1 && tvt A M p m == m) := by rw [← hS2, ← ht, ← bn]; rfl
  rw [hS2]
  clear hS2 b1 b2 b3 b4 bn ht
  rw [st_st S2 p 0]
  obtain ⟨S3, hS3⟩ : ∃ S3, S2.tick.put 2 0 1 S2.n = S3 := ⟨_, rfl⟩
  have d1 : S3.ar 1 = A := by rw [← hS3]; exact c1
  have d2 : S3.ar 2 = putk Q 0 1 (yesI (getk A 0 1 == 1 && tvt A M p m == m)) := by rw [← hS3, ← cn, ← c2]; rfl
  have d3 : S3.ar 3 = putk M 0 7 (tvt A M p m) := by rw [← hS3]; exact c3
  have d4 : S3.ar 4 = R := by rw [← hS3]; exact c4
  rw [hS3]
  clear hS3 c1 c2 c3 c4 cn
  rw [st_ld S3 p 1, d1]
  obtain ⟨S4, hS4⟩ : ∃ S4, ({ S3.tick with kind := 1, n := getk A 1 1 } : VS) = S4 := ⟨_, rfl⟩
  have e1 : S4.ar 1 = A := by rw [← hS4]; exact d1
  have e2 : S4.ar 2 = putk Q 0 1 (yesI (getk A 0 1 == 1 && tvt A M p m == m)) := by rw [← hS4]; exact d2
  have e3 : S4.ar 3 = putk M 0 7 (tvt A M p m) := by rw [← hS4]; exact d3
  have e4 : S4.ar 4 = R := by rw [← hS4]; exact d4
  have en : S4.n = getk A 1 1 := by rw [← hS4]
  rw [hS4]
  clear hS4 d1 d2 d3 d4
  rw [st_ctu S4 p m]
  obtain ⟨S5, hS5⟩ : ∃ S5, S4.tick.counter ⟨35, 0, 4, 0, m⟩ = S5 := ⟨_, rfl⟩
  have hri : S4.tick.rise 4 4 = tvr A R := by
    show (S4.n == 1 && getk (S4.ar 4) 4 1 == 0) = _
    rw [en, e4]
    rfl
  have hg : S4.tick.get 4 0 7 = getk R 0 7 := by show getk (S4.ar 4) 0 7 = _; rw [e4]
  have key : S5.ar 1 = A ∧ S5.ar 2 = putk Q 0 1 (yesI (getk A 0 1 == 1 && tvt A M p m == m)) ∧ S5.ar 3 = putk M 0 7 (tvt A M p m) ∧ S5.ar 4 = tvR A R m ∧ S5.n = yesI (decide (m ≤ tvc A R m)) := by
    rw [← hS5]
    unfold VS.counter tvR tvc
    dsimp only
    rw [show (0 : Int) + 4 = 4 from rfl, hri, hg]
    cases hr : tvr A R with
    | true =>
      rw [if_pos rfl, if_pos rfl, if_pos rfl]
      refine ⟨e1, e2, e3, ?_, rfl⟩
      show putk (putk (S4.ar 4) 4 1 S4.n) 0 7 _ = _
      rw [e4, en]
    | false =>
      rw [if_neg (by simp), if_neg (by simp), if_neg (by simp)]
      refine ⟨e1, e2, e3, ?_, rfl⟩
      show putk (S4.ar 4) 4 1 S4.n = _
      rw [e4, en]
  obtain ⟨f1, f2, f3, f4, fn⟩ := key
  rw [hS5]
  clear hS5 e1 e2 e3 e4 en hri hg
  rw [st_st S5 p 1]
  obtain ⟨S6, hS6⟩ : ∃ S6, S5.tick.put 2 1 1 S5.n = S6 := ⟨_, rfl⟩
  have g1 : S6.ar 1 = A := by rw [← hS6]; exact f1
  have g2 : S6.ar 2 = putk (putk Q 0 1 (yesI (getk A 0 1 == 1 && tvt A M p m == m))) 1 1 (yesI (decide (m ≤ tvc A R m))) := by rw [← hS6, ← fn, ← f2]; rfl
  have g3 : S6.ar 3 = putk M 0 7 (tvt A M p m) := by rw [← hS6]; exact f3
  have g4 : S6.ar 4 = tvR A R m := by rw [← hS6]; exact f4
  rw [hS6]
  clear hS6 f1 f2 f3 f4 fn
  rw [st_ld S6 p 1, g1]
  obtain ⟨S7, hS7⟩ : ∃ S7, ({ S6.tick with kind := 1, n := getk A 1 1 } : VS) = S7 := ⟨_, rfl⟩
  have h1 : S7.ar 1 = A := by rw [← hS7]; exact g1
  have h2 : S7.ar 2 = putk (putk Q 0 1 (yesI (getk A 0 1 == 1 && tvt A M p m == m))) 1 1 (yesI (decide (m ≤ tvc A R m))) := by rw [← hS7]; exact g2
  have h3 : S7.ar 3 = putk M 0 7 (tvt A M p m) := by rw [← hS7]; exact g3
  have h4 : S7.ar 4 = tvR A R m := by rw [← hS7]; exact g4
  have hn : S7.n = getk A 1 1 := by rw [← hS7]
  rw [hS7]
  clear hS7 g1 g2 g3 g4
  rw [st_tr S7 p]
  obtain ⟨S8, hS8⟩ : ∃ S8, (S7.tick.put 3 9 1 S7.n).says (S7.tick.rise 3 9) = S8 := ⟨_, rfl⟩
  have i2 : S8.ar 2 = putk (putk Q 0 1 (yesI (getk A 0 1 == 1 && tvt A M p m == m))) 1 1 (yesI (decide (m ≤ tvc A R m))) := by rw [← hS8]; exact h2
  have i3 : S8.ar 3 = tvM A M p m := by rw [← hS8]; show putk (S7.ar 3) 9 1 S7.n = _; rw [h3, hn]; rfl
  have i4 : S8.ar 4 = tvR A R m := by rw [← hS8]; exact h4
  have inn : S8.n = yesI (getk A 1 1 == 1 && getk (putk M 0 7 (tvt A M p m)) 9 1 == 0) := by
    rw [← hS8]
    show yesI (S7.n == 1 && getk (S7.ar 3) 9 1 == 0) = _
    rw [hn, h3]
  rw [hS8]
  clear hS8 h1 h2 h3 h4 hn
  rw [st_st S8 p 2]
  refine ⟨?_, i3, i4⟩
  show putk (S8.ar 2) 2 1 S8.n = _
  rw [i2, inn]
  rfl
end Go.Proofs.Ytjnohalffffiaaa
