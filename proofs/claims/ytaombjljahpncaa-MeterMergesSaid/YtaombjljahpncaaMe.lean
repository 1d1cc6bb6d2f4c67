/- What is above a share; the document's tellers. -/
import Derived.Test.YtaombjljahpncaaMd
set_option linter.unusedVariables false
set_option linter.unusedSimpArgs false
namespace Go.Proofs.Ytaombjljahpncaa
open Go.RowKit

def clampS (s : Int) : Int := min (max s 0) 100
def few (n : Nat) (s : Int) : Nat := (clampS s * n / 100).toNat
/-- What is above in a share, by the sorted window. -/
def abv (xs : List Int) (s : Int) : Int := if xs.length = 0 then 0 else (sorted xs).getD (xs.length - 1 - few xs.length s) 0

set_option maxRecDepth 20000 in
set_option maxHeartbeats 2000000 in
theorem Above_calls (b : Nat) (f : Nat → Int) (xs : List Int) (s : Int) (w : World) (h : MAt w b f) (h65 : 0 ≤ f 65 ∧ f 65 ≤ 63) (h71 : 0 ≤ f 71 ∧ f 71 ≤ 64) (hx : win f (f 71).toNat = xs) :
    Calls Try.prog 15 #[.pointer (some ⟨b, 0, none⟩), .int .i64 s] w (RetI (abv xs s) w) := by
  have hxl : xs.length ≤ 64 := by rw [← hx, win_len]; omega
  have HM := hid h
  have H65 := hid h65
  have H71 := hid h71
  have HX := hid hx
  clear h h65 h71 hx
  by_cases h0 : xs.length = 0
  · have hxn : xs = [] := List.eq_nil_of_length_eq_zero h0
    subst hxn
    go_enter Try.func15, Try.ntmps15
    go_wp2_with fail
    refine (Window_calls b f _ HM.out H65.out H71.out).mono ?_
    rw [HX.out]
    rintro e w1 ⟨v, rfl, ho, hb⟩
    obtain ⟨a, cap, rfl, _, hc, hm⟩ := ho.rd
    have HB := hid hb
    clear ho hb
    go_wp2_with fail
    go_ret
    exact ⟨rfl, HB.out⟩
  · have hxp : 0 < xs.length := by omega
    have e0 : ((xs.length : Int) == 0) = false := by rw [beq_eq_false_iff_ne]; omega
    have hav : abv xs s = (sorted xs).getD (xs.length - 1 - few xs.length s) 0 := by unfold abv; rw [if_neg h0]
    have HAV := hid hav
    have hcb : 0 ≤ clampS s ∧ clampS s ≤ 100 := by unfold clampS; omega
    obtain ⟨c, hc⟩ : ∃ c : Nat, clampS s = c := ⟨(clampS s).toNat, by omega⟩
    have hpb : (c : Int) * xs.length ≤ 6400 := by
      have : c * xs.length ≤ 100 * 64 := Nat.mul_le_mul (by omega) hxl
      exact_mod_cast this
    have hp0 : (0 : Int) ≤ (c : Int) * xs.length := by exact_mod_cast Nat.zero_le _
    obtain ⟨F, hF⟩ : ∃ F : Nat, (c : Int) * xs.length / 100 = F := ⟨((c : Int) * xs.length / 100).toNat, by omega⟩
    have hfw : few xs.length s = F := by unfold few; rw [hc, hF]; rfl
    have hFb : F ≤ 64 := by omega
    have HFW := hid hfw
    have HC := hid hc
    have HF := hid hF
    have hcn : c ≤ 100 := by omega
    have hmm : min (max s 0) 100 = (c : Int) := hc
    have HMM := hid hmm
    have HP := hid (And.intro hp0 hpb)
    clear h0 hav hfw hc hF hcb hpb hp0 hcn hmm
    go_enter Try.func15, Try.ntmps15
    go_wp2_with fail
    refine (Window_calls b f _ HM.out H65.out H71.out).mono ?_
    rw [HX.out]
    rintro e w1 ⟨v, rfl, ho, hb⟩
    obtain ⟨g, cap, rfl, hg, hcc, hm⟩ := ho.shape hxp
    have HB := hid hb
    have HO := hid ho
    clear ho hb
    go_wp2_with fail
    refine (Sort_calls _ g cap xs _ HO.out (by omega)).mono ?_
    rintro e w2 ⟨rfl, hcell, hgr⟩
    obtain ⟨K, hK⟩ : ∃ K, K = xs.length - 1 - F := ⟨_, rfl⟩
    have hcK := hcell K (by omega)
    have HB2 := hid (HB.out.grown hgr HB.out.size (fun k hk => by cases hk; exact hg))
    have HK := hid hK
    have hKb : (F : Int) ≤ xs.length - 1 ∧ (K : Int) = xs.length - 1 - F ∨ (xs.length : Int) - 1 < F ∧ K = 0 := by omega
    clear hcell hgr hK
    obtain ⟨r, hr⟩ : ∃ r, (sorted xs).getD K 0 = r := ⟨_, rfl⟩
    rw [hr] at hcK
    have HR := hid hr.symm
    clear hr
    obtain ⟨hp0, hp1⟩ := HP.out
    have hF := HF.out
    have hmm := HMM.out
    have hmx : max ((xs.length : Int) - 1 - (F : Int)) 0 = (K : Int) := by omega
    have hKl : K < xs.length := by omega
    clear hKb
    go_wp2_with fail
    go_ret
    refine ⟨ret_int ?_, HB2.out⟩
    rw [HAV.out, HFW.out, ← HK.out]
    exact HR.out

end Go.Proofs.Ytaombjljahpncaa
