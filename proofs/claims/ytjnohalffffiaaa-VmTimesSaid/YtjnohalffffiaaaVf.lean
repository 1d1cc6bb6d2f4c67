/- verify: Equal of brackets, lead. -/
import Derived.Test.YtjnohalffffiaaaVd
import Derived.Deep.DrawnRows
import Derived.LoopTactic
import Derived.Test.YtjnohalffffiaaaWEqStruct
set_option linter.unusedVariables false
set_option linter.unusedSimpArgs false
namespace Go.Proofs.Ytjnohalffffiaaa
open Go.RowKit

open Go.Proofs.YtjnohalffffiaaaW.PrintWords in
theorem eqBr (d : Nat) (w : World) (x0 y0 : Int) (x1 y1 : Int) :
    (Op.equalIn (d + 2) 144 (.agg #[.int .i64 x0, .int .i64 x1]) (.agg #[.int .i64 y0, .int .i64 y1])).run Try.prog w = .ok (x0 == y0 && (x1 == y1)) w := by
  refine eqA_of Try.underlying144 (by kernel_rfl) ?_
  refine eqf_cons (by rfl) (by go_simp; rfl) (by go_simp; rfl) (by go_simp) ?_
  exact eqf_last (by rfl) (by go_simp; rfl) (by go_simp; rfl) (by go_simp)
@[go_sem] theorem eqBrK (w : World) (x0 y0 : Int) (x1 y1 : Int) :
    (Op.equalIn 10000 144 (.agg #[.int .i64 x0, .int .i64 x1]) (.agg #[.int .i64 y0, .int .i64 y1])).run Try.prog w = .ok (x0 == y0 && (x1 == y1)) w := eqBr 9998 w x0 y0 x1 y1

def brEq (l m : List (Int × Int)) : Bool := decide (l = m)

theorem brEq_ne_len {l m : List (Int × Int)} (h : l.length ≠ m.length) : brEq l m = false := by
  unfold brEq
  exact decide_eq_false (fun e => h (by rw [e]))
theorem brEq_upto {l m : List (Int × Int)} (hl : l.length = m.length) (h : ∀ j, j < l.length → l.getD j (0, 0) = m.getD j (0, 0)) : brEq l m = true := by
  unfold brEq
  refine decide_eq_true (List.ext_getElem hl fun j h1 h2 => ?_)
  have := h j h1
  rwa [List.getD_eq_getElem?_getD, List.getD_eq_getElem?_getD, List.getElem?_eq_getElem h1, List.getElem?_eq_getElem h2] at this
theorem brEq_differ {l m : List (Int × Int)} (j : Nat) (h : l.getD j (0, 0) ≠ m.getD j (0, 0)) : brEq l m = false := by
  unfold brEq
  exact decide_eq_false (fun e => h (by rw [e]))

set_option maxHeartbeats 2000000 in
theorem EqualBr_calls (v1 v2 : Value) (l m : List (Int × Int)) (w : World) (h1 : BrR w v1 l) (h2 : BrR w v2 m) (hl : l.length ≤ 1000) (hm : m.length ≤ 1000) :
    Calls Try.prog 87 #[v1, v2] w (RetB (brEq l m) w) := by
  obtain ⟨a1, c1, rfl, b1, b2, -⟩ := h1.form
  obtain ⟨a2, c2, rfl, b3, b4, -⟩ := h2.form
  have H1 := hid h1
  have H2 := hid h2
  clear h1 h2
  by_cases hll : l.length = m.length
  · have HLL := hid hll
    rw [← hll] at b3 ⊢
    obtain ⟨n, hn⟩ : ∃ n, l.length = n := ⟨_, rfl⟩
    have HN := hid hn
    rw [hn] at b1 b3 hl ⊢
    clear hll hn hm
    go_enter Try.func87, Try.ntmps87
    go_wp2_with fail
    go_loopw [13] (fun i wr => ∃ j : Nat, j ≤ n ∧ i = .int .i64 j ∧ (∀ q, q < j → l.getD q (0, 0) = m.getD q (0, 0)) ∧ ∃ d, wr = w.drewN d) (fun i _ => n - (intOf i).toNat)
    case atStart => exact ⟨0, Nat.zero_le _, rfl, fun q hq => by omega, 0, rfl⟩
    case round =>
      obtain ⟨j, hj, rfl, hq, d, rfl⟩ := hrel
      have HQ := hid hq
      clear hq
      by_cases hlt : j < n
      · obtain ⟨g1, e1, x1, x2, x3⟩ := H1.out.cell j (by rw [HN.out]; exact hlt)
        obtain ⟨g2, e2, y1, y2, y3⟩ := H2.out.cell j (by rw [← HLL.out, HN.out]; exact hlt)
        injection x1 with x1 _ xc
        injection y1 with y1 _ yc
        subst x1 y1 xc yc
        have i1 : (0 : Int) ≤ (j : Int) := Int.natCast_nonneg _
        have i2 : (j : Int) < (n : Int) := by omega
        generalize hp : l.getD j (0, 0) = p at *
        generalize hr : m.getD j (0, 0) = r at *
        obtain ⟨p1, p2⟩ := p
        obtain ⟨r1, r2⟩ := r
        have HP := hid hp
        have HR := hid hr
        clear hp hr
        dsimp only at *
        have hsame : p1 = r1 ∧ p2 = r2 → l.getD j (0, 0) = m.getD j (0, 0) := fun h => by rw [HP.out, HR.out, h.1, h.2]
        have hdiff : ¬ (p1 = r1 ∧ p2 = r2) → brEq l m = false := fun h => brEq_differ j (by rw [HP.out, HR.out]; intro e; injection e with e1 e2; exact h ⟨e1, e2⟩)
        have HS := hid hsame
        have HD := hid hdiff
        clear hsame hdiff HP HR
        by_cases he : p1 = r1 ∧ p2 = r2
        · have hqq := HS.out he
          obtain ⟨rfl, rfl⟩ := he
          have HQQ := hid hqq
          clear hqq HD HS
          go_wp2_with fail
          go_region_held3 (fun w' => w'.cell? ⟨g1, j * 2, none⟩ = some (.int .i64 p1) ∧ w'.cell? ⟨g1, j * 2 + 1, none⟩ = some (.int .i64 p2) ∧ w'.cell? ⟨g2, j * 2, none⟩ = some (.int .i64 p1) ∧ w'.cell? ⟨g2, j * 2 + 1, none⟩ = some (.int .i64 p2)) (first | (exact ⟨x2, x3, y2, y3⟩) | go_keep) (fail)
          go_wp2_with fail
          go_roundw
          case rel => exact ⟨j + 1, by omega, by go_num, fun q hq => by
            by_cases e : q = j
            · rw [e]; exact HQQ.out
            · exact HQ.out q (by omega), d + 1, rfl⟩
          case measure => simp [intOf]; omega
        · have hbe := HD.out he
          have HBE := hid hbe
          clear hbe HD HS
          by_cases h1 : p1 = r1
          · subst h1
            have h2 : (p2 == r2) = false := by simp; intro e; exact he ⟨rfl, e⟩
            clear he
            go_wp2_with fail
            go_region_held3 (fun w' => w'.cell? ⟨g1, j * 2, none⟩ = some (.int .i64 p1) ∧ w'.cell? ⟨g1, j * 2 + 1, none⟩ = some (.int .i64 p2) ∧ w'.cell? ⟨g2, j * 2, none⟩ = some (.int .i64 p1) ∧ w'.cell? ⟨g2, j * 2 + 1, none⟩ = some (.int .i64 r2)) (first | (exact ⟨x2, x3, y2, y3⟩) | go_keep) (fail)
            go_wp2_with fail
            go_ret
            exact ⟨ret_bool HBE.out.symm, (bel_drewN (Below.refl _ _) d).drew⟩
          · have h2 : (p1 == r1) = false := by simpa using h1
            clear he h1
            go_wp2_with fail
            go_region_held3 (fun w' => w'.cell? ⟨g1, j * 2, none⟩ = some (.int .i64 p1) ∧ w'.cell? ⟨g1, j * 2 + 1, none⟩ = some (.int .i64 p2) ∧ w'.cell? ⟨g2, j * 2, none⟩ = some (.int .i64 r1) ∧ w'.cell? ⟨g2, j * 2 + 1, none⟩ = some (.int .i64 r2)) (first | (exact ⟨x2, x3, y2, y3⟩) | go_keep) (fail)
            go_wp2_with fail
            go_ret
            exact ⟨ret_bool HBE.out.symm, (bel_drewN (Below.refl _ _) d).drew⟩
      · obtain rfl : j = n := by omega
        have HE := hid (brEq_upto HLL.out (fun q hq => HQ.out q (by rw [HN.out] at hq; exact hq)))
        go_wp2_with fail
        go_ret
        exact ⟨ret_bool HE.out.symm, bel_drewN (Below.refl _ _) _⟩
  · have HE := hid (brEq_ne_len hll)
    have hne : ((l.length : Int) == (m.length : Int)) = false := by simp; omega
    clear hll
    go_enter Try.func87, Try.ntmps87
    go_wp2_with fail
    go_ret
    exact ⟨ret_bool HE.out.symm, Below.refl _ _⟩
end Go.Proofs.Ytjnohalffffiaaa
