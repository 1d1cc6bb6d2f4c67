/- Plain laws on bins: sums, one later, four times. -/
import Derived.Test.YtaombjljahpncaaPs
set_option linter.unusedVariables false
set_option linter.unusedSimpArgs false
namespace Go.Proofs.Ytaombjljahpncaa
open Go.RowKit

theorem sml_id {x : Int} (h : -1048576 ≤ x) (h' : x ≤ 1048576) : sml x = x := by unfold sml; omega
def Rng (xs : List Int) (M : Int) : Prop := ∀ i, i < xs.length → -M ≤ xs.getD i 0 ∧ xs.getD i 0 ≤ M

/-- Element by element. -/
def addl (xs ys : List Int) : List Int := List.zipWith (· + ·) xs ys
theorem addl_len (xs ys : List Int) (h : xs.length = ys.length) : (addl xs ys).length = xs.length := by simp [addl, h]
theorem addl_at (xs ys : List Int) (i : Nat) (h : i < xs.length) (h' : xs.length = ys.length) : (addl xs ys).getD i 0 = xs.getD i 0 + ys.getD i 0 := by
  have h2 : i < ys.length := by omega
  simp [addl, List.getD_eq_getElem?_getD, List.getElem?_zipWith, List.getElem?_eq_getElem h, List.getElem?_eq_getElem h2]

theorem bsum_add (q : Int → Int) (k : Int) (xs ys : List Int) (hl : xs.length = ys.length) (hx : Rng xs 100000) (hy : Rng ys 100000) (i : Nat) (hi : i ≤ xs.length) :
    bsum q k (addl xs ys) i = bsum q k xs i + bsum q k ys i := by
  induction i with
  | zero => rfl
  | succ i ih =>
    have h1 := hx i (by omega)
    have h2 := hy i (by omega)
    simp only [bsum]
    rw [ih (by omega), addl_at xs ys i (by omega) hl, sml_id (by omega) (by omega), sml_id (by omega) (by omega), sml_id (by omega) (by omega), Int.add_mul]
    omega

theorem q_add (a b : Int) : qre (a + b) = qre a * qre b - qim a * qim b ∧ qim (a + b) = qim a * qre b + qre a * qim b := by
  have h1 : a % 4 = 0 ∨ a % 4 = 1 ∨ a % 4 = 2 ∨ a % 4 = 3 := by omega
  have h2 : b % 4 = 0 ∨ b % 4 = 1 ∨ b % 4 = 2 ∨ b % 4 = 3 := by omega
  have h3 : (a + b) % 4 = (a % 4 + b % 4) % 4 := by omega
  unfold qre qim
  rw [h3]
  rcases h1 with h1 | h1 | h1 | h1 <;> rcases h2 with h2 | h2 | h2 | h2 <;> rw [h1, h2] <;> decide

theorem bsum_later (k : Int) (xs : List Int) (i : Nat) :
    bsum qre k (0 :: xs) (i + 1) = bsum qre k xs i * qre (-k) - bsum qim k xs i * qim (-k) ∧
    bsum qim k (0 :: xs) (i + 1) = bsum qre k xs i * qim (-k) + bsum qim k xs i * qre (-k) := by
  induction i with
  | zero =>
    have h0 : sml 0 = 0 := rfl
    simp [bsum, h0]
  | succ i ih =>
    have e1 : bsum qre k (0 :: xs) (i + 1 + 1) = bsum qre k (0 :: xs) (i + 1) + sml (xs.getD i 0) * qre (-(k % 4) * (((i + 1 : Nat) : Int) % 4)) := rfl
    have e2 : bsum qim k (0 :: xs) (i + 1 + 1) = bsum qim k (0 :: xs) (i + 1) + sml (xs.getD i 0) * qim (-(k % 4) * (((i + 1 : Nat) : Int) % 4)) := rfl
    have e3 : bsum qre k xs (i + 1) = bsum qre k xs i + sml (xs.getD i 0) * qre (-(k % 4) * ((i : Int) % 4)) := rfl
    have e4 : bsum qim k xs (i + 1) = bsum qim k xs i + sml (xs.getD i 0) * qim (-(k % 4) * ((i : Int) % 4)) := rfl
    have hm : (-(k % 4) * (((i + 1 : Nat) : Int) % 4)) % 4 = (-(k % 4) * ((i : Int) % 4) + -k) % 4 := by
      have hk : k % 4 = 0 ∨ k % 4 = 1 ∨ k % 4 = 2 ∨ k % 4 = 3 := by omega
      have hi : (i : Int) % 4 = 0 ∨ (i : Int) % 4 = 1 ∨ (i : Int) % 4 = 2 ∨ (i : Int) % 4 = 3 := by omega
      rcases hk with hk | hk | hk | hk <;> rcases hi with hi | hi | hi | hi <;> rw [hk, hi] <;> omega
    have r1 := (q_add (-(k % 4) * ((i : Int) % 4)) (-k)).1
    have r2 := (q_add (-(k % 4) * ((i : Int) % 4)) (-k)).2
    rw [← qre_mod _ _ hm] at r1
    rw [← qim_mod _ _ hm] at r2
    rw [e1, e2, e3, e4, ih.1, ih.2, r1, r2]
    generalize sml (xs.getD i 0) = s
    generalize bsum qre k xs i = X
    generalize bsum qim k xs i = Y
    generalize qre (-(k % 4) * ((i : Int) % 4)) = c
    generalize qim (-(k % 4) * ((i : Int) % 4)) = d
    generalize qre (-k) = u
    generalize qim (-k) = v
    constructor <;> simp only [Int.mul_add, Int.add_mul, Int.mul_sub, Int.sub_mul, Int.mul_assoc] <;> omega

def rep (xs : List Int) : Nat → List Int
  | 0 => []
  | i + 1 => rep xs i ++ xs
theorem rep_len (xs : List Int) (i : Nat) : (rep xs i).length = i * xs.length := by
  induction i with
  | zero => simp [rep]
  | succ i ih => simp [rep, ih, Nat.add_mul]

theorem bsum_left (q : Int → Int) (k : Int) (xs ys : List Int) (i : Nat) (hi : i ≤ xs.length) : bsum q k (xs ++ ys) i = bsum q k xs i := by
  induction i with
  | zero => rfl
  | succ i ih =>
    simp only [bsum]
    rw [ih (by omega)]
    congr 2
    simp [List.getD_eq_getElem?_getD, List.getElem?_append_left (show i < xs.length by omega)]
theorem bsum_right (q : Int → Int) (hq : ∀ n m : Int, n % 4 = m % 4 → q n = q m) (k : Int) (xs ys : List Int) (h4 : xs.length % 4 = 0) (i : Nat) :
    bsum q k (xs ++ ys) (xs.length + i) = bsum q k xs xs.length + bsum q k ys i := by
  induction i with
  | zero => simp [bsum, bsum_left]
  | succ i ih =>
    rw [← Nat.add_assoc]
    simp only [bsum]
    rw [ih]
    have e : (xs ++ ys).getD (xs.length + i) 0 = ys.getD i 0 := by
      rw [List.getD_eq_getElem?_getD, List.getD_eq_getElem?_getD, List.getElem?_append_right (by omega), Nat.add_sub_cancel_left]
    have m : (((xs.length + i : Nat) : Int) % 4) = (i : Int) % 4 := by omega
    rw [e, m]
    omega
theorem bsum_rep (q : Int → Int) (hq : ∀ n m : Int, n % 4 = m % 4 → q n = q m) (k : Int) (xs : List Int) (h4 : xs.length % 4 = 0) (i : Nat) :
    bsum q k (rep xs i) (rep xs i).length = i * bsum q k xs xs.length := by
  induction i with
  | zero => simp [rep, bsum]
  | succ i ih =>
    have hl : (rep xs i).length % 4 = 0 := by rw [rep_len, Nat.mul_mod, h4]; simp
    show bsum q k (rep xs i ++ xs) (rep xs i ++ xs).length = _
    rw [List.length_append, bsum_right q hq k _ _ hl, ih, Int.natCast_add, Int.add_mul]
    simp

theorem bsm_full (q : Int → Int) (k : Int) (xs : List Int) (h : xs.length ≤ 1000) : bsm q k xs = bsum q k xs xs.length := by
  unfold bsm
  rw [Nat.min_eq_left h]

theorem addl_snoc (xs ys : List Int) (j : Nat) (h : j < xs.length) (h' : j < ys.length) :
    addl (xs.take (j + 1)) (ys.take (j + 1)) = addl (xs.take j) (ys.take j) ++ [xs.getD j 0 + ys.getD j 0] := by
  unfold addl
  rw [List.take_succ_eq_append_getElem h, List.take_succ_eq_append_getElem h', List.zipWith_append (by simp; omega)]
  simp [List.getD_eq_getElem?_getD, List.getElem?_eq_getElem h, List.getElem?_eq_getElem h']
theorem take_snoc' (xs : List Int) (j : Nat) (h : j < xs.length) : xs.take (j + 1) = xs.take j ++ [xs.getD j 0] := by
  rw [List.take_succ_eq_append_getElem h]
  simp [List.getD_eq_getElem?_getD, List.getElem?_eq_getElem h]
theorem Rng_snoc {xs : List Int} {j : Nat} {M : Int} (h : Rng (xs.take j) M) (hj : j < xs.length) (h1 : -M ≤ xs.getD j 0) (h2 : xs.getD j 0 ≤ M) : Rng (xs.take (j + 1)) M := by
  intro i hi
  by_cases hij : i < j
  · have := h i (by simp; omega)
    rw [show (xs.take (j + 1)).getD i 0 = (xs.take j).getD i 0 from by simp [List.getD_eq_getElem?_getD, List.getElem?_take, hij, show i < j + 1 by omega]]
    exact this
  · have : i = j := by simp at hi; omega
    subst this
    rw [show (xs.take (i + 1)).getD i 0 = xs.getD i 0 from by simp [List.getD_eq_getElem?_getD, List.getElem?_take]]
    exact ⟨h1, h2⟩
theorem ord_eq {a b : Nat} {x : Int} (ha : FW a x) (hb : FW b x) : FloatKind.f64.format.order a b = some .eq := by
  have h := FW_order ha hb
  have : compare x x = .eq := by simp
  rw [this] at h
  exact h

end Go.Proofs.Ytaombjljahpncaa
