/- iec: values in bytes, operations on values: as functions. -/
import Derived.Test.YtjnohalffffiaaaIr
set_option linter.unusedVariables false
set_option linter.unusedSimpArgs false
namespace Go.Proofs.Ytjnohalffffiaaa
open Go.RowKit

def notk (k v : Int) : Int := if may 13 k = false ∨ isk k v = false then 0 else if k = 1 then 1 - v else wrapk k (bits .xor .i64 (-1) v)
def yesI (b : Bool) : Int := if b then 1 else 0
def quoI (a b : Int) : Int := if b = 0 then 0 else wrap64 (Int.tdiv a b)
def remI (a b : Int) : Int := if b = 0 then 0 else Int.tmod a b
/-- An operation on numbers. -/
def rawk (op a b : Int) : Int :=
  if op = 7 then bits .and .i64 a b else if op = 8 then bits .or .i64 a b else if op = 9 then bits .xor .i64 a b
  else if op = 14 then wrap64 (a + b) else if op = 15 then wrap64 (a - b) else if op = 16 then wrap64 (a * b)
  else if op = 17 then quoI a b else if op = 18 then remI a b
  else if op = 19 then yesI (decide (b < a)) else if op = 20 then yesI (decide (b ≤ a)) else if op = 21 then yesI (a == b) else if op = 22 then yesI (a != b)
  else if op = 23 then yesI (decide (a ≤ b)) else yesI (decide (a < b))
def negop (op : Int) : Bool := decide (10 ≤ op) && decide (op ≤ 12)
/-- An operation on two values of a kind; the error. -/
def dok (op k a b : Int) : Int × Int :=
  if op = 13 ∨ may op k = false then (0, 6)
  else if isk k a = false ∨ isk k b = false then (0, 1)
  else if negop op then (wrapk k (rawk (op - 3) a (notk k b)), 0)
  else if op < 19 then (wrapk k (rawk op a b), 0) else (rawk op a b, 0)

/-- The byte at a place. -/
def byt (s : ByteArray) (i : Nat) : Int := ((s.data.toList.getD i 0).toNat : Int)
theorem byt_range (s : ByteArray) (i : Nat) : 0 ≤ byt s i ∧ byt s i ≤ 255 := by
  unfold byt
  have := (s.data.toList.getD i 0).toNat_lt
  omega
/-- A number out of n bytes, the greatest first. -/
def getB (s : ByteArray) (i : Nat) : Nat → Int
  | 0 => 0
  | n + 1 => getB s i n * 256 + byt s (i + n)
theorem getB_range (s : ByteArray) (i n : Nat) : 0 ≤ getB s i n ∧ getB s i n ≤ 256 ^ n - 1 := by
  induction n with
  | zero => simp [getB]
  | succ n ih =>
    have := byt_range s (i + n)
    have h : (256 : Int) ^ (n + 1) = 256 ^ n * 256 := by rw [Int.pow_succ]
    rw [getB, h]
    omega
/-- One byte set. -/
def setB (s : ByteArray) (i : Nat) (v : Int) : ByteArray := ⟨(s.data.toList.set i (UInt8.ofNat (v % 256).toNat)).toArray⟩
set_option maxRecDepth 4000 in
theorem setB_size (s : ByteArray) (i : Nat) (v : Int) : (setB s i v).size = s.size := by
  show (s.data.toList.set i _).toArray.size = s.data.size
  rw [List.size_toArray, List.length_set, Array.length_toList]
theorem u8of (v : Int) : ((UInt8.ofNat (v % 256).toNat).toNat : Int) = v % 256 := by
  have : (v % 256).toNat < 256 := by omega
  rw [UInt8.toNat_ofNat_of_lt' this]
  omega
theorem byt_setB (s : ByteArray) (i j : Nat) (v : Int) (hi : i < s.size) : byt (setB s i v) j = if j = i then v % 256 else byt s j := by
  have hs : s.data.toList.length = s.size := Array.length_toList
  unfold byt setB
  have hv := u8of v
  generalize UInt8.ofNat (v % 256).toNat = x at hv ⊢
  simp only [List.getD_eq_getElem?_getD]
  by_cases h : j = i
  · subst h
    rw [if_pos rfl, List.getElem?_set_self (by omega)]
    exact hv
  · rw [if_neg h, List.getElem?_set_ne (Ne.symm h)]
theorem byt_ext {s t : ByteArray} (hl : s.size = t.size) (h : ∀ i, i < s.size → byt s i = byt t i) : s = t := by
  obtain ⟨⟨l⟩⟩ := s
  obtain ⟨⟨m⟩⟩ := t
  have hl' : l.length = m.length := hl
  congr 2
  refine List.ext_getElem hl' fun i h1 h2 => ?_
  have := h i h1
  simp [byt, List.getElem?_eq_getElem h1, List.getElem?_eq_getElem h2] at this
  exact UInt8.toNat_inj.1 (by exact_mod_cast this)
/-- n bytes set, the greatest first. -/
def putB (s : ByteArray) (i : Nat) : Nat → Int → ByteArray
  | 0, _ => s
  | n + 1, v => putB (setB s (i + n) v) i n (v / 256)
theorem putB_size (s : ByteArray) (i n : Nat) (v : Int) : (putB s i n v).size = s.size := by
  induction n generalizing s v with
  | zero => rfl
  | succ n ih => rw [putB, ih, setB_size]
theorem byt_putB (s : ByteArray) (i n j : Nat) (v : Int) (h : i + n ≤ s.size) : byt (putB s i n v) j = if i ≤ j ∧ j < i + n then v / 256 ^ (i + n - 1 - j) % 256 else byt s j := by
  induction n generalizing s v with
  | zero => rw [putB, if_neg (by omega)]
  | succ n ih =>
    rw [putB, ih _ _ (by rw [setB_size]; omega), byt_setB _ _ _ _ (by omega)]
    by_cases h1 : i ≤ j ∧ j < i + n
    · rw [if_pos h1, if_pos (by omega), show i + (n + 1) - 1 - j = (i + n - 1 - j) + 1 by omega, Int.pow_succ, Int.mul_comm, Int.ediv_ediv_of_nonneg (by omega)]
    · rw [if_neg h1]
      by_cases h2 : j = i + n
      · rw [if_pos h2, if_pos (by omega), show i + (n + 1) - 1 - j = 0 by omega]
        simp
      · rw [if_neg h2, if_neg (by omega)]

def getk (s : ByteArray) (at_ k : Int) : Int := wrapk k (getB s at_.toNat (ksize k).toNat)
def putk (s : ByteArray) (at_ k v : Int) : ByteArray := putB s at_.toNat (ksize k).toNat (wrapk k v)
theorem putk_size (s : ByteArray) (at_ k v : Int) : (putk s at_ k v).size = s.size := putB_size _ _ _ _

end Go.Proofs.Ytjnohalffffiaaa
