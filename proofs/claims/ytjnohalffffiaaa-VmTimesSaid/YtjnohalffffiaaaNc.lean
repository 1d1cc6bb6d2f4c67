/- iec.Get. -/
import Derived.Test.YtjnohalffffiaaaNb
import Derived.Laws.IdiomStrings
set_option linter.unusedVariables false
set_option linter.unusedSimpArgs false
namespace Go.Proofs.Ytjnohalffffiaaa
open Go.RowKit

/-- Block b holds the bytes of s, and none of them is frozen. -/
def ByB (w : World) (b : Nat) (s : ByteArray) : Prop :=
  ∃ cs fr, w.heap[b]? = some (.cells cs 5 (fr, fr + 1)) ∧ s.size ≤ fr ∧ ∀ j, j < s.size → cs[j]? = some (.int .u8 (byt s j))
section
variable {w w' : World} {b : Nat} {s : ByteArray}
theorem ByB.lt (h : ByB w b s) : b < w.heap.size := by
  obtain ⟨cs, fr, h1, _⟩ := h
  exact lt_of_block h1
theorem ByB.cell (h : ByB w b s) (j : Nat) (hj : j < s.size) : w.cell? ⟨b, j, none⟩ = some (.int .u8 (byt s j)) := by
  obtain ⟨cs, fr, h1, h2, h3⟩ := h
  simp [World.cell?, h1, h3 j hj]
theorem ByB.free (h : ByB w b s) (j : Nat) (hj : j < s.size) : w.frozen? ⟨b, j, none⟩ = false := by
  obtain ⟨cs, fr, h1, h2, h3⟩ := h
  simp [World.frozen?, h1]
  omega
theorem ByB.set (h : ByB w b s) (i : Nat) (v : Int) (hi : i < s.size) : ByB (w.setCell ⟨b, i, none⟩ (.int .u8 (v % 256))) b (setB s i v) := by
  have hlt := h.lt
  obtain ⟨cs, fr, h1, h2, h3⟩ := h
  have h' : w.heap[b] = .cells cs 5 (fr, fr + 1) := by simpa [Array.getElem?_eq_getElem hlt] using h1
  refine ⟨cs.setIfInBounds i (.int .u8 (v % 256)), fr, ?_, by rw [setB_size]; exact h2, fun j hj => ?_⟩
  · show (w.heap.modify b _)[b]? = _
    rw [Array.getElem?_eq_getElem (by simpa using hlt), Array.getElem_modify_self, h']
    rfl
  · rw [setB_size] at hj
    have hc := h3 j hj
    rw [byt_setB _ _ _ _ hi, Array.getElem?_setIfInBounds]
    by_cases e : j = i
    · subst e
      have hlt2 : j < cs.size := (Array.getElem?_eq_some_iff.1 hc).1
      simp [hlt2]
    · rw [if_neg (Ne.symm e), if_neg e, hc]
theorem ByB.other (h : ByB w b s) {a : Addr} (hne : b ≠ a.block) (v : Value) : ByB (w.setCell a v) b s := by
  obtain ⟨cs, fr, h1, h2, h3⟩ := h
  exact ⟨cs, fr, by rw [Below.heap_setCell w a v b hne]; exact h1, h2, h3⟩
theorem ByB.belowB {B : Nat} (h : ByB w b s) (hb : Below B w w') (hB : b < B) : ByB w' b s := by
  obtain ⟨cs, fr, h1, h2, h3⟩ := h
  exact ⟨cs, fr, by rw [hb.block b hB]; exact h1, h2, h3⟩
theorem ByB.below (h : ByB w b s) (hb : Below w.heap.size w w') : ByB w' b s := h.belowB hb h.lt
theorem ByB.alloc (h : ByB w b s) (o : Obj) : ByB (w.alloc o) b s := h.below (bel_a1 w o)
theorem ByB.drew (h : ByB w b s) : ByB w.drew b s := h
theorem ByB.type (h : ByB w b s) {cs : Array Value} {t : TypeId} (h' : Blk w b cs t) : False := by
  obtain ⟨cs', fr, h1, h2, h3⟩ := h
  unfold Blk at h'
  rw [h1] at h'
  injection h' with h'
  injection h' with _ _ h'
  injection h' with h4 h5
  omega
/-- The string of the bytes. -/
theorem ByB.back (h : ByB w b s) (cap : Nat) (m : Nat) (hm : s.size = m) : (convert 44 9 (.slice (some ⟨b, 0, none⟩) m cap)).run Try.prog w = .ok (.string s) w := by
  subst hm
  have := run_convert_bytes_back (P := Try.prog) w 44 9 5 ⟨b, 0, none⟩ cap s.data.toList Try.underlying44 Try.underlying5 Try.underlying9 (fun j hj => by
    rw [add_pl, Nat.zero_add, h.cell j (by show j < s.data.size; rw [← Array.length_toList]; exact hj)]
    simp [byt, List.getElem?_eq_getElem hj])
  rw [Array.length_toList] at this
  exact this
end
/-- What a conversion lays. -/
theorem ByB.new (w : World) (s : ByteArray) (cap : Nat) : ByB (w.alloc (.cells (bytesRow s cap) 5 ((bytesRow s cap).size, (bytesRow s cap).size + 1))) w.heap.size s := by
  refine ⟨bytesRow s cap, (bytesRow s cap).size, ?_, ?_, fun j hj => ?_⟩
  · show (w.heap.push _)[w.heap.size]? = _
    simp
  · unfold bytesRow
    rw [Array.size_append, Array.size_map]
    exact Nat.le_add_right _ _
  · have hj' : j < s.data.size := hj
    rw [bytesRow_at s cap j hj']
    simp [byt, List.getElem?_eq_getElem (show j < s.data.toList.length by simpa using hj')]

theorem bel_drew1 {w w1 : World} (h : Below w.heap.size w w1) (o : Obj) : Below w.heap.size w (w1.drew.alloc o) := h.drew.alloc h.size _

theorem ksize_cases (k : Int) (h : 0 < ksize k) : ∃ n : Nat, ksize k = n ∧ 1 ≤ n ∧ n ≤ 4 := by
  refine ⟨(ksize k).toNat, ?_⟩
  have : ksize k ≤ 4 := by
    unfold ksize
    repeat' split
    all_goals omega
  omega

theorem or_byte (v b : Int) (h0 : 0 ≤ v) (h1 : v ≤ 16777215) (h2 : 0 ≤ b) (h3 : b ≤ 255) : bits .or .i64 (wrap64 (v * 256)) (wrap64 b) = v * 256 + b := by
  obtain ⟨x, rfl⟩ : ∃ x : Nat, v = x := ⟨v.toNat, by omega⟩
  obtain ⟨y, rfl⟩ : ∃ y : Nat, b = y := ⟨b.toNat, by omega⟩
  rw [wrap_id (by omega) (by omega), wrap_id (by omega) (by omega)]
  have e1 : ((x : Int) * 256) = ((2 ^ 8 * x : Nat) : Int) := by omega
  rw [e1]
  have e : ((BitVec.ofInt 64 ((2 ^ 8 * x : Nat) : Int)) ||| (BitVec.ofInt 64 (y : Int))).toNat = 2 ^ 8 * x + y := by
    rw [BitVec.toNat_or, BitVec.ofInt_natCast, BitVec.ofInt_natCast, BitVec.toNat_ofNat, BitVec.toNat_ofNat, Nat.mod_eq_of_lt (by omega), Nat.mod_eq_of_lt (by omega), Nat.two_pow_add_eq_or_of_lt (by omega)]
  unfold bits
  show IntKind.i64.wrap (((BitVec.ofInt 64 ((2 ^ 8 * x : Nat) : Int)) ||| (BitVec.ofInt 64 (y : Int))).toNat : Int) = _
  rw [e, IntKind.wrap_i64]
  skip
  omega

set_option maxRecDepth 10000 in
set_option maxHeartbeats 2000000 in
theorem Get_calls (s : ByteArray) (at_ k : Int) (hs : s.size = 64) (h1 : 0 < ksize k) (h2 : 0 ≤ at_) (h3 : at_ + ksize k ≤ 64) (w : World) :
    Calls Try.prog 101 #[.string s, .int .i64 at_, .int .i64 k] w fun e w' => e = .returned (.tuple #[.int .i64 (getk s at_ k), .bool true]) ∧ Below w.heap.size w w' := by
  obtain ⟨n, hn, hn1, hn4⟩ := ksize_cases k h1
  obtain ⟨m, rfl⟩ : ∃ m : Nat, at_ = m := ⟨at_.toNat, by omega⟩
  rw [hn] at h1 h3
  have HN := hid hn
  have HS := hid hs
  have hgk : getk s m k = wrapk k (getB s m n) := by unfold getk; rw [hn]; rfl
  rw [hgk]
  have hconv := fun (w : World) (t : ByteArray) => run_bytes_of_string (P := Try.prog) w 9 44 5 t Try.underlying9 Try.underlying44 Try.underlying5
  clear hn hgk
  have hw1 : IntKind.i64.wrap ((m : Int) + (n : Int)) = (m : Int) + (n : Int) := by rw [IntKind.wrap_i64]; omega
  go_enter Try.func101, Try.ntmps101
  go_wp2_with fail
  refine (there_calls _ _ _ (by rw [HN.out]; omega) (by omega) (by rw [HN.out]; omega) (by omega) _).mono ?_
  rintro e w1 ⟨rfl, hb⟩
  have HB := hid hb
  clear hb
  go_wp2_with fail
  refine (Size_calls _ _).mono ?_
  rintro e w2 ⟨rfl, hb⟩
  have HB2 := hid (below_trans HB.out hb)
  rw [HN.out]
  clear hb HB
  go_wp2_with fail
  have hmin : min (m + n) 64 - m = n := by omega
  rw [hmin]
  have hsz : (s.extract m (m + n)).size = n := by rw [ByteArray.size_extract, HS.out]; exact hmin
  have hby : ∀ j, j < n → byt (s.extract m (m + n)) j = byt s (m + j) := by
    intro j hj
    unfold byt
    simp only [List.getD_eq_getElem?_getD]
    have e : (s.extract m (m + n)).data.toList[j]? = s.data.toList[m + j]? := by
      rw [ByteArray.data_extract, Array.getElem?_toList, Array.getElem?_toList, Array.getElem?_extract, if_pos (by have : s.data.size = 64 := HS.out; omega)]
    rw [e]
  have hbb := ByB.new w2 (s.extract m (m + n)) (grownCap w2 n 0 5)
  generalize hW : (w2.alloc (.cells (bytesRow (s.extract m (m + n)) (grownCap w2 n 0 5)) 5 ((bytesRow (s.extract m (m + n)) (grownCap w2 n 0 5)).size, (bytesRow (s.extract m (m + n)) (grownCap w2 n 0 5)).size + 1))) = W at *
  have HBW : Hid (Below w.heap.size w W.drew) := by subst hW; exact hid (bel_al HB2.out _).drew
  have hcell : ∀ j, j < n → W.cell? ⟨w2.heap.size, j, none⟩ = some (.int .u8 (byt s (m + j))) := by
    intro j hj
    rw [← hby j hj]
    exact hbb.cell j (by omega)
  have HC := hid hcell
  generalize w2.heap.size = B at *
  clear hW hbb hby hsz hmin HB2 hconv hcell
  generalize grownCap w2 n 0 5 = cp
  go_loopw [8, 26] (fun v x wr => ∃ j : Nat, j ≤ n ∧ v = .int .i64 (getB s m j) ∧ x = .int .i64 j ∧ wr = W.drew) (fun _ x _ => n - (intOf x).toNat)
  case atStart => exact ⟨0, Nat.zero_le _, rfl, rfl, rfl⟩
  case round =>
    obtain ⟨j, hj, rfl, rfl, rfl⟩ := hrel
    by_cases hlt : j < n
    · have hd : decide ((j : Int) < (n : Int)) = true := by simp; omega
      have c0 := HC.out j hlt
      go_wp2_with fail
      refine ⟨⟨j + 1, hlt, ?_, by first | rfl | (simp; done), trivial⟩, by simp [intOf]; omega⟩
      have hg := getB_range s m j
      have hp : (256 : Int) ^ j ≤ 256 ^ 3 := by
        have : (256 : Nat) ^ j ≤ 256 ^ 3 := Nat.pow_le_pow_right (by omega) (by omega)
        exact_mod_cast this
      have hr := byt_range s (m + j)
      rw [or_byte _ _ hg.1 (by omega) hr.1 hr.2]
      rfl
    · obtain rfl : j = n := by omega
      have hd : decide ((j : Int) < (j : Int)) = false := by simp
      go_wp2_with fail
      refine (Wrap_calls _ _ _).mono ?_
      rintro e w3 ⟨rfl, hb⟩
      have HB3 := hid (below_trans HBW.out hb)
      clear hb
      go_wp2_with fail
      go_ret2
      exact ⟨rfl, HB3.out⟩
end Go.Proofs.Ytjnohalffffiaaa
