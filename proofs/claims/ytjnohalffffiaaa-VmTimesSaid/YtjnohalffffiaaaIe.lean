/- iec: the kinds of values, and what a value of a kind is. -/
import Derived.Test.YtjnohalffffiaaaRi
set_option linter.unusedVariables false
set_option linter.unusedSimpArgs false
namespace Go.Proofs.Ytjnohalffffiaaa
open Go.RowKit

def ksize (k : Int) : Int := if k = 1 then 1 else if k = 2 then 1 else if k = 3 then 2 else if k = 4 then 4 else if k = 5 then 2 else if k = 6 then 2 else if k = 7 then 4 else 0
def ksg (k : Int) : Bool := decide (2 ≤ k ∧ k ≤ 4)
def kbits (k : Int) : Bool := decide (k = 1 ∨ k = 6 ∨ k = 7)
def kok (k : Int) : Bool := decide (1 ≤ k ∧ k ≤ 7)
def kname (k : Int) : ByteArray := if k = 1 then ⟨#[66, 79, 79, 76]⟩ else if k = 2 then ⟨#[83, 73, 78, 84]⟩ else if k = 3 then ⟨#[73, 78, 84]⟩ else if k = 4 then ⟨#[68, 73, 78, 84]⟩ else if k = 5 then ⟨#[85, 73, 78, 84]⟩ else if k = 6 then ⟨#[87, 79, 82, 68]⟩ else if k = 7 then ⟨#[68, 87, 79, 82, 68]⟩ else ⟨#[]⟩

def KINDS : Array Value := #[.string ⟨#[]⟩, .int .i64 0, .bool false, .bool false,
  .string ⟨#[66, 79, 79, 76]⟩, .int .i64 1, .bool false, .bool true,
  .string ⟨#[83, 73, 78, 84]⟩, .int .i64 1, .bool true, .bool false,
  .string ⟨#[73, 78, 84]⟩, .int .i64 2, .bool true, .bool false,
  .string ⟨#[68, 73, 78, 84]⟩, .int .i64 4, .bool true, .bool false,
  .string ⟨#[85, 73, 78, 84]⟩, .int .i64 2, .bool false, .bool false,
  .string ⟨#[87, 79, 82, 68]⟩, .int .i64 2, .bool false, .bool true,
  .string ⟨#[68, 87, 79, 82, 68]⟩, .int .i64 4, .bool false, .bool true]

set_option maxHeartbeats 1000000 in
theorem kinds_calls (w : World) :
    Calls Try.prog 103 #[] w fun e w' => e = .returned (.slice (some ⟨w.heap.size, 0, none⟩) 8 8) ∧ w' = w.alloc (.cells KINDS 148) := by
  go_enter Try.func103, Try.ntmps103
  go_wp2
  go_ret
  exact ⟨rfl, rfl⟩

def RetK (k : Int) (w : World) (e : Ending) (w' : World) : Prop :=
  e = .returned (.tuple #[.agg #[.string (kname k), .int .i64 (ksize k), .bool (ksg k), .bool (kbits k)], .bool (kok k)]) ∧ Below w.heap.size w w'

set_option maxHeartbeats 1000000 in
theorem of_calls (k : Int) (w : World) : Calls Try.prog 90 #[.int .i64 k] w (RetK k w) := by
  by_cases h : 1 ≤ k ∧ k ≤ 7
  · obtain ⟨h1, h2⟩ := h
    obtain rfl | rfl | rfl | rfl | rfl | rfl | rfl : k = 1 ∨ k = 2 ∨ k = 3 ∨ k = 4 ∨ k = 5 ∨ k = 6 ∨ k = 7 := by omega
    · clear h1 h2
      have q0 : KINDS[4]? = some (.string ⟨#[66, 79, 79, 76]⟩) := rfl
      have q1 : KINDS[5]? = some (.int .i64 1) := rfl
      have q2 : KINDS[6]? = some (.bool false) := rfl
      have q3 : KINDS[7]? = some (.bool true) := rfl
      go_enter Try.func90, Try.ntmps90
      go_wp2_with fail
      refine (kinds_calls _).mono ?_
      rintro e w' ⟨rfl, rfl⟩
      go_wp2_with fail
      refine bodyPost_ret (v := .tuple #[.agg #[.string ⟨#[66, 79, 79, 76]⟩, .int .i64 1, .bool false, .bool true], .bool true]) (by simp [results, Try.results90, go_sem]) rfl ⟨rfl, ?_⟩
      exact bel_a2 _ _ _
    · clear h1 h2
      have q0 : KINDS[8]? = some (.string ⟨#[83, 73, 78, 84]⟩) := rfl
      have q1 : KINDS[9]? = some (.int .i64 1) := rfl
      have q2 : KINDS[10]? = some (.bool true) := rfl
      have q3 : KINDS[11]? = some (.bool false) := rfl
      go_enter Try.func90, Try.ntmps90
      go_wp2_with fail
      refine (kinds_calls _).mono ?_
      rintro e w' ⟨rfl, rfl⟩
      go_wp2_with fail
      refine bodyPost_ret (v := .tuple #[.agg #[.string ⟨#[83, 73, 78, 84]⟩, .int .i64 1, .bool true, .bool false], .bool true]) (by simp [results, Try.results90, go_sem]) rfl ⟨rfl, ?_⟩
      exact bel_a2 _ _ _
    · clear h1 h2
      have q0 : KINDS[12]? = some (.string ⟨#[73, 78, 84]⟩) := rfl
      have q1 : KINDS[13]? = some (.int .i64 2) := rfl
      have q2 : KINDS[14]? = some (.bool true) := rfl
      have q3 : KINDS[15]? = some (.bool false) := rfl
      go_enter Try.func90, Try.ntmps90
      go_wp2_with fail
      refine (kinds_calls _).mono ?_
      rintro e w' ⟨rfl, rfl⟩
      go_wp2_with fail
      refine bodyPost_ret (v := .tuple #[.agg #[.string ⟨#[73, 78, 84]⟩, .int .i64 2, .bool true, .bool false], .bool true]) (by simp [results, Try.results90, go_sem]) rfl ⟨rfl, ?_⟩
      exact bel_a2 _ _ _
    · clear h1 h2
      have q0 : KINDS[16]? = some (.string ⟨#[68, 73, 78, 84]⟩) := rfl
      have q1 : KINDS[17]? = some (.int .i64 4) := rfl
      have q2 : KINDS[18]? = some (.bool true) := rfl
      have q3 : KINDS[19]? = some (.bool false) := rfl
      go_enter Try.func90, Try.ntmps90
      go_wp2_with fail
      refine (kinds_calls _).mono ?_
      rintro e w' ⟨rfl, rfl⟩
      go_wp2_with fail
      refine bodyPost_ret (v := .tuple #[.agg #[.string ⟨#[68, 73, 78, 84]⟩, .int .i64 4, .bool true, .bool false], .bool true]) (by simp [results, Try.results90, go_sem]) rfl ⟨rfl, ?_⟩
      exact bel_a2 _ _ _
    · clear h1 h2
      have q0 : KINDS[20]? = some (.string ⟨#[85, 73, 78, 84]⟩) := rfl
      have q1 : KINDS[21]? = some (.int .i64 2) := rfl
      have q2 : KINDS[22]? = some (.bool false) := rfl
      have q3 : KINDS[23]? = some (.bool false) := rfl
      go_enter Try.func90, Try.ntmps90
      go_wp2_with fail
      refine (kinds_calls _).mono ?_
      rintro e w' ⟨rfl, rfl⟩
      go_wp2_with fail
      refine bodyPost_ret (v := .tuple #[.agg #[.string ⟨#[85, 73, 78, 84]⟩, .int .i64 2, .bool false, .bool false], .bool true]) (by simp [results, Try.results90, go_sem]) rfl ⟨rfl, ?_⟩
      exact bel_a2 _ _ _
    · clear h1 h2
      have q0 : KINDS[24]? = some (.string ⟨#[87, 79, 82, 68]⟩) := rfl
      have q1 : KINDS[25]? = some (.int .i64 2) := rfl
      have q2 : KINDS[26]? = some (.bool false) := rfl
      have q3 : KINDS[27]? = some (.bool true) := rfl
      go_enter Try.func90, Try.ntmps90
      go_wp2_with fail
      refine (kinds_calls _).mono ?_
      rintro e w' ⟨rfl, rfl⟩
      go_wp2_with fail
      refine bodyPost_ret (v := .tuple #[.agg #[.string ⟨#[87, 79, 82, 68]⟩, .int .i64 2, .bool false, .bool true], .bool true]) (by simp [results, Try.results90, go_sem]) rfl ⟨rfl, ?_⟩
      exact bel_a2 _ _ _
    · clear h1 h2
      have q0 : KINDS[28]? = some (.string ⟨#[68, 87, 79, 82, 68]⟩) := rfl
      have q1 : KINDS[29]? = some (.int .i64 4) := rfl
      have q2 : KINDS[30]? = some (.bool false) := rfl
      have q3 : KINDS[31]? = some (.bool true) := rfl
      go_enter Try.func90, Try.ntmps90
      go_wp2_with fail
      refine (kinds_calls _).mono ?_
      rintro e w' ⟨rfl, rfl⟩
      go_wp2_with fail
      refine bodyPost_ret (v := .tuple #[.agg #[.string ⟨#[68, 87, 79, 82, 68]⟩, .int .i64 4, .bool false, .bool true], .bool true]) (by simp [results, Try.results90, go_sem]) rfl ⟨rfl, ?_⟩
      exact bel_a2 _ _ _
  · have hz : ksize k = 0 ∧ ksg k = false ∧ kbits k = false ∧ kok k = false ∧ kname k = ⟨#[]⟩ := by
      refine ⟨?_, ?_, ?_, ?_, ?_⟩
      · unfold ksize
        repeat rw [if_neg (by omega)]
      · unfold ksg
        exact decide_eq_false (by omega)
      · unfold kbits
        exact decide_eq_false (by omega)
      · unfold kok
        exact decide_eq_false (by omega)
      · unfold kname
        repeat rw [if_neg (by omega)]
    have HZ := hid hz
    clear hz
    by_cases h1 : k < 1
    · go_enter Try.func90, Try.ntmps90
      go_wp2_with fail
      refine bodyPost_ret (v := .tuple #[.agg #[.string ⟨#[]⟩, .int .i64 0, .bool false, .bool false], .bool false]) (by simp [results, Try.results90, go_sem]) rfl ?_
      unfold RetK
      rw [HZ.out.1, HZ.out.2.1, HZ.out.2.2.1, HZ.out.2.2.2.1, HZ.out.2.2.2.2]
      exact ⟨rfl, bel_a1 _ _⟩
    · have h2 : 7 < k := by omega
      go_enter Try.func90, Try.ntmps90
      go_wp2_with fail
      refine bodyPost_ret (v := .tuple #[.agg #[.string ⟨#[]⟩, .int .i64 0, .bool false, .bool false], .bool false]) (by simp [results, Try.results90, go_sem]) rfl ?_
      unfold RetK
      rw [HZ.out.1, HZ.out.2.1, HZ.out.2.2.1, HZ.out.2.2.2.1, HZ.out.2.2.2.2]
      exact ⟨rfl, bel_a1 _ _⟩

set_option maxHeartbeats 1000000 in
theorem Size_calls (k : Int) (w : World) :
    Calls Try.prog 76 #[.int .i64 k] w fun e w' => e = .returned (.int .i64 (ksize k)) ∧ Below w.heap.size w w' := by
  go_enter Try.func76, Try.ntmps76
  go_wp2_with fail
  refine (of_calls _ _).mono ?_
  rintro e w1 ⟨rfl, hb⟩
  have HB := hid hb
  clear hb
  go_wp2_with fail
  go_ret
  exact ⟨rfl, HB.out.alloc HB.out.size _⟩

/-- May an operation be done with a kind? -/
def may (op k : Int) : Bool := if kok k then if 7 ≤ op ∧ op ≤ 13 then kbits k else if 14 ≤ op ∧ op ≤ 18 then !kbits k else decide (19 ≤ op ∧ op ≤ 24) else false

set_option maxHeartbeats 1000000 in
theorem May_calls (op k : Int) (w : World) :
    Calls Try.prog 86 #[.int .i64 op, .int .i64 k] w fun e w' => e = .returned (.bool (may op k)) ∧ Below w.heap.size w w' := by
  cases hk : kok k with
  | false =>
    have HV : Hid (may op k = false) := by show may op k = false; unfold may; rw [if_neg (by rw [hk]; exact Bool.noConfusion)]
    have HK := hid hk
    clear hk
    rw [HV.out]
    go_enter Try.func86, Try.ntmps86
    go_wp2_with fail
    refine (of_calls _ _).mono ?_
    rintro e w1 ⟨rfl, hb⟩
    have HB := hid hb
    clear hb
    rw [HK.out]
    go_wp2_with fail
    go_ret
    exact ⟨rfl, bel_al HB.out _⟩
  | true =>
    have HV : Hid (may op k = if 7 ≤ op ∧ op ≤ 13 then kbits k else if 14 ≤ op ∧ op ≤ 18 then !kbits k else decide (19 ≤ op ∧ op ≤ 24)) := by show may op k = _; unfold may; rw [if_pos hk]
    have HK := hid hk
    clear hk
    by_cases h1 : 7 ≤ op ∧ op ≤ 13
    · have HW : Hid (may op k = kbits k) := by show may op k = _; rw [HV.out, if_pos h1]
      obtain ⟨h1, h2⟩ := h1
      rw [HW.out]
      go_enter Try.func86, Try.ntmps86
      go_wp2_with fail
      refine (of_calls _ _).mono ?_
      rintro e w1 ⟨rfl, hb⟩
      have HB := hid hb
      clear hb
      rw [HK.out]
      go_wp2_with fail
      go_ret
      exact ⟨rfl, bel_al HB.out _⟩
    by_cases h2 : 14 ≤ op ∧ op ≤ 18
    · have HW : Hid (may op k = !kbits k) := by show may op k = _; rw [HV.out, if_neg h1, if_pos h2]
      obtain ⟨h1, h2⟩ := h2
      rw [HW.out]
      go_enter Try.func86, Try.ntmps86
      go_wp2_with fail
      refine (of_calls _ _).mono ?_
      rintro e w1 ⟨rfl, hb⟩
      have HB := hid hb
      clear hb
      rw [HK.out]
      go_wp2_with fail
      go_ret
      exact ⟨rfl, bel_al HB.out _⟩
    have HW : Hid (may op k = decide (19 ≤ op ∧ op ≤ 24)) := by show may op k = _; rw [HV.out, if_neg h1, if_neg h2]
    by_cases h3 : 19 ≤ op
    · have HX : Hid (may op k = decide (op ≤ 24)) := by show may op k = _; rw [HW.out]; simp [h3]
      rw [HX.out]
      go_enter Try.func86, Try.ntmps86
      go_wp2_with fail
      refine (of_calls _ _).mono ?_
      rintro e w1 ⟨rfl, hb⟩
      have HB := hid hb
      clear hb
      rw [HK.out]
      go_wp2_with fail
      go_ret
      exact ⟨rfl, bel_al HB.out _⟩
    · have HX : Hid (may op k = false) := by show may op k = _; rw [HW.out]; simp [h3]
      rw [HX.out]
      go_enter Try.func86, Try.ntmps86
      go_wp2_with fail
      refine (of_calls _ _).mono ?_
      rintro e w1 ⟨rfl, hb⟩
      have HB := hid hb
      clear hb
      rw [HK.out]
      have h4 : op < 7 := by omega
      go_wp2_with fail
      go_ret
      exact ⟨rfl, bel_al HB.out _⟩

theorem i8_w (n : Int) : IntKind.i8.wrap n = (n + 128) % 256 - 128 := by
  simp only [IntKind.wrap, IntKind.bits, IntKind.signed]
  simp
  omega
theorem i16_w (n : Int) : IntKind.i16.wrap n = (n + 32768) % 65536 - 32768 := by
  simp only [IntKind.wrap, IntKind.bits, IntKind.signed]
  simp
  omega
theorem i32_w (n : Int) : IntKind.i32.wrap n = (n + 2147483648) % 4294967296 - 2147483648 := by
  simp only [IntKind.wrap, IntKind.bits, IntKind.signed]
  simp
  omega
theorem u16_w (n : Int) : IntKind.u16.wrap n = n % 65536 := by simp [IntKind.wrap, IntKind.bits, IntKind.signed]
theorem u32_w (n : Int) : IntKind.u32.wrap n = n % 4294967296 := by simp [IntKind.wrap, IntKind.bits, IntKind.signed]
theorem w64_i8 (n : Int) : wrap64 (IntKind.i8.wrap n) = IntKind.i8.wrap n := by rw [i8_w]; unfold wrap64; omega
theorem w64_i16 (n : Int) : wrap64 (IntKind.i16.wrap n) = IntKind.i16.wrap n := by rw [i16_w]; unfold wrap64; omega
theorem w64_i32 (n : Int) : wrap64 (IntKind.i32.wrap n) = IntKind.i32.wrap n := by rw [i32_w]; unfold wrap64; omega
theorem w64_u16 (n : Int) : wrap64 (IntKind.u16.wrap n) = IntKind.u16.wrap n := by rw [u16_w]; unfold wrap64; omega
theorem w64_u32 (n : Int) : wrap64 (IntKind.u32.wrap n) = IntKind.u32.wrap n := by rw [u32_w]; unfold wrap64; omega
/-- A number brought into a kind. -/
def wrapk (k v : Int) : Int := if k = 1 then (if v = 0 then 0 else 1) else if k = 2 then IntKind.i8.wrap v else if k = 3 then IntKind.i16.wrap v else if k = 4 then IntKind.i32.wrap v
  else if k = 5 then IntKind.u16.wrap v else if k = 6 then IntKind.u16.wrap v else if k = 7 then IntKind.u32.wrap v else 0

set_option maxHeartbeats 1000000 in
theorem Wrap_calls (k v : Int) (w : World) :
    Calls Try.prog 56 #[.int .i64 k, .int .i64 v] w fun e w' => e = .returned (.int .i64 (wrapk k v)) ∧ Below w.heap.size w w' := by
  by_cases h : 1 ≤ k ∧ k ≤ 7
  · obtain ⟨h1, h2⟩ := h
    obtain rfl | rfl | rfl | rfl | rfl | rfl | rfl : k = 1 ∨ k = 2 ∨ k = 3 ∨ k = 4 ∨ k = 5 ∨ k = 6 ∨ k = 7 := by omega
    · clear h1 h2
      have z1 : ksize 1 = 1 := rfl
      have z2 : ksg 1 = false := by decide
      have z3 : kbits 1 = true := by decide
      have z4 : kok 1 = true := by decide
      by_cases hv : v = 0
      · subst hv
        rw [show wrapk 1 0 = 0 from rfl]
        go_enter Try.func56, Try.ntmps56
        go_wp2_with fail
        refine (of_calls _ _).mono ?_
        rintro e w1 ⟨rfl, hb⟩
        have HB := hid hb
        clear hb
        go_wp2_with fail
        go_ret
        exact ⟨rfl, bel_al HB.out _⟩
      · have hv' : (v == 0) = false := by simpa using hv
        rw [show wrapk 1 v = 1 from by unfold wrapk; rw [if_pos rfl, if_neg hv]]
        go_enter Try.func56, Try.ntmps56
        go_wp2_with fail
        refine (of_calls _ _).mono ?_
        rintro e w1 ⟨rfl, hb⟩
        have HB := hid hb
        clear hb
        go_wp2_with fail
        go_ret
        exact ⟨rfl, bel_al HB.out _⟩
    · clear h1 h2
      have z1 : ksize 2 = 1 := rfl
      have z2 : ksg 2 = true := by decide
      have z3 : kbits 2 = false := by decide
      have z4 : kok 2 = true := by decide
      rw [show wrapk 2 v = IntKind.i8.wrap v from rfl]
      go_enter Try.func56, Try.ntmps56
      go_wp2_with fail
      refine (of_calls _ _).mono ?_
      rintro e w1 ⟨rfl, hb⟩
      have HB := hid hb
      clear hb
      go_wp2_with fail
      go_ret
      exact ⟨ret_int (w64_i8 v), bel_al HB.out _⟩
    · clear h1 h2
      have z1 : ksize 3 = 2 := rfl
      have z2 : ksg 3 = true := by decide
      have z3 : kbits 3 = false := by decide
      have z4 : kok 3 = true := by decide
      rw [show wrapk 3 v = IntKind.i16.wrap v from rfl]
      go_enter Try.func56, Try.ntmps56
      go_wp2_with fail
      refine (of_calls _ _).mono ?_
      rintro e w1 ⟨rfl, hb⟩
      have HB := hid hb
      clear hb
      go_wp2_with fail
      go_ret
      exact ⟨ret_int (w64_i16 v), bel_al HB.out _⟩
    · clear h1 h2
      have z1 : ksize 4 = 4 := rfl
      have z2 : ksg 4 = true := by decide
      have z3 : kbits 4 = false := by decide
      have z4 : kok 4 = true := by decide
      rw [show wrapk 4 v = IntKind.i32.wrap v from rfl]
      go_enter Try.func56, Try.ntmps56
      go_wp2_with fail
      refine (of_calls _ _).mono ?_
      rintro e w1 ⟨rfl, hb⟩
      have HB := hid hb
      clear hb
      go_wp2_with fail
      go_ret
      exact ⟨ret_int (by rw [i32_w]; unfold wrap32 wrap64; omega), bel_al HB.out _⟩
    · clear h1 h2
      have z1 : ksize 5 = 2 := rfl
      have z2 : ksg 5 = false := by decide
      have z3 : kbits 5 = false := by decide
      have z4 : kok 5 = true := by decide
      rw [show wrapk 5 v = IntKind.u16.wrap v from rfl]
      go_enter Try.func56, Try.ntmps56
      go_wp2_with fail
      refine (of_calls _ _).mono ?_
      rintro e w1 ⟨rfl, hb⟩
      have HB := hid hb
      clear hb
      go_wp2_with fail
      go_ret
      exact ⟨ret_int (w64_u16 v), bel_al HB.out _⟩
    · clear h1 h2
      have z1 : ksize 6 = 2 := rfl
      have z2 : ksg 6 = false := by decide
      have z3 : kbits 6 = true := by decide
      have z4 : kok 6 = true := by decide
      rw [show wrapk 6 v = IntKind.u16.wrap v from rfl]
      go_enter Try.func56, Try.ntmps56
      go_wp2_with fail
      refine (of_calls _ _).mono ?_
      rintro e w1 ⟨rfl, hb⟩
      have HB := hid hb
      clear hb
      go_wp2_with fail
      go_ret
      exact ⟨ret_int (w64_u16 v), bel_al HB.out _⟩
    · clear h1 h2
      have z1 : ksize 7 = 4 := rfl
      have z2 : ksg 7 = false := by decide
      have z3 : kbits 7 = true := by decide
      have z4 : kok 7 = true := by decide
      rw [show wrapk 7 v = IntKind.u32.wrap v from rfl]
      go_enter Try.func56, Try.ntmps56
      go_wp2_with fail
      refine (of_calls _ _).mono ?_
      rintro e w1 ⟨rfl, hb⟩
      have HB := hid hb
      clear hb
      go_wp2_with fail
      go_ret
      exact ⟨ret_int (by rw [u32_w]), bel_al HB.out _⟩
  · have z4 : kok k = false := by unfold kok; exact decide_eq_false h
    have hz : wrapk k v = 0 := by
      unfold wrapk
      repeat rw [if_neg (by omega)]
    rw [hz]
    have HZ := hid hz
    clear hz h
    go_enter Try.func56, Try.ntmps56
    go_wp2_with fail
    refine (of_calls _ _).mono ?_
    rintro e w1 ⟨rfl, hb⟩
    have HB := hid hb
    clear hb
    go_wp2_with fail
    go_ret
    exact ⟨rfl, bel_al HB.out _⟩

/-- A number that is a value of a kind. -/
def isk (k v : Int) : Bool := kok k && wrapk k v == v

set_option maxHeartbeats 1000000 in
theorem Is_calls (k v : Int) (w : World) :
    Calls Try.prog 74 #[.int .i64 k, .int .i64 v] w fun e w' => e = .returned (.bool (isk k v)) ∧ Below w.heap.size w w' := by
  cases hk : kok k with
  | false =>
    have HK := hid hk
    rw [show isk k v = false from by unfold isk; rw [hk]; rfl]
    clear hk
    go_enter Try.func74, Try.ntmps74
    go_wp2_with fail
    refine (of_calls _ _).mono ?_
    rintro e w1 ⟨rfl, hb⟩
    have HB := hid hb
    clear hb
    rw [HK.out]
    go_wp2_with fail
    go_ret
    exact ⟨rfl, bel_al HB.out _⟩
  | true =>
    have HK := hid hk
    rw [show isk k v = (wrapk k v == v) from by unfold isk; rw [hk]; rfl]
    clear hk
    go_enter Try.func74, Try.ntmps74
    go_wp2_with fail
    refine (of_calls _ _).mono ?_
    rintro e w1 ⟨rfl, hb⟩
    have HB := hid hb
    clear hb
    rw [HK.out]
    go_wp2_with fail
    refine (Wrap_calls _ _ _).mono ?_
    rintro e w2 ⟨rfl, hb2⟩
    have HB2 := hid hb2
    clear hb2
    go_wp2_with fail
    go_ret
    exact ⟨rfl, (bel_al HB.out _).trans (HB2.out.mono (by have := HB.out.size; simp; omega))⟩
end Go.Proofs.Ytjnohalffffiaaa
