/- il: which instructions may be. -/
import Derived.Test.YtjnohalffffiaaaIl
set_option linter.unusedVariables false
set_option linter.unusedSimpArgs false
namespace Go.Proofs.Ytjnohalffffiaaa
open Go.RowKit

/-- An instruction. -/
structure Ins where
  op : Int
  kind : Int
  area : Int
  at_ : Int
  n : Int

def Ins.val (i : Ins) : Value := .agg #[.int .i64 i.op, .int .i64 i.kind, .int .i64 i.area, .int .i64 i.at_, .int .i64 i.n]

def keepb (a : Int) : Bool := a == 3 || a == 4

set_option maxRecDepth 10000 in
set_option maxHeartbeats 1000000 in
theorem keeps_calls (a : Int) (w : World) : Calls Try.prog 78 #[.int .i64 a] w fun e w' => e = .returned (.bool (keepb a)) ∧ w' = w := by
  go_enter Try.func78, Try.ntmps78
  go_wp2_with fail
  all_goals
    go_ret
    exact ⟨ret_bool (by simp_all [keepb]), rfl⟩

@[go_sem] theorem fldOp (s : ByteArray) (c : Int) (w : World) : (Instr.field 134 (.agg #[.string s, .int .i64 c]) 1).run Try.prog w = .ok (.int .i64 c) w := by kernel_rfl

def withinb (op : Int) : Bool := cls op == 1 && decide (7 ≤ op)

set_option maxRecDepth 10000 in
set_option maxHeartbeats 1000000 in
theorem within_calls (op : Int) (w : World) : Calls Try.prog 77 #[.int .i64 op] w fun e w' => e = .returned (.bool (withinb op)) ∧ Below w.heap.size w w' := by
  go_enter Try.func77, Try.ntmps77
  go_wp2_with fail
  refine (opof_calls _ _).mono ?_
  rintro e w1 ⟨rfl, hb⟩
  have HB := hid hb
  obtain ⟨c, hc⟩ : ∃ c, cls op = c := ⟨_, rfl⟩
  have HC := hid hc
  rw [hc]
  clear hb hc
  generalize onm op = s at *
  go_wp2_with fail
  all_goals
    go_ret
    exact ⟨ret_bool (by unfold withinb; rw [HC.out]; simp_all), HB.out⟩

def standsb (i : Ins) (least : Int) : Bool := decide (0 < ksize i.kind) && (decide (least ≤ i.area) && (decide (i.area ≤ 4) && (decide (0 ≤ i.at_) && (decide (i.at_ ≤ 64 - ksize i.kind) && i.n == 0))))

theorem ksize_bd (k : Int) : 0 ≤ ksize k ∧ ksize k ≤ 4 := by
  unfold ksize
  repeat' split
  all_goals omega

theorem and_left {a b : Bool} (h : a = false) : (a && b) = false := by rw [h]; rfl

set_option maxRecDepth 10000 in
set_option maxHeartbeats 2000000 in
theorem stands_calls (i : Ins) (least : Int) (w : World) : Calls Try.prog 75 #[i.val, .int .i64 least] w fun e w' => e = .returned (.bool (standsb i least)) ∧ Below w.heap.size w w' := by
  obtain ⟨op, kind, area, at_, n⟩ := i
  unfold Ins.val
  dsimp only
  go_enter Try.func75, Try.ntmps75
  go_wp2_with fail
  refine (Size_calls _ _).mono ?_
  rintro e w1 ⟨rfl, hb⟩
  have B1 := (Blk.new w #[.int .i64 op, .int .i64 kind, .int .i64 area, .int .i64 at_, .int .i64 n] 48).below hb
  have HB := hid (below_trans (bel_a1 _ _) hb)
  have c1 := B1.cell 1 _ rfl
  have c2 := B1.cell 2 _ rfl
  have c3 := B1.cell 3 _ rfl
  have c4 := B1.cell 4 _ rfl
  clear B1 hb
  obtain ⟨z1, z2⟩ := ksize_bd kind
  obtain ⟨z, hz⟩ : ∃ z, ksize kind = z := ⟨_, rfl⟩
  have HZ := hid hz
  rw [hz] at z1 z2
  rw [hz]
  clear hz
  go_wp2_with fail
  all_goals
    go_ret
    exact ⟨ret_bool (by unfold standsb; rw [HZ.out]; first | (simp_all; done) | (simp_all; intros; omega)), HB.out⟩

theorem stands_at (op kind area at_ n least : Int) (w : World) : Calls Try.prog 75 #[.agg #[.int .i64 op, .int .i64 kind, .int .i64 area, .int .i64 at_, .int .i64 n], .int .i64 least] w fun e w' => e = .returned (.bool (standsb ⟨op, kind, area, at_, n⟩ least)) ∧ Below w.heap.size w w' :=
  stands_calls ⟨op, kind, area, at_, n⟩ least w

def plainb (i : Ins) : Bool := i.area == 0 && i.n == 0
/-- May an instruction be? -/
def rightb (i : Ins) : Bool :=
  if cls i.op = 1 then (if i.area = 0 then i.at_ == 0 && isk i.kind i.n else standsb i 1)
  else if cls i.op = 2 then standsb i 2
  else if cls i.op = 3 then plainb i && (i.kind == 0 && (decide (0 ≤ i.at_) && decide (i.at_ ≤ 200)))
  else if cls i.op = 4 then plainb i && (i.kind == 0 && i.at_ == 0)
  else if cls i.op = 5 then plainb i && (i.at_ == 0 && decide (0 < ksize i.kind))
  else if cls i.op = 6 then plainb i && (i.kind == 0 && withinb i.at_)
  else if cls i.op = 7 then i.kind == 0 && (keepb i.area && (decide (0 ≤ i.at_) && (decide (i.at_ ≤ 59) && (decide (1 ≤ i.n) && decide (i.n ≤ 9999)))))
  else if cls i.op = 8 then i.kind == 0 && (keepb i.area && (decide (0 ≤ i.at_) && (decide (i.at_ < 64) && i.n == 0)))
  else false

def RetB (b : Bool) (w : World) (e : Ending) (w' : World) : Prop := e = .returned (.bool b) ∧ Below w.heap.size w w'

set_option maxRecDepth 10000 in
set_option maxHeartbeats 4000000 in
theorem Right_3 (i : Ins) (w : World) (hcls : cls i.op = 3) (hp : True) : Calls Try.prog 47 #[i.val] w (RetB (plainb i && (i.kind == 0 && (decide (0 ≤ i.at_) && decide (i.at_ ≤ 200)))) w) := by
  obtain ⟨op, kind, area, at_, n⟩ := i
  unfold Ins.val
  dsimp only at *
  go_enter Try.func47, Try.ntmps47
  go_wp2_with fail
  refine (opof_calls _ _).mono ?_
  rintro e w1 ⟨rfl, hb⟩
  have B1 := (Blk.new w #[.int .i64 op, .int .i64 kind, .int .i64 area, .int .i64 at_, .int .i64 n] 48).below hb
  have HB := hid (below_trans (bel_a1 _ _) hb)
  have HB1 := hid B1
  have c0 := B1.cell 0 _ rfl
  have c1 := B1.cell 1 _ rfl
  have c2 := B1.cell 2 _ rfl
  have c3 := B1.cell 3 _ rfl
  have c4 := B1.cell 4 _ rfl
  clear B1 hb
  rw [hcls]
  clear hcls hp
  generalize onm op = s at *
  go_wp2_with (first
    | (go_at_call 74; (with_reducible refine (Is_calls _ _ _).mono ?_); rintro e w2 ⟨rfl, hb2⟩)
    | (go_at_call 76; (with_reducible refine (Size_calls _ _).mono ?_); rintro e w2 ⟨rfl, hb2⟩)
    | (go_at_call 78; (with_reducible refine (keeps_calls _ _).mono ?_); rintro e w2 ⟨rfl, rfl⟩)
    | (go_at_call 77; (with_reducible refine (within_calls _ _).mono ?_); rintro e w2 ⟨rfl, hb2⟩))
  all_goals
    go_ret
    exact ⟨ret_bool (by first | (simp_all [plainb]; done) | (simp_all [plainb]; intros; omega)), by first | exact HB.out | exact below_trans HB.out (by assumption)⟩

set_option maxRecDepth 10000 in
set_option maxHeartbeats 4000000 in
theorem Right_4 (i : Ins) (w : World) (hcls : cls i.op = 4) (hp : True) : Calls Try.prog 47 #[i.val] w (RetB (plainb i && (i.kind == 0 && i.at_ == 0)) w) := by
  obtain ⟨op, kind, area, at_, n⟩ := i
  unfold Ins.val
  dsimp only at *
  go_enter Try.func47, Try.ntmps47
  go_wp2_with fail
  refine (opof_calls _ _).mono ?_
  rintro e w1 ⟨rfl, hb⟩
  have B1 := (Blk.new w #[.int .i64 op, .int .i64 kind, .int .i64 area, .int .i64 at_, .int .i64 n] 48).below hb
  have HB := hid (below_trans (bel_a1 _ _) hb)
  have HB1 := hid B1
  have c0 := B1.cell 0 _ rfl
  have c1 := B1.cell 1 _ rfl
  have c2 := B1.cell 2 _ rfl
  have c3 := B1.cell 3 _ rfl
  have c4 := B1.cell 4 _ rfl
  clear B1 hb
  rw [hcls]
  clear hcls hp
  generalize onm op = s at *
  go_wp2_with (first
    | (go_at_call 74; (with_reducible refine (Is_calls _ _ _).mono ?_); rintro e w2 ⟨rfl, hb2⟩)
    | (go_at_call 76; (with_reducible refine (Size_calls _ _).mono ?_); rintro e w2 ⟨rfl, hb2⟩)
    | (go_at_call 78; (with_reducible refine (keeps_calls _ _).mono ?_); rintro e w2 ⟨rfl, rfl⟩)
    | (go_at_call 77; (with_reducible refine (within_calls _ _).mono ?_); rintro e w2 ⟨rfl, hb2⟩))
  all_goals
    go_ret
    exact ⟨ret_bool (by first | (simp_all [plainb]; done) | (simp_all [plainb]; intros; omega)), by first | exact HB.out | exact below_trans HB.out (by assumption)⟩

set_option maxRecDepth 10000 in
set_option maxHeartbeats 4000000 in
theorem Right_5 (i : Ins) (w : World) (hcls : cls i.op = 5) (hp : True) : Calls Try.prog 47 #[i.val] w (RetB (plainb i && (i.at_ == 0 && decide (0 < ksize i.kind))) w) := by
  obtain ⟨op, kind, area, at_, n⟩ := i
  unfold Ins.val
  dsimp only at *
  go_enter Try.func47, Try.ntmps47
  go_wp2_with fail
  refine (opof_calls _ _).mono ?_
  rintro e w1 ⟨rfl, hb⟩
  have B1 := (Blk.new w #[.int .i64 op, .int .i64 kind, .int .i64 area, .int .i64 at_, .int .i64 n] 48).below hb
  have HB := hid (below_trans (bel_a1 _ _) hb)
  have HB1 := hid B1
  have c0 := B1.cell 0 _ rfl
  have c1 := B1.cell 1 _ rfl
  have c2 := B1.cell 2 _ rfl
  have c3 := B1.cell 3 _ rfl
  have c4 := B1.cell 4 _ rfl
  clear B1 hb
  rw [hcls]
  clear hcls hp
  generalize onm op = s at *
  go_wp2_with (first
    | (go_at_call 74; (with_reducible refine (Is_calls _ _ _).mono ?_); rintro e w2 ⟨rfl, hb2⟩)
    | (go_at_call 76; (with_reducible refine (Size_calls _ _).mono ?_); rintro e w2 ⟨rfl, hb2⟩)
    | (go_at_call 78; (with_reducible refine (keeps_calls _ _).mono ?_); rintro e w2 ⟨rfl, rfl⟩)
    | (go_at_call 77; (with_reducible refine (within_calls _ _).mono ?_); rintro e w2 ⟨rfl, hb2⟩))
  all_goals
    go_ret
    exact ⟨ret_bool (by first | (simp_all [plainb]; done) | (simp_all [plainb]; intros; omega)), by first | exact HB.out | exact below_trans HB.out (by assumption)⟩

set_option maxRecDepth 10000 in
set_option maxHeartbeats 4000000 in
theorem Right_6 (i : Ins) (w : World) (hcls : cls i.op = 6) (hp : True) : Calls Try.prog 47 #[i.val] w (RetB (plainb i && (i.kind == 0 && withinb i.at_)) w) := by
  obtain ⟨op, kind, area, at_, n⟩ := i
  unfold Ins.val
  dsimp only at *
  go_enter Try.func47, Try.ntmps47
  go_wp2_with fail
  refine (opof_calls _ _).mono ?_
  rintro e w1 ⟨rfl, hb⟩
  have B1 := (Blk.new w #[.int .i64 op, .int .i64 kind, .int .i64 area, .int .i64 at_, .int .i64 n] 48).below hb
  have HB := hid (below_trans (bel_a1 _ _) hb)
  have HB1 := hid B1
  have c0 := B1.cell 0 _ rfl
  have c1 := B1.cell 1 _ rfl
  have c2 := B1.cell 2 _ rfl
  have c3 := B1.cell 3 _ rfl
  have c4 := B1.cell 4 _ rfl
  clear B1 hb
  rw [hcls]
  clear hcls hp
  generalize onm op = s at *
  go_wp2_with (first
    | (go_at_call 74; (with_reducible refine (Is_calls _ _ _).mono ?_); rintro e w2 ⟨rfl, hb2⟩)
    | (go_at_call 76; (with_reducible refine (Size_calls _ _).mono ?_); rintro e w2 ⟨rfl, hb2⟩)
    | (go_at_call 78; (with_reducible refine (keeps_calls _ _).mono ?_); rintro e w2 ⟨rfl, rfl⟩)
    | (go_at_call 77; (with_reducible refine (within_calls _ _).mono ?_); rintro e w2 ⟨rfl, hb2⟩))
  all_goals
    go_ret
    exact ⟨ret_bool (by first | (simp_all [plainb]; done) | (simp_all [plainb]; intros; omega)), by first | exact HB.out | exact below_trans HB.out (by assumption)⟩

set_option maxRecDepth 10000 in
set_option maxHeartbeats 4000000 in
theorem Right_7 (i : Ins) (w : World) (hcls : cls i.op = 7) (hp : True) : Calls Try.prog 47 #[i.val] w (RetB (i.kind == 0 && (keepb i.area && (decide (0 ≤ i.at_) && (decide (i.at_ ≤ 59) && (decide (1 ≤ i.n) && decide (i.n ≤ 9999)))))) w) := by
  obtain ⟨op, kind, area, at_, n⟩ := i
  unfold Ins.val
  dsimp only at *
  go_enter Try.func47, Try.ntmps47
  go_wp2_with fail
  refine (opof_calls _ _).mono ?_
  rintro e w1 ⟨rfl, hb⟩
  have B1 := (Blk.new w #[.int .i64 op, .int .i64 kind, .int .i64 area, .int .i64 at_, .int .i64 n] 48).below hb
  have HB := hid (below_trans (bel_a1 _ _) hb)
  have HB1 := hid B1
  have c0 := B1.cell 0 _ rfl
  have c1 := B1.cell 1 _ rfl
  have c2 := B1.cell 2 _ rfl
  have c3 := B1.cell 3 _ rfl
  have c4 := B1.cell 4 _ rfl
  clear B1 hb
  rw [hcls]
  clear hcls hp
  generalize onm op = s at *
  go_wp2_with (first
    | (go_at_call 74; (with_reducible refine (Is_calls _ _ _).mono ?_); rintro e w2 ⟨rfl, hb2⟩)
    | (go_at_call 76; (with_reducible refine (Size_calls _ _).mono ?_); rintro e w2 ⟨rfl, hb2⟩)
    | (go_at_call 78; (with_reducible refine (keeps_calls _ _).mono ?_); rintro e w2 ⟨rfl, rfl⟩)
    | (go_at_call 77; (with_reducible refine (within_calls _ _).mono ?_); rintro e w2 ⟨rfl, hb2⟩))
  all_goals
    go_ret
    exact ⟨ret_bool (by first | (simp_all [plainb]; done) | (simp_all [plainb]; intros; omega)), by first | exact HB.out | exact below_trans HB.out (by assumption)⟩

set_option maxRecDepth 10000 in
set_option maxHeartbeats 4000000 in
theorem Right_8 (i : Ins) (w : World) (hcls : cls i.op = 8) (hp : True) : Calls Try.prog 47 #[i.val] w (RetB (i.kind == 0 && (keepb i.area && (decide (0 ≤ i.at_) && (decide (i.at_ < 64) && i.n == 0)))) w) := by
  obtain ⟨op, kind, area, at_, n⟩ := i
  unfold Ins.val
  dsimp only at *
  go_enter Try.func47, Try.ntmps47
  go_wp2_with fail
  refine (opof_calls _ _).mono ?_
  rintro e w1 ⟨rfl, hb⟩
  have B1 := (Blk.new w #[.int .i64 op, .int .i64 kind, .int .i64 area, .int .i64 at_, .int .i64 n] 48).below hb
  have HB := hid (below_trans (bel_a1 _ _) hb)
  have HB1 := hid B1
  have c0 := B1.cell 0 _ rfl
  have c1 := B1.cell 1 _ rfl
  have c2 := B1.cell 2 _ rfl
  have c3 := B1.cell 3 _ rfl
  have c4 := B1.cell 4 _ rfl
  clear B1 hb
  rw [hcls]
  clear hcls hp
  generalize onm op = s at *
  go_wp2_with (first
    | (go_at_call 74; (with_reducible refine (Is_calls _ _ _).mono ?_); rintro e w2 ⟨rfl, hb2⟩)
    | (go_at_call 76; (with_reducible refine (Size_calls _ _).mono ?_); rintro e w2 ⟨rfl, hb2⟩)
    | (go_at_call 78; (with_reducible refine (keeps_calls _ _).mono ?_); rintro e w2 ⟨rfl, rfl⟩)
    | (go_at_call 77; (with_reducible refine (within_calls _ _).mono ?_); rintro e w2 ⟨rfl, hb2⟩))
  all_goals
    go_ret
    exact ⟨ret_bool (by first | (simp_all [plainb]; done) | (simp_all [plainb]; intros; omega)), by first | exact HB.out | exact below_trans HB.out (by assumption)⟩

set_option maxRecDepth 10000 in
set_option maxHeartbeats 4000000 in
theorem Right_1a (i : Ins) (w : World) (hcls : cls i.op = 1) (hp : i.area = 0) : Calls Try.prog 47 #[i.val] w (RetB (i.at_ == 0 && isk i.kind i.n) w) := by
  obtain ⟨op, kind, area, at_, n⟩ := i
  unfold Ins.val
  dsimp only at *
  subst hp
  go_enter Try.func47, Try.ntmps47
  go_wp2_with fail
  refine (opof_calls _ _).mono ?_
  rintro e w1 ⟨rfl, hb⟩
  have B1 := (Blk.new w #[.int .i64 op, .int .i64 kind, .int .i64 0, .int .i64 at_, .int .i64 n] 48).below hb
  have HB := hid (below_trans (bel_a1 _ _) hb)
  have HB1 := hid B1
  have c0 := B1.cell 0 _ rfl
  have c1 := B1.cell 1 _ rfl
  have c2 := B1.cell 2 _ rfl
  have c3 := B1.cell 3 _ rfl
  have c4 := B1.cell 4 _ rfl
  clear B1 hb
  rw [hcls]
  clear hcls
  generalize onm op = s at *
  go_wp2_with (first
    | (go_at_call 74; (with_reducible refine (Is_calls _ _ _).mono ?_); rintro e w2 ⟨rfl, hb2⟩)
    | (go_at_call 76; (with_reducible refine (Size_calls _ _).mono ?_); rintro e w2 ⟨rfl, hb2⟩)
    | (go_at_call 78; (with_reducible refine (keeps_calls _ _).mono ?_); rintro e w2 ⟨rfl, rfl⟩)
    | (go_at_call 77; (with_reducible refine (within_calls _ _).mono ?_); rintro e w2 ⟨rfl, hb2⟩))
  all_goals
    go_ret
    exact ⟨ret_bool (by first | (simp_all [plainb]; done) | (simp_all [plainb]; intros; omega)), by first | exact HB.out | exact below_trans HB.out (by assumption)⟩

set_option maxRecDepth 10000 in
set_option maxHeartbeats 4000000 in
theorem Right_1b (i : Ins) (w : World) (hcls : cls i.op = 1) (hp : i.area ≠ 0) : Calls Try.prog 47 #[i.val] w (RetB (standsb i 1) w) := by
  obtain ⟨op, kind, area, at_, n⟩ := i
  unfold Ins.val
  dsimp only at *
  go_enter Try.func47, Try.ntmps47
  go_wp2_with fail
  refine (opof_calls _ _).mono ?_
  rintro e w1 ⟨rfl, hb⟩
  have B1 := (Blk.new w #[.int .i64 op, .int .i64 kind, .int .i64 area, .int .i64 at_, .int .i64 n] 48).below hb
  have HB := hid (below_trans (bel_a1 _ _) hb)
  have HB1 := hid B1
  have c0 := B1.cell 0 _ rfl
  have c1 := B1.cell 1 _ rfl
  have c2 := B1.cell 2 _ rfl
  have c3 := B1.cell 3 _ rfl
  have c4 := B1.cell 4 _ rfl
  clear B1 hb
  rw [hcls]
  clear hcls
  generalize onm op = s at *
  have hp2 : (area == 0) = false := by simpa using hp
  clear hp
  go_wp2_with (first
    | (go_at_call 75; (with_reducible refine (stands_at _ _ _ _ _ _ _).mono ?_); rintro e w2 ⟨rfl, hb2⟩)
    | (go_at_call 74; (with_reducible refine (Is_calls _ _ _).mono ?_); rintro e w2 ⟨rfl, hb2⟩)
    | (go_at_call 76; (with_reducible refine (Size_calls _ _).mono ?_); rintro e w2 ⟨rfl, hb2⟩)
    | (go_at_call 78; (with_reducible refine (keeps_calls _ _).mono ?_); rintro e w2 ⟨rfl, rfl⟩)
    | (go_at_call 77; (with_reducible refine (within_calls _ _).mono ?_); rintro e w2 ⟨rfl, hb2⟩))
  all_goals
    go_ret
    exact ⟨ret_bool (by first | (simp_all [plainb]; done) | (simp_all [plainb]; intros; omega)), by first | exact HB.out | exact below_trans HB.out (by assumption)⟩

set_option maxRecDepth 10000 in
set_option maxHeartbeats 4000000 in
theorem Right_2 (i : Ins) (w : World) (hcls : cls i.op = 2) (hp : True) : Calls Try.prog 47 #[i.val] w (RetB (standsb i 2) w) := by
  obtain ⟨op, kind, area, at_, n⟩ := i
  unfold Ins.val
  dsimp only at *
  go_enter Try.func47, Try.ntmps47
  go_wp2_with fail
  refine (opof_calls _ _).mono ?_
  rintro e w1 ⟨rfl, hb⟩
  have B1 := (Blk.new w #[.int .i64 op, .int .i64 kind, .int .i64 area, .int .i64 at_, .int .i64 n] 48).below hb
  have HB := hid (below_trans (bel_a1 _ _) hb)
  have HB1 := hid B1
  have c0 := B1.cell 0 _ rfl
  have c1 := B1.cell 1 _ rfl
  have c2 := B1.cell 2 _ rfl
  have c3 := B1.cell 3 _ rfl
  have c4 := B1.cell 4 _ rfl
  clear B1 hb
  rw [hcls]
  clear hcls hp
  generalize onm op = s at *
  go_wp2_with (first
    | (go_at_call 75; (with_reducible refine (stands_at _ _ _ _ _ _ _).mono ?_); rintro e w2 ⟨rfl, hb2⟩)
    | (go_at_call 74; (with_reducible refine (Is_calls _ _ _).mono ?_); rintro e w2 ⟨rfl, hb2⟩)
    | (go_at_call 76; (with_reducible refine (Size_calls _ _).mono ?_); rintro e w2 ⟨rfl, hb2⟩)
    | (go_at_call 78; (with_reducible refine (keeps_calls _ _).mono ?_); rintro e w2 ⟨rfl, rfl⟩)
    | (go_at_call 77; (with_reducible refine (within_calls _ _).mono ?_); rintro e w2 ⟨rfl, hb2⟩))
  all_goals
    go_ret
    exact ⟨ret_bool (by first | (simp_all [plainb]; done) | (simp_all [plainb]; intros; omega)), by first | exact HB.out | exact below_trans HB.out (by assumption)⟩

set_option maxRecDepth 10000 in
set_option maxHeartbeats 4000000 in
theorem Right_0 (i : Ins) (w : World) (hcls : cls i.op < 1 ∨ 8 < cls i.op) (hp : True) : Calls Try.prog 47 #[i.val] w (RetB (false) w) := by
  obtain ⟨op, kind, area, at_, n⟩ := i
  unfold Ins.val
  dsimp only at *
  go_enter Try.func47, Try.ntmps47
  go_wp2_with fail
  refine (opof_calls _ _).mono ?_
  rintro e w1 ⟨rfl, hb⟩
  have B1 := (Blk.new w #[.int .i64 op, .int .i64 kind, .int .i64 area, .int .i64 at_, .int .i64 n] 48).below hb
  have HB := hid (below_trans (bel_a1 _ _) hb)
  have HB1 := hid B1
  have c0 := B1.cell 0 _ rfl
  have c1 := B1.cell 1 _ rfl
  have c2 := B1.cell 2 _ rfl
  have c3 := B1.cell 3 _ rfl
  have c4 := B1.cell 4 _ rfl
  clear B1 hb
  clear hp
  generalize cls op = c at *
  have n1 : (c == 1) = false := by simp; omega
  have n2 : (c == 2) = false := by simp; omega
  have n3 : (c == 3) = false := by simp; omega
  have n4 : (c == 4) = false := by simp; omega
  have n5 : (c == 5) = false := by simp; omega
  have n6 : (c == 6) = false := by simp; omega
  have n7 : (c == 7) = false := by simp; omega
  have n8 : (c == 8) = false := by simp; omega
  clear hcls
  generalize onm op = s at *
  go_wp2_with fail
  all_goals
    go_ret
    exact ⟨ret_bool (by first | (simp_all [plainb]; done) | (simp_all [plainb]; intros; omega)), by first | exact HB.out | exact below_trans HB.out (by assumption)⟩

theorem Right_calls (i : Ins) (w : World) : Calls Try.prog 47 #[i.val] w (RetB (rightb i) w) := by
  unfold rightb
  by_cases h1 : cls i.op = 1
  · rw [if_pos h1]
    by_cases ha : i.area = 0
    · rw [if_pos ha]
      exact Right_1a i w h1 ha
    · rw [if_neg ha]
      exact Right_1b i w h1 ha
  rw [if_neg h1]
  by_cases h2 : cls i.op = 2
  · rw [if_pos h2]
    exact Right_2 i w h2 trivial
  rw [if_neg h2]
  by_cases h3 : cls i.op = 3
  · rw [if_pos h3]
    exact Right_3 i w h3 trivial
  rw [if_neg h3]
  by_cases h4 : cls i.op = 4
  · rw [if_pos h4]
    exact Right_4 i w h4 trivial
  rw [if_neg h4]
  by_cases h5 : cls i.op = 5
  · rw [if_pos h5]
    exact Right_5 i w h5 trivial
  rw [if_neg h5]
  by_cases h6 : cls i.op = 6
  · rw [if_pos h6]
    exact Right_6 i w h6 trivial
  rw [if_neg h6]
  by_cases h7 : cls i.op = 7
  · rw [if_pos h7]
    exact Right_7 i w h7 trivial
  rw [if_neg h7]
  by_cases h8 : cls i.op = 8
  · rw [if_pos h8]
    exact Right_8 i w h8 trivial
  rw [if_neg h8]
  exact Right_0 i w (by omega) trivial

end Go.Proofs.Ytjnohalffffiaaa
