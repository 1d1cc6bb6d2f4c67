/- vm: a run, as a function. -/
import Derived.Test.YtjnohalffffiaaaVk
import Derived.Test.YtjnohalffffiaaaNg
set_option linter.unusedVariables false
set_option linter.unusedSimpArgs false
namespace Go.Proofs.Ytjnohalffffiaaa
open Go.RowKit

/-- A run: areas, result, brackets, how it ran. -/
structure VS where
  ar : Int → ByteArray
  kind : Int
  n : Int
  op : List (Int × Int × Int)
  steps : Int
  zero : Int
def VS.put (S : VS) (a at_ k v : Int) : VS := { S with ar := fun x => if x = a then putk (S.ar a) at_ k v else S.ar x }
def VS.get (S : VS) (a at_ k : Int) : Int := getk (S.ar a) at_ k
def VS.opd (S : VS) (i : Ins) : Int := if i.area = 0 then i.n else S.get i.area i.at_ i.kind
def VS.does (S : VS) (op ak an b : Int) : VS :=
  { S with zero := if b = 0 ∧ (op = 17 ∨ op = 18) then S.zero + 1 else S.zero, kind := if 19 ≤ op then 1 else ak, n := (dok op ak an b).1 }
def VS.is (S : VS) : Bool := S.n == 1
def VS.says (S : VS) (b : Bool) : VS := { S with kind := 1, n := yesI b }
def VS.rise (S : VS) (a at_ : Int) : Bool := S.is && S.get a at_ 1 == 0
def VS.timer (S : VS) (p : Int) (i : Ins) : VS :=
  let m := if S.is then min (S.get i.area i.at_ 7 + p) i.n else 0
  (S.put i.area i.at_ 7 m).says (S.is && m == i.n)
def VS.counter (S : VS) (i : Ins) : VS :=
  let m := S.get i.area i.at_ 7
  if S.rise i.area (i.at_ + 4) then
    ((S.put i.area (i.at_ + 4) 1 S.n).put i.area i.at_ 7 (min (m + 1) i.n)).says (decide (i.n ≤ min (m + 1) i.n))
  else (S.put i.area (i.at_ + 4) 1 S.n).says (decide (i.n ≤ m))
def VS.leaves (S : VS) (op : Int) : Bool := if op = 25 ∨ op = 28 then true else if op = 26 ∨ op = 29 then S.is else !S.is
/-- An instruction that leads on. -/
def VS.step (S : VS) (p : Int) (i : Ins) : VS :=
  if i.op = 1 then { S with kind := i.kind, n := S.opd i }
  else if i.op = 2 then { S with kind := i.kind, n := notk i.kind (S.opd i) }
  else if i.op = 3 then S.put i.area i.at_ i.kind S.n
  else if i.op = 4 then S.put i.area i.at_ i.kind (notk i.kind S.n)
  else if i.op = 5 ∨ i.op = 6 then (if S.is then S.put i.area i.at_ 1 (6 - i.op) else S)
  else if i.op = 13 then { S with n := notk S.kind S.n }
  else if i.op = 31 then { S with kind := i.kind, n := wrapk i.kind S.n }
  else if i.op = 32 then { S with op := S.op ++ [(i.at_, S.kind, S.n)], kind := 0, n := 0 }
  else if i.op = 33 then
    match S.op.getLast? with
    | some (o, k, n) => { S with op := S.op.dropLast }.does o k n S.n
    | none => S
  else if i.op = 34 then S.timer p i
  else if i.op = 35 then S.counter i
  else if i.op = 36 then (S.put i.area i.at_ 1 S.n).says (S.rise i.area i.at_)
  else S.does i.op S.kind S.n (S.opd i)
def retb (i : Ins) : Bool := decide (28 ≤ i.op) && decide (i.op ≤ 30)
def VS.tick (S : VS) : VS := { S with steps := S.steps + 1 }
/-- Where an instruction leads, from one place. -/
def VS.next (S : VS) (n at_ : Nat) (i : Ins) : Nat :=
  if jumpsb i then (if S.leaves i.op then max (at_ + 1) i.at_.toNat else at_ + 1) else if retb i then (if S.leaves i.op then max (at_ + 1) n else at_ + 1) else at_ + 1
def VS.after (S : VS) (p : Int) (i : Ins) : VS := if jumpsb i then S else if retb i then S else S.step p i
theorem VS.next_lt (S : VS) (n at_ : Nat) (i : Ins) : at_ < S.next n at_ i := by
  unfold VS.next
  repeat' split
  all_goals omega
def VS.runs (p : Int) (l : List Ins) (at_ : Nat) (S : VS) : VS :=
  if h : at_ < l.length then VS.runs p l (S.tick.next l.length at_ l[at_]) (S.tick.after p l[at_]) else S
termination_by l.length - at_
decreasing_by
  have := S.tick.next_lt l.length at_ l[at_]
  omega

/-- An area, brought to 64 bytes. -/
def fit (s : ByteArray) : ByteArray := ⟨(s.data.toList.take 64 ++ List.replicate (64 - s.data.toList.length) 0).toArray⟩
theorem fit_size (s : ByteArray) : (fit s).size = 64 := by
  show (s.data.toList.take 64 ++ List.replicate (64 - s.data.toList.length) 0).toArray.size = 64
  rw [List.size_toArray, List.length_append, List.length_take, List.length_replicate]
  omega
def VS.start (I Q M R : ByteArray) : VS := ⟨fun a => if a = 1 then fit I else if a = 2 then fit Q else if a = 3 then fit M else if a = 4 then fit R else ⟨#[]⟩, 0, 0, [], 0, 0⟩
def passI (passed : Int) : Int := min (max passed 0) 10000
def runv (l : List Ins) (I Q M R : ByteArray) (passed : Int) : VS := VS.runs (passI passed) l 0 (VS.start I Q M R)
end Go.Proofs.Ytjnohalffffiaaa
