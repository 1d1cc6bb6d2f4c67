/- vm: a run in memory; get, put and what is small. -/
import Derived.Test.YtjnohalffffiaaaNd
set_option linter.unusedVariables false
set_option linter.unusedSimpArgs false
namespace Go.Proofs.Ytjnohalffffiaaa
open Go.RowKit

theorem infoVb : (Try.prog.info? 110).map (fun i => (i.zero, i.size, i.bytes)) = some (some (.agg #[.int .i64 0, .int .i64 0, .int .i64 0]), 3, 24) := by kernel_rfl

def vbCells : List (Int × Int × Int) → List Value
  | [] => []
  | b :: l => .int .i64 b.1 :: .int .i64 b.2.1 :: .int .i64 b.2.2 :: vbCells l
theorem vbCells_len (l : List (Int × Int × Int)) : (vbCells l).length = l.length * 3 := by
  induction l with
  | nil => rfl
  | cons b l ih => simp [vbCells, ih]; omega
theorem vbCells_app (l m : List (Int × Int × Int)) : vbCells (l ++ m) = vbCells l ++ vbCells m := by
  induction l with
  | nil => rfl
  | cons b l ih => simp [vbCells, ih]
theorem vbCells_at (l : List (Int × Int × Int)) (j : Nat) (hj : j < l.length) : (vbCells l)[j * 3]? = some (.int .i64 l[j].1) ∧ (vbCells l)[j * 3 + 1]? = some (.int .i64 l[j].2.1) ∧ (vbCells l)[j * 3 + 2]? = some (.int .i64 l[j].2.2) := by
  induction l generalizing j with
  | nil => simp at hj
  | cons b l ih =>
    cases j with
    | zero => simp [vbCells]
    | succ j =>
      have := ih j (by simpa using hj)
      rw [show (j + 1) * 3 = j * 3 + 3 by omega]
      simpa [vbCells] using this
/-- A slice of open brackets, of the run's own. -/
def BrV (w : World) (base : Nat) (v : Value) (bs : List (Int × Int × Int)) : Prop := w.ownsRow base 110 3 v bs.length (vbCells bs)

def rcells (q c : Nat → Nat) (v : Value) (S : VS) (p : Int) : Array Value :=
  #[.slice none 0 0, .slice (some ⟨q 1, 0, none⟩) 64 (c 1), .slice (some ⟨q 2, 0, none⟩) 64 (c 2), .slice (some ⟨q 3, 0, none⟩) 64 (c 3), .slice (some ⟨q 4, 0, none⟩) 64 (c 4),
    .int .i64 S.kind, .int .i64 S.n, v, .int .i64 S.steps, .int .i64 S.zero, .int .i64 0, .int .i64 0, .int .i64 p]
/-- The areas' blocks. -/
def Areas (w : World) (base : Nat) (q : Nat → Nat) (ar : Int → ByteArray) : Prop :=
  (∀ a : Nat, 1 ≤ a → a ≤ 4 → base ≤ q a ∧ ByB w (q a) (ar a) ∧ (ar a).size = 64) ∧ ∀ a b : Nat, 1 ≤ a → a ≤ 4 → 1 ≤ b → b ≤ 4 → q a = q b → a = b
/-- Block rb holds a run, whose parts all lie at base or above. -/
def VmAt (w : World) (base rb : Nat) (p : Int) (S : VS) : Prop :=
  base ≤ rb ∧ ∃ (q c : Nat → Nat) (v : Value), Blk w rb (rcells q c v S p) 68 ∧ Areas w base q S.ar ∧ BrV w base v S.op

theorem BrV.below {w w1 : World} {base : Nat} {v : Value} {bs : List (Int × Int × Int)} (h : BrV w base v bs) (hb : Below w.heap.size w w1) : BrV w1 base v bs := by
  refine World.ownsRow.kept (row := none) h ⟨hb.os, hb.tape, hb.output, hb.size, fun i hi _ => hb.block i hi⟩ ?_
  cases v.ownBlock <;> simp
theorem BrV.grown {w w1 : World} {base : Nat} {v : Value} {bs : List (Int × Int × Int)} {r : Nat} (h : BrV w base v bs) (hg : w.grownBy w1 (some r)) (hr : ∀ cs, ¬ Blk w r cs 110) : BrV w1 base v bs := by
  refine World.ownsRow.kept (row := some r) h hg ?_
  rcases h.2 with ⟨rfl, hn⟩ | ⟨g, cap, cur, rfl, _, hh, _⟩
  · exact .inl rfl
  · refine .inr fun e => ?_
    injection e with e
    subst e
    exact hr cur hh
theorem Areas.below {w w1 : World} {base : Nat} {q : Nat → Nat} {ar : Int → ByteArray} (h : Areas w base q ar) (hb : Below w.heap.size w w1) : Areas w1 base q ar :=
  ⟨fun a h1 h2 => ⟨(h.1 a h1 h2).1, (h.1 a h1 h2).2.1.below hb, (h.1 a h1 h2).2.2⟩, h.2⟩
theorem Areas.set {w : World} {base : Nat} {q : Nat → Nat} {ar : Int → ByteArray} (h : Areas w base q ar) {b : Nat} {cs : Array Value} {t : TypeId} (hb : Blk w b cs t) (o : Nat) (x : Value) : Areas (w.setCell ⟨b, o, none⟩ x) base q ar :=
  ⟨fun a h1 h2 => ⟨(h.1 a h1 h2).1, (h.1 a h1 h2).2.1.other (fun e => by have := (h.1 a h1 h2).2.1; rw [e] at this; exact this.type hb) x, (h.1 a h1 h2).2.2⟩, h.2⟩
theorem BrV.set {w : World} {base : Nat} {v : Value} {bs : List (Int × Int × Int)} (h : BrV w base v bs) {b : Nat} {cs : Array Value} {t : TypeId} (hb : Blk w b cs t) (ht : t ≠ 110) (o : Nat) (x : Value) : BrV (w.setCell ⟨b, o, none⟩ x) base v bs :=
  h.grown (grown_set x) (fun cs' h' => ht (Blk.inj hb h'))
theorem VmAt.below {w w1 : World} {base rb : Nat} {p : Int} {S : VS} (h : VmAt w base rb p S) (hb : Below w.heap.size w w1) : VmAt w1 base rb p S := by
  obtain ⟨h0, q, c, v, h1, h2, h3⟩ := h
  exact ⟨h0, q, c, v, h1.below hb, h2.below hb, h3.below hb⟩
theorem VmAt.lt {w : World} {base rb : Nat} {p : Int} {S : VS} (h : VmAt w base rb p S) : rb < w.heap.size := by
  obtain ⟨h0, q, c, v, h1, h2, h3⟩ := h
  exact h1.lt
theorem rc_area (q c : Nat → Nat) (v : Value) (S : VS) (p : Int) (a : Nat) (h1 : 1 ≤ a) (h2 : a ≤ 4) : (rcells q c v S p)[a]? = some (.slice (some ⟨q a, 0, none⟩) 64 (c a)) := by
  obtain rfl | rfl | rfl | rfl : a = 1 ∨ a = 2 ∨ a = 3 ∨ a = 4 := by omega
  all_goals rfl

theorem is_calls (k n : Int) (w : World) : Calls Try.prog 52 #[.agg #[.int .i64 k, .int .i64 n]] w (RetB (n == 1) w) := by
  go_enter Try.func52, Try.ntmps52
  go_wp2_with fail
  go_ret
  exact ⟨rfl, bel_a1 _ _⟩
theorem truth_calls (b : Bool) (w : World) : Calls Try.prog 60 #[.bool b] w fun e w' => e = .returned (.agg #[.int .i64 1, .int .i64 (yesI b)]) ∧ Below w.heap.size w w' := by
  cases b
  all_goals
    go_enter Try.func60, Try.ntmps60
    go_wp2_with fail
    refine bodyPost_ret (v := .agg #[.int .i64 1, .int .i64 _]) (by simp [results, Try.results60, go_sem]; rfl) rfl ⟨rfl, ?_⟩
    exact bel_a1 _ _

set_option maxHeartbeats 1000000 in
theorem get_calls (base rb : Nat) (p : Int) (S : VS) (area at_ k : Int) (w : World) (h : VmAt w base rb p S) (ha1 : 1 ≤ area) (ha4 : area ≤ 4) (h1 : 0 < ksize k) (h2 : 0 ≤ at_) (h3 : at_ + ksize k ≤ 64) :
    Calls Try.prog 88 #[.pointer (some ⟨rb, 0, none⟩), .int .i64 area, .int .i64 at_, .int .i64 k] w (RetI (S.get area at_ k) w) := by
  obtain ⟨a, rfl⟩ : ∃ a : Nat, area = a := ⟨area.toNat, by omega⟩
  obtain ⟨h0, q, c, v, hb, har, hop⟩ := h
  obtain ⟨hq, hby, hsz⟩ := har.1 a (by omega) (by omega)
  have c0 := hb.cell a _ (rc_area q c v S p a (by omega) (by omega))
  have hback := hby.back (c a) 64 hsz
  have HS := hid hsz
  have H1 := hid h1
  have H2 := hid h2
  have H3 := hid h3
  clear hb har hop hby hsz h1 h2 h3
  have a1 : (0 : Int) ≤ (a : Int) := by omega
  have a2 : (a : Int) < 5 := by omega
  show Calls _ _ _ _ (RetI (getk (S.ar a) at_ k) w)
  generalize S.ar a = s at *
  go_enter Try.func88, Try.ntmps88
  go_wp2_with fail
  refine (Get_calls _ _ _ HS.out H1.out H2.out H3.out _).mono ?_
  rintro e w1 ⟨rfl, hb⟩
  have HB := hid hb
  clear hb
  go_wp2_with fail
  go_ret
  exact ⟨rfl, HB.out⟩

/-- What a run's own work leaves alone. -/
def Kp (base : Nat) (w w' : World) : Prop := Below base w w' ∧ ∀ b cs t, Blk w b cs t → t ≠ 68 → t ≠ 110 → Blk w' b cs t
theorem Kp.of {base : Nat} {w w' : World} (h : Below w.heap.size w w') (hB : base ≤ w.heap.size) : Kp base w w' := ⟨h.mono hB, fun b cs t hb _ _ => hb.below h⟩
theorem Kp.trans {base : Nat} {a b c : World} (h : Kp base a b) (k : Kp base b c) : Kp base a c := ⟨h.1.trans k.1, fun x cs t hb h1 h2 => k.2 x cs t (h.2 x cs t hb h1 h2) h1 h2⟩
theorem Kp.bel {base : Nat} {a b c : World} (h : Kp base a b) (k : Below b.heap.size b c) (hB : base ≤ a.heap.size) : Kp base a c := h.trans (Kp.of k (Nat.le_trans hB h.1.size))
theorem Kp.run {base rb o : Nat} {w : World} {cs : Array Value} (h : Blk w rb cs 68) (hB : base ≤ rb) (x : Value) : Kp base w (w.setCell ⟨rb, o, none⟩ x) :=
  ⟨bel_set (Below.refl _ _) hB o x, fun b cs' t hb h1 _ => hb.other (fun e => h1 (by subst e; exact Blk.inj hb h)) x⟩
/-- What is handed back by what changes a run alone. -/
def RetV (base rb : Nat) (p : Int) (S : VS) (w : World) (e : Ending) (w' : World) : Prop := e = .returned (.tuple #[]) ∧ VmAt w' base rb p S ∧ Kp base w w'

theorem Below_grown {B b : Nat} {w w1 : World} (hg : w.grownBy w1 (some b)) (hb : B ≤ b) (hB : B ≤ w.heap.size) : Below B w w1 :=
  ⟨hg.os, hg.tape, hg.output, hg.size, fun i hi => hg.block i (by omega) (fun e => by injection e with e; omega)⟩
theorem VmAt.hput {w w1 : World} {base rb : Nat} {p : Int} {S : VS} {q c : Nat → Nat} {v : Value} {a : Nat} (h0 : base ≤ rb) (hb : Blk w rb (rcells q c v S p) 68) (har : Areas w base q S.ar) (hop : BrV w base v S.op) (ha1 : 1 ≤ a) (ha4 : a ≤ 4)
    {at_ k n : Int} (hby : ByB w1 (q a) (putk (S.ar a) at_ k n)) (hg : w.grownBy w1 (some (q a))) : VmAt w1 base rb p (S.put a at_ k n) ∧ Kp base w w1 := by
  obtain ⟨hq, hby0, hsz⟩ := har.1 a ha1 ha4
  refine ⟨⟨h0, q, c, v, ?_, ⟨fun b h1 h4 => ?_, har.2⟩, ?_⟩, Below_grown hg hq (Nat.le_of_lt (Nat.lt_of_le_of_lt h0 hb.lt)), fun b cs t h' _ _ => h'.grown hg (fun e => by injection e with e; subst e; exact hby0.type h')⟩
  · exact hb.grown hg (fun e => by injection e with e; subst e; exact hby0.type hb)
  · obtain ⟨hq', hby', hsz'⟩ := har.1 b h1 h4
    by_cases e : b = a
    · subst e
      have e2 : (S.put b at_ k n).ar b = putk (S.ar b) at_ k n := by simp [VS.put]
      rw [e2]
      exact ⟨hq, hby, by rw [putk_size]; exact hsz⟩
    · have e2 : (S.put a at_ k n).ar b = S.ar b := by
        simp only [VS.put]
        rw [if_neg (by omega)]
      rw [e2]
      exact ⟨hq', hby'.grown hg (fun e3 => e (by injection e3 with e3; exact har.2 b a h1 h4 ha1 ha4 e3)), hsz'⟩
  · exact hop.grown hg (fun cs h' => hby0.type h')

set_option maxHeartbeats 1000000 in
theorem put_calls (base rb : Nat) (p : Int) (S : VS) (area at_ k n : Int) (w : World) (h : VmAt w base rb p S) (ha1 : 1 ≤ area) (ha4 : area ≤ 4) (h1 : 0 < ksize k) (h2 : 0 ≤ at_) (h3 : at_ + ksize k ≤ 64) :
    Calls Try.prog 55 #[.pointer (some ⟨rb, 0, none⟩), .int .i64 area, .int .i64 at_, .int .i64 k, .int .i64 n] w (RetV base rb p (S.put area at_ k n) w) := by
  obtain ⟨a, rfl⟩ : ∃ a : Nat, area = a := ⟨area.toNat, by omega⟩
  obtain ⟨h0, q, c, v, hb, har, hop⟩ := h
  obtain ⟨hq, hby, hsz⟩ := har.1 a (by omega) (by omega)
  have c0 := hb.cell a _ (rc_area q c v S p a (by omega) (by omega))
  have PC := hid (Put_calls (q a) (c a) (S.ar a) at_ k n w hby hsz h1 h2 h3)
  have HN := hid (fun w1 by1 hg => VmAt.hput (w1 := w1) (a := a) (at_ := at_) (k := k) (n := n) h0 hb har hop (by omega) (by omega) by1 hg)
  clear hb har hop hby hsz h1 h2 h3
  have a1 : (0 : Int) ≤ (a : Int) := by omega
  have a2 : (a : Int) < 5 := by omega
  go_enter Try.func55, Try.ntmps55
  go_wp2_with fail
  refine PC.out.mono ?_
  rintro e w1 ⟨rfl, by1, hg⟩
  have HX := hid (HN.out w1 by1 hg)
  clear by1 hg
  go_wp2_with fail
  go_end0
  exact ⟨rfl, HX.out⟩
end Go.Proofs.Ytjnohalffffiaaa
