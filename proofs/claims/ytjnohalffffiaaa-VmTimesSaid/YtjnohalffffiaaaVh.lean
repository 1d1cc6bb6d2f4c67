/- verify: lead's walk. -/
import Derived.Test.YtjnohalffffiaaaVg
set_option linter.unusedVariables false
set_option linter.unusedSimpArgs false
namespace Go.Proofs.Ytjnohalffffiaaa
open Go.RowKit

theorem updA_same (A : Nat → Option St) (i : Nat) (s : St) (h : A i = some s) : updA A i s = A := by
  funext j
  unfold updA
  by_cases e : j = i
  · rw [if_pos e, e, h]
  · rw [if_neg e]

theorem World.setCell_alloc_lt {w : World} {o : Obj} {b i : Nat} {v : Value} (h : b < w.heap.size) : (w.alloc o).setCell ⟨b, i, none⟩ v = (w.setCell ⟨b, i, none⟩ v).alloc o := by
  go_simp
theorem keep3 {w0 w1 w2 : World} {p q : Addr} {x y : Value} (h : w1.cell? p = some x ∧ w1.cell? q = some y ∧ Below w0.heap.size w0 w1) (hb : Below w1.heap.size w1 w2) :
    w2.cell? p = some x ∧ w2.cell? q = some y ∧ Below w0.heap.size w0 w2 := by
  obtain ⟨h1, h2, h3⟩ := h
  rw [hb.cell (World.block_lt_of_cell? _ _ h1), hb.cell (World.block_lt_of_cell? _ _ h2)]
  exact ⟨h1, h2, below_trans h3 hb⟩

def leadA (A : Nat → Option St) (i : Nat) (s : St) : Nat → Option St :=
  match A i with
  | none => updA A i s
  | some (k0, bs0) => updA A i (if k0 = s.1 then k0 else 0, bs0)
def leadB (A : Nat → Option St) (i : Nat) (bs : List (Int × Int)) : Bool :=
  match A i with
  | none => true
  | some (_, bs0) => brEq bs0 bs

/-- What lead leaves alone: blocks that are neither the table nor in it; what is new in the table is new. -/
def Frm (T n : Nat) (w w' : World) : Prop :=
  (∀ b cs t, Blk w b cs t → t ≠ 102 → (t ≠ 105 ∨ ∀ j, j ≤ n → w.cell? ⟨T, j, none⟩ ≠ some (.pointer (some ⟨b, 0, none⟩))) → Blk w' b cs t) ∧
  (∀ j b, j ≤ n → w'.cell? ⟨T, j, none⟩ = some (.pointer (some ⟨b, 0, none⟩)) → w.cell? ⟨T, j, none⟩ = some (.pointer (some ⟨b, 0, none⟩)) ∨ w.heap.size ≤ b) ∧ w.heap.size ≤ w'.heap.size
theorem Frm.below {T n : Nat} {w w' : World} (hT : T < w.heap.size) (hb : Below w.heap.size w w') : Frm T n w w' :=
  ⟨fun b cs t h _ _ => h.below hb, fun j b _ h => by rw [hb.cell (p := ⟨T, j, none⟩) hT] at h; exact .inl h, hb.size⟩
theorem Frm.trans {T n : Nat} {w w1 w2 : World} (h : Frm T n w w1) (k : Frm T n w1 w2) (hn : ∀ b cs t, Blk w b cs t → b < w.heap.size) : Frm T n w w2 := by
  refine ⟨fun b cs t hb ht hc => k.1 b cs t (h.1 b cs t hb ht hc) ht ?_, fun j b hj e => ?_, Nat.le_trans h.2.2 k.2.2⟩
  · rcases hc with hc | hc
    · exact .inl hc
    · refine .inr fun j hj e => ?_
      rcases h.2.1 j b hj e with e | e
      · exact hc j hj e
      · have := hn b cs t hb; omega
  · rcases k.2.1 j b hj e with e | e
    · exact h.2.1 j b hj e
    · exact .inr (by have := h.2.2; omega)
theorem BrR.frame {w w' : World} {v : Value} {bs : List (Int × Int)} (h : BrR w v bs) (hf : ∀ b cs, Blk w b cs 144 → Blk w' b cs 144) : BrR w' v bs := by
  refine ⟨h.1, ?_⟩
  rcases h.2 with h | ⟨g, cap, cur, hv, hb, hh, r⟩
  · exact .inl h
  · exact .inr ⟨g, cap, cur, hv, hb, hf g cur hh, r⟩
theorem BrR.frm {T n : Nat} {w w' : World} {v : Value} {bs : List (Int × Int)} (h : BrR w v bs) (hf : Frm T n w w') : BrR w' v bs :=
  h.frame fun b cs hb => hf.1 b cs _ hb (by decide) (.inl (by decide))

def RetL (b : Bool) (base T n : Nat) (A : Nat → Option St) (w : World) (e : Ending) (w' : World) : Prop := e = .returned (.bool b) ∧ TabAt w' base T n A ∧ Below base w w' ∧ Frm T n w w'

set_option maxRecDepth 10000 in
set_option maxHeartbeats 2000000 in
theorem lead_none (base T n : Nat) (A : Nat → Option St) (i : Nat) (k : Int) (a : Option Addr) (m c : Nat) (bs : List (Int × Int)) (w : World) (h : TabAt w base T n A) (hi : i ≤ n) (hn : n ≤ 100000) (hA : A i = none)
    (hv : BrR w (.slice a m c) bs) (hbase : base ≤ w.heap.size) :
    Calls Try.prog 51 #[.slice (some ⟨T, 0, none⟩) (n + 1) (n + 1), .int .i64 i, .agg #[.int .i64 k, .slice a m c]] w (RetL true base T n (updA A i (k, bs)) w) := by
  have hc : w.cell? ⟨T, i, none⟩ = some (.pointer none) := by
    rcases h.cell i hi with ⟨_, h⟩ | ⟨_, _, _, _, h, _⟩
    · exact h
    · rw [hA] at h; cases h
  have hf := h.free i
  have hT := h.lt
  have i1 : (0 : Int) ≤ (i : Int) := Int.natCast_nonneg _
  have i2 : (i : Int) < (n : Int) + 1 := by omega
  have HP : Hid (TabAt ((w.alloc (.cells #[.int .i64 k, .slice a m c] 105)).setCell ⟨T, i, none⟩ (.pointer (some ⟨w.heap.size, 0, none⟩))) base T n (updA A i (k, bs))) := by
    refine (h.below (bel_a1 w _)).put hi hA (Blk.new w _ _) (hv.alloc _) hbase ?_
    intro j hj e
    rcases h.cell j hj with ⟨_, h2⟩ | ⟨k', bs', q, v', h2, h3, h4, _⟩
    · have := (bel_a1 w (.cells #[.int .i64 k, .slice a m c] 105)).cell (p := ⟨T, j, none⟩) hT
      rw [this, h2] at e
      cases e
    · have := (bel_a1 w (.cells #[.int .i64 k, .slice a m c] 105)).cell (p := ⟨T, j, none⟩) hT
      rw [this, h3] at e
      injection e with e
      injection e with e
      injection e with e
      injection e with e
      have := h4.lt
      omega
  have HB : Hid (Below base w ((w.alloc (.cells #[.int .i64 k, .slice a m c] 105)).setCell ⟨T, i, none⟩ (.pointer (some ⟨w.heap.size, 0, none⟩)))) := by
    exact bel_set ((bel_a1 w _).mono hbase) h.1 _ _
  have HF : Hid (Frm T n w ((w.alloc (.cells #[.int .i64 k, .slice a m c] 105)).setCell ⟨T, i, none⟩ (.pointer (some ⟨w.heap.size, 0, none⟩)))) := by
    obtain ⟨h0, cur, p, h1, _⟩ := h
    refine ⟨fun b cs t hb ht _ => (hb.alloc _).other (fun e => by dsimp only at e; subst e; exact ht (Blk.inj hb h1)) _, fun j b hj e => ?_, by simp [World.setCell]⟩
    by_cases ej : j = i
    · subst ej
      have := (((h1.alloc (.cells #[.int .i64 k, .slice a m c] 105)).set j (.pointer (some ⟨w.heap.size, 0, none⟩))))
      have hc2 : w.cell? ⟨T, j, none⟩ = cur[j]? := by
        unfold Blk at h1
        simp [World.cell?, h1]
      have hlt : j < cur.size := by
        rw [hc2] at hc
        exact (Array.getElem?_eq_some_iff.1 hc).1
      have e2 := this.cell j (.pointer (some ⟨w.heap.size, 0, none⟩)) (by rw [Array.getElem?_setIfInBounds]; simp [hlt])
      rw [e2] at e
      injection e with e
      injection e with e
      injection e with e
      injection e with e
      exact .inr (by omega)
    · refine .inl ?_
      have hb1 := h1.alloc (.cells #[.int .i64 k, .slice a m c] 105)
      have hb2 := hb1.set i (.pointer (some ⟨w.heap.size, 0, none⟩))
      have r1 : ∀ (W : World) (C : Array Value), Blk W T C 102 → W.cell? ⟨T, j, none⟩ = C[j]? := fun W C hh => by
        unfold Blk at hh
        simp [World.cell?, hh]
      rw [r1 _ _ hb2, Array.getElem?_setIfInBounds, if_neg (Ne.symm ej)] at e
      rw [r1 _ _ h1]
      exact e
  clear h hv hA
  go_enter Try.func51, Try.ntmps51
  go_wp2_with fail
  go_ret
  have he := World.setCell_alloc_lt (w := w) (o := .cells #[.int .i64 k, .slice a m c] 105) (b := T) (i := i) (v := .pointer (some ⟨w.heap.size, 0, none⟩)) hT
  rw [← he]
  exact ⟨rfl, HP.out, HB.out, HF.out⟩

set_option maxRecDepth 10000 in
set_option maxHeartbeats 4000000 in
theorem lead_same (base T n : Nat) (A : Nat → Option St) (i : Nat) (k : Int) (a : Option Addr) (m c : Nat) (bs bs0 : List (Int × Int)) (w : World) (h : TabAt w base T n A) (hi : i ≤ n) (hn : n ≤ 100000) (hA : A i = some (k, bs0))
    (hv : BrR w (.slice a m c) bs) (hbase : base ≤ w.heap.size) (hl : bs.length ≤ 1000) (hl0 : bs0.length ≤ 1000) :
    Calls Try.prog 51 #[.slice (some ⟨T, 0, none⟩) (n + 1) (n + 1), .int .i64 i, .agg #[.int .i64 k, .slice a m c]] w (RetL (brEq bs0 bs) base T n A w) := by
  obtain ⟨q, v0, hc, hq, hv0, hbq⟩ : ∃ q v, w.cell? ⟨T, i, none⟩ = some (.pointer (some ⟨q, 0, none⟩)) ∧ Blk w q #[.int .i64 k, v] 105 ∧ BrR w v bs0 ∧ base ≤ q := by
    rcases h.cell i hi with ⟨h, _⟩ | ⟨k', bs', q, v', h2, h3, h4, h5, h6⟩
    · rw [hA] at h; cases h
    · rw [hA] at h2
      injection h2 with h2
      injection h2 with h2 h2'
      subst h2 h2'
      exact ⟨q, v', h3, h4, h5, h6⟩
  obtain ⟨a0, c0, rfl, -⟩ := hv0.form
  have hT := h.lt
  have hqlt := hq.lt
  have q0 := hq.cell 0 _ rfl
  have q1 := hq.cell 1 _ rfl
  have i1 : (0 : Int) ≤ (i : Int) := Int.natCast_nonneg _
  have i2 : (i : Int) < (n : Int) + 1 := by omega
  have H := hid h
  have HV := hid hv
  have HV0 := hid hv0
  have HQ := hid hq
  clear h hv hA hv0 hq hbq
  go_enter Try.func51, Try.ntmps51
  go_wp2_with fail
  go_quiet (fail)
  go_wp2_with fail
  have hb : Below w.heap.size w ((w.alloc (.cells #[.int .i64 k, .slice a m c] 105)).drewN nq) := bel_drewN (bel_a1 w _) nq
  have B0 : Blk ((w.alloc (.cells #[.int .i64 k, .slice a m c] 105)).drewN nq) w.heap.size #[.int .i64 k, .slice a m c] 105 := Blk.new w _ _
  generalize ((w.alloc (.cells #[.int .i64 k, .slice a m c] 105)).drewN nq) = W at *
  have r0 := (HQ.out.below hb).cell 1 _ rfl
  have r1 := B0.cell 1 _ rfl
  have HB := hid hb
  clear hb B0 q0 q1 hc
  go_region_held3 (fun w' => w'.cell? ⟨q, 1, none⟩ = some (.slice a0 bs0.length c0) ∧ w'.cell? ⟨w.heap.size, 1, none⟩ = some (.slice a m c) ∧ Below w.heap.size w w')
    (first | (exact ⟨r0, r1, HB.out.drew⟩) | (exact keep3 (by assumption) (by assumption)) | assumption | go_keep)
    ((go_at_call 87; (refine (EqualBr_calls _ _ bs0 bs _ (by exact HV0.out.below (‹_ ∧ _ ∧ Below w.heap.size w _›).2.2) (by exact HV.out.below (‹_ ∧ _ ∧ Below w.heap.size w _›).2.2) hl0 hl).mono ?_); rintro e w2 ⟨rfl, hb2⟩))
  go_wp2_with fail
  go_ret
  have hx := (‹_ ∧ _ ∧ Below w.heap.size w _›).2.2
  exact ⟨rfl, H.out.below hx, hx.mono hbase, Frm.below hT hx⟩

set_option maxRecDepth 10000 in
set_option maxHeartbeats 4000000 in
theorem lead_other (base T n : Nat) (A : Nat → Option St) (i : Nat) (k k0 : Int) (a : Option Addr) (m c : Nat) (bs bs0 : List (Int × Int)) (w : World) (h : TabAt w base T n A) (hi : i ≤ n) (hn : n ≤ 100000) (hA : A i = some (k0, bs0))
    (hk : (k0 == k) = false) (hv : BrR w (.slice a m c) bs) (hbase : base ≤ w.heap.size) (hl : bs.length ≤ 1000) (hl0 : bs0.length ≤ 1000) :
    Calls Try.prog 51 #[.slice (some ⟨T, 0, none⟩) (n + 1) (n + 1), .int .i64 i, .agg #[.int .i64 k, .slice a m c]] w (RetL (brEq bs0 bs) base T n (updA A i (0, bs0)) w) := by
  obtain ⟨q, v0, hc, hq, hv0, hbq⟩ : ∃ q v, w.cell? ⟨T, i, none⟩ = some (.pointer (some ⟨q, 0, none⟩)) ∧ Blk w q #[.int .i64 k0, v] 105 ∧ BrR w v bs0 ∧ base ≤ q := by
    rcases h.cell i hi with ⟨h, _⟩ | ⟨k', bs', q, v', h2, h3, h4, h5, h6⟩
    · rw [hA] at h; cases h
    · rw [hA] at h2
      injection h2 with h2
      injection h2 with h2 h2'
      subst h2 h2'
      exact ⟨q, v', h3, h4, h5, h6⟩
  obtain ⟨a0, c0, rfl, -⟩ := hv0.form
  have hT := h.lt
  have hqlt := hq.lt
  have q0 := hq.cell 0 _ rfl
  have q1 := hq.cell 1 _ rfl
  have i1 : (0 : Int) ≤ (i : Int) := Int.natCast_nonneg _
  have i2 : (i : Int) < (n : Int) + 1 := by omega
  have hk2 : (k0 != k) = true := by simpa using hk
  have H := hid h
  have HA := hid hA
  have HV := hid hv
  have HV0 := hid hv0
  have HQ := hid hq
  have HC := hid hc
  clear h hv hA hv0 hq
  go_enter Try.func51, Try.ntmps51
  go_wp2_with fail
  go_quiet (fail)
  go_wp2_with fail
  have hb : Below w.heap.size w ((w.alloc (.cells #[.int .i64 k, .slice a m c] 105)).drewN nq) := bel_drewN (bel_a1 w _) nq
  have B0 : Blk ((w.alloc (.cells #[.int .i64 k, .slice a m c] 105)).drewN nq) w.heap.size #[.int .i64 k, .slice a m c] 105 := Blk.new w _ _
  generalize ((w.alloc (.cells #[.int .i64 k, .slice a m c] 105)).drewN nq) = W at *
  refine (with_calls _ _ _ _ _ _).mono ?_
  rintro e w2 ⟨rfl, hb2⟩
  have hbw := below_trans hb hb2
  have q2 := HQ.out.below hbw
  have B2 := B0.below hb2
  have c0' := q2.cell 0 _ rfl
  have c1' := q2.cell 1 _ rfl
  have f0 := q2.free 0
  have f1 := q2.free 1
  have hT2 := H.out.below hbw
  have ht := hT2.turn (k' := 0) hi HA.out (by rw [hbw.cell (p := ⟨T, i, none⟩) hT]; exact HC.out) q2
  have HT := hid ht
  have Hq2 := hid q2
  have HB2 := hid B2
  have HBW := hid hbw
  have HF : Hid (Frm T n w ((w2.setCell ⟨q, 0, none⟩ (.int .i64 0)).setCell ⟨q, 1, none⟩ (.slice a0 bs0.length c0))) := by
    have hcq := HC.out
    obtain ⟨h0, cur, p, h1, _⟩ := H.out
    have hTq : T ≠ q := fun e => by subst e; exact absurd (Blk.inj h1 HQ.out) (by decide)
    refine ⟨fun b cs t hb ht hcc => ?_, fun j b hj e => ?_, by have := hbw.size; simpa [World.setCell] using this⟩
    · have hne : b ≠ q := fun e => by
        subst e
        rcases hcc with hcc | hcc
        · exact hcc (Blk.inj hb HQ.out)
        · exact hcc i hi hcq
      exact ((hb.below hbw).other (a := ⟨q, 0, none⟩) hne _).other (a := ⟨q, 1, none⟩) hne _
    · refine .inl ?_
      rw [cell_set_far _ _ _ _ _ hTq, cell_set_far _ _ _ _ _ hTq, hbw.cell (p := ⟨T, j, none⟩) hT] at e
      exact e
  have HV2 := hid (((HV.out.below hbw).set q2 (by decide) 0 (.int .i64 0)).set (q2.set 0 _) (by decide) 1 (.slice a0 bs0.length c0))
  have HV02 := hid (((HV0.out.below hbw).set q2 (by decide) 0 (.int .i64 0)).set (q2.set 0 _) (by decide) 1 (.slice a0 bs0.length c0))
  clear hb hb2 hbw B0 B2 q0 q1 hc q2 ht hT2 HC H HV HV0 HQ
  go_wp2_with fail
  have hq3 := (Hq2.out.set 0 (.int .i64 0)).set 1 (.slice a0 bs0.length c0)
  have hB3 := (HB2.out.other (a := ⟨q, 0, none⟩) (by dsimp only; omega) (.int .i64 0)).other (a := ⟨q, 1, none⟩) (by dsimp only; omega) (.slice a0 bs0.length c0)
  have hbw3 := bel_set (bel_set (HBW.out.mono hbase) hbq 0 (.int .i64 0)) hbq 1 (.slice a0 bs0.length c0)
  generalize ((w2.setCell ⟨q, 0, none⟩ (.int .i64 0)).setCell ⟨q, 1, none⟩ (.slice a0 bs0.length c0)) = W3 at *
  have r0 := hq3.cell 1 _ rfl
  have r1 := hB3.cell 1 _ rfl
  have hz3 : W3.heap.size = W3.heap.size := rfl
  have HB3 := hid hbw3
  clear hq3 hB3 hbw3 c0' c1' f0 f1 Hq2 HB2 HBW hz3
  go_region_held3 (fun w' => w'.cell? ⟨q, 1, none⟩ = some (.slice a0 bs0.length c0) ∧ w'.cell? ⟨w.heap.size, 1, none⟩ = some (.slice a m c) ∧ Below W3.heap.size W3 w')
    (first | (exact ⟨r0, r1, (Below.refl _ _).drew⟩) | (exact keep3 (by assumption) (by assumption)) | assumption | go_keep)
    ((go_at_call 87; (refine (EqualBr_calls _ _ bs0 bs _ (by exact HV02.out.below (‹_ ∧ _ ∧ Below W3.heap.size W3 _›).2.2) (by exact HV2.out.below (‹_ ∧ _ ∧ Below W3.heap.size W3 _›).2.2) hl0 hl).mono ?_); rintro e w2 ⟨rfl, hb2⟩))
  go_wp2_with fail
  go_ret
  have hx := (‹_ ∧ _ ∧ Below W3.heap.size W3 _›).2.2
  have hsz := HB3.out.size
  refine ⟨rfl, HT.out.below hx, ?_, HF.out.trans (Frm.below HT.out.lt hx) (fun b cs t h => h.lt)⟩
  exact ⟨hx.os.trans HB3.out.os, hx.tape.trans HB3.out.tape, hx.output.trans HB3.out.output, Nat.le_trans HB3.out.size hx.size, fun j hj => (hx.block j (by have := HB3.out.size; omega)).trans (HB3.out.block j hj)⟩

theorem lead_calls (base T n : Nat) (A : Nat → Option St) (i : Nat) (k : Int) (v : Value) (bs : List (Int × Int)) (w : World) (h : TabAt w base T n A) (hi : i ≤ n) (hn : n ≤ 100000)
    (hv : BrR w v bs) (hbase : base ≤ w.heap.size) (hl : bs.length ≤ 1000) (hl0 : ∀ s, A i = some s → s.2.length ≤ 1000) :
    Calls Try.prog 51 #[.slice (some ⟨T, 0, none⟩) (n + 1) (n + 1), .int .i64 i, .agg #[.int .i64 k, v]] w (RetL (leadB A i bs) base T n (leadA A i (k, bs)) w) := by
  obtain ⟨a, c, rfl, -⟩ := hv.form
  unfold leadA leadB
  match hA : A i, hl0 with
  | none, _ => exact lead_none base T n A i k a _ c bs w h hi hn hA hv hbase
  | some (k0, bs0), hl0 =>
    have hl0' := hl0 (k0, bs0) rfl
    dsimp only at hl0' ⊢
    by_cases hk : k0 = k
    · subst hk
      rw [if_pos rfl, updA_same A i _ hA]
      exact lead_same base T n A i k0 a _ c bs bs0 w h hi hn hA hv hbase hl hl0'
    · rw [if_neg hk]
      exact lead_other base T n A i k k0 a _ c bs bs0 w h hi hn hA (by simpa using hk) hv hbase hl hl0'
theorem lead_at (base T n : Nat) (A : Nat → Option St) (i : Nat) (x k : Int) (v : Value) (bs : List (Int × Int)) (w : World) (h : TabAt w base T n A) (hx : x = i) (hi : i ≤ n) (hn : n ≤ 100000)
    (hv : BrR w v bs) (hbase : base ≤ w.heap.size) (hl : bs.length ≤ 1000) (hl0 : ∀ s, A i = some s → s.2.length ≤ 1000) :
    Calls Try.prog 51 #[.slice (some ⟨T, 0, none⟩) (n + 1) (n + 1), .int .i64 x, .agg #[.int .i64 k, v]] w (RetL (leadB A i bs) base T n (leadA A i (k, bs)) w) := by
  subst hx
  exact lead_calls base T n A i k v bs w h hi hn hv hbase hl hl0
end Go.Proofs.Ytjnohalffffiaaa
