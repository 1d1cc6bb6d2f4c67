/- Two meters made one. -/
import Derived.Test.YtaombjljahpncaaTl
import Derived.Deep.MidRow
set_option linter.unusedVariables false
set_option linter.unusedSimpArgs false
namespace Go.Proofs.Ytaombjljahpncaa
open Go.RowKit

theorem Blk.setCells {t : TypeId} {b : Nat} (vs : List Value) : ∀ (o : Nat) (w : World) (cs : Array Value), Blk w b cs t → o + vs.length = cs.size → Blk (w.setCells b o vs) b (cs.toList.take o ++ vs).toArray t := by
  induction vs with
  | nil =>
    intro o w cs h ho
    rw [World.setCells]
    have : (cs.toList.take o ++ []).toArray = cs := by
      rw [List.append_nil, List.take_of_length_le (by simp at ho; simp; omega)]
    rw [this]; exact h
  | cons v r ih =>
    intro o w cs h ho
    rw [World.setCells]
    have := ih (o + 1) _ _ (h.set o v) (by simp at ho ⊢; omega)
    have e : ((cs.setIfInBounds o v).toList.take (o + 1) ++ r).toArray = (cs.toList.take o ++ v :: r).toArray := by
      congr 1
      simp at ho
      have hlt : o < cs.toList.length := by simp; omega
      rw [Array.toList_setIfInBounds, List.take_succ_eq_append_getElem (by simpa using hlt), List.take_set, List.set_eq_of_length_le (by simp; omega)]
      simp
    rw [e] at this
    exact this
theorem grown_setCells {b : Nat} (vs : List Value) : ∀ (o : Nat) (w : World), w.grownBy (w.setCells b o vs) (some b) := by
  induction vs with
  | nil => intro o w; rw [World.setCells]; exact grown_refl _ _
  | cons v r ih =>
    intro o w
    rw [World.setCells]
    exact grown_trans (grown_set (p := ⟨b, o, none⟩) v) (ih (o + 1) _)

/-- The meter at m, in the making; the meter at b, being read. -/
def Two (w0 w : World) (m b : Nat) (f g : Nat → Int) : Prop := MAt w m f ∧ MAt w b g ∧ m ≠ b ∧ w0.heap.size ≤ m ∧ Below w0.heap.size w0 w
theorem Two.turn {w0 w w' : World} {m b : Nat} {f g f' : Nat → Int} (h : Two w0 w m b f g) (hm : MAt w' m f') (hg : w.grownBy w' (some m)) : Two w0 w' m b f' g :=
  ⟨hm, h.2.1.grown hg (fun e => h.2.2.1 (by injection e with e; exact e.symm)), h.2.2.1, h.2.2.2.1, h.2.2.2.2.grown hg h.2.2.2.2.size (fun k hk => by cases hk; exact h.2.2.2.1)⟩
theorem Two.set {w0 w : World} {m b : Nat} {f g : Nat → Int} (h : Two w0 w m b f g) (i : Nat) (v : Int) : Two w0 (w.setCell ⟨m, i, none⟩ (.int .i64 v)) m b (upd f i v) g :=
  h.turn (h.1.set i v) (grown_set (p := ⟨m, i, none⟩) _)
theorem Two.drew {w0 w : World} {m b : Nat} {f g : Nat → Int} (h : Two w0 w m b f g) : Two w0 w.drew m b f g :=
  h.turn h.1.drew (grown_drew (grown_refl _ _))

def mrg0 (f g : Nat → Int) : Nat → Int := if f 66 = 0 then upd (upd f 68 (g 68)) 69 (g 69) else f
def mrg1 (f g : Nat → Int) : Nat → Int := upd (upd (mrg0 f g) 68 (min (mrg0 f g 68) (g 68))) 69 (max (mrg0 f g 69) (g 69))
def mrg2 (f g : Nat → Int) : Nat → Int := upd (mrg1 f g) 66 (mrg1 f g 66 + g 66)
def mrg3 (f g : Nat → Int) : Nat → Int := upd (mrg2 f g) 67 (mrg2 f g 67 + g 67)
def mrg4 (f g : Nat → Int) : Nat → Int := upd (mrg3 f g) 70 (mrg3 f g 70 + g 70)
def mrgf (f g : Nat → Int) : Nat → Int := if g 66 = 0 then f else (win g (g 71).toNat).foldl keepf (mrg4 f g)
theorem mrg0_at (f g : Nat → Int) (i : Nat) (h : i ≠ 68 ∧ i ≠ 69) : mrg0 f g i = f i := by
  unfold mrg0
  split
  · rw [upd_ne _ _ _ _ h.2, upd_ne _ _ _ _ h.1]
  · rfl
theorem mrg1_at (f g : Nat → Int) (i : Nat) (h : i ≠ 68 ∧ i ≠ 69) : mrg1 f g i = f i := by
  unfold mrg1
  rw [upd_ne _ _ _ _ h.2, upd_ne _ _ _ _ h.1, mrg0_at f g i h]
theorem mrg2_67 (f g : Nat → Int) : mrg2 f g 67 = f 67 := by
  unfold mrg2
  rw [upd_ne _ _ _ _ (by omega), mrg1_at f g 67 (by omega)]
theorem mrg3_70 (f g : Nat → Int) : mrg3 f g 70 = f 70 := by
  unfold mrg3 mrg2
  rw [upd_ne _ _ _ _ (by omega), upd_ne _ _ _ _ (by omega), mrg1_at f g 70 (by omega)]
theorem mrg4_at (f g : Nat → Int) (i : Nat) (h : i ≠ 68 ∧ i ≠ 69 ∧ i ≠ 66 ∧ i ≠ 67 ∧ i ≠ 70) : mrg4 f g i = f i := by
  unfold mrg4 mrg3 mrg2
  rw [upd_ne _ _ _ _ h.2.2.2.2, upd_ne _ _ _ _ h.2.2.2.1, upd_ne _ _ _ _ h.2.2.1, mrg1_at f g i ⟨h.1, h.2.1⟩]

theorem meterRow : ∃ d, Try.prog.underlying 44 = some d ∧ d.isRow = true := by
  have h : (Try.prog.underlying 44).map TypeDesc.isRow = some true := by kernel_rfl
  cases e : Try.prog.underlying 44 with
  | none => rw [e] at h; cases h
  | some d => rw [e] at h; exact ⟨d, rfl, by simpa using h⟩
theorem meterSize : (Try.prog.info? 44).map (·.size) = some 72 := by kernel_rfl
theorem cells72_len (f : Nat → Int) : (cells72 f).toList.length = 72 := by simp [cells72]
theorem cells72_one (f : Nat → Int) : (cells72 f).all (·.oneCell') = true := by
  rw [Array.all_eq_true_iff_forall_mem]
  intro v hv
  unfold cells72 at hv
  rw [Array.mem_ofFn] at hv
  obtain ⟨i, rfl⟩ := hv
  rfl
theorem MAt.range {w : World} {b : Nat} {f : Nat → Int} (h : MAt w b f) : w.rangeAt b 0 (cells72 f).toList := by
  intro j v hv
  rw [Nat.zero_add]
  exact Blk.cell h j v (by simpa using hv)
theorem MAt.there {w : World} {b : Nat} {f : Nat → Int} (h : MAt w b f) : w.there b 0 (cells72 f).size := by
  intro j hj
  have hj' : j < 72 := by simpa [cells72] using hj
  rw [Nat.zero_add, h.cell j hj']
  exact ⟨rfl, h.free j⟩
theorem MAt.stored {w : World} {b : Nat} {f g : Nat → Int} (h : MAt w b f) : MAt (w.setCells b 0 (cells72 g).toList) b g := by
  have := Blk.setCells (cells72 g).toList 0 w (cells72 f) h (by rw [cells72_len]; simp [cells72])
  unfold MAt
  simpa using this
theorem wpl_load_meter {ops : Array Oper} {rest : List Oper} {a : Act} {w : World} {Q : Exit → Act → World → Prop} {dst : Option Tmp} {ty : TypeId} {pos : String} {after : Array Edge} {x : Operand} (p : Nat) (f : Nat → Int) (C : Array Value) (hC : C = cells72 f) (h : MAt w p f)
    (hx : a.eval x = .pointer (some ⟨p, 0, none⟩)) (hK : wpList Try.prog ops Q rest (a.put dst (.agg C)) w) :
    wpList Try.prog ops Q ({ dst := dst, op := .load 44 x, type := ty, pos := pos, after := after, guard := none } :: rest) a w := by
  subst hC
  obtain ⟨d, hd1, hd2⟩ := meterRow
  have := wpList_load_mid (P := Try.prog) (ops := ops) (rest := rest) (op := { dst := dst, op := .load 44 x, type := ty, pos := pos, after := after, guard := none }) (Q := Q) rfl 44 x rfl p 0 hx (cells72 f).toList d h.range hd1 hd2 (by rw [cells72_len]; exact meterSize)
  rw [Array.toArray_toList] at this
  exact this hK
theorem wpl_store_meter {ops : Array Oper} {rest : List Oper} {a : Act} {w : World} {Q : Exit → Act → World → Prop} {dst : Option Tmp} {ty : TypeId} {pos : String} {after : Array Edge} {x y : Operand} (p : Nat) (f g : Nat → Int) (C : Array Value) (hC : C = cells72 g) (h : MAt w p f)
    (hx : a.eval x = .pointer (some ⟨p, 0, none⟩)) (hy : a.eval y = .agg C) (hK : wpList Try.prog ops Q rest (a.put dst undef) (w.setCells p 0 C.toList)) :
    wpList Try.prog ops Q ({ dst := dst, op := .store 44 x y, type := ty, pos := pos, after := after, guard := none } :: rest) a w := by
  subst hC
  have ht := h.there
  rw [show (cells72 f).size = (cells72 g).size by simp [cells72]] at ht
  exact wpList_store_mid (P := Try.prog) rfl 44 x y rfl p 0 (cells72 g) hx hy ht (by rw [meterSize]; simp [cells72]) (cells72_one g) hK

/-- keep, once for each of a list. -/
theorem foldkeep_bd (l : List Int) : ∀ (f : Nat → Int), (0 ≤ f 65 ∧ f 65 ≤ 63) → (0 ≤ f 71 ∧ f 71 ≤ 64) → (0 ≤ l.foldl keepf f 65 ∧ l.foldl keepf f 65 ≤ 63) ∧ (0 ≤ l.foldl keepf f 71 ∧ l.foldl keepf f 71 ≤ 64) := by
  induction l with
  | nil => intro f h1 h2; exact ⟨h1, h2⟩
  | cons x r ih =>
    intro f h1 h2
    refine ih (keepf f x) ?_ ?_
    · rw [keepf_65]; omega
    · rw [keepf_71]; omega
theorem foldkeep_succ (l : List Int) (f : Nat → Int) (j : Nat) (hj : j < l.length) : (l.take (j + 1)).foldl keepf f = keepf ((l.take j).foldl keepf f) (l.getD j 0) := by
  rw [List.take_succ_eq_append_getElem hj, List.foldl_append]
  simp [List.getD_eq_getElem?_getD, List.getElem?_eq_getElem hj]

def RetM (f : Nat → Int) (w : World) (e : Ending) (w' : World) : Prop := e = .returned (.pointer (some ⟨w.heap.size, 0, none⟩)) ∧ MAt w' w.heap.size f ∧ Below w.heap.size w w'

set_option maxRecDepth 20000 in
set_option maxHeartbeats 4000000 in
theorem Merge_calls (a b : Nat) (f g : Nat → Int) (w : World) (ha : MAt w a f) (hb : MAt w b g) (hf : Fine f) (hg : Fine g) :
    Calls Try.prog 19 #[.pointer (some ⟨a, 0, none⟩), .pointer (some ⟨b, 0, none⟩)] w (RetM (mrgf f g) w) := by
  have HA := hid ha
  have HB := hid hb
  have HF := hid hf
  have HG := hid hg
  clear ha hb hf hg
  go_enter Try.func19, Try.ntmps19
  go_wp2_with fail
  refine (New_calls _ _).mono ?_
  rintro e w' ⟨rfl, rfl⟩
  rw [show brg 0 = 0 from rfl]
  have hm : MAt (w.alloc (.cells (cells72 (fresh 0)) 44)) w.heap.size (fresh 0) := Blk.new _ _ _
  have hbel : Below w.heap.size w (w.alloc (.cells (cells72 (fresh 0)) 44)) := (Below.refl _ _).alloc (Nat.le_refl _) _
  have hne : w.heap.size ≠ b := fun e => by have := HB.out.lt; omega
  have htw : Two w (w.alloc (.cells (cells72 (fresh 0)) 44)) w.heap.size b (fresh 0) g := ⟨hm, HB.out.below hbel, hne, Nat.le_refl _, hbel⟩
  have HA1 := hid (HA.out.below hbel)
  have HT := hid htw
  clear hm hbel htw hne
  generalize (w.alloc (.cells (cells72 (fresh 0)) 44)) = w1 at *
  generalize hmm : w.heap.size = m at *
  obtain ⟨C, hC⟩ : ∃ C, C = cells72 f := ⟨_, rfl⟩
  have HC := hid hC
  have HM0 : Hid (MAt w1 m (fresh 0)) := hid HT.out.1
  clear hC
  have ht2 : Two w (w1.setCells m 0 C.toList) m b f g := by rw [HC.out]; exact HT.out.turn HT.out.1.stored (grown_setCells _ _ _)
  have HT2 := hid ht2
  have b66 := ht2.2.1.cell 66 (by omega)
  by_cases h0 : g 66 = 0
  · have hr : mrgf f g = f := by unfold mrgf; rw [if_pos h0]
    have HR := hid hr
    rw [h0] at b66
    clear h0 hr ht2
    go_wp2_with (first | ((with_reducible refine wpl_load_meter a f C HC.out HA1.out ?_ ?_); rfl) | ((with_reducible refine wpl_store_meter m (fresh 0) f C HC.out HM0.out ?_ ?_ ?_); rfl; rfl))
    go_ret
    unfold RetM
    rw [HR.out]
    exact ⟨by rw [hmm]; rfl, by rw [hmm]; exact HT2.out.1, HT2.out.2.2.2.2⟩
  have hr : mrgf f g = (win g (g 71).toNat).foldl keepf (mrg4 f g) := by unfold mrgf; rw [if_neg h0]
  have e0 : (g 66 == 0) = false := beq_eq_false_iff_ne.2 h0
  have m66 := ht2.1.cell 66 (by omega)
  have q4 : (0 ≤ mrg4 f g 65 ∧ mrg4 f g 65 ≤ 63) ∧ (0 ≤ mrg4 f g 71 ∧ mrg4 f g 71 ≤ 64) := by rw [mrg4_at f g 65 (by omega), mrg4_at f g 71 (by omega)]; exact ⟨HF.out.h65, HF.out.h71⟩
  have HQ4 := hid q4
  have HR := hid hr
  clear hr q4 h0 ht2
  by_cases h1 : f 66 = 0
  · have e1 : (f 66 == 0) = true := beq_iff_eq.2 h1
    have h2 := HT2.out
    have b68 := h2.2.1.cell 68 (by omega)
    have b69 := h2.2.1.cell 69 (by omega)
    have n68 := h2.1.cell 68 (by omega)
    have n69 := h2.1.cell 69 (by omega)
    have k68 := h2.1.free 68
    have k69 := h2.1.free 69
    clear h2
    go_wp2_with (first | ((with_reducible refine wpl_load_meter a f C HC.out HA1.out ?_ ?_); rfl) | ((with_reducible refine wpl_store_meter m (fresh 0) f C HC.out HM0.out ?_ ?_ ?_); rfl; rfl))
    go_region
    have HT3 : Hid (Two w (((w1.setCells m 0 C.toList).setCell ⟨m, 68, none⟩ (.int .i64 (g 68))).setCell ⟨m, 69, none⟩ (.int .i64 (g 69))).drew m b (mrg0 f g) g) := hid (by
      have := ((HT2.out.set 68 (g 68)).set 69 (g 69)).drew
      rwa [show upd (upd f 68 (g 68)) 69 (g 69) = mrg0 f g by unfold mrg0; rw [if_pos h1]] at this)
    generalize (((w1.setCells m 0 C.toList).setCell ⟨m, 68, none⟩ (.int .i64 (g 68))).setCell ⟨m, 69, none⟩ (.int .i64 (g 69))).drew = W at *
    clear b66 m66 b68 b69 n68 n69 k68 k69 HT2 HT HM0 HA1 HB HA HC
    go_wp2_with fail
    have c68 := HT3.out.1.cell 68 (by omega)
    have c69 := HT3.out.1.cell 69 (by omega)
    have d68 := HT3.out.2.1.cell 68 (by omega)
    have d69 := HT3.out.2.1.cell 69 (by omega)
    have k68 := HT3.out.1.free 68
    have k69 := HT3.out.1.free 69
    go_wp2_with fail
    go_region
    have HT4 : Hid (Two w ((W.setCell ⟨m, 68, none⟩ (.int .i64 (min (mrg0 f g 68) (g 68)))).setCell ⟨m, 69, none⟩ (.int .i64 (max (mrg0 f g 69) (g 69)))).drew m b (mrg1 f g) g) := hid ((HT3.out.set 68 (min (mrg0 f g 68) (g 68))).set 69 (max (mrg0 f g 69) (g 69))).drew
    generalize ((W.setCell ⟨m, 68, none⟩ (.int .i64 (min (mrg0 f g 68) (g 68)))).setCell ⟨m, 69, none⟩ (.int .i64 (max (mrg0 f g 69) (g 69)))).drew = W4 at *
    clear c68 c69 d68 d69 k68 k69 HT3
    have c66 := HT4.out.1.cell 66 (by omega)
    have d66 := HT4.out.2.1.cell 66 (by omega)
    have k66 := HT4.out.1.free 66
    have e66 : IntKind.i64.wrap (mrg1 f g 66 + g 66) = mrg1 f g 66 + g 66 := by
      rw [IntKind.wrap_i64, mrg1_at f g 66 (by omega)]
      have h1 := HF.out.h66
      have h2 := HG.out.h66
      omega
    go_wp2_with fail
    go_region
    have HT5 : Hid (Two w (W4.setCell ⟨m, 66, none⟩ (.int .i64 (mrg1 f g 66 + g 66))).drew m b (mrg2 f g) g) := hid (HT4.out.set 66 (mrg1 f g 66 + g 66)).drew
    generalize (W4.setCell ⟨m, 66, none⟩ (.int .i64 (mrg1 f g 66 + g 66))).drew = W5 at *
    clear c66 d66 k66 e66 HT4
    have c67 := HT5.out.1.cell 67 (by omega)
    have d67 := HT5.out.2.1.cell 67 (by omega)
    have k67 := HT5.out.1.free 67
    have e67 : IntKind.i64.wrap (mrg2 f g 67 + g 67) = mrg2 f g 67 + g 67 := by
      rw [IntKind.wrap_i64, mrg2_67]
      have h1 := HF.out.h67
      have h2 := HG.out.h67
      omega
    go_wp2_with fail
    go_region
    have HT6 : Hid (Two w (W5.setCell ⟨m, 67, none⟩ (.int .i64 (mrg2 f g 67 + g 67))).drew m b (mrg3 f g) g) := hid (HT5.out.set 67 (mrg2 f g 67 + g 67)).drew
    generalize (W5.setCell ⟨m, 67, none⟩ (.int .i64 (mrg2 f g 67 + g 67))).drew = W6 at *
    clear c67 d67 k67 e67 HT5
    have c70 := HT6.out.1.cell 70 (by omega)
    have d70 := HT6.out.2.1.cell 70 (by omega)
    have k70 := HT6.out.1.free 70
    have e70 : IntKind.i64.wrap (mrg3 f g 70 + g 70) = mrg3 f g 70 + g 70 := by
      rw [IntKind.wrap_i64, mrg3_70]
      have h1 := HF.out.h70
      have h2 := HG.out.h70
      omega
    go_wp2_with fail
    go_region
    have HT7 : Hid (Two w (W6.setCell ⟨m, 70, none⟩ (.int .i64 (mrg3 f g 70 + g 70))).drew m b (mrg4 f g) g) := hid (HT6.out.set 70 (mrg3 f g 70 + g 70)).drew
    generalize (W6.setCell ⟨m, 70, none⟩ (.int .i64 (mrg3 f g 70 + g 70))).drew = W7 at *
    clear c70 d70 k70 e70 HT6
    go_wp2_with fail
    refine (Window_calls b g W7 HT7.out.2.1 HG.out.h65 HG.out.h71).mono ?_
    rintro e W8 ⟨v, rfl, ho, hb8⟩
    obtain ⟨av, cv, rfl, hrv, hcv, hmv⟩ := ho.rd
    have hwl : (win g (g 71).toNat).length ≤ 64 := by rw [win_len]; have := HG.out.h71; omega
    have hav : ∀ bb off, av = some ⟨bb, off, none⟩ → some bb ≠ some m := by
      intro bb off e e2
      injection e2 with e2
      subst e
      have h1 := (ho.lt bb rfl).1
      have h2 := HT7.out.1.lt
      omega
    have HAV := hid hav
    have HRV := hid hrv
    have HM8 := hid (HT7.out.1.below hb8)
    have HB8 := hid (HT7.out.2.2.2.2.trans (hb8.mono HT7.out.2.2.2.2.size))
    have hmle : w.heap.size ≤ m := HT7.out.2.2.2.1
    clear ho hrv hb8 hav HT7
    generalize win g (g 71).toNat = xs at *
    go_wp2_with fail
    go_loopw [105] (fun i wr => ∃ j : Nat, j ≤ xs.length ∧ i = .int .i64 j ∧ MAt wr m ((xs.take j).foldl keepf (mrg4 f g)) ∧ RdI wr av xs ∧ Below w.heap.size w wr) (fun i _ => xs.length - (intOf i).toNat)
    case atStart => exact ⟨0, Nat.zero_le _, rfl, HM8.out, HRV.out, HB8.out⟩
    case round =>
      obtain ⟨j, hj, rfl, hmj, hrj, hbj⟩ := hrel
      have HMJ := hid hmj
      have HRJ := hid hrj
      have HBJ := hid hbj
      clear hmj hrj hbj
      by_cases hlt : j < xs.length
      · obtain ⟨cb, co, hae, hcj⟩ := HRJ.out.cell j hlt
        have HAE := hid hae
        rw [hae]
        clear hae
        obtain ⟨x, hx⟩ : ∃ x, x = xs.getD j 0 := ⟨_, rfl⟩
        rw [← hx] at hcj
        have HXJ := hid hx
        clear hx
        obtain ⟨⟨p1, p2⟩, ⟨p3, p4⟩⟩ := foldkeep_bd (xs.take j) (mrg4 f g) HQ4.out.1 HQ4.out.2
        have HP := hid (And.intro p1 (And.intro p2 (And.intro p3 p4)))
        clear p1 p2 p3 p4
        go_wp2_with fail
        refine (keep_calls m _ x _ HMJ.out HP.out.1 HP.out.2.1 HP.out.2.2.1 HP.out.2.2.2).mono ?_
        rintro e w6 ht
        obtain rfl := ht.1
        have hm6 := ht.2.1
        rw [HXJ.out, ← foldkeep_succ xs _ j hlt] at hm6
        have HM6 := hid hm6
        have HR6 := hid (HRJ.out.grown ht.2.2 (fun bb off e => HAV.out bb off e))
        have HB6 := hid (HBJ.out.grown ht.2.2 HBJ.out.size (fun k hk => by cases hk; exact hmle))
        clear ht hm6
        go_wp2_with fail
        exact ⟨⟨j + 1, by omega, by go_num, HM6.out, by rw [← HAE.out]; exact HR6.out, HB6.out⟩, by simp [intOf]; omega⟩
      · obtain rfl : j = xs.length := by omega
        have hfin := HMJ.out
        rw [List.take_of_length_le (Nat.le_refl _)] at hfin
        have HFIN := hid hfin
        clear hfin
        go_wp2_with fail
        go_ret
        unfold RetM
        rw [HR.out]
        exact ⟨by rw [hmm]; rfl, by rw [hmm]; exact HFIN.out, HBJ.out⟩
  · have e1 : (f 66 == 0) = false := beq_eq_false_iff_ne.2 h1
    go_wp2_with (first | ((with_reducible refine wpl_load_meter a f C HC.out HA1.out ?_ ?_); rfl) | ((with_reducible refine wpl_store_meter m (fresh 0) f C HC.out HM0.out ?_ ?_ ?_); rfl; rfl))
    have HT3 : Hid (Two w (w1.setCells m 0 C.toList) m b (mrg0 f g) g) := hid (by
      have := HT2.out
      rwa [show mrg0 f g = f by unfold mrg0; rw [if_neg h1]])
    generalize w1.setCells m 0 C.toList = W at *
    clear b66 m66 HT2 HT HM0 HA1 HB HA HC
    have c68 := HT3.out.1.cell 68 (by omega)
    have c69 := HT3.out.1.cell 69 (by omega)
    have d68 := HT3.out.2.1.cell 68 (by omega)
    have d69 := HT3.out.2.1.cell 69 (by omega)
    have k68 := HT3.out.1.free 68
    have k69 := HT3.out.1.free 69
    go_wp2_with fail
    go_region
    have HT4 : Hid (Two w ((W.setCell ⟨m, 68, none⟩ (.int .i64 (min (mrg0 f g 68) (g 68)))).setCell ⟨m, 69, none⟩ (.int .i64 (max (mrg0 f g 69) (g 69)))).drew m b (mrg1 f g) g) := hid ((HT3.out.set 68 (min (mrg0 f g 68) (g 68))).set 69 (max (mrg0 f g 69) (g 69))).drew
    generalize ((W.setCell ⟨m, 68, none⟩ (.int .i64 (min (mrg0 f g 68) (g 68)))).setCell ⟨m, 69, none⟩ (.int .i64 (max (mrg0 f g 69) (g 69)))).drew = W4 at *
    clear c68 c69 d68 d69 k68 k69 HT3
    have c66 := HT4.out.1.cell 66 (by omega)
    have d66 := HT4.out.2.1.cell 66 (by omega)
    have k66 := HT4.out.1.free 66
    have e66 : IntKind.i64.wrap (mrg1 f g 66 + g 66) = mrg1 f g 66 + g 66 := by
      rw [IntKind.wrap_i64, mrg1_at f g 66 (by omega)]
      have h1 := HF.out.h66
      have h2 := HG.out.h66
      omega
    go_wp2_with fail
    go_region
    have HT5 : Hid (Two w (W4.setCell ⟨m, 66, none⟩ (.int .i64 (mrg1 f g 66 + g 66))).drew m b (mrg2 f g) g) := hid (HT4.out.set 66 (mrg1 f g 66 + g 66)).drew
    generalize (W4.setCell ⟨m, 66, none⟩ (.int .i64 (mrg1 f g 66 + g 66))).drew = W5 at *
    clear c66 d66 k66 e66 HT4
    have c67 := HT5.out.1.cell 67 (by omega)
    have d67 := HT5.out.2.1.cell 67 (by omega)
    have k67 := HT5.out.1.free 67
    have e67 : IntKind.i64.wrap (mrg2 f g 67 + g 67) = mrg2 f g 67 + g 67 := by
      rw [IntKind.wrap_i64, mrg2_67]
      have h1 := HF.out.h67
      have h2 := HG.out.h67
      omega
    go_wp2_with fail
    go_region
    have HT6 : Hid (Two w (W5.setCell ⟨m, 67, none⟩ (.int .i64 (mrg2 f g 67 + g 67))).drew m b (mrg3 f g) g) := hid (HT5.out.set 67 (mrg2 f g 67 + g 67)).drew
    generalize (W5.setCell ⟨m, 67, none⟩ (.int .i64 (mrg2 f g 67 + g 67))).drew = W6 at *
    clear c67 d67 k67 e67 HT5
    have c70 := HT6.out.1.cell 70 (by omega)
    have d70 := HT6.out.2.1.cell 70 (by omega)
    have k70 := HT6.out.1.free 70
    have e70 : IntKind.i64.wrap (mrg3 f g 70 + g 70) = mrg3 f g 70 + g 70 := by
      rw [IntKind.wrap_i64, mrg3_70]
      have h1 := HF.out.h70
      have h2 := HG.out.h70
      omega
    go_wp2_with fail
    go_region
    have HT7 : Hid (Two w (W6.setCell ⟨m, 70, none⟩ (.int .i64 (mrg3 f g 70 + g 70))).drew m b (mrg4 f g) g) := hid (HT6.out.set 70 (mrg3 f g 70 + g 70)).drew
    generalize (W6.setCell ⟨m, 70, none⟩ (.int .i64 (mrg3 f g 70 + g 70))).drew = W7 at *
    clear c70 d70 k70 e70 HT6
    go_wp2_with fail
    refine (Window_calls b g W7 HT7.out.2.1 HG.out.h65 HG.out.h71).mono ?_
    rintro e W8 ⟨v, rfl, ho, hb8⟩
    obtain ⟨av, cv, rfl, hrv, hcv, hmv⟩ := ho.rd
    have hwl : (win g (g 71).toNat).length ≤ 64 := by rw [win_len]; have := HG.out.h71; omega
    have hav : ∀ bb off, av = some ⟨bb, off, none⟩ → some bb ≠ some m := by
      intro bb off e e2
      injection e2 with e2
      subst e
      have h1 := (ho.lt bb rfl).1
      have h2 := HT7.out.1.lt
      omega
    have HAV := hid hav
    have HRV := hid hrv
    have HM8 := hid (HT7.out.1.below hb8)
    have HB8 := hid (HT7.out.2.2.2.2.trans (hb8.mono HT7.out.2.2.2.2.size))
    have hmle : w.heap.size ≤ m := HT7.out.2.2.2.1
    clear ho hrv hb8 hav HT7
    generalize win g (g 71).toNat = xs at *
    go_wp2_with fail
    go_loopw [105] (fun i wr => ∃ j : Nat, j ≤ xs.length ∧ i = .int .i64 j ∧ MAt wr m ((xs.take j).foldl keepf (mrg4 f g)) ∧ RdI wr av xs ∧ Below w.heap.size w wr) (fun i _ => xs.length - (intOf i).toNat)
    case atStart => exact ⟨0, Nat.zero_le _, rfl, HM8.out, HRV.out, HB8.out⟩
    case round =>
      obtain ⟨j, hj, rfl, hmj, hrj, hbj⟩ := hrel
      have HMJ := hid hmj
      have HRJ := hid hrj
      have HBJ := hid hbj
      clear hmj hrj hbj
      by_cases hlt : j < xs.length
      · obtain ⟨cb, co, hae, hcj⟩ := HRJ.out.cell j hlt
        have HAE := hid hae
        rw [hae]
        clear hae
        obtain ⟨x, hx⟩ : ∃ x, x = xs.getD j 0 := ⟨_, rfl⟩
        rw [← hx] at hcj
        have HXJ := hid hx
        clear hx
        obtain ⟨⟨p1, p2⟩, ⟨p3, p4⟩⟩ := foldkeep_bd (xs.take j) (mrg4 f g) HQ4.out.1 HQ4.out.2
        have HP := hid (And.intro p1 (And.intro p2 (And.intro p3 p4)))
        clear p1 p2 p3 p4
        go_wp2_with fail
        refine (keep_calls m _ x _ HMJ.out HP.out.1 HP.out.2.1 HP.out.2.2.1 HP.out.2.2.2).mono ?_
        rintro e w6 ht
        obtain rfl := ht.1
        have hm6 := ht.2.1
        rw [HXJ.out, ← foldkeep_succ xs _ j hlt] at hm6
        have HM6 := hid hm6
        have HR6 := hid (HRJ.out.grown ht.2.2 (fun bb off e => HAV.out bb off e))
        have HB6 := hid (HBJ.out.grown ht.2.2 HBJ.out.size (fun k hk => by cases hk; exact hmle))
        clear ht hm6
        go_wp2_with fail
        exact ⟨⟨j + 1, by omega, by go_num, HM6.out, by rw [← HAE.out]; exact HR6.out, HB6.out⟩, by simp [intOf]; omega⟩
      · obtain rfl : j = xs.length := by omega
        have hfin := HMJ.out
        rw [List.take_of_length_le (Nat.le_refl _)] at hfin
        have HFIN := hid hfin
        clear hfin
        go_wp2_with fail
        go_ret
        unfold RetM
        rw [HR.out]
        exact ⟨by rw [hmm]; rfl, by rw [hmm]; exact HFIN.out, HBJ.out⟩

end Go.Proofs.Ytaombjljahpncaa
