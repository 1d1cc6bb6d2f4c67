/- The document's meter: its block, and Add. -/
import Derived.Test.YtaombjljahpncaaMa
import Derived.Test.YtaombjljahpncaaOo
import Derived.Deep.DeepMust
set_option linter.unusedVariables false
set_option linter.unusedSimpArgs false
namespace Go.Proofs.Ytaombjljahpncaa
open Go.RowKit

/-- Block c is the document's meter. -/
def RAt (w : World) (base c : Nat) (L : Int) (all : List Int) (late : Int) (last : List Int) : Prop :=
  ∃ vA vL, Blk w c #[.int .i64 L, vA, .int .i64 late, vL] 29 ∧ OwnO w base vA all ∧ OwnO w base vL last ∧ (vA.ownBlock = none ∨ vA.ownBlock ≠ vL.ownBlock)

theorem Blk.inj {w : World} {b : Nat} {cs cs' : Array Value} {t t' : TypeId} (h : Blk w b cs t) (h' : Blk w b cs' t') : t = t' := by
  unfold Blk at *
  rw [h] at h'
  injection h' with h'
  injection h'
theorem OwnO.ne {w : World} {base c : Nat} {v : Value} {xs : List Int} {cs : Array Value} {t : TypeId} (h : OwnO w base v xs) (hc : Blk w c cs t) (ht : t ≠ 3) : v.ownBlock ≠ some c := by
  intro e
  obtain ⟨_, cur, hk⟩ := h.lt c e
  exact ht (Blk.inj hc hk)
theorem Blk.grown {w w1 : World} {b : Nat} {cs : Array Value} {t : TypeId} {r : Option Nat} (h : Blk w b cs t) (hg : w.grownBy w1 r) (hne : some b ≠ r) : Blk w1 b cs t := by
  unfold Blk at *
  rw [hg.block b (lt_of_block h) hne]
  exact h

theorem OwnO.setC {w : World} {base c : Nat} {v : Value} {xs : List Int} {cs : Array Value} {t : TypeId} (h : OwnO w base v xs) (hc : Blk w c cs t) (ht : t ≠ 3) (i : Nat) (u : Value) : OwnO (w.setCell ⟨c, i, none⟩ u) base v xs :=
  h.move fun k hk => Below.heap_setCell _ _ _ _ (fun e => h.ne hc ht (by rw [hk]; exact congrArg some e))

/-- What a call of the document's Add leaves alone: all below base but block c; all meters. -/
structure Lets (base c : Nat) (w w' : World) : Prop where
  os : w'.os = w.os
  tape : w'.tape = w.tape
  output : w'.output = w.output
  size : w.heap.size ≤ w'.heap.size
  block : ∀ k, k < base → k ≠ c → w'.heap[k]? = w.heap[k]?
  meters : ∀ b f, MAt w b f → MAt w' b f
theorem Lets.refl (base c : Nat) (w : World) : Lets base c w w := ⟨rfl, rfl, rfl, Nat.le_refl _, fun _ _ _ => rfl, fun _ _ h => h⟩
theorem Lets.trans {base c : Nat} {w w1 w2 : World} (h : Lets base c w w1) (k : Lets base c w1 w2) : Lets base c w w2 :=
  ⟨k.os.trans h.os, k.tape.trans h.tape, k.output.trans h.output, Nat.le_trans h.size k.size, fun i hi hne => (k.block i hi hne).trans (h.block i hi hne), fun b f hb => k.meters b f (h.meters b f hb)⟩
/-- A store into block c, which is no meter. -/
theorem Lets.set {base c : Nat} {w : World} {cs : Array Value} {t : TypeId} (hc : Blk w c cs t) (ht : t ≠ 44) (i : Nat) (v : Value) : Lets base c w (w.setCell ⟨c, i, none⟩ v) :=
  ⟨rfl, rfl, rfl, by simp [World.setCell], fun k _ hne => Below.heap_setCell _ _ _ _ hne, fun b f hb => by
    unfold MAt at *
    refine Blk.other hb ?_ v
    intro e
    have e' : b = c := e
    subst e'
    exact ht (Blk.inj hc hb)⟩
/-- A new block, and a row of ints that may have been written. -/
theorem Lets.app {base c : Nat} {w w1 : World} {n : Int} {v : Value} {xs : List Int} (hbase : base ≤ w.heap.size) (ho : OwnO w base v xs) (hg : (w.alloc (.cells #[.int .i64 n] 3)).grownBy w1 v.ownBlock) : Lets base c w w1 :=
  ⟨hg.os, hg.tape, hg.output, Nat.le_trans (by simp) hg.size, fun k hk _ => by
    rw [hg.block k (by simp; omega) (fun e => by have := (ho.lt k e.symm).1; omega)]
    exact Below.heap_alloc _ _ _ (by omega), fun b f hb => by
    refine Blk.grown (Blk.alloc hb _) hg (fun e => ?_)
    exact ho.ne hb (by decide) e.symm⟩

def RAdds (base c : Nat) (L : Int) (all : List Int) (late : Int) (last : List Int) (x : Int) (w : World) (e : Ending) (w' : World) : Prop :=
  e = .returned (.tuple #[]) ∧ RAt w' base c L (all ++ [brg x]) (if L < brg x then late + 1 else late) (trim (last ++ [brg x])) ∧ Lets base c w w'

theorem OwnO.tail {w : World} {base : Nat} {a : Option Addr} {n cap : Nat} {xs : List Int} (h : OwnO w base (.slice a n cap) xs) (h0 : 0 < xs.length) :
    ∃ g o, a = some ⟨g, o, none⟩ ∧ OwnO w base (.slice (some ⟨g, o + 1, none⟩) (xs.length - 1) (cap - 1)) (xs.drop 1) := by
  rcases h with ⟨_, rfl⟩ | ⟨g, o, cap', cur, he, hb, hh, hle, hm, hsz, hc⟩
  · simp at h0
  · injection he with e1 e2 e3
    subst e3
    refine ⟨g, o, e1, .inr ⟨g, o + 1, cap - 1, cur, by simp, hb, hh, by simp; omega, by omega, by omega, fun j hj => ?_⟩⟩
    have hj' : 1 + j < xs.length := by simp at hj; omega
    have := hc (1 + j) hj'
    rw [show o + 1 + j = o + (1 + j) by omega, this]
    simp [List.getD_eq_getElem?_getD, List.getElem?_drop, Nat.add_comm]

set_option maxHeartbeats 4000000 in
theorem rAdd_calls (base c : Nat) (L : Int) (all : List Int) (late : Int) (last : List Int) (x : Int) (w : World) (h : RAt w base c L all late last) (hbase : base ≤ w.heap.size)
    (hl : all.length ≤ 1000) (hl2 : last.length ≤ 64) (h0 : 0 ≤ late) (h1 : late ≤ 1000000) :
    Calls Try.prog 11 #[.pointer (some ⟨c, 0, none⟩), .int .i64 x] w (RAdds base c L all late last x w) := by
  obtain ⟨vA, vL, hb, hA, hL, hne⟩ := h
  obtain ⟨z, hz⟩ : ∃ z, z = brg x := ⟨_, rfl⟩
  have HZ := hid hz
  have hgoal : RAdds base c L all late last x w = fun e w' => e = .returned (.tuple #[]) ∧ RAt w' base c L (all ++ [z]) (if L < z then late + 1 else late) (trim (last ++ [z])) ∧ Lets base c w w' := by
    rw [hz]; rfl
  rw [hgoal]
  clear hgoal hz
  have HB := hid hb
  have HA := hid hA
  have HL := hid hL
  have HNE := hid hne
  have c0 := hb.cell 0 _ rfl
  have c1 := hb.cell 1 _ rfl
  have c2 := hb.cell 2 _ rfl
  have c3 := hb.cell 3 _ rfl
  have f1 := hb.free 1
  have f2 := hb.free 2
  have f3 := hb.free 3
  clear hb hA hL hne
  have hT : (29 : Nat) ≠ 3 := by decide
  have hT2 : (29 : Nat) ≠ 44 := by decide
  by_cases hLz : L < z
  case pos =>
    go_enter Try.func11, Try.ntmps11
    go_wp2_with fail
    refine (Bring_calls _ _).mono ?_
    rintro e w' ⟨rfl, rfl⟩
    rw [← HZ.out]
    go_wp2_with (at_builtin; refine wpl_appO w' rfl _ _ rfl base vA all z w'.heap.size rfl rfl HA.out rfl (by omega) hbase ?_)
    intro v1 w1 ho1 hg1 hd1
    obtain ⟨a1, p1, rfl, -⟩ := ho1.rd
    have hb1 := (HB.out.alloc (.cells #[.int .i64 z] 3)).grown hg1 (Ne.symm (HA.out.ne HB.out hT))
    have hL1 : OwnO w1 base vL last := (HL.out.alloc _).kept hg1 (by
      rcases HNE.out with h | h
      · rw [h]; cases vL.ownBlock <;> simp
      · exact .inr (Ne.symm h))
    have hlet1 : Lets base c w' w1 := Lets.app hbase HA.out hg1
    have hsep1 : ∀ k, vL.ownBlock = some k → (Value.slice a1 (all ++ [z]).length p1).ownBlock ≠ some k := by
      intro k hk e
      rcases hd1 with h | h
      · rcases HNE.out with h2 | h2
        · rw [e, h2] at h; cases h
        · exact h2 (by rw [← h, e, hk])
      · obtain ⟨_, cur, hc⟩ := HL.out.lt k hk
        have := hc.lt
        have := h k e
        omega
    have d0 := hb1.cell 0 _ rfl
    have d1 := hb1.cell 1 _ rfl
    have d2 := hb1.cell 2 _ rfl
    have d3 := hb1.cell 3 _ rfl
    have e1 := hb1.free 1
    have e2 := hb1.free 2
    have e3 := hb1.free 3
    have HO1 := hid ho1
    have HB1 := hid hb1
    have HL1 := hid hL1
    have HLET1 := hid hlet1
    have HSEP1 := hid hsep1
    have hbase1 : base ≤ w1.heap.size := by have := hlet1.size; omega
    clear ho1 hg1 hd1 hb1 hL1 hlet1 hsep1 c0 c1 c2 c3 f1 f2 f3
    go_wp2_with (at_builtin; go_must (refine wpl_appO _ rfl _ _ rfl base vL last z w1.heap.size (by simp [World.setCell]) rfl (by first | exact OwnO.setC (HL1.out.setC HB1.out hT 1 _) (HB1.out.set 1 _) hT 2 _ | exact HL1.out.setC HB1.out hT 1 _) rfl (by omega) (by simpa [World.setCell] using hbase1) ?_))
    intro v2 w3 ho3 hg3 hd3
    obtain ⟨a2, p2, rfl, -, hc2, hm2, -⟩ := ho3.rd
    have hb2 := (HB1.out.set 1 (Value.slice a1 (all.length + 1) p1)).set 2 (.int .i64 (late + 1))
    have hO2 := OwnO.setC (HO1.out.setC HB1.out hT 1 (Value.slice a1 (all.length + 1) p1)) (HB1.out.set 1 (Value.slice a1 (all.length + 1) p1)) hT 2 (.int .i64 (late + 1))
    have hL2 := OwnO.setC (HL1.out.setC HB1.out hT 1 (Value.slice a1 (all.length + 1) p1)) (HB1.out.set 1 (Value.slice a1 (all.length + 1) p1)) hT 2 (.int .i64 (late + 1))
    have hlet2 := (HLET1.out.trans (Lets.set HB1.out hT2 1 (Value.slice a1 (all.length + 1) p1))).trans (Lets.set (HB1.out.set 1 (Value.slice a1 (all.length + 1) p1)) hT2 2 (.int .i64 (late + 1)))
    have hb3 := (hb2.alloc (.cells #[.int .i64 z] 3)).grown hg3 (Ne.symm (hL2.ne hb2 hT))
    have hO3 := (hO2.alloc (.cells #[.int .i64 z] 3)).kept hg3 (by
      cases e1 : (Value.slice a1 (all ++ [z]).length p1).ownBlock with
      | none => exact .inl rfl
      | some k => exact .inr (fun e => HSEP1.out k e.symm e1))
    have hbase2 : base ≤ w1.heap.size := hbase1
    have hlet3 := hlet2.trans (Lets.app (c := c) (by simpa [World.setCell] using hbase2) hL2 hg3)
    have hb4 : Blk w3 c #[.int .i64 L, .slice a1 (all.length + 1) p1, .int .i64 (late + 1), vL] 29 := hb3
    have hsep3 : (Value.slice a1 (all ++ [z]).length p1).ownBlock = none ∨ (Value.slice a1 (all ++ [z]).length p1).ownBlock ≠ (Value.slice a2 (last ++ [z]).length p2).ownBlock := by
      cases e1 : (Value.slice a1 (all ++ [z]).length p1).ownBlock with
      | none => exact .inl rfl
      | some k =>
        refine .inr fun e => ?_
        rcases hd3 with h | h
        · exact HSEP1.out k (by rw [← h, ← e]) e1
        · obtain ⟨_, cur, hc⟩ := HO1.out.lt k e1
          have := hc.lt
          have := h k e.symm
          omega
    have k0 := hb4.cell 0 _ rfl
    have k1 := hb4.cell 1 _ rfl
    have k2 := hb4.cell 2 _ rfl
    have k3 := hb4.cell 3 _ rfl
    have m3 := hb4.free 3
    have HB4 := hid hb4
    have HO3 := hid hO3
    have HO4 := hid ho3
    have HLET3 := hid hlet3
    have HSEP3 := hid hsep3
    have HC2 := hid hc2
    have el : (last ++ [z]).length = last.length + 1 := by simp
    rw [el]
    clear hb2 hO2 hL2 hlet2 hb3 hO3 hlet3 hb4 hsep3 ho3 hg3 hd3 hc2 hbase1 hbase2 HB1 HO1 HL1 HLET1 HSEP1 d0 d1 d2 d3 e1 e2 e3
    by_cases hfull : (64 : Int) < (last.length : Int) + 1
    · obtain ⟨g, o, rfl, ht⟩ := HO4.out.tail (by simp)
      have HT := hid ht
      have hp2 : last.length + 1 ≤ p2 := by have := HC2.out; omega
      clear ht
      go_wp2_with fail
      go_end0
      have q1 := HB4.out.set 3 (.slice (some ⟨g, o, none⟩) (last.length + 1) p2)
      have q2 := q1.set 3 (.slice (some ⟨g, o + 1, none⟩) last.length (p2 - 1))
      have hO := OwnO.setC (OwnO.setC HO3.out HB4.out hT 3 (.slice (some ⟨g, o, none⟩) (last.length + 1) p2)) q1 hT 3 (.slice (some ⟨g, o + 1, none⟩) last.length (p2 - 1))
      have hT3 := OwnO.setC (OwnO.setC HT.out HB4.out hT 3 (.slice (some ⟨g, o, none⟩) (last.length + 1) p2)) q1 hT 3 (.slice (some ⟨g, o + 1, none⟩) last.length (p2 - 1))
      have htr : trim (last ++ [z]) = (last ++ [z]).drop 1 := by unfold trim; exact if_pos (by omega)
      have hs3 := HSEP3.out
      rw [show (all ++ [z]).length = all.length + 1 by simp] at hO hs3
      rw [el, Nat.add_sub_cancel] at hT3
      refine ⟨rfl, ⟨_, _, q2, hO, ?_, hs3⟩, ?_⟩
      · rw [htr]; exact hT3
      · exact (HLET3.out.trans (Lets.set HB4.out hT2 3 _)).trans (Lets.set q1 hT2 3 _)
    · go_wp2_with fail
      go_end0
      have q1 := HB4.out.set 3 (.slice a2 (last.length + 1) p2)
      have hO := OwnO.setC HO3.out HB4.out hT 3 (.slice a2 (last.length + 1) p2)
      have hT3 := OwnO.setC HO4.out HB4.out hT 3 (.slice a2 (last.length + 1) p2)
      have htr : trim (last ++ [z]) = last ++ [z] := by unfold trim; exact if_neg (by omega)
      have hs3 := HSEP3.out
      rw [show (all ++ [z]).length = all.length + 1 by simp] at hO hs3
      rw [el] at hT3 hs3
      refine ⟨rfl, ⟨_, _, q1, hO, ?_, hs3⟩, ?_⟩
      · rw [htr]; exact hT3
      · exact HLET3.out.trans (Lets.set HB4.out hT2 3 _)
  case neg =>
    go_enter Try.func11, Try.ntmps11
    go_wp2_with fail
    refine (Bring_calls _ _).mono ?_
    rintro e w' ⟨rfl, rfl⟩
    rw [← HZ.out]
    go_wp2_with (at_builtin; refine wpl_appO w' rfl _ _ rfl base vA all z w'.heap.size rfl rfl HA.out rfl (by omega) hbase ?_)
    intro v1 w1 ho1 hg1 hd1
    obtain ⟨a1, p1, rfl, -⟩ := ho1.rd
    have hb1 := (HB.out.alloc (.cells #[.int .i64 z] 3)).grown hg1 (Ne.symm (HA.out.ne HB.out hT))
    have hL1 : OwnO w1 base vL last := (HL.out.alloc _).kept hg1 (by
      rcases HNE.out with h | h
      · rw [h]; cases vL.ownBlock <;> simp
      · exact .inr (Ne.symm h))
    have hlet1 : Lets base c w' w1 := Lets.app hbase HA.out hg1
    have hsep1 : ∀ k, vL.ownBlock = some k → (Value.slice a1 (all ++ [z]).length p1).ownBlock ≠ some k := by
      intro k hk e
      rcases hd1 with h | h
      · rcases HNE.out with h2 | h2
        · rw [e, h2] at h; cases h
        · exact h2 (by rw [← h, e, hk])
      · obtain ⟨_, cur, hc⟩ := HL.out.lt k hk
        have := hc.lt
        have := h k e
        omega
    have d0 := hb1.cell 0 _ rfl
    have d1 := hb1.cell 1 _ rfl
    have d2 := hb1.cell 2 _ rfl
    have d3 := hb1.cell 3 _ rfl
    have e1 := hb1.free 1
    have e2 := hb1.free 2
    have e3 := hb1.free 3
    have HO1 := hid ho1
    have HB1 := hid hb1
    have HL1 := hid hL1
    have HLET1 := hid hlet1
    have HSEP1 := hid hsep1
    have hbase1 : base ≤ w1.heap.size := by have := hlet1.size; omega
    clear ho1 hg1 hd1 hb1 hL1 hlet1 hsep1 c0 c1 c2 c3 f1 f2 f3
    go_wp2_with (at_builtin; go_must (refine wpl_appO _ rfl _ _ rfl base vL last z w1.heap.size (by simp [World.setCell]) rfl (by first | exact OwnO.setC (HL1.out.setC HB1.out hT 1 _) (HB1.out.set 1 _) hT 2 _ | exact HL1.out.setC HB1.out hT 1 _) rfl (by omega) (by simpa [World.setCell] using hbase1) ?_))
    intro v2 w3 ho3 hg3 hd3
    obtain ⟨a2, p2, rfl, -, hc2, hm2, -⟩ := ho3.rd
    have hb2 := HB1.out.set 1 (Value.slice a1 (all.length + 1) p1)
    have hO2 := HO1.out.setC HB1.out hT 1 (Value.slice a1 (all.length + 1) p1)
    have hL2 := HL1.out.setC HB1.out hT 1 (Value.slice a1 (all.length + 1) p1)
    have hlet2 := HLET1.out.trans (Lets.set HB1.out hT2 1 (Value.slice a1 (all.length + 1) p1))
    have hb3 := (hb2.alloc (.cells #[.int .i64 z] 3)).grown hg3 (Ne.symm (hL2.ne hb2 hT))
    have hO3 := (hO2.alloc (.cells #[.int .i64 z] 3)).kept hg3 (by
      cases e1 : (Value.slice a1 (all ++ [z]).length p1).ownBlock with
      | none => exact .inl rfl
      | some k => exact .inr (fun e => HSEP1.out k e.symm e1))
    have hbase2 : base ≤ w1.heap.size := hbase1
    have hlet3 := hlet2.trans (Lets.app (c := c) (by simpa [World.setCell] using hbase2) hL2 hg3)
    have hb4 : Blk w3 c #[.int .i64 L, .slice a1 (all.length + 1) p1, .int .i64 late, vL] 29 := hb3
    have hsep3 : (Value.slice a1 (all ++ [z]).length p1).ownBlock = none ∨ (Value.slice a1 (all ++ [z]).length p1).ownBlock ≠ (Value.slice a2 (last ++ [z]).length p2).ownBlock := by
      cases e1 : (Value.slice a1 (all ++ [z]).length p1).ownBlock with
      | none => exact .inl rfl
      | some k =>
        refine .inr fun e => ?_
        rcases hd3 with h | h
        · exact HSEP1.out k (by rw [← h, ← e]) e1
        · obtain ⟨_, cur, hc⟩ := HO1.out.lt k e1
          have := hc.lt
          have := h k e.symm
          omega
    have k0 := hb4.cell 0 _ rfl
    have k1 := hb4.cell 1 _ rfl
    have k2 := hb4.cell 2 _ rfl
    have k3 := hb4.cell 3 _ rfl
    have m3 := hb4.free 3
    have HB4 := hid hb4
    have HO3 := hid hO3
    have HO4 := hid ho3
    have HLET3 := hid hlet3
    have HSEP3 := hid hsep3
    have HC2 := hid hc2
    have el : (last ++ [z]).length = last.length + 1 := by simp
    rw [el]
    clear hb2 hO2 hL2 hlet2 hb3 hO3 hlet3 hb4 hsep3 ho3 hg3 hd3 hc2 hbase1 hbase2 HB1 HO1 HL1 HLET1 HSEP1 d0 d1 d2 d3 e1 e2 e3
    by_cases hfull : (64 : Int) < (last.length : Int) + 1
    · obtain ⟨g, o, rfl, ht⟩ := HO4.out.tail (by simp)
      have HT := hid ht
      have hp2 : last.length + 1 ≤ p2 := by have := HC2.out; omega
      clear ht
      go_wp2_with fail
      go_end0
      have q1 := HB4.out.set 3 (.slice (some ⟨g, o, none⟩) (last.length + 1) p2)
      have q2 := q1.set 3 (.slice (some ⟨g, o + 1, none⟩) last.length (p2 - 1))
      have hO := OwnO.setC (OwnO.setC HO3.out HB4.out hT 3 (.slice (some ⟨g, o, none⟩) (last.length + 1) p2)) q1 hT 3 (.slice (some ⟨g, o + 1, none⟩) last.length (p2 - 1))
      have hT3 := OwnO.setC (OwnO.setC HT.out HB4.out hT 3 (.slice (some ⟨g, o, none⟩) (last.length + 1) p2)) q1 hT 3 (.slice (some ⟨g, o + 1, none⟩) last.length (p2 - 1))
      have htr : trim (last ++ [z]) = (last ++ [z]).drop 1 := by unfold trim; exact if_pos (by omega)
      have hs3 := HSEP3.out
      rw [show (all ++ [z]).length = all.length + 1 by simp] at hO hs3
      rw [el, Nat.add_sub_cancel] at hT3
      refine ⟨rfl, ⟨_, _, q2, hO, ?_, hs3⟩, ?_⟩
      · rw [htr]; exact hT3
      · exact (HLET3.out.trans (Lets.set HB4.out hT2 3 _)).trans (Lets.set q1 hT2 3 _)
    · go_wp2_with fail
      go_end0
      have q1 := HB4.out.set 3 (.slice a2 (last.length + 1) p2)
      have hO := OwnO.setC HO3.out HB4.out hT 3 (.slice a2 (last.length + 1) p2)
      have hT3 := OwnO.setC HO4.out HB4.out hT 3 (.slice a2 (last.length + 1) p2)
      have htr : trim (last ++ [z]) = last ++ [z] := by unfold trim; exact if_neg (by omega)
      have hs3 := HSEP3.out
      rw [show (all ++ [z]).length = all.length + 1 by simp] at hO hs3
      rw [el] at hT3 hs3
      refine ⟨rfl, ⟨_, _, q1, hO, ?_, hs3⟩, ?_⟩
      · rw [htr]; exact hT3
      · exact HLET3.out.trans (Lets.set HB4.out hT2 3 _)

end Go.Proofs.Ytaombjljahpncaa
