/- The document's Merge. -/
import Derived.Test.YtaombjljahpncaaMt
import Derived.Deep.DeepCutAuto
import Derived.Deep.RegionLaw
import Derived.Laws.OwnMore
set_option linter.unusedVariables false
set_option linter.unusedSimpArgs false
namespace Go.Proofs.Ytaombjljahpncaa
open Go.RowKit

/-- append(v, ys...) at a step of a region that draws its order. -/
theorem step_appl {ops : Array Oper} {o : Oper} {a : Act} {K : Act → World → Prop} {Q : Exit → Act → World → Prop} {E : Prop} {W : World} (hgd : o.guard = none) (s x : Operand)
    (ho : o.op = .call { callee := .builtin .append, args := #[s, x], argTypes := #[22, 22] }) (base : Nat) (v : Value) (xs ys : List Int) (ad : Option Addr) (c : Nat)
    (hs : a.eval s = v) (hown : OwnI W base v xs) (hx : a.eval x = .slice ad ys.length c) (hrd : RdI W ad ys) (hnil : ad = none → c = 0) (hlen : xs.length + ys.length ≤ 17592186044416) (hbase : base ≤ W.heap.size)
    (hK : ∀ v' w', OwnI w' base v' (xs ++ ys) → W.grownBy w' v.ownBlock → K (a.put o.dst v') w') :
    if Region.wanted o (yielded ops a.tmps) = true then Oper.wp Try.prog o a W K Q else E := by
  have hw : Region.wanted o (yielded ops a.tmps) = true := by simp [Region.wanted, hgd]
  rw [if_pos hw]
  obtain ⟨i0, hi, hz0, hz1, hz2⟩ := info_parts infoInt
  by_cases hz : ad = none
  · have hc := hnil hz
    subst hz hc
    have hys : ys = [] := by
      rcases hrd with h | ⟨b, off, h, _⟩
      · exact h
      · cases h
    subst hys
    have hrun := run_append_owned_none (P := Try.prog) (w := W) base 22 o.type 3 i0 1 Try.underlying22 hi v xs.length (vals xs) hown
    have hx' : a.eval x = .slice none 0 0 := hx
    unfold Oper.wp
    simp [execOp, ho, resolve, invoke, builtin, hs, hx', hrun, Result.andThen]
    exact hK v W (by simpa using hown) (grown_refl _ _)
  · obtain ⟨p, rfl⟩ : ∃ p, ad = some p := by cases ad with | none => exact absurd rfl hz | some p => exact ⟨p, rfl⟩
    refine wp_append_own W s x 22 ho base 3 i0 (.int .i64 0) 1 8 Try.underlying22 hi hz0 hz1 hz2 rfl (by decide) v xs.length (vals xs) hs hown p ys.length c (vals ys) hx (by simp [vals]) ?_ ?_ (by unfold maxLen; omega) (by omega) hbase ?_
    · intro j u hj
      rcases hrd with rfl | ⟨b, off, h, hcell⟩
      · simp [vals] at hj
      · cases h
        have hjl : j < ys.length := by
          have := (List.getElem?_eq_some_iff.1 hj).1
          simpa [vals] using this
        rw [add_pl, hcell j hjl]
        simp [vals, List.getElem?_eq_getElem hjl] at hj
        simp [List.getD_eq_getElem?_getD, List.getElem?_eq_getElem hjl, hj]
    · intro u hu
      simp [vals] at hu
      obtain ⟨_, _, rfl⟩ := hu
      rfl
    · intro v' w' h1 h2 _
      refine hK v' w' ?_ h2
      show w'.ownsRow base 3 1 _ (xs ++ ys).length (vals (xs ++ ys))
      simpa [vals] using h1

/-- The last 64. -/
def last64 (l : List Int) : List Int := l.drop (l.length - 64)

theorem OwnO.dropk {w : World} {base : Nat} {a : Option Addr} {n cap : Nat} {xs : List Int} (h : OwnO w base (.slice a n cap) xs) (k : Nat) (h0 : k < xs.length) :
    ∃ g o, a = some ⟨g, o, none⟩ ∧ OwnO w base (.slice (some ⟨g, o + k, none⟩) (xs.length - k) (cap - k)) (xs.drop k) := by
  rcases h with ⟨_, rfl⟩ | ⟨g, o, cap', cur, he, hb, hh, hle, hm, hsz, hc⟩
  · simp at h0
  · injection he with e1 e2 e3
    subst e3
    refine ⟨g, o, e1, .inr ⟨g, o + k, cap - k, cur, by simp, hb, hh, by simp; omega, by omega, by omega, fun j hj => ?_⟩⟩
    have hj' : k + j < xs.length := by simp at hj; omega
    have := hc (k + j) hj'
    rw [show o + k + j = o + (k + j) by omega, this]
    simp [List.getD_eq_getElem?_getD, List.getElem?_drop]

theorem keepT {w0 w1 w2 : World} {B : Nat} {p q : Addr} {x y : Value} (h : w1.cell? p = some x ∧ w1.cell? q = some y ∧ Below B w0 w1) (hb : Below B w1 w2) (hp : p.block < B) (hq : q.block < B) :
    w2.cell? p = some x ∧ w2.cell? q = some y ∧ Below B w0 w2 := by
  obtain ⟨h1, h2, h3⟩ := h
  rw [hb.cell hp, hb.cell hq]
  exact ⟨h1, h2, h3.trans hb⟩

theorem OwnO.keptK {w w1 : World} {base K : Nat} {v : Value} {xs : List Int} {r : Option Nat} (hg : w.grownBy w1 r) (h : OwnO w base v xs) (hK : ∀ k, v.ownBlock = some k → k < K) (hr : ∀ k, r = some k → K ≤ k) : OwnO w1 base v xs := by
  refine h.kept hg ?_
  cases e : v.ownBlock with
  | none => exact .inl rfl
  | some k =>
    refine .inr fun e2 => ?_
    have h1 := hK k e
    have h2 := hr k e2.symm
    omega

def RetR (L : Int) (all : List Int) (late : Int) (last : List Int) (w : World) (e : Ending) (w' : World) : Prop := e = .returned (.pointer (some ⟨w.heap.size, 0, none⟩)) ∧ RAt w' w.heap.size w.heap.size L all late last ∧ Below w.heap.size w w'

set_option maxHeartbeats 4000000 in
theorem rMerge_calls (base1 base2 c1 c2 : Nat) (L L2 : Int) (A B : List Int) (za zb : Int) (la lb : List Int) (w : World) (h1 : RAt w base1 c1 L A za la) (h2 : RAt w base2 c2 L2 B zb lb)
    (hA : A.length ≤ 1000) (hB : B.length ≤ 1000) (hla : la.length ≤ 64) (hlb : lb.length ≤ 64) (hza : 0 ≤ za ∧ za ≤ 1000) (hzb : 0 ≤ zb ∧ zb ≤ 1000) :
    Calls Try.prog 20 #[.pointer (some ⟨c1, 0, none⟩), .pointer (some ⟨c2, 0, none⟩)] w (RetR L (A ++ B) (za + zb) (last64 (la ++ lb)) w) := by
  obtain ⟨vA1, vL1, hb1, hA1, hL1, -⟩ := h1
  obtain ⟨vA2, vL2, hb2, hA2, hL2, -⟩ := h2
  obtain ⟨a1, p1, rfl, ra1, -, -, na1⟩ := hA1.rd
  obtain ⟨a2, p2, rfl, ra2, -, -, na2⟩ := hA2.rd
  obtain ⟨l1, q1, rfl, rl1, -, -, nl1⟩ := hL1.rd
  obtain ⟨l2, q2, rfl, rl2, -, -, nl2⟩ := hL2.rd
  have RA1 := hid ra1
  have RA2 := hid ra2
  have RL1 := hid rl1
  have RL2 := hid rl2
  have NA1 := hid na1
  have NA2 := hid na2
  have NL1 := hid nl1
  have NL2 := hid nl2
  have hlt1 := hb1.lt
  have hlt2 := hb2.lt
  have x0 := hb1.cell 0 _ rfl
  have x1 := hb1.cell 1 _ rfl
  have x2 := hb1.cell 2 _ rfl
  have x3 := hb1.cell 3 _ rfl
  have y1 := hb2.cell 1 _ rfl
  have y2 := hb2.cell 2 _ rfl
  have y3 := hb2.cell 3 _ rfl
  have hT : (29 : Nat) ≠ 3 := by decide
  have hlA := hA
  clear hb1 hb2 hA1 hA2 hL1 hL2 ra1 ra2 rl1 rl2 na1 na2 nl1 nl2
  have e1 : IntKind.i64.wrap (za + zb) = za + zb := by rw [IntKind.wrap_i64]; omega
  go_enter Try.func20, Try.ntmps20
  go_wp2_with fail
  go_region
  go_wp2_with fail
  have hW : Blk (w.alloc (.cells #[.int .i64 L, .slice none 0 0, .int .i64 (za + zb), .slice none 0 0] 29)).drew w.heap.size #[.int .i64 L, .slice none 0 0, .int .i64 (za + zb), .slice none 0 0] 29 := Blk.new _ _ _
  have hbw : Below w.heap.size w (w.alloc (.cells #[.int .i64 L, .slice none 0 0, .int .i64 (za + zb), .slice none 0 0] 29)).drew := ((Below.refl _ _).alloc (Nat.le_refl _) _).drew
  have hsz : (w.alloc (.cells #[.int .i64 L, .slice none 0 0, .int .i64 (za + zb), .slice none 0 0] 29)).drew.heap.size = w.heap.size + 1 := by simp
  generalize (w.alloc (.cells #[.int .i64 L, .slice none 0 0, .int .i64 (za + zb), .slice none 0 0] 29)).drew = W at *
  have u1 := hbw.cell (p := ⟨c1, 1, none⟩) hlt1
  rw [x1] at u1
  have u3 := hbw.cell (p := ⟨c1, 3, none⟩) hlt1
  rw [x3] at u3
  have v1' := hbw.cell (p := ⟨c2, 1, none⟩) hlt2
  rw [y1] at v1'
  have v3' := hbw.cell (p := ⟨c2, 3, none⟩) hlt2
  rw [y3] at v3'
  have QA1 := hid (fun W' (h : Below w.heap.size w W') => RA1.out.below h)
  have QA2 := hid (fun W' (h : Below w.heap.size w W') => RA2.out.below h)
  have QL1 := hid (fun W' (h : Below w.heap.size w W') => RL1.out.below h)
  have QL2 := hid (fun W' (h : Below w.heap.size w W') => RL2.out.below h)
  have HRET := hid (show RetR L (A ++ B) (za + zb) (last64 (la ++ lb)) w = fun e w' => e = .returned (.pointer (some ⟨w.heap.size, 0, none⟩)) ∧ RAt w' w.heap.size w.heap.size L (A ++ B) (za + zb) (last64 (la ++ lb)) ∧ Below w.heap.size w w' from rfl)
  have X3 := hid x3
  have Y3 := hid y3
  have Y1 := hid y1
  clear x0 x1 x2 x3 y1 y2 y3 RA1 RA2 RL1 RL2 e1
  generalize w.heap.size = c at *
  have j1 := hW.cell 1 _ rfl
  have HW := hid hW
  have HBW := hid hbw
  have hbase := Nat.le_refl c
  clear hW hbw
  go_cut [5] (fun s5 wx => s5 = .pointer (some ⟨c, 0, none⟩) ∧ ∃ a3 p3, Blk wx c #[.int .i64 L, .slice a3 (A.length + B.length) p3, .int .i64 (za + zb), .slice none 0 0] 29 ∧ OwnO wx c (.slice a3 (A.length + B.length) p3) (A ++ B) ∧ Below c w wx)
  case first =>
    go_region_law (first
      | (refine step_appl (by rfl) _ _ (by rfl) c (.slice none 0 0) [] A a1 p1 (by rfl) (by exact OwnI.nil _ _) (by rfl) (by exact QA1.out _ (by exact HBW.out.drew)) NA1.out (by simp; omega) (by simp; omega) ?_; intro v1 w2 ho1 hg1; replace ho1 : OwnI w2 c v1 A := ho1; have hb2 : Blk w2 c #[.int .i64 L, .slice none 0 0, .int .i64 (za + zb), .slice none 0 0] 29 := Blk.grown (by exact HW.out) hg1 (by simp [Value.ownBlock]); have hs2 := hb2.lt; have hz2 := hg1.size; have hbw2 : Below c w w2 := HBW.out.drew.trans ((Below.refl _ _).grown hg1 (by first | omega | (simp; omega)) (fun k hk => by cases hk)); have vv := hbw2.cell (p := ⟨c2, 1, none⟩) hlt2; rw [Y1.out] at vv)
      | (refine step_appl (by rfl) _ _ (by rfl) c v1 A B a2 p2 (by rfl) (by exact ho1) (by rfl) (by exact QA2.out _ (by exact hbw2)) NA2.out (by first | omega | (simp; omega)) (by first | omega | (simp at hz2; omega)) ?_; intro v2 w3 ho2 hg2; obtain ⟨a3, p3, rfl, hr3, hc3, hm3⟩ := ho2.rd; have hb3 : Blk w3 c #[.int .i64 L, .slice none 0 0, .int .i64 (za + zb), .slice none 0 0] 29 := Blk.grown (by exact hb2) hg2 (Ne.symm (OwnO.ne (OwnO.of ho1) hb2 hT)); have hs3 := hb3.lt; have g3 := hb3.free 1; have j3 := hb3.cell 1 _ rfl; have hbw3 : Below c w w3 := hbw2.trans ((Below.refl _ _).grown hg2 (by first | omega | (simp; omega)) (fun k hk => Nat.le_trans hbase (ho1.lt k hk).1))))
    all_goals
      go_wp2_with fail
      go_meet
      refine ⟨rfl, a3, p3, hb3.set 1 _, ?_, ?_⟩
      · have := OwnO.setC (OwnO.of ho2) hb3 hT 1 (.slice a3 (A.length + B.length) p3)
        rwa [show (A ++ B).length = A.length + B.length by simp] at this
      · exact hbw3.trans ((Below.refl _ _).grown (grown_set _) (by first | omega | (simp; omega)) (fun k hk => by cases hk; exact Nat.le_refl _))
  case rest =>
    obtain ⟨rfl, a3, p3, hbk2, hab, hbw2⟩ := hcut
    have HBW2 := hid hbw2
    have HBK2 := hid hbk2
    have HAB := hid hab
    have hka : ∀ k, (Value.slice a3 (A.length + B.length) p3).ownBlock = some k → k < wc.heap.size := fun k hk => by
      obtain ⟨_, cur, h⟩ := HAB.out.lt k hk
      exact h.lt
    have HKA := hid hka
    clear hbk2 hab hbw2 hka u1 u3 v1' v3' j1 HW HBW hsz
    generalize wc = W2 at *
    have hbase : c ≤ W2.heap.size := Nat.le_of_lt HBK2.out.lt
    have u3 := HBW2.out.cell (p := ⟨c1, 3, none⟩) hlt1
    rw [X3.out] at u3
    have v3' := HBW2.out.cell (p := ⟨c2, 3, none⟩) hlt2
    rw [Y3.out] at v3'
    have j1 := HBK2.out.cell 3 _ rfl
    obtain ⟨K, hK⟩ : ∃ K, W2.heap.size = K := ⟨_, rfl⟩
    rw [hK] at hbase
    rw [hK] at HKA
    go_wp2_with fail
    go_cut [5] (fun s5 wx => s5 = .pointer (some ⟨c, 0, none⟩) ∧ ∃ a4 p4, Blk wx c #[.int .i64 L, .slice a3 (A.length + B.length) p3, .int .i64 (za + zb), .slice a4 (la.length + lb.length) p4] 29 ∧ OwnO wx c (.slice a3 (A.length + B.length) p3) (A ++ B) ∧ OwnO wx c (.slice a4 (la.length + lb.length) p4) (la ++ lb) ∧ Below c w wx ∧ ((Value.slice a3 (A.length + B.length) p3).ownBlock = none ∨ (Value.slice a3 (A.length + B.length) p3).ownBlock ≠ (Value.slice a4 (la.length + lb.length) p4).ownBlock) ∧ la.length + lb.length ≤ p4)
    case first =>
      go_region_law (first
        | (refine step_appl (by rfl) _ _ (by rfl) K (.slice none 0 0) [] la l1 q1 (by rfl) (by exact OwnI.nil _ _) (by rfl) (by exact QL1.out _ (by exact HBW2.out.drew)) NL1.out (by simp; omega) (by simp; omega) ?_; intro v1 w2 ho1 hg1; replace ho1 : OwnI w2 K v1 la := ho1; have hb2 : Blk w2 c #[.int .i64 L, .slice a3 (A.length + B.length) p3, .int .i64 (za + zb), .slice none 0 0] 29 := Blk.grown (by exact HBK2.out) hg1 (by simp [Value.ownBlock]); have hs2 := hb2.lt; have hz2 := hg1.size; have hab2 := OwnO.keptK (base := c) (v := .slice a3 (A.length + B.length) p3) (xs := A ++ B) (hg := hg1) (h := by exact HAB.out) HKA.out (fun k hk => by cases hk); have hbw2 : Below c w w2 := HBW2.out.drew.trans ((Below.refl _ _).grown hg1 (by first | omega | (simp; omega)) (fun k hk => by cases hk)); have vv := hbw2.cell (p := ⟨c2, 3, none⟩) hlt2; rw [Y3.out] at vv)
        | (refine step_appl (by rfl) _ _ (by rfl) K v1 la lb l2 q2 (by rfl) (by exact ho1) (by rfl) (by exact QL2.out _ (by exact hbw2)) NL2.out (by first | omega | (simp; omega)) (by first | omega | (simp at hz2; omega)) ?_; intro v2 w3 ho2 hg2; obtain ⟨a4, p4, rfl, hr4, hc4, hm4⟩ := ho2.rd; have hb3 : Blk w3 c #[.int .i64 L, .slice a3 (A.length + B.length) p3, .int .i64 (za + zb), .slice none 0 0] 29 := Blk.grown (by exact hb2) hg2 (Ne.symm (OwnO.ne (OwnO.of ho1) hb2 hT)); have hs3 := hb3.lt; have g3 := hb3.free 3; have j3 := hb3.cell 3 _ rfl; have hab3 := OwnO.keptK (base := c) (v := .slice a3 (A.length + B.length) p3) (xs := A ++ B) (hg := hg2) (h := by exact hab2) HKA.out (fun k hk => (ho1.lt k hk).1); have hbw3 : Below c w w3 := hbw2.trans ((Below.refl _ _).grown hg2 (by first | omega | (simp; omega)) (fun k hk => Nat.le_trans hbase (ho1.lt k hk).1))))
      all_goals
        go_wp2_with fail
        go_meet
        refine ⟨rfl, a4, p4, hb3.set 3 _, OwnO.setC hab3 hb3 hT 3 _, ?_, ?_, ?_, by have := hc4; simp at this; omega⟩
        · have := OwnO.setC ((OwnO.of ho2).mono hbase) hb3 hT 3 (.slice a4 (la.length + lb.length) p4)
          rwa [show (la ++ lb).length = la.length + lb.length by simp] at this
        · exact hbw3.trans ((Below.refl _ _).grown (grown_set _) (by first | omega | (simp; omega)) (fun k hk => by cases hk; exact Nat.le_refl _))
        · cases e : (Value.slice a3 (A.length + B.length) p3).ownBlock with
          | none => exact .inl rfl
          | some k =>
            refine .inr fun e2 => ?_
            have h1 := HKA.out k e
            have e3 : (Value.slice a4 (la ++ lb).length p4).ownBlock = some k := by rw [show (la ++ lb).length = la.length + lb.length by simp]; exact e2.symm
            have h2 := (ho2.lt k e3).1
            omega
    case rest =>
      obtain ⟨rfl, a4, p4, hbk3, hab4, hll, hbw3, hsep, hp4⟩ := hcut
      have HBW3 := hid hbw3
      have HBK3 := hid hbk3
      have HAB3 := hid hab4
      have HLL := hid hll
      have HSEP := hid hsep
      clear hbk3 hab4 hll hsep hbw3 u3 v3' j1 HBK2 HAB HBW2 HKA hK hbase X3 Y3
      have hn0 : (la ++ lb).length = la.length + lb.length := by simp
      generalize hn : la.length + lb.length = n at *
      have k3 := HBK3.out.cell 3 _ rfl
      have f3 := HBK3.out.free 3
      have HN0 := hid hn0
      have hnb : n ≤ 128 := by omega
      clear hn0 hn
      by_cases hbig : n ≤ 64
      · have hbig' : ¬ (64 : Int) < (n : Int) := by omega
        go_wp2_with fail
        go_ret
        rw [HRET.out]
        refine ⟨rfl, ⟨_, _, HBK3.out, HAB3.out, ?_, HSEP.out⟩, HBW3.out⟩
        have : last64 (la ++ lb) = la ++ lb := by unfold last64; rw [HN0.out, show n - 64 = 0 by omega]; rfl
        rw [this]
        exact HLL.out
      · obtain ⟨k, rfl⟩ : ∃ k, n = k + 64 := ⟨n - 64, by omega⟩
        have hll2 := HLL.out
        rw [← HN0.out] at hll2
        obtain ⟨g, o, rfl, ht⟩ := hll2.dropk k (by rw [HN0.out]; omega)
        rw [HN0.out, Nat.add_sub_cancel_left] at ht
        have HT := hid ht
        have e1 : IntKind.i64.wrap ((k : Int) + 64 - 64) = (k : Int) := by rw [IntKind.wrap_i64]; omega
        have e2 : IntKind.i64.wrap (k : Int) = (k : Int) := by rw [IntKind.wrap_i64]; omega
        have i1 : (0 : Int) ≤ (k : Int) := Int.natCast_nonneg _
        have i2 : (k : Int) ≤ (k : Int) + 64 := by omega
        have hbig' : (64 : Int) < (k : Int) + 64 := by omega
        clear ht hll2 hbig
        go_wp2_with fail
        go_region
        go_wp2_with fail
        go_ret
        rw [HRET.out]
        have q := HBK3.out.set 3 (.slice (some ⟨g, o + k, none⟩) 64 (p4 - k))
        have o1 := OwnO.setC HAB3.out HBK3.out hT 3 (.slice (some ⟨g, o + k, none⟩) 64 (p4 - k))
        have o2 := OwnO.setC HT.out HBK3.out hT 3 (.slice (some ⟨g, o + k, none⟩) 64 (p4 - k))
        have hl : last64 (la ++ lb) = (la ++ lb).drop k := by unfold last64; rw [HN0.out, Nat.add_sub_cancel]
        refine ⟨rfl, ⟨_, _, q, o1, ?_, HSEP.out⟩, ?_⟩
        · rw [hl]; exact o2
        · exact ((HBW3.out.grown (grown_set (p := ⟨c, 3, none⟩) _) (Nat.le_of_lt HBK3.out.lt) (fun k hk => by cases hk; exact Nat.le_refl _))).drew

end Go.Proofs.Ytaombjljahpncaa
