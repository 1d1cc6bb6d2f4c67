/- verify: behind an instruction (second half). -/
import Derived.Test.YtjnohalffffiaaaVb
import Derived.Deep.DrawnRows
set_option linter.unusedVariables false
set_option linter.unusedSimpArgs false
namespace Go.Proofs.Ytjnohalffffiaaa
open Go.RowKit

def pushI (k op : Int) (bs : List (Int × Int)) : Int × Int × List (Int × Int) := if may op k = false then (6, k, bs) else if bs.length = 8 then (8, k, bs) else (0, 0, bs ++ [(op, k)])
theorem push_any (k op : Int) (v : Value) (bs : List (Int × Int)) (w : World) (hv : BrR w v bs) (hn : bs.length ≤ 8) :
    Calls Try.prog 83 #[.agg #[.int .i64 k, v], .int .i64 op] w (RetA (pushI k op bs).1 (pushI k op bs).2.1 (pushI k op bs).2.2 w) := by
  obtain ⟨a, c, rfl, -⟩ := hv.form
  unfold pushI
  cases hm : may op k with
  | false =>
    rw [if_pos rfl]
    refine (push_type k op a bs.length c w hm).mono ?_
    rintro e w' ⟨rfl, hb⟩
    exact ⟨_, rfl, hv.below hb, hb⟩
  | true =>
    rw [if_neg (by simp)]
    by_cases h8 : bs.length = 8
    · rw [if_pos h8]
      have : Calls Try.prog 83 #[.agg #[.int .i64 k, .slice a bs.length c], .int .i64 op] w fun e w' => e = .returned (.tuple #[.agg #[.int .i64 k, .slice a bs.length c], .int .i64 8]) ∧ Below w.heap.size w w' := by
        rw [h8]
        exact push_full k op a c w hm
      refine this.mono ?_
      rintro e w' ⟨rfl, hb⟩
      exact ⟨_, rfl, hv.below hb, hb⟩
    · rw [if_neg h8]
      exact push_ok k op _ bs w hm hv (by omega)

def popI (k : Int) (bs : List (Int × Int)) : Int × Int × List (Int × Int) :=
  match bs.getLast? with
  | none => (3, k, bs)
  | some b => if b.2 = k then (0, madeI b.1 k, bs.dropLast) else (6, k, bs)
theorem pop_any (k : Int) (v : Value) (bs : List (Int × Int)) (w : World) (hv : BrR w v bs) (hn : bs.length ≤ 8) :
    Calls Try.prog 84 #[.agg #[.int .i64 k, v]] w (RetA (popI k bs).1 (popI k bs).2.1 (popI k bs).2.2 w) := by
  unfold popI
  cases hl : bs.getLast? with
  | none =>
    have : bs = [] := by simpa using hl
    subst this
    obtain ⟨a, c, rfl, -⟩ := hv.form
    refine (pop_none k a c w).mono ?_
    rintro e w' ⟨rfl, hb⟩
    exact ⟨_, rfl, hv.below hb, hb⟩
  | some b =>
    obtain ⟨l, rfl⟩ : ∃ l, bs = l ++ [b] := by
      exact List.getLast?_eq_some_iff.1 hl
    obtain ⟨g, cap, rfl, h1, h2⟩ := hv.cell l.length (by simp)
    have e1 : (l ++ [b]).getD l.length (0, 0) = b := by simp [List.getD_eq_getElem?_getD]
    rw [e1] at h1 h2
    have hlen : (l ++ [b]).length = l.length + 1 := by simp
    rw [hlen] at hv hn ⊢
    have hcap : l.length + 1 ≤ cap := by
      obtain ⟨_, _, h, hle, _⟩ := hv.form
      injection h with h3 h4 h5
      subst h5
      simpa using hle
    dsimp only
    by_cases hk : b.2 = k
    · rw [if_pos hk]
      subst hk
      refine (pop_same b.2 b.1 g l.length cap w h1 h2 (by omega) hcap).mono ?_
      rintro e w' ⟨rfl, hb⟩
      refine ⟨_, rfl, ?_, hb⟩
      have : BrR w (.slice (some ⟨g, 0, none⟩) l.length cap) l := by
        rcases hv.2 with ⟨h, _⟩ | ⟨g', cap', cur, h, hb', hh, hle, hm, hsz, htk⟩
        · cases h
        · injection h with h3 h4 h5
          injection h3 with h3
          injection h3 with h3
          subst h3 h5
          refine ⟨brCells_len l, .inr ⟨g, cap, cur, rfl, hb', hh, by omega, hm, hsz, ?_⟩⟩
          have := congrArg (List.take (l.length * 2)) htk
          rw [List.take_take, brCells_app, List.take_append_of_le_length (by rw [brCells_len]; exact Nat.le_refl _), List.take_of_length_le (l := brCells l) (by rw [brCells_len]; exact Nat.le_refl _)] at this
          rw [← this]
          rw [show min (l.length * 2) ((l ++ [b]).length * 2) = l.length * 2 by first | (simp; done) | (simp; omega)]
      simpa using this.below hb
    · rw [if_neg hk]
      refine (pop_other k b.1 b.2 g l.length cap w (by simpa using hk) h1 h2 (by omega) hcap).mono ?_
      rintro e w' ⟨rfl, hb⟩
      refine ⟨_, rfl, ?_, hb⟩
      have := hv.below hb
      exact this

set_option maxRecDepth 10000 in
set_option maxHeartbeats 4000000 in
theorem beh_32 (k kind area at_ n : Int) (a : Option Addr) (m c : Nat) (bs : List (Int × Int)) (w : World) (hv : BrR w (.slice a m c) bs) (hn : bs.length ≤ 8) :
    Calls Try.prog 49 #[.agg #[.int .i64 k, .slice a m c], .agg #[.int .i64 32, .int .i64 kind, .int .i64 area, .int .i64 at_, .int .i64 n]] w (RetA ((pushI k at_ bs).1) ((pushI k at_ bs).2.1) ((pushI k at_ bs).2.2) w) := by
  have HV := hid hv
  have HRA := hid (show RetA ((pushI k at_ bs).1) ((pushI k at_ bs).2.1) ((pushI k at_ bs).2.2) w = fun e w' => ∃ v, e = .returned (.tuple #[.agg #[.int .i64 ((pushI k at_ bs).2.1), v], .int .i64 ((pushI k at_ bs).1)]) ∧ BrR w' v ((pushI k at_ bs).2.2) ∧ Below w.heap.size w w' from rfl)
  clear hv
  go_enter Try.func49, Try.ntmps49
  go_wp2_with fail
  obtain ⟨B0, B1, B2, HB, HZ⟩ := new3 w #[.int .i64 k, .slice a m c] #[.int .i64 32, .int .i64 kind, .int .i64 area, .int .i64 at_, .int .i64 n] #[.int .i64 0, .slice none 0 0] 105 48 105
  generalize (((w.alloc (.cells #[.int .i64 k, .slice a m c] 105)).alloc (.cells #[.int .i64 32, .int .i64 kind, .int .i64 area, .int .i64 at_, .int .i64 n] 48)).alloc (.cells #[.int .i64 0, .slice none 0 0] 105)) = W at *
  refine (push_any k at_ _ bs W (HV.out.below HB) hn).mono ?_
  rintro e w2 ⟨v', rfl, hbr, hb2⟩
  have q := Blk.below B2 hb2
  have r0 := q.cell 0 _ rfl
  have r1 := q.cell 1 _ rfl
  have f0 := q.free 0
  have f1 := q.free 1
  have hq : w.heap.size + 1 + 1 < w2.heap.size := q.lt
  have HX := hid (below_trans HB hb2)
  obtain ⟨a', c', rfl, -⟩ := hbr.form
  generalize hE : ((pushI k at_ bs).1) = er at *
  generalize hK : ((pushI k at_ bs).2.1) = kk at *
  generalize hL : ((pushI k at_ bs).2.2).length = ll at *
  have HE := hid hE
  have HK := hid hK
  have HL := hid hL
  have HY := hid ((hbr.set q (by decide) 0 (.int .i64 kk)).set (q.set 0 (.int .i64 kk)) (by decide) 1 (.slice a' ll c'))
  clear hE hK hL hbr hb2 B0 B1 B2 HZ q
  go_wp2_with fail
  refine bodyPost_ret (v := .tuple #[.agg #[.int .i64 kk, .slice a' ll c'], .int .i64 er]) (by simp [results, Try.results49, go_sem, r0, r1, f0, f1]) rfl ?_
  rw [HRA.out]
  exact ⟨_, rfl, HY.out, bel_set (bel_set HX.out (by omega) _ _) (by omega) _ _⟩

set_option maxRecDepth 10000 in
set_option maxHeartbeats 4000000 in
theorem beh_33 (k kind area at_ n : Int) (a : Option Addr) (m c : Nat) (bs : List (Int × Int)) (w : World) (hv : BrR w (.slice a m c) bs) (hn : bs.length ≤ 8) :
    Calls Try.prog 49 #[.agg #[.int .i64 k, .slice a m c], .agg #[.int .i64 33, .int .i64 kind, .int .i64 area, .int .i64 at_, .int .i64 n]] w (RetA ((popI k bs).1) ((popI k bs).2.1) ((popI k bs).2.2) w) := by
  have HV := hid hv
  have HRA := hid (show RetA ((popI k bs).1) ((popI k bs).2.1) ((popI k bs).2.2) w = fun e w' => ∃ v, e = .returned (.tuple #[.agg #[.int .i64 ((popI k bs).2.1), v], .int .i64 ((popI k bs).1)]) ∧ BrR w' v ((popI k bs).2.2) ∧ Below w.heap.size w w' from rfl)
  clear hv
  go_enter Try.func49, Try.ntmps49
  go_wp2_with fail
  obtain ⟨B0, B1, B2, HB, HZ⟩ := new3 w #[.int .i64 k, .slice a m c] #[.int .i64 33, .int .i64 kind, .int .i64 area, .int .i64 at_, .int .i64 n] #[.int .i64 0, .slice none 0 0] 105 48 105
  generalize (((w.alloc (.cells #[.int .i64 k, .slice a m c] 105)).alloc (.cells #[.int .i64 33, .int .i64 kind, .int .i64 area, .int .i64 at_, .int .i64 n] 48)).alloc (.cells #[.int .i64 0, .slice none 0 0] 105)) = W at *
  refine (pop_any k _ bs W (HV.out.below HB) hn).mono ?_
  rintro e w2 ⟨v', rfl, hbr, hb2⟩
  have q := Blk.below B2 hb2
  have r0 := q.cell 0 _ rfl
  have r1 := q.cell 1 _ rfl
  have f0 := q.free 0
  have f1 := q.free 1
  have hq : w.heap.size + 1 + 1 < w2.heap.size := q.lt
  have HX := hid (below_trans HB hb2)
  obtain ⟨a', c', rfl, -⟩ := hbr.form
  generalize hE : ((popI k bs).1) = er at *
  generalize hK : ((popI k bs).2.1) = kk at *
  generalize hL : ((popI k bs).2.2).length = ll at *
  have HE := hid hE
  have HK := hid hK
  have HL := hid hL
  have HY := hid ((hbr.set q (by decide) 0 (.int .i64 kk)).set (q.set 0 (.int .i64 kk)) (by decide) 1 (.slice a' ll c'))
  clear hE hK hL hbr hb2 B0 B1 B2 HZ q
  go_wp2_with fail
  refine bodyPost_ret (v := .tuple #[.agg #[.int .i64 kk, .slice a' ll c'], .int .i64 er]) (by simp [results, Try.results49, go_sem, r0, r1, f0, f1]) rfl ?_
  rw [HRA.out]
  exact ⟨_, rfl, HY.out, bel_set (bel_set HX.out (by omega) _ _) (by omega) _ _⟩

set_option maxRecDepth 10000 in
set_option maxHeartbeats 4000000 in
theorem beh_28 (k kind area at_ n : Int) (a : Option Addr) (m c : Nat) (bs : List (Int × Int)) (w : World) (hv : BrR w (.slice a m c) bs) :
    Calls Try.prog 49 #[.agg #[.int .i64 k, .slice a m c], .agg #[.int .i64 28, .int .i64 kind, .int .i64 area, .int .i64 at_, .int .i64 n]] w (RetA (retI k m 28) k bs w) := by
  have HV := hid hv
  have HRA := hid (show RetA (retI k m 28) k bs w = fun e w' => ∃ v, e = .returned (.tuple #[.agg #[.int .i64 k, v], .int .i64 (retI k m 28)]) ∧ BrR w' v bs ∧ Below w.heap.size w w' from rfl)
  clear hv
  go_enter Try.func49, Try.ntmps49
  go_wp2_with fail
  obtain ⟨B0, B1, B2, HB, HZ⟩ := new3 w #[.int .i64 k, .slice a m c] #[.int .i64 28, .int .i64 kind, .int .i64 area, .int .i64 at_, .int .i64 n] #[.int .i64 0, .slice none 0 0] 105 48 105
  generalize (((w.alloc (.cells #[.int .i64 k, .slice a m c] 105)).alloc (.cells #[.int .i64 28, .int .i64 kind, .int .i64 area, .int .i64 at_, .int .i64 n] 48)).alloc (.cells #[.int .i64 0, .slice none 0 0] 105)) = W at *
  refine (ret_calls _ _ _ _ _ _).mono ?_
  rintro e w2 ⟨rfl, hb2⟩
  have q := Blk.below B2 hb2
  have r0 := q.cell 0 _ rfl
  have r1 := q.cell 1 _ rfl
  have f0 := q.free 0
  have f1 := q.free 1
  have hq : w.heap.size + 1 + 1 < w2.heap.size := q.lt
  have HX := hid (below_trans HB hb2)
  clear hb2 B0 B1 B2 HZ q
  go_wp2_with fail
  refine bodyPost_ret (v := .tuple #[.agg #[.int .i64 k, .slice a m c], .int .i64 (retI k m 28)]) (by simp [results, Try.results49, go_sem, r0, r1, f0, f1]) rfl ?_
  rw [HRA.out]
  exact ⟨_, rfl, HV.out.below (bel_set (bel_set HX.out (by omega) _ _) (by omega) _ _), bel_set (bel_set HX.out (by omega) _ _) (by omega) _ _⟩

set_option maxRecDepth 10000 in
set_option maxHeartbeats 4000000 in
theorem beh_29 (k kind area at_ n : Int) (a : Option Addr) (m c : Nat) (bs : List (Int × Int)) (w : World) (hv : BrR w (.slice a m c) bs) :
    Calls Try.prog 49 #[.agg #[.int .i64 k, .slice a m c], .agg #[.int .i64 29, .int .i64 kind, .int .i64 area, .int .i64 at_, .int .i64 n]] w (RetA (retI k m 29) k bs w) := by
  have HV := hid hv
  have HRA := hid (show RetA (retI k m 29) k bs w = fun e w' => ∃ v, e = .returned (.tuple #[.agg #[.int .i64 k, v], .int .i64 (retI k m 29)]) ∧ BrR w' v bs ∧ Below w.heap.size w w' from rfl)
  clear hv
  go_enter Try.func49, Try.ntmps49
  go_wp2_with fail
  obtain ⟨B0, B1, B2, HB, HZ⟩ := new3 w #[.int .i64 k, .slice a m c] #[.int .i64 29, .int .i64 kind, .int .i64 area, .int .i64 at_, .int .i64 n] #[.int .i64 0, .slice none 0 0] 105 48 105
  generalize (((w.alloc (.cells #[.int .i64 k, .slice a m c] 105)).alloc (.cells #[.int .i64 29, .int .i64 kind, .int .i64 area, .int .i64 at_, .int .i64 n] 48)).alloc (.cells #[.int .i64 0, .slice none 0 0] 105)) = W at *
  refine (ret_calls _ _ _ _ _ _).mono ?_
  rintro e w2 ⟨rfl, hb2⟩
  have q := Blk.below B2 hb2
  have r0 := q.cell 0 _ rfl
  have r1 := q.cell 1 _ rfl
  have f0 := q.free 0
  have f1 := q.free 1
  have hq : w.heap.size + 1 + 1 < w2.heap.size := q.lt
  have HX := hid (below_trans HB hb2)
  clear hb2 B0 B1 B2 HZ q
  go_wp2_with fail
  refine bodyPost_ret (v := .tuple #[.agg #[.int .i64 k, .slice a m c], .int .i64 (retI k m 29)]) (by simp [results, Try.results49, go_sem, r0, r1, f0, f1]) rfl ?_
  rw [HRA.out]
  exact ⟨_, rfl, HV.out.below (bel_set (bel_set HX.out (by omega) _ _) (by omega) _ _), bel_set (bel_set HX.out (by omega) _ _) (by omega) _ _⟩

set_option maxRecDepth 10000 in
set_option maxHeartbeats 4000000 in
theorem beh_30 (k kind area at_ n : Int) (a : Option Addr) (m c : Nat) (bs : List (Int × Int)) (w : World) (hv : BrR w (.slice a m c) bs) :
    Calls Try.prog 49 #[.agg #[.int .i64 k, .slice a m c], .agg #[.int .i64 30, .int .i64 kind, .int .i64 area, .int .i64 at_, .int .i64 n]] w (RetA (retI k m 30) k bs w) := by
  have HV := hid hv
  have HRA := hid (show RetA (retI k m 30) k bs w = fun e w' => ∃ v, e = .returned (.tuple #[.agg #[.int .i64 k, v], .int .i64 (retI k m 30)]) ∧ BrR w' v bs ∧ Below w.heap.size w w' from rfl)
  clear hv
  go_enter Try.func49, Try.ntmps49
  go_wp2_with fail
  obtain ⟨B0, B1, B2, HB, HZ⟩ := new3 w #[.int .i64 k, .slice a m c] #[.int .i64 30, .int .i64 kind, .int .i64 area, .int .i64 at_, .int .i64 n] #[.int .i64 0, .slice none 0 0] 105 48 105
  generalize (((w.alloc (.cells #[.int .i64 k, .slice a m c] 105)).alloc (.cells #[.int .i64 30, .int .i64 kind, .int .i64 area, .int .i64 at_, .int .i64 n] 48)).alloc (.cells #[.int .i64 0, .slice none 0 0] 105)) = W at *
  refine (ret_calls _ _ _ _ _ _).mono ?_
  rintro e w2 ⟨rfl, hb2⟩
  have q := Blk.below B2 hb2
  have r0 := q.cell 0 _ rfl
  have r1 := q.cell 1 _ rfl
  have f0 := q.free 0
  have f1 := q.free 1
  have hq : w.heap.size + 1 + 1 < w2.heap.size := q.lt
  have HX := hid (below_trans HB hb2)
  clear hb2 B0 B1 B2 HZ q
  go_wp2_with fail
  refine bodyPost_ret (v := .tuple #[.agg #[.int .i64 k, .slice a m c], .int .i64 (retI k m 30)]) (by simp [results, Try.results49, go_sem, r0, r1, f0, f1]) rfl ?_
  rw [HRA.out]
  exact ⟨_, rfl, HV.out.below (bel_set (bel_set HX.out (by omega) _ _) (by omega) _ _), bel_set (bel_set HX.out (by omega) _ _) (by omega) _ _⟩
end Go.Proofs.Ytjnohalffffiaaa
