import Derived.Test.YtbfgakccpnamhaaPm
import Derived.Test.YtbfgakccpnamhaaPl
import Derived.Deep.AppendLies
import Derived.Laws.AppendOwnNone
import Derived.Deep.QuietTactic
import Derived.BigQuiet
set_option linter.unusedVariables false
set_option linter.unusedSimpArgs false
namespace Go.Proofs.Ytbfgakccpnamhaa
open Go.RowKit

theorem infoInt : (Try.prog.info? 3).map (fun i => (i.zero, i.size, i.bytes)) = some (some (.int .i64 0), 1, 8) := by kernel_rfl

def vals (xs : List Int) : List Value := xs.map fun x => .int .i64 x
/-- A slice of ints of the call's own. -/
def OwnI (w : World) (base : Nat) (v : Value) (xs : List Int) : Prop := w.ownsRow base 3 1 v xs.length (vals xs)

theorem OwnI.nil (w : World) (base : Nat) : OwnI w base (.slice none 0 0) [] := World.ownsRow_nil _ _ _ _
theorem OwnI.rd {w : World} {base : Nat} {v : Value} {xs : List Int} (h : OwnI w base v xs) :
    ∃ a cap, v = .slice a xs.length cap ∧ RdI w a xs ∧ xs.length ≤ cap ∧ cap ≤ 9223372036854775807 := by
  have h0 := h
  rcases h.2 with ⟨rfl, hn⟩ | ⟨g, cap, cur, rfl, hb, hh, hle, hm, hsz, htk⟩
  · have : xs = [] := List.eq_nil_of_length_eq_zero hn
    subst this
    exact ⟨none, 0, rfl, .inl rfl, by simp, by simp⟩
  · refine ⟨_, cap, rfl, .inr ⟨g, 0, rfl, fun j hj => ?_⟩, hle, by simpa [maxLen] using hm⟩
    have hc := World.ownsRow.cellAt h0 j (by omega)
    rw [Nat.zero_add, hc]
    simp [vals, List.getElem?_eq_getElem hj, List.getD_eq_getElem?_getD]
theorem OwnI.kept {w w1 : World} {base : Nat} {v : Value} {xs : List Int} {row : Option Nat} (h : OwnI w base v xs) (hg : w.grownBy w1 row) (hne : v.ownBlock = none ∨ v.ownBlock ≠ row) : OwnI w1 base v xs :=
  World.ownsRow.kept h hg hne
theorem OwnI.below {w w1 : World} {base : Nat} {v : Value} {xs : List Int} (h : OwnI w base v xs) (hb : Below w.heap.size w w1) : OwnI w1 base v xs := by
  refine OwnI.kept (row := none) h ⟨hb.os, hb.tape, hb.output, hb.size, fun i hi _ => hb.block i hi⟩ ?_
  cases v.ownBlock <;> simp
theorem OwnI.alloc {w : World} {base : Nat} {v : Value} {xs : List Int} (h : OwnI w base v xs) (o : Obj) : OwnI (w.alloc o) base v xs := World.ownsRow.alloc h o
theorem OwnI.drewN {w : World} {base : Nat} {v : Value} {xs : List Int} (h : OwnI w base v xs) (n : Nat) : OwnI (w.drewN n) base v xs := h
theorem OwnI.lt {w : World} {base : Nat} {v : Value} {xs : List Int} (h : OwnI w base v xs) : ∀ k, v.ownBlock = some k → base ≤ k ∧ k < w.heap.size := World.ownsRow.lt h

/-- append(v, n): one int more. -/
theorem wpl_app1 {ops : Array Oper} {rest : List Oper} {o : Oper} {a : Act} {Q : Exit → Act → World → Prop} (W : World) (hgd : o.guard = none) (s x : Operand)
    (ho : o.op = .call { callee := .builtin .append, args := #[s, x], argTypes := #[34, 34] }) (base : Nat) (v : Value) (xs : List Int) (n : Int)
    (hs : a.eval s = v) (hown : OwnI W base v xs) (hx : a.eval x = .slice (some ⟨W.heap.size, 0, none⟩) 1 1) (hlen : xs.length + 1 ≤ 17592186044416) (hbase : base ≤ W.heap.size)
    (hK : ∀ g cap w', OwnI w' base (.slice (some ⟨g, 0, none⟩) (xs.length + 1) cap) (xs ++ [n]) → (W.alloc (.cells #[.int .i64 n] 3)).grownBy w' v.ownBlock → (v.ownBlock = some g ∨ g = W.heap.size + 1) → g < w'.heap.size →
      wpList Try.prog ops Q rest (a.put o.dst (.slice (some ⟨g, 0, none⟩) (xs.length + 1) cap)) w') :
    wpList Try.prog ops Q (o :: rest) a (W.alloc (.cells #[.int .i64 n] 3)) := by
  obtain ⟨i0, hi, hz0, hz1, hz2⟩ := info_parts infoInt
  refine wpList_append_lies _ hgd s x 34 ho base 3 i0 (.int .i64 0) 1 8 Try.underlying34 hi hz0 hz1 hz2 rfl (by decide) v xs.length (vals xs) hs (hown.alloc _) ⟨W.heap.size, 0, none⟩ 1 1 [.int .i64 n] hx rfl ?_ ?_ (by decide) (by unfold maxLen; omega) (by omega) (by simp; omega) (W.heap.size + 1) (by simp) ?_
  · intro j u hj
    rw [add_pl]
    have : j = 0 := by
      rcases j with _ | j
      · rfl
      · simp at hj
    subst this
    simp at hj
    subst hj
    exact (Blk.new W #[.int .i64 n] 3).cell 0 _ rfl
  · intro u hu
    simp at hu
    subst hu
    rfl
  · intro g cap w' h1 h2 h3 h4
    refine hK g cap w' ?_ h2 h3 h4
    show w'.ownsRow base 3 1 _ (xs ++ [n]).length (vals (xs ++ [n]))
    simpa [vals] using h1

/-- append(v, ys...) of a slice that can be read. -/
theorem wpl_appl {ops : Array Oper} {rest : List Oper} {o : Oper} {a : Act} {Q : Exit → Act → World → Prop} (W : World) (hgd : o.guard = none) (s x : Operand)
    (ho : o.op = .call { callee := .builtin .append, args := #[s, x], argTypes := #[34, 34] }) (base : Nat) (v : Value) (xs ys : List Int) (ad : Option Addr) (c : Nat)
    (hs : a.eval s = v) (hown : OwnI W base v xs) (hx : a.eval x = .slice ad ys.length c) (hrd : RdI W ad ys) (hnil : ad = none → c = 0) (hlen : xs.length + ys.length ≤ 17592186044416) (hbase : base ≤ W.heap.size)
    (hK : ∀ v' w', OwnI w' base v' (xs ++ ys) → Below base W w' → wpList Try.prog ops Q rest (a.put o.dst v') w') (hb : ∀ k, v.ownBlock = some k → base ≤ k) :
    wpList Try.prog ops Q (o :: rest) a W := by
  obtain ⟨i0, hi, hz0, hz1, hz2⟩ := info_parts infoInt
  by_cases hz : ad = none
  · have hc := hnil hz
    subst hz hc
    have hys : ys = [] := by
      rcases hrd with h | ⟨b, off, h, _⟩
      · exact h
      · cases h
    subst hys
    refine wpList_append_own_none hgd s x 34 ho base 3 i0 1 Try.underlying34 hi v xs.length (vals xs) hs hown hx ?_
    exact hK v W (by simpa using hown) (Below.refl _ _)
  · obtain ⟨p, rfl⟩ : ∃ p, ad = some p := by cases ad with | none => exact absurd rfl hz | some p => exact ⟨p, rfl⟩
    refine wpList_append_own W hgd s x 34 ho base 3 i0 (.int .i64 0) 1 8 Try.underlying34 hi hz0 hz1 hz2 rfl (by decide) v xs.length (vals xs) hs hown p ys.length c (vals ys) hx (by simp [vals]) ?_ ?_ (by unfold maxLen; omega) (by omega) hbase ?_
    · intro j u hj
      rcases hrd with rfl | ⟨b, off, h, hcell⟩
      · simp [vals] at hj
      · cases h
        have hjl : j < ys.length := by
          have := (List.getElem?_eq_some_iff.1 hj).1
          simpa [vals] using this
        rw [add_pl, hcell j hjl]
        simp [vals, List.getElem?_eq_getElem hjl] at hj
        simp [List.getD_eq_getElem?_getD, List.getElem?_eq_getElem hjl, hj]
    · intro u hu
      simp [vals] at hu
      obtain ⟨_, _, rfl⟩ := hu
      rfl
    · intro v' w' h1 h2 _
      refine hK v' w' ?_ ⟨h2.os, h2.tape, h2.output, h2.size, fun k hk => h2.block k (by omega) fun e => ?_⟩
      · show w'.ownsRow base 3 1 _ (xs ++ ys).length (vals (xs ++ ys))
        simpa [vals] using h1
      · have := hb k e.symm
        omega

set_option maxHeartbeats 4000000 in
theorem PhasorSums_calls (a : Option Addr) (xs : List Int) (cap : Nat) (b : Option Addr) (ys : List Int) (cap' : Nat) (k : Int) (w : World) (hx : RdI w a xs) (hc : xs.length ≤ cap) (hm : cap ≤ 9223372036854775807) (hna : a = none → cap = 0)
    (hy : RdI w b ys) (hc' : ys.length ≤ cap') (hm' : cap' ≤ 9223372036854775807) (hk : (Lit.int .u8 k).wf = true) :
    Calls Try.prog 4 #[.slice a xs.length cap, .slice b ys.length cap', .int .u8 k] w fun e w' => e = .returned (.bool true) ∧ Below w.heap.size w w' := by
  have HX := hid hx
  have HY := hid hy
  have HNA := hid hna
  clear hx hy hna
  by_cases hl : (60 : Int) < xs.length
  · go_enter Try.func4, Try.ntmps4
    go_wp2_with fail
    refine (awake_calls _).mono ?_
    rintro e w1 ⟨rfl, hb1⟩
    have HB1 := hid hb1
    clear hb1
    go_wp2_with fail
    go_ret
    exact ⟨rfl, HB1.out⟩
  by_cases hne : xs.length = ys.length
  case neg =>
    have hne' : ((ys.length : Int) != (xs.length : Int)) = true := by simp; omega
    clear hne
    go_enter Try.func4, Try.ntmps4
    go_wp2_with fail
    refine (awake_calls _).mono ?_
    rintro e w1 ⟨rfl, hb1⟩
    have HB1 := hid hb1
    clear hb1
    go_wp2_with fail
    go_ret
    exact ⟨rfl, HB1.out⟩
  have hne' : ((ys.length : Int) != (xs.length : Int)) = false := by simp; omega
  have HNE := hid hne
  clear hne
  go_enter Try.func4, Try.ntmps4
  go_wp2_with fail
  refine (awake_calls _).mono ?_
  rintro e w1 ⟨rfl, hb1⟩
  have HB1 := hid hb1
  have HX1 := hid (HX.out.below hb1)
  have HY1 := hid (HY.out.below hb1)
  clear hb1
  have hs1 := HB1.out.size
  go_wp2_with (at_builtin; refine wpl_app1 w1 rfl _ _ rfl w.heap.size _ [] 0 rfl (OwnI.nil _ _) rfl (by decide) hs1 ?_)
  intro g8 c8 w2 ho8 hg8 _ hlt8
  have hbel2 : Below w.heap.size w w2 := (HB1.out.alloc hs1 _).grown hg8 (by simp; omega) (fun k hk => by cases hk)
  have hb12 : Below w1.heap.size w1 w2 := ((Below.refl _ _).alloc (Nat.le_refl _) _).grown hg8 (by simp) (fun k hk => by cases hk)
  have HX2 := hid (HX1.out.below hb12)
  have HY2 := hid (HY1.out.below hb12)
  have HO8 := hid ho8
  have HBEL2 := hid hbel2
  clear hb12 hbel2 ho8 hg8 hlt8
  go_wp2_with fail
  go_loopw [7, 8, 31] (fun u v i wr => ∃ j : Nat, j ≤ xs.length ∧ i = .int .i64 j ∧ OwnI wr w.heap.size u (addl (xs.take j) (ys.take j)) ∧ OwnI wr w.heap.size v (0 :: xs.take j) ∧ (u.ownBlock = none ∨ u.ownBlock ≠ v.ownBlock) ∧ Below w.heap.size w wr ∧ RdI wr a xs ∧ RdI wr b ys ∧ Rng (xs.take j) 100000 ∧ Rng (ys.take j) 100000) (fun _ _ i _ => xs.length - (intOf i).toNat)
  case atStart =>
    refine ⟨0, Nat.zero_le _, rfl, by simpa [addl] using OwnI.nil _ _, by simpa using HO8.out, .inl rfl, HBEL2.out, HX2.out, HY2.out, ?_, ?_⟩ <;> intro i hi <;> simp at hi
  case round =>
    obtain ⟨j, hj, rfl, ho7, ho8, hne78, hbel, hrx, hry, hgx, hgy⟩ := hrel
    have HO7 := hid ho7
    have HO8 := hid ho8
    have HNE78 := hid hne78
    have HBEL := hid hbel
    have HRX := hid hrx
    have HRY := hid hry
    have HGX := hid hgx
    have HGY := hid hgy
    clear ho7 ho8 hne78 hbel hrx hry hgx hgy
    by_cases hlt : j < xs.length
    · have hnel := HNE.out
      have hlty : j < ys.length := by omega
      obtain ⟨p, hp⟩ : ∃ p, p = xs.getD j 0 := ⟨_, rfl⟩
      obtain ⟨q, hq⟩ : ∃ q, q = ys.getD j 0 := ⟨_, rfl⟩
      obtain ⟨xb, xo, hxe, hcx⟩ : ∃ b off, a = some ⟨b, off, none⟩ ∧ wr.cell? ⟨b, off + j, none⟩ = some (.int .i64 p) := by
        rcases HRX.out with h | ⟨b, off, h, hc⟩
        · subst h; simp at hlt
        · exact ⟨b, off, h, by rw [hp]; exact hc j hlt⟩
      obtain ⟨yb, yo, hye, hcy⟩ : ∃ c off, b = some ⟨c, off, none⟩ ∧ wr.cell? ⟨c, off + j, none⟩ = some (.int .i64 q) := by
        rcases HRY.out with h | ⟨c, off, h, hc⟩
        · subst h; simp at hlty
        · exact ⟨c, off, h, by rw [hq]; exact hc j hlty⟩
      subst hxe hye
      have HP := hid hp
      have HQ := hid hq
      clear hp hq hnel
      have i1 : (0 : Int) ≤ (j : Int) := Int.natCast_nonneg _
      have i2 : (j : Int) < (xs.length : Int) := by omega
      have i3 : (j : Int) < (ys.length : Int) := by omega
      go_wp2_with fail
      go_quiet (fail)
      by_cases hr : (-100000 ≤ p ∧ p ≤ 100000) ∧ (-100000 ≤ q ∧ q ≤ 100000)
      · obtain ⟨⟨r1, r2⟩, ⟨r3, r4⟩⟩ := hr
        have hsz := HBEL.out.size
        have hle : (addl (xs.take j) (ys.take j)).length + 1 ≤ 17592186044416 := by
          have : (addl (xs.take j) (ys.take j)).length ≤ j := by simp [addl]; omega
          omega
        have hle2 : (0 :: xs.take j).length + 1 ≤ 17592186044416 := by
          have : (xs.take j).length ≤ j := by simp; omega
          simp; omega
        go_wp2_with (at_builtin; refine wpl_app1 (wr.drewN _) rfl _ _ rfl w.heap.size u7 _ (p + q) rfl (HO7.out.drewN _) rfl hle hsz ?_)
        intro g7 c7 w3 ho7 hg7 hd7 hlt7
        have hb3 : Below w.heap.size w w3 := ((bel_drewN HBEL.out nq).alloc (by simpa using hsz) _).grown hg7 (by simp; omega) (fun k hk => (HO7.out.lt k hk).1)
        have ho8 : OwnI w3 w.heap.size u8 (0 :: xs.take j) := by
          refine OwnI.kept ((HO8.out.drewN nq).alloc _) hg7 ?_
          rcases HNE78.out with h | h
          · rw [h]; cases u8.ownBlock <;> simp
          · exact .inr (Ne.symm h)
        have hn78 : ∀ k, u8.ownBlock = some k → k ≠ g7 := by
          intro k hk e
          subst e
          have hkl := (HO8.out.lt k hk).2
          rcases hd7 with h | h
          · rcases HNE78.out with h2 | h2
            · rw [h2] at h; cases h
            · exact h2 (by rw [h, hk])
          · first | omega | (simp at h; omega)
        have hbase3 := hb3.size
        have hrx3 := HRX.out
        have hbx : ∀ {a' : Option Addr} {zs : List Int}, RdI w1 a' zs → True := fun _ => trivial
        have HO8' := hid ho8
        have HO7' := hid ho7
        have HB3 := hid hb3
        have HN := hid hn78
        have HLT7 := hid hlt7
        clear ho8 ho7 hb3 hn78 hd7 hg7 hrx3 hbx hlt7
        go_wp2_with (at_builtin; refine wpl_app1 w3 rfl _ _ rfl w.heap.size u8 _ p rfl HO8'.out rfl hle2 hbase3 ?_)
        intro g8' c8' w4 ho8 hg8 hd8 hlt8
        have hb4 : Below w.heap.size w w4 := (HB3.out.alloc hbase3 _).grown hg8 (by simp; omega) (fun k hk => (HO8'.out.lt k hk).1)
        have ho7 : OwnI w4 w.heap.size (.slice (some ⟨g7, 0, none⟩) ((addl (xs.take j) (ys.take j)).length + 1) c7) (addl (xs.take j) (ys.take j) ++ [p + q]) := by
          refine OwnI.kept (HO7'.out.alloc _) hg8 (.inr ?_)
          intro h
          exact HN.out g7 h.symm rfl
        have hne : g7 ≠ g8' := by
          rcases hd8 with h | h
          · exact fun e => HN.out g8' h e.symm
          · have := HLT7.out; omega
        have HO7'' := hid ho7
        have HO8'' := hid ho8
        have HB4 := hid hb4
        clear ho7 ho8 hb4 hg8 hd8 hlt8
        go_wp2_with fail
        refine ⟨⟨j + 1, by omega, by go_num, ?_, ?_, .inr (by simpa [Value.ownBlock] using hne), HB4.out, ?_, ?_, ?_, ?_⟩, by simp [intOf]; omega⟩
        · rw [addl_snoc xs ys j hlt hlty, ← HP.out, ← HQ.out]
          simpa using HO7''.out
        · rw [take_snoc' xs j hlt, ← HP.out]
          simpa using HO8''.out
        · exact HX.out.below HB4.out
        · exact HY.out.below HB4.out
        · exact Rng_snoc HGX.out hlt (by rw [← HP.out]; exact r1) (by rw [← HP.out]; exact r2)
        · exact Rng_snoc HGY.out hlty (by rw [← HQ.out]; exact r3) (by rw [← HQ.out]; exact r4)
      · by_cases c1 : p < -100000
        · go_wp2_with fail
          go_ret
          exact ⟨rfl, bel_drewN HBEL.out _⟩
        · by_cases c2 : 100000 < p
          · go_wp2_with fail
            go_ret
            exact ⟨rfl, bel_drewN HBEL.out _⟩
          · by_cases c3 : q < -100000
            · clear hr
              go_wp2_with fail
              go_ret
              exact ⟨rfl, bel_drewN HBEL.out _⟩
            · have c4 : 100000 < q := by omega
              clear hr
              go_wp2_with fail
              go_ret
              exact ⟨rfl, bel_drewN HBEL.out _⟩
    · obtain rfl : j = xs.length := by omega
      have hnel := HNE.out
      have hk' : 0 ≤ k ∧ k ≤ 255 := by simpa [Lit.wf, IntKind.min, IntKind.max, IntKind.signed, IntKind.bits] using hk
      obtain ⟨k1, k2⟩ := hk'
      have t1 : xs.take xs.length = xs := List.take_length
      have t2 : ys.take xs.length = ys := by rw [hnel]; exact List.take_length
      have ho7 := HO7.out
      have ho8 := HO8.out
      have hgx := HGX.out
      have hgy := HGY.out
      rw [t1, t2] at ho7
      rw [t1] at ho8 hgx
      rw [t2] at hgy
      obtain ⟨a7, cap7, hv7, hr7, hc7, hm7⟩ := ho7.rd
      obtain ⟨a8, cap8, hv8, hr8, hc8, hm8⟩ := ho8.rd
      have hal := addl_len xs ys hnel
      have HGX' := hid hgx
      have HGY' := hid hgy
      have HR7 := hid hr7
      have HR8 := hid hr8
      have HAL := hid hal
      clear hr7 hr8 ho7 ho8 hgx hgy t1 t2 hnel HO7 HO8 HNE78 HGX HGY hal
      rw [hv7, hv8]
      clear hv7 hv8
      go_wp2_with fail
      refine (Bin_calls _ _ _ _ _ HR7.out hc7 hm7).mono ?_
      rintro e w' ⟨p1, q1, rfl, h1, rfl⟩
      have H1 := hid h1
      clear h1
      go_wp2_with fail
      refine (Bin_calls _ _ _ _ _ HRX.out hc hm).mono ?_
      rintro e w' ⟨p2, q2, rfl, h2, rfl⟩
      have H2 := hid h2
      clear h2
      go_wp2_with fail
      refine (Bin_calls _ _ _ _ _ HRY.out hc' hm').mono ?_
      rintro e w' ⟨p3, q3, rfl, h3, rfl⟩
      have H3 := hid h3
      clear h3
      have hlen : xs.length ≤ 60 := by omega
      have hneq := HNE.out
      have m1 : min (addl xs ys).length 1000 = xs.length := by rw [HAL.out]; omega
      have m2 : min xs.length 1000 = xs.length := by omega
      have m3 : min ys.length 1000 = xs.length := by omega
      have m4 : min (0 :: xs).length 1000 = xs.length + 1 := by simp; omega
      have h1 := H1.out
      have h2 := H2.out
      have h3 := H3.out
      rw [m1, bsum_add qre _ xs ys hneq HGX'.out HGY'.out _ (Nat.le_refl _), bsum_add qim _ xs ys hneq HGX'.out HGY'.out _ (Nat.le_refl _)] at h1
      rw [m2] at h2
      rw [m3] at h3
      have b1 := bsum_bd qre qre_3 (k % 4) xs xs.length
      have b2 := bsum_bd qim qim_3 (k % 4) xs xs.length
      have b3 := bsum_bd qre qre_3 (k % 4) ys xs.length
      have b4 := bsum_bd qim qim_3 (k % 4) ys xs.length
      obtain ⟨re, im, hs, hcs⟩ := CW_add h2 h3 (by omega) (by omega)
      have hrun := fun (w : World) => run_complex_sum (P := Try.prog) w .add (.inl rfl) 26 .f64 p2 q2 p3 q3 re im hs
      have o1 := ord_eq h1.1 hcs.1
      have o2 := ord_eq h1.2 hcs.2
      have HM := hid (And.intro m2 m4)
      have HBB := hid (And.intro b1 b2)
      clear b1 b2 b3 b4 hs hcs h1 h2 h3 m1 m2 m3 m4 hneq
      go_wp2_with fail
      refine (Bin_calls _ (0 :: xs) cap8 _ _ HR8.out hc8 hm8).mono ?_
      rintro e w' ⟨p4, q4, rfl, h4, rfl⟩
      have H4 := hid h4
      clear h4 hrun o1 o2
      go_wp2_with fail
      refine (Bin_calls _ _ _ _ _ HRX.out hc hm).mono ?_
      rintro e w' ⟨p5, q5, rfl, h5, rfl⟩
      have H5 := hid h5
      clear h5
      go_wp2_with fail
      have h4 := H4.out
      have h5 := H5.out
      rw [HM.out.2, (bsum_later (k % 4) xs xs.length).1, (bsum_later (k % 4) xs xs.length).2] at h4
      rw [HM.out.1] at h5
      have hbb := HBB.out
      refine (Turn_calls _ _ _ _ _ h5 (by omega) (by omega) _).mono ?_
      rintro e w' ⟨p6, q6, rfl, h6, rfl⟩
      have o1 := ord_eq h4.1 h6.1
      have o2 := ord_eq h4.2 h6.2
      clear h4 h5 h6 hbb
      by_cases h4 : xs.length % 4 = 0
      · have H4' := hid h4
        have hz4 : ((xs.length : Int) % 4 == 0) = true := by rw [beq_iff_eq]; omega
        clear h4
        go_wp2_with fail
        obtain ⟨wo, rfl⟩ : ∃ wo : World, wo = w' := ⟨_, rfl⟩
        go_loopw [9, 97] (fun u i wr => ∃ j : Nat, j ≤ 4 ∧ i = .int .i64 j ∧ OwnI wr w.heap.size u (rep xs j) ∧ Below w.heap.size w wr) (fun _ i _ => 4 - (intOf i).toNat)
        case atStart => exact ⟨0, by omega, rfl, OwnI.nil _ _, HBEL.out⟩
        case round =>
          obtain ⟨j, hj, rfl, ho9, hbl⟩ := hrel
          have HO9 := hid ho9
          have HBL := hid hbl
          clear ho9 hbl
          by_cases hj4 : j < 4
          · have hrl : (rep xs j).length + xs.length ≤ 17592186044416 := by
              rw [rep_len]
              have : j * xs.length ≤ 4 * 60 := Nat.mul_le_mul (by omega) hlen
              omega
            have hsz := HBL.out.size
            go_wp2_with (at_builtin; refine wpl_appl _ rfl _ _ rfl w.heap.size _ (rep xs j) xs a cap rfl HO9.out rfl (HX.out.below HBL.out) HNA.out hrl hsz ?_ (fun k hk => (HO9.out.lt k hk).1))
            intro v' w5 ho hb5
            have HO := hid ho
            have HB5 := hid (HBL.out.trans hb5)
            clear ho hb5
            go_wp2_with fail
            exact ⟨⟨j + 1, by omega, by go_num, HO.out, HB5.out⟩, by simp [intOf]; omega⟩
          · obtain rfl : j = 4 := by omega
            obtain ⟨a9, cap9, hv9, hr9, hc9, hm9⟩ := HO9.out.rd
            have HR9 := hid hr9
            have HRX4 := hid (HX.out.below HBL.out)
            rw [hv9]
            clear hr9 hv9
            go_wp2_with fail
            refine (Bin_calls _ _ _ _ _ HR9.out hc9 hm9).mono ?_
            rintro e w' ⟨p7, q7, rfl, h7, rfl⟩
            have H7 := hid h7
            clear h7
            go_wp2_with fail
            refine (Bin_calls _ _ _ _ _ HRX4.out hc hm).mono ?_
            rintro e w' ⟨p8, q8, rfl, h8, rfl⟩
            have h7 := H7.out
            have hrl := rep_len xs 4
            rw [Nat.min_eq_left (by rw [hrl]; omega), bsum_rep qre qre_mod _ _ H4'.out 4, bsum_rep qim qim_mod _ _ H4'.out 4] at h7
            rw [HM.out.1] at h8
            have hbb := HBB.out
            have f4 : FW 4616189618054758400 4 := ⟨false, 4503599627370496, -50, by decide +kernel, 50, by decide, by decide +kernel⟩
            obtain ⟨re, im, hm4, hc4⟩ := CW_mul (x := 4) (y := 0) ⟨f4, FW_zero⟩ h8 (by omega) (by omega) (by omega) (by omega) (by omega) (by omega)
            have hrun4 := fun (w : World) => run_complex_mul (P := Try.prog) w 26 _ _ p8 q8 re im hm4
            rw [Int.zero_mul, Int.sub_zero, Int.zero_mul, Int.add_zero] at hc4
            have o3 := ord_eq h7.1 hc4.1
            have o4 := ord_eq h7.2 hc4.2
            clear h7 h8 hbb hm4 hc4 f4 hrl
            go_wp2_with fail
            go_ret
            exact ⟨rfl, HBL.out⟩
      · have hz4 : ((xs.length : Int) % 4 == 0) = false := by rw [beq_eq_false_iff_ne]; omega
        clear h4
        go_wp2_with fail
        go_ret
        exact ⟨rfl, HBEL.out⟩

end Go.Proofs.Ytbfgakccpnamhaa
