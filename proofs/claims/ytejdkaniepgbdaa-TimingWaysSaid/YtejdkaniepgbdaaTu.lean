/- timing: Way. -/
import Derived.Test.YtejdkaniepgbdaaTt
set_option linter.unusedVariables false
set_option linter.unusedSimpArgs false
namespace Go.Proofs.Ytejdkaniepgbdaa
open Go.RowKit

def RetW (L : List Int) (w : World) (e : Ending) (w' : World) : Prop :=
  ∃ v, e = .returned (.tuple #[v, .bool true]) ∧ OwnI w' w.heap.size v L ∧ Below w.heap.size w w'

theorem OwnI.mono {w : World} {base base' : Nat} {v : Value} {xs : List Int} (h : OwnI w base v xs) (hb : base' ≤ base) : OwnI w base' v xs := by
  refine ⟨h.1, ?_⟩
  rcases h.2 with h | ⟨g, cap, cur, hv, hb', r⟩
  · exact .inl h
  · exact .inr ⟨g, cap, cur, hv, by omega, r⟩
theorem OwnI.set {w : World} {base : Nat} {v : Value} {xs : List Int} (h : OwnI w base v xs) {p : Nat} (hne : v.ownBlock ≠ some p) (o : Nat) (x : Value) : OwnI (w.setCell ⟨p, o, none⟩ x) base v xs := by
  refine OwnI.kept (row := some p) h (grown_set x) ?_
  cases e : v.ownBlock with
  | none => exact .inl rfl
  | some k => exact .inr (by rw [← e]; exact hne)

def atVal (s : Value) (w : World) : Nat := match s with
  | .pointer (some p) => match w.cell? p with
    | some (.int _ n) => n.toNat
    | _ => 0
  | _ => 0
theorem atVal_eq {w : World} {p j : Nat} {t : TypeId} (h : Blk w p #[.int .i64 j] t) : atVal (.pointer (some ⟨p, 0, none⟩)) w = j := by
  unfold atVal
  dsimp only
  rw [h.cell 0 _ rfl]
  simp
theorem way_fits {l : List Ins} {b : Bool} {out : List Int} {j : Nat} (h : out ++ wayL l b (farG l b j).toNat j = way l b) : out.length ≤ l.length := by
  have h1 := congrArg List.length h
  unfold way at h1
  rw [List.length_append, wayL_len, wayL_len] at h1
  have := farG_bd l b 0
  omega

set_option maxRecDepth 100000 in
set_option maxHeartbeats 4000000 in
theorem Way_calls (a : Option Addr) (l : List Ins) (cap : Nat) (b : Bool) (w : World) (hr : RdIns w a l) (hc : l.length ≤ cap) (hm : cap ≤ 9223372036854775807) (A : Nat → Option St) (hok : Ok l A) (hrun : runsb l = true) :
    Calls Try.prog 8 #[.slice a l.length cap, .bool b] w (RetW (way l b) w) := by
  have PR := hid (runs_calls a l cap w hr hc hm)
  rw [hrun] at PR
  have HOK := hid hok
  have hn2 := hok.len
  have HR := hid hr
  have HRW := hid (show RetW (way l b) w = fun e w' => ∃ v, e = .returned (.tuple #[v, .bool true]) ∧ OwnI w' w.heap.size v (way l b) ∧ Below w.heap.size w w' from rfl)
  have hmf : ∀ (fn : Fn) (first cap : Array Value) (w : World), (Instr.makeFunc fn first cap).run Try.prog w = .ok (.func fn first cap) w := fun _ _ _ _ => rfl
  clear hr hrun hok
  go_enter Try.func8, Try.ntmps8
  go_wp2_with fail
  refine PR.out.mono ?_
  rintro e w1 ⟨rfl, hb1⟩
  have HR1 := hid (HR.out.below hb1)
  have HB1 := hid hb1
  clear hb1 PR HR
  go_wp2_with fail
  refine (far_calls a l cap b w1 HR1.out hc hn2 HOK.out.pos).mono ?_
  rintro en w2 ⟨T, rfl, hT, -, hb2⟩
  have HT2 := hid hT
  have HR2 := hid (HR1.out.below hb2)
  have HB2 := hid (below_trans HB1.out hb2)
  obtain ⟨N, hN⟩ : ∃ N, l.length = N := ⟨_, rfl⟩
  have HN := hid hN
  rw [hN] at hc hn2 HT2 ⊢
  clear hb2 hT HR1 HB1 hN
  go_wp2_with fail
  have hW1 : Blk (w2.alloc (.cells #[.slice (some ⟨T, 0, none⟩) (N + 1) (N + 1)] 28)) w2.heap.size #[.slice (some ⟨T, 0, none⟩) (N + 1) (N + 1)] 28 := Blk.new _ _ _
  have hT1 := HT2.out.alloc (.cells #[.slice (some ⟨T, 0, none⟩) (N + 1) (N + 1)] 28)
  have hR1 := HR2.out.below (bel_a1 w2 (.cells #[.slice (some ⟨T, 0, none⟩) (N + 1) (N + 1)] 28))
  have hbb1 := below_trans HB2.out (bel_a1 w2 (.cells #[.slice (some ⟨T, 0, none⟩) (N + 1) (N + 1)] 28))
  have hz1 : (w2.alloc (.cells #[.slice (some ⟨T, 0, none⟩) (N + 1) (N + 1)] 28)).heap.size = w2.heap.size + 1 := by simp
  generalize (w2.alloc (.cells #[.slice (some ⟨T, 0, none⟩) (N + 1) (N + 1)] 28)) = W1 at *
  obtain ⟨tq, htq⟩ : ∃ tq, w2.heap.size = tq := ⟨_, rfl⟩
  rw [htq] at hW1 hz1 ⊢
  have HQ := hid hW1
  have HT := hid hT1
  have HRR := hid hR1
  have HBB := hid hbb1
  have HZ := hid hz1
  have hTl := hT1.lt
  have htql := hW1.lt
  have hwz : w.heap.size ≤ tq + 1 := by have := hbb1.size; omega
  have hp0 : Blk (W1.alloc (.cells #[.int .i64 0] 3)) (tq + 1) #[.int .i64 ((0 : Nat) : Int)] 3 := by rw [← hz1]; exact Blk.new _ _ _
  have hbx0 : Below (tq + 1) W1 (W1.alloc (.cells #[.int .i64 0] 3)) := by rw [← hz1]; exact bel_a1 _ _
  have HP0 := hid hp0
  have HX0 := hid hbx0
  rw [HZ.out] at hTl htql
  clear hW1 hT1 hR1 hbb1 hz1 hp0 hbx0 htq HT2 HR2 HB2
  go_loopw [7, 8] (fun v s wr => ∃ (p j : Nat) (out : List Int), s = .pointer (some ⟨p, 0, none⟩) ∧ Blk wr p #[.int .i64 j] 3 ∧ tq + 1 ≤ p ∧ OwnI wr (tq + 1) v out ∧ v.ownBlock ≠ some p ∧ Below (tq + 1) W1 wr ∧ j ≤ N ∧ (j < N → A j ≠ none) ∧ out ++ wayL l b (farG l b j).toNat j = way l b) (fun _ s wr => N - atVal s wr)
  case atStart => exact ⟨tq + 1, 0, [], rfl, HP0.out, Nat.le_refl _, OwnI.nil _ _, by simp [Value.ownBlock], HX0.out, Nat.zero_le _, fun _ => HOK.out.start, rfl⟩
  case round =>
    obtain ⟨p, j, out, rfl, hp, hpl, hown, hne, hbx, hj, hA, hway⟩ := hrel
    clear HP0 HX0
    have hcp := hp.cell 0 _ rfl
    have hfp := hp.free 0
    have hplt := hp.lt
    have hsz : tq + 1 ≤ wr.heap.size := by omega
    have HP := hid hp
    have HO := hid hown
    have HX := hid hbx
    have HWAY := hid hway
    have HNE := hid hne
    have hfit := way_fits hway
    rw [HN.out] at hfit
    by_cases hlt : j < N
    · have HA := hid (hA hlt)
      have hlen : out.length + 1 ≤ 17592186044416 := by omega
      have hHP := hid (atVal_eq hp)
      clear hp hown hbx hway hne hA
      have i1 : (0 : Int) ≤ (j : Int) := Int.natCast_nonneg _
      have i2 : (j : Int) < (N : Int) + 1 := by omega
      have i3 : (j : Int) < (N : Int) := by omega
      go_wp2_with (at_builtin; refine wpl_app1 wr rfl _ _ rfl (tq + 1) u7 out j rfl HO.out rfl hlen hsz ?_)
      intro g c2 w5 hown5 hgrow hat hlt5
      have hp5 := (HP.out.alloc (.cells #[.int .i64 (j : Int)] 3)).grown hgrow (fun e => HNE.out e.symm)
      have hgp : g ≠ p := by
        rcases hat with h | h
        · intro e; subst e; exact HNE.out h
        · omega
      have hb5 : Below (tq + 1) W1 w5 := (HX.out.alloc hsz _).grown hgrow (by simp; omega) (fun q hq => (HO.out.lt q hq).1)
      have hz5 : tq + 1 ≤ w5.heap.size := by have := hp5.lt; omega
      have hbw5 := HBB.out.trans (hb5.mono hwz)
      have PL := hid (leads_at a l cap j j w5 (HRR.out.below (by rw [HZ.out]; exact hb5)) rfl (by rw [HN.out]; exact hlt) (by rw [HN.out]; omega))
      rw [HN.out] at PL
      have HO5 := hid hown5
      have HP5 := hid hp5
      have HX5 := hid hb5
      have hcp5 := hp5.cell 0 _ rfl
      clear hown5 hgrow hat hlt5 hp5 hb5 hcp HO HP HX hbw5 hlen
      go_wp2_with fail
      refine PL.out.mono ?_
      rintro en w6 ⟨lb, lc, rfl, hrl, hl1, -, hb6⟩
      have HO6 := hid (HO5.out.below hb6)
      have HP6 := hid (HP5.out.below hb6)
      have HX6 := hid (bel_far HX5.out hz5 hb6)
      have HRL := hid hrl
      have hcp6 := HP6.out.cell 0 _ rfl
      have hfp6 := HP6.out.free 0
      have hp6l := HP6.out.lt
      have hq6 := (Blk.belowB HQ.out HX6.out (by omega)).cell 0 _ rfl
      have HT6 := hid (Blk.belowB HT.out HX6.out (by omega))
      have htj := HT6.out.cell j _ (gcells_at _ _ j (by omega))
      have hll := ldI_len l.length j (l.getD j default)
      change 1 ≤ (ldAt l j).length ∧ (ldAt l j).length ≤ 2 at hll
      obtain ⟨hll1, hll2⟩ := hll
      obtain ⟨n0, hn0⟩ : ∃ n0, (ldAt l j).length = n0 := ⟨_, rfl⟩
      have HN0 := hid hn0
      rw [hn0] at hll1 hll2 hl1 ⊢
      clear hrl hb6 hcp5 HO5 HP5 HX5 PL hfp hn0
      by_cases hF : farG l b j = 1
      · have hlast := last_ok HOK.out b (by rw [HN.out]; exact hlt) HA.out hF
        have HL := hid hlast
        have hfin : out ++ [(j : Int)] = way l b := by
          rw [← HWAY.out, hF]
          rfl
        have HFIN := hid hfin
        rw [hF] at htj
        have hcl : w6.cell? ⟨lb, n0 - 1, none⟩ = some (.int .i64 (N : Int)) := by
          obtain ⟨b', off, hae, hc'⟩ := HRL.out.cell (n0 - 1) (by rw [HN0.out]; omega)
          injection hae with hae
          injection hae with hae1 hae2
          subst hae1 hae2
          rw [Nat.zero_add] at hc'
          rw [hc']
          have := HL.out
          rw [HN0.out, HN.out] at this
          rw [this]
        clear hlast hfin hF
        obtain rfl | rfl : n0 = 1 ∨ n0 = 2 := by omega
        all_goals
          go_wp2_with fail
          go_ret2
          rw [HRW.out]
          refine ⟨_, rfl, ?_, HBB.out.trans (HX6.out.mono hwz)⟩
          rw [← HFIN.out]
          exact HO6.out.mono hwz
      · have hF2 : 1 ≤ farG l b j := farG_pos HOK.out b (by rw [HN.out]; exact hlt) HA.out
        have hF3 := (farG_bd l b j).2
        rw [HN.out] at hF3
        obtain ⟨k1, k2, k3, k4⟩ := nxt_ok HOK.out b (by rw [HN.out]; exact hlt) HA.out
        obtain ⟨m1, m2, m3, m4⟩ := nxt_le HOK.out b (by rw [HN.out]; exact hlt) HA.out
        have hFd : (farG l b j == 1) = false := by simpa using hF
        have hgo := HOK.out.go j (by rw [HN.out]; exact hlt) HA.out
        rw [HN.out] at m2 m3
        rw [HN0.out] at k1
        have PI : Hid (Calls Try.prog 19 #[.slice (some ⟨lb, 0, none⟩) n0 lc, .func (.func 20) #[] #[.pointer (some ⟨tq, 0, none⟩), .pointer (some ⟨p, 0, none⟩)]] w6 fun e w' => e = .returned (.int .i64 (idx l b j)) ∧ ∃ m, w' = w6.drewN m) := by
          have := IndexFunc_calls lb lc tq p (ldAt l j) (fun t => farG l b t.toNat == farG l b j - 1) (idx l b j) w6 HRL.out (by rw [HN0.out]; exact k1) (by rw [HN0.out]; omega) (beq_iff_eq.2 k2) (fun q hq => by simpa using k3 q hq) (fun d q hq => by
            have hql : q < (ldAt l j).length := by rw [HN0.out]; omega
            have hmem : (ldAt l j).getD q 0 ∈ ldAt l j := by rw [List.getD_eq_getElem?_getD, List.getElem?_eq_getElem hql]; simp
            obtain ⟨t1, t2, _⟩ := hgo _ hmem
            rw [HN.out] at t2
            generalize (ldAt l j).getD q 0 = t at *
            obtain ⟨tg, rfl⟩ : ∃ tg : Nat, t = tg := ⟨t.toNat, by omega⟩
            rw [Int.toNat_natCast]
            exact Way1_calls tq p T (N + 1) tg j (farG l b tg) (farG l b j) (w6.drewN d) hq6 hcp6 (HT6.out.cell tg _ (gcells_at _ _ tg (by omega))) htj (by omega) (by omega) (by omega) (by omega))
          rw [HN0.out] at this
          exact this
        have hcl : w6.cell? ⟨lb, idx l b j, none⟩ = some (.int .i64 ((nxt l b j : Nat) : Int)) := by
          obtain ⟨b', off, hae, hc'⟩ := HRL.out.cell (idx l b j) (by rw [HN0.out]; exact k1)
          injection hae with hae
          injection hae with hae1 hae2
          subst hae1 hae2
          rw [Nat.zero_add] at hc'
          rw [hc', m4]
        have hway2 : (out ++ [(j : Int)]) ++ wayL l b (farG l b (nxt l b j)).toNat (nxt l b j) = way l b := by
          rw [← HWAY.out, k2]
          obtain ⟨f, hf⟩ : ∃ f : Nat, farG l b j = f + 1 := ⟨(farG l b j).toNat - 1, by omega⟩
          rw [hf, show ((f : Int) + 1 - 1).toNat = f by omega, show ((f : Int) + 1).toNat = f + 1 by omega, wayL]
          simp
        have HW2 := hid hway2
        have HM3 := hid m3
        clear k2 k3 k4 m4 hgo hway2 hF m3
        generalize farG l b j = y at *
        generalize idx l b j = i0 at *
        obtain ⟨x, hx⟩ : ∃ x, nxt l b j = x := ⟨_, rfl⟩
        rw [hx] at m1 m2 hcl HW2 HM3
        have i5 : (0 : Int) ≤ (i0 : Int) := Int.natCast_nonneg _
        have i6 : (i0 : Int) < (n0 : Int) := by omega
        clear hx
        go_wp2_with fail
        refine PI.out.mono ?_
        rintro en w7 ⟨rfl, mm, rfl⟩
        go_wp2_with fail
        have hsz9 : ((w6.drewN mm).setCell ⟨p, 0, none⟩ (.int .i64 (x : Int))).heap.size = w6.heap.size := by simp [World.setCell, World.drewN]
        have hb9 : Blk (((w6.drewN mm).setCell ⟨p, 0, none⟩ (.int .i64 (x : Int))).alloc (.cells #[.int .i64 (x : Int)] 3)) w6.heap.size #[.int .i64 (x : Int)] 3 := by
          have := Blk.new ((w6.drewN mm).setCell ⟨p, 0, none⟩ (.int .i64 (x : Int))) #[.int .i64 (x : Int)] 3
          rwa [hsz9] at this
        have hgo' : (Value.slice (some ⟨g, 0, none⟩) (out.length + 1) c2).ownBlock ≠ some p := by
          intro e
          exact hgp (by simpa [Value.ownBlock] using e)
        have hg6 : g < w6.heap.size := (HO6.out.lt g rfl).2
        refine ⟨⟨w6.heap.size, x, out ++ [(j : Int)], rfl, hb9, by omega, ((HO6.out.drewN mm).set hgo' 0 _).alloc _, ?_, ?_, m2, HM3.out, HW2.out⟩, ?_⟩
        · intro e
          have : g = w6.heap.size := by simpa [Value.ownBlock] using e
          omega
        · exact (bel_set (bel_drewN HX6.out mm) hpl 0 _).alloc (by rw [hsz9]; omega) _
        · rw [atVal_eq hb9, hHP.out]
          omega
    · obtain rfl : j = N := by omega
      have hfin : out = way l b := by
        have h1 := HWAY.out
        have h0 : farG l b j = 0 := by rw [← HN.out]; exact farG_end l b
        rw [h0] at h1
        simpa [wayL] using h1
      have HFIN := hid hfin
      have hd : decide ((j : Int) < (j : Int)) = false := by simp
      clear hp hown hbx hway hne hA hfin hfit
      go_wp2_with fail
      go_ret2
      rw [HRW.out]
      refine ⟨_, rfl, ?_, HBB.out.trans (HX.out.mono hwz)⟩
      rw [← HFIN.out]
      exact HO.out.mono hwz
end Go.Proofs.Ytejdkaniepgbdaa
