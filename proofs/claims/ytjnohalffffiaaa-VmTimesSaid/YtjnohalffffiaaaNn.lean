/- vm: step at brackets. -/
import Derived.Test.YtjnohalffffiaaaNk
import Derived.Deep.AppendLies
set_option linter.unusedVariables false
set_option linter.unusedSimpArgs false
namespace Go.Proofs.Ytjnohalffffiaaa
open Go.RowKit

theorem BrV.own {w : World} {base : Nat} {v : Value} {bs : List (Int × Int × Int)} (h : BrV w base v bs) : v.ownBlock = none ∨ ∃ g cur, v.ownBlock = some g ∧ base ≤ g ∧ Blk w g cur 110 := by
  rcases h.2 with ⟨rfl, hn⟩ | ⟨g, cap, cur, rfl, hb, hh, _⟩
  · exact .inl rfl
  · exact .inr ⟨g, cur, rfl, hb, hh⟩
theorem BrV.ne {w : World} {base : Nat} {v : Value} {bs : List (Int × Int × Int)} (h : BrV w base v bs) {b : Nat} {cs : Array Value} {t : TypeId} (hb : Blk w b cs t) (ht : t ≠ 110) : some b ≠ v.ownBlock := by
  rcases h.own with e | ⟨g, cur, e, _, hg⟩
  · rw [e]; simp
  · rw [e]
    intro e2
    injection e2 with e2
    subst e2
    exact ht (Blk.inj hb hg)
theorem BrV.neB {w : World} {base : Nat} {v : Value} {bs : List (Int × Int × Int)} (h : BrV w base v bs) {b : Nat} {s : ByteArray} (hb : ByB w b s) : some b ≠ v.ownBlock := by
  rcases h.own with e | ⟨g, cur, e, _, hg⟩
  · rw [e]; simp
  · rw [e]
    intro e2
    injection e2 with e2
    subst e2
    exact hb.type hg
theorem Kp.push {base : Nat} {w w' : World} {v : Value} {bs : List (Int × Int × Int)} (h : BrV w base v bs) (hg : w.grownBy w' v.ownBlock) (hB : base ≤ w.heap.size) : Kp base w w' := by
  refine ⟨⟨hg.os, hg.tape, hg.output, hg.size, fun i hi => hg.block i (by omega) (fun e => ?_)⟩, fun b cs t hb h1 h2 => hb.grown hg (h.ne hb h2)⟩
  rcases h.own with e2 | ⟨g, cur, e2, hb, _⟩
  · rw [e2] at e; cases e
  · rw [e2] at e
    injection e with e
    omega
theorem VmAt.pushed {W w3 : World} {base rb : Nat} {p : Int} {S : VS} {q c : Nat → Nat} {v v' : Value} {b : Int × Int × Int} (h0 : base ≤ rb) (blk : Blk W rb (rcells q c v S p) 68) (har : Areas W base q S.ar) (hop : BrV W base v S.op)
    (hg : W.grownBy w3 v.ownBlock) (hbr : BrV w3 base v' (S.op ++ [b])) :
    Blk w3 rb (rcells q c v S p) 68 ∧ VmAt (w3.setCell ⟨rb, 7, none⟩ v') base rb p { S with op := S.op ++ [b] } ∧ Kp base W (w3.setCell ⟨rb, 7, none⟩ v') := by
  have hB : base ≤ W.heap.size := Nat.le_of_lt (Nat.lt_of_le_of_lt h0 blk.lt)
  have b3 := blk.grown hg (hop.ne blk (by decide))
  have har3 : Areas w3 base q S.ar := ⟨fun a h1 h2 => ⟨(har.1 a h1 h2).1, (har.1 a h1 h2).2.1.grown hg (hop.neB (har.1 a h1 h2).2.1), (har.1 a h1 h2).2.2⟩, har.2⟩
  exact ⟨b3, ⟨h0, q, c, v', b3.set 7 v', har3.set b3 _ _, hbr.set b3 (by decide) _ _⟩, (Kp.push hop hg hB).trans (Kp.run b3 h0 _)⟩

/-- append of one bracket, at a step of a drawn region. -/
theorem step_vpush {ops : Array Oper} {o : Oper} {a : Act} {K : Act → World → Prop} {Q : Exit → Act → World → Prop} {E : Prop} {W : World} (hgd : o.guard = none) (s x : Operand)
    (ho : o.op = .call { callee := .builtin .append, args := #[s, x], argTypes := #[66, 66] }) (base : Nat) (v : Value) (bs : List (Int × Int × Int)) (b0 b1 b2 : Int) (B H : Nat)
    (hs : a.eval s = v) (hown : BrV W base v bs) (hx : a.eval x = .slice (some ⟨B, 0, none⟩) 1 1) (hB : Blk W B #[.int .i64 b0, .int .i64 b1, .int .i64 b2] 110) (hH : W.heap.size = H) (hlen : bs.length ≤ 1000) (hbase : base ≤ H)
    (hK : ∀ g cap w', BrV w' base (.slice (some ⟨g, 0, none⟩) (bs.length + 1) cap) (bs ++ [(b0, b1, b2)]) → W.grownBy w' v.ownBlock → g < w'.heap.size → K (a.put o.dst (.slice (some ⟨g, 0, none⟩) (bs.length + 1) cap)) w') :
    if Region.wanted o (yielded ops a.tmps) = true then Oper.wp Try.prog o a W K Q else E := by
  obtain ⟨i0, hi, hz0, hz1, hz2⟩ := info_parts infoVb
  refine step_append_lies _ hgd s x 66 ho base 110 i0 (.agg #[.int .i64 0, .int .i64 0, .int .i64 0]) 3 24 Try.underlying66 hi hz0 hz1 hz2 rfl (by decide) v bs.length (vbCells bs) hs hown ⟨B, 0, none⟩ 1 1 [.int .i64 b0, .int .i64 b1, .int .i64 b2] hx rfl ?_ ?_ (by decide) (by unfold maxLen; omega) (by omega) (by omega) H hH ?_
  · intro j u hj
    rw [add_pl, Nat.zero_add]
    rcases j with _ | _ | _ | j
    · simp at hj; subst hj; exact hB.cell 0 _ rfl
    · simp at hj; subst hj; exact hB.cell 1 _ rfl
    · simp at hj; subst hj; exact hB.cell 2 _ rfl
    · simp at hj
  · intro u hu
    simp at hu
    rcases hu with rfl | rfl | rfl <;> rfl
  · intro g cap w' h1 h2 h3 h4
    refine hK g cap w' ?_ h2 h4
    show w'.ownsRow base 110 3 _ (bs ++ [(b0, b1, b2)]).length (vbCells (bs ++ [(b0, b1, b2)]))
    rw [vbCells_app]
    simpa [vbCells] using h1

theorem Kp.same {base : Nat} {w w1 w2 : World} (h : Kp base w w2) (ho : w1.os = w.os := by rfl) (ht : w1.tape = w.tape := by rfl) (hu : w1.output = w.output := by rfl) (hh : w1.heap = w.heap := by rfl) : Kp base w1 w2 :=
  ⟨⟨h.1.os.trans ho.symm, h.1.tape.trans ht.symm, h.1.output.trans hu.symm, by rw [hh]; exact h.1.size, fun i hi => by rw [h.1.block i hi, hh]⟩, fun b cs t hb h1 h2 => h.2 b cs t (by unfold Blk at *; rw [← hh]; exact hb) h1 h2⟩

set_option maxRecDepth 10000 in
set_option maxHeartbeats 4000000 in
theorem step_32 (base rb : Nat) (p : Int) (S : VS) (kind area at_ n : Int) (w : World) (h : VmAt w base rb p S) (hn : S.op.length ≤ 1000) :
    Calls Try.prog 33 #[.pointer (some ⟨rb, 0, none⟩), .agg #[.int .i64 32, .int .i64 kind, .int .i64 area, .int .i64 at_, .int .i64 n]] w (RetV base rb p ({ S with op := S.op ++ [(at_, S.kind, S.n)], kind := 0, n := 0 }) w) := by
  have hB := h.base
  have hl := h.lt
  obtain ⟨_, _, v, c5, c6, c7, c8, c9, c12, hop, hfr⟩ := h.open
  have HV0 := hid h
  clear h c7 c8 c9 c12 hop hfr
  go_enter Try.func33, Try.ntmps33
  go_wp2_with fail
  obtain ⟨B0, B1, HB, HZ⟩ := new2 w #[.int .i64 32, .int .i64 kind, .int .i64 area, .int .i64 at_, .int .i64 n] #[.int .i64 S.kind, .int .i64 S.n] 48 65
  have HV := hid (HV0.out.below HB)
  have HK := hid (Kp.of HB hB)
  generalize ((w.alloc (.cells #[.int .i64 32, .int .i64 kind, .int .i64 area, .int .i64 at_, .int .i64 n] 48)).alloc (.cells #[.int .i64 S.kind, .int .i64 S.n] 65)) = W at *
  clear HZ HB HV0 c5 c6
  obtain ⟨_, hl2, v2, c5, c6, c7, c8, c9, c12, hop, hfr⟩ := HV.out.open
  have f5 := hfr 5
  have f6 := hfr 6
  clear c7 c8 c9 c12 hop hfr
  have d0 := B0.cell 0 _ rfl
  have d1 := B0.cell 1 _ rfl
  have d2 := B0.cell 2 _ rfl
  have d3 := B0.cell 3 _ rfl
  have d4 := B0.cell 4 _ rfl
  have e0 := B1.cell 0 _ rfl
  have e1 := B1.cell 1 _ rfl
  have BV := hid B1
  have BDI := hid B0
  clear B0 B1
  obtain ⟨h0, q, c, v, blk, har, hop⟩ := HV.out
  have c7 : W.cell? ⟨rb, 7, none⟩ = some v := blk.cell 7 _ rfl
  have BK := hid blk
  have AR := hid har
  have OP := hid hop
  clear blk har hop e0 e1 f5 f6 c5 c6 d0 d1 d2 d4
  have e0 := BV.out.cell 0 _ rfl
  have e1 := BV.out.cell 1 _ rfl
  have HS := hid (show base ≤ W.heap.size from HV.out.base)
  go_region_law (refine step_vpush (by rfl) _ _ (by rfl) base v S.op at_ S.kind S.n W.heap.size (W.heap.size + 1) (by first | rfl | simp [Act.eval, Act.put]) (by first | exact OP.out.below (bel_a1 W (.cells #[.int .i64 at_, .int .i64 S.kind, .int .i64 S.n] 110)) | exact OP.out.below (bel_a1 W (.cells #[.int .i64 at_, .int .i64 S.kind, .int .i64 S.n] 110)).drew) (by first | rfl | simp [Act.eval, Act.put]) (by exact Blk.new W _ _) (by simp) hn (by have := HS.out; omega) ?_; intro g cap w3 hbr hgr hlt; have HP := hid (VmAt.pushed h0 (BK.out.alloc (.cells #[.int .i64 at_, .int .i64 S.kind, .int .i64 S.n] 110)) (AR.out.below (bel_a1 W (.cells #[.int .i64 at_, .int .i64 S.kind, .int .i64 S.n] 110))) (OP.out.below (bel_a1 W (.cells #[.int .i64 at_, .int .i64 S.kind, .int .i64 S.n] 110))) (by exact ⟨hgr.os, hgr.tape, hgr.output, hgr.size, hgr.block⟩) hbr); have b3 := HP.out.1; have r7 : w3.cell? ⟨rb, 7, none⟩ = some v := b3.cell 7 _ rfl; have f7 := b3.free 7; have hl3 := b3.lt)
  all_goals
    have HX := HP.out.2.1
    have HY := hid (HK.out.trans ((Kp.of (bel_a1 W (.cells #[.int .i64 at_, .int .i64 S.kind, .int .i64 S.n] 110)) HS.out).trans HP.out.2.2))
    have HXX := hid HX
    have c5 : w3.cell? ⟨rb, 5, none⟩ = some (.int .i64 S.kind) := b3.cell 5 _ rfl
    have c6 : w3.cell? ⟨rb, 6, none⟩ = some (.int .i64 S.n) := b3.cell 6 _ rfl
    have f5 := b3.free 5
    have f6 := b3.free 6
    clear HX hbr hgr
    go_wp2_with fail
    go_end0
    exact ⟨rfl, HXX.out.res _ _, HY.out.trans ((HXX.out.kp 5 _).trans ((HXX.out.res1 _).kp 6 _))⟩

theorem BrV.last {w : World} {base : Nat} {v : Value} {l : List (Int × Int × Int)} {b : Int × Int × Int} (h : BrV w base v (l ++ [b])) :
    ∃ g cap, v = .slice (some ⟨g, 0, none⟩) (l.length + 1) cap ∧ w.cell? ⟨g, l.length * 3, none⟩ = some (.int .i64 b.1) ∧ w.cell? ⟨g, l.length * 3 + 1, none⟩ = some (.int .i64 b.2.1) ∧ w.cell? ⟨g, l.length * 3 + 2, none⟩ = some (.int .i64 b.2.2) ∧ l.length + 1 ≤ cap ∧
      BrV w base (.slice (some ⟨g, 0, none⟩) l.length cap) l := by
  have h0 := h
  have hl : (l ++ [b]).length = l.length + 1 := by simp
  unfold BrV at h0
  rw [hl] at h0
  have hj : l.length < (l ++ [b]).length := by omega
  have hat := vbCells_at (l ++ [b]) l.length hj
  have e : (l ++ [b])[l.length] = b := by simp
  rw [e] at hat
  rcases h.2 with ⟨rfl, hn⟩ | ⟨g, cap, cur, hv, hb, hh, hle, hm, hsz, htk⟩
  · simp at hn
  · rw [hl] at hv
    refine ⟨g, cap, hv, ?_, ?_, ?_, by omega, ?_⟩
    · subst hv
      have hc := World.ownsRow.cellAt h0 (l.length * 3) (by omega)
      rw [hc]; exact hat.1
    · subst hv
      have hc := World.ownsRow.cellAt h0 (l.length * 3 + 1) (by omega)
      rw [hc]; exact hat.2.1
    · subst hv
      have hc := World.ownsRow.cellAt h0 (l.length * 3 + 2) (by omega)
      rw [hc]; exact hat.2.2
    · refine ⟨vbCells_len l, .inr ⟨g, cap, cur, rfl, hb, hh, by omega, hm, hsz, ?_⟩⟩
      have e2 : vbCells l = (vbCells (l ++ [b])).take (l.length * 3) := by
        rw [vbCells_app, List.take_append_of_le_length (by rw [vbCells_len]; omega), List.take_of_length_le (by rw [vbCells_len]; omega)]
      rw [e2, ← htk]
      simp [List.take_take]
theorem VmAt.popped {W : World} {base rb : Nat} {p : Int} {S : VS} {q c : Nat → Nat} {v v' : Value} {l : List (Int × Int × Int)} (h0 : base ≤ rb) (blk : Blk W rb (rcells q c v S p) 68) (har : Areas W base q S.ar) (hbr : BrV W base v' l) :
    VmAt (W.setCell ⟨rb, 7, none⟩ v') base rb p { S with op := l } :=
  ⟨h0, q, c, v', blk.set 7 v', har.set blk _ _, hbr.set blk (by decide) _ _⟩

set_option maxRecDepth 10000 in
set_option maxHeartbeats 4000000 in
theorem step_33 (base rb : Nat) (p : Int) (S : VS) (kind area at_ n : Int) (w : World) (h : VmAt w base rb p S) (l : List (Int × Int × Int)) (ob kb nb : Int) (hop : S.op = l ++ [(ob, kb, nb)]) (hn : l.length ≤ 1000) (hz : 0 ≤ S.zero ∧ S.zero ≤ 1000000) :
    Calls Try.prog 33 #[.pointer (some ⟨rb, 0, none⟩), .agg #[.int .i64 33, .int .i64 kind, .int .i64 area, .int .i64 at_, .int .i64 n]] w (RetV base rb p (({ S with op := l }.does ob kb nb S.n)) w) := by
  have HOP := hid hop
  have HZ2 := hid hz
  have hB := h.base
  have hl := h.lt
  obtain ⟨_, _, v, c5, c6, c7, c8, c9, c12, hop, hfr⟩ := h.open
  have HV0 := hid h
  clear h c7 c8 c9 c12 hop hfr hz
  go_enter Try.func33, Try.ntmps33
  go_wp2_with fail
  obtain ⟨B0, B1, HB, HZ⟩ := new2 w #[.int .i64 33, .int .i64 kind, .int .i64 area, .int .i64 at_, .int .i64 n] #[.int .i64 S.kind, .int .i64 S.n] 48 65
  have HV := hid (HV0.out.below HB)
  have HK := hid (Kp.of HB hB)
  generalize ((w.alloc (.cells #[.int .i64 33, .int .i64 kind, .int .i64 area, .int .i64 at_, .int .i64 n] 48)).alloc (.cells #[.int .i64 S.kind, .int .i64 S.n] 65)) = W at *
  clear HZ HB HV0 c5 c6
  obtain ⟨_, hl2, v2, c5, c6, c7, c8, c9, c12, hop, hfr⟩ := HV.out.open
  have f5 := hfr 5
  have f6 := hfr 6
  clear c7 c8 c9 c12 hop hfr
  have d0 := B0.cell 0 _ rfl
  have d1 := B0.cell 1 _ rfl
  have d2 := B0.cell 2 _ rfl
  have d3 := B0.cell 3 _ rfl
  have d4 := B0.cell 4 _ rfl
  have e0 := B1.cell 0 _ rfl
  have e1 := B1.cell 1 _ rfl
  have BV := hid B1
  have BDI := hid B0
  clear B0 B1
  obtain ⟨h0, q, c, v, blk, har, hop⟩ := HV.out
  rw [HOP.out] at hop
  obtain ⟨g, cap, rfl, k0, k1, k2, hcap, hop2⟩ := hop.last
  have c7 : W.cell? ⟨rb, 7, none⟩ = some (.slice (some ⟨g, 0, none⟩) (l.length + 1) cap) := blk.cell 7 _ rfl
  have f7 := blk.free 7
  have hgl : g < W.heap.size := World.block_lt_of_cell? W _ k0
  generalize hm : l.length = m at *
  have BK := hid blk
  have AR := hid har
  have OP := hid hop2
  clear blk har hop hop2 e0 e1 f5 f6 c5 c6 d0 d1 d2 d3 d4
  have hms : IntKind.i64.wrap ((m : Int) + 1 - 1) = (m : Int) := by rw [IntKind.wrap_i64]; omega
  have hms2 : IntKind.i64.wrap (m : Int) = (m : Int) := by rw [IntKind.wrap_i64]; omega
  have i1 : (0 : Int) ≤ (m : Int) := Int.natCast_nonneg _
  have i2 : (m : Int) ≤ (cap : Int) := by omega
  have e1 := BV.out.cell 1 _ rfl
  have HS := hid (show base ≤ W.heap.size from HV.out.base)
  dsimp only at k0 k1 k2
  clear hm HOP hop
  go_region
  all_goals
    go_wp2_with fail
    have bk1 := BK.out.alloc (.cells #[.int .i64 ob, .int .i64 kb, .int .i64 nb] 110)
    have ar1 := AR.out.below (bel_a1 W (.cells #[.int .i64 ob, .int .i64 kb, .int .i64 nb] 110))
    have op1 := OP.out.below (bel_a1 W (.cells #[.int .i64 ob, .int .i64 kb, .int .i64 nb] 110))
    have bo1 := Blk.new W #[.int .i64 ob, .int .i64 kb, .int .i64 nb] 110
    have bv1 := BV.out.alloc (.cells #[.int .i64 ob, .int .i64 kb, .int .i64 nb] 110)
    have HKP := hid (HK.out.alloc hB (.cells #[.int .i64 ob, .int .i64 kb, .int .i64 nb] 110))
    have hWl : W.heap.size ≠ rb := by omega
    clear k0 k1 k2 c7 f7 e1 hgl BK AR OP BV BDI HV
    generalize W.alloc (.cells #[.int .i64 ob, .int .i64 kb, .int .i64 nb] 110) = W1 at *
    have c7 : W1.cell? ⟨rb, 7, none⟩ = some (.slice (some ⟨g, 0, none⟩) (m + 1) cap) := bk1.cell 7 _ rfl
    have f7 := bk1.free 7
    have e1 := bv1.cell 1 _ rfl
    have x0 := bo1.cell 0 _ rfl
    have x1 := bo1.cell 1 _ rfl
    have x2 := bo1.cell 2 _ rfl
    have hl1 := bk1.lt
    have HVP := hid (VmAt.popped h0 bk1 ar1 op1)
    have HKQ := hid (HKP.out.trans (Kp.run bk1 h0 (o := 7) (.slice (some ⟨g, 0, none⟩) m cap)))
    clear bk1 ar1 op1 bo1 bv1 HKP
    go_region
  all_goals
    go_wp2_with fail
    refine (do_calls base rb p { S with op := l } ob kb nb S.n _ (by exact HVP.out) HZ2.out.1 HZ2.out.2).mono ?_
    rintro e w3 ⟨rfl, hv, hk⟩
    have HX := hid hv
    have HK3 := hid (HKQ.out.drew.drew.trans (Kp.same hk))
    clear hv hk
    go_wp2_with fail
    go_end0
    exact ⟨rfl, HX.out, HK3.out⟩

end Go.Proofs.Ytjnohalffffiaaa
