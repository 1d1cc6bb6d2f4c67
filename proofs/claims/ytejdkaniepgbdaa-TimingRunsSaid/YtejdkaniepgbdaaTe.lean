/- timing: table. -/
import Derived.Test.YtejdkaniepgbdaaTd
set_option linter.unusedVariables false
set_option linter.unusedSimpArgs false
namespace Go.Proofs.Ytejdkaniepgbdaa
open Go.RowKit

instance : Inhabited Ins := ⟨⟨0, 0, 0, 0, 0⟩⟩
def ldAt (l : List Ins) (j : Nat) : List Int := ldI l.length j (l.getD j default)
theorem ldAt_eq (l : List Ins) (j : Nat) (hj : j < l.length) : ldI l.length j l[j] = ldAt l j := by
  unfold ldAt
  rw [List.getD_eq_getElem?_getD, List.getElem?_eq_getElem hj]
  rfl
theorem ldI_len (n at_ : Int) (i : Ins) : 1 ≤ (ldI n at_ i).length ∧ (ldI n at_ i).length ≤ 2 := by
  unfold ldI
  repeat' split
  all_goals simp
/-- The number to which an instruction leads, at most the end's. -/
def cut (l : List Ins) (t : Int) : Nat := (min t l.length).toNat
/-- What the table holds behind k rounds. -/
def tabG (l : List Ins) (e : Int) (m : List Int → Int) : Nat → Nat → Int
  | 0, _ => e
  | k + 1, j => if j + k + 1 = l.length then m ((ldAt l j).map fun t => tabG l e m k (cut l t)) else tabG l e m k j

def gcells (N : Nat) (G : Nat → Int) : Array Value := ((List.range N).map fun j => Value.int .i64 (G j)).toArray
theorem gcells_at (N : Nat) (G : Nat → Int) (j : Nat) (h : j < N) : (gcells N G)[j]? = some (.int .i64 (G j)) := by
  simp [gcells, h]
theorem gcells_size (N : Nat) (G : Nat → Int) : (gcells N G).size = N := by simp [gcells]
theorem gcells_set (N : Nat) (G H : Nat → Int) (i : Nat) (v : Int) (h : ∀ j, H j = if j = i then v else G j) : (gcells N G).setIfInBounds i (.int .i64 v) = gcells N H := by
  apply Array.ext_getElem?
  intro j
  rw [Array.getElem?_setIfInBounds, gcells_size]
  by_cases hj : j < N
  · rw [gcells_at N H j hj, gcells_at N G j hj, h j]
    by_cases e : i = j
    · subst e; simp [hj]
    · rw [if_neg e, if_neg (Ne.symm e)]
  · rw [Array.getElem?_eq_none (by rw [gcells_size]; omega), Array.getElem?_eq_none (by rw [gcells_size]; omega)]
    split
    · rw [if_neg (by omega)]
    · rfl
theorem gcells_fill (N : Nat) (l : List Ins) (e : Int) (m : List Int → Int) : (List.replicate N (Value.int .i64 e)).toArray = gcells N (tabG l e m 0) := by
  apply Array.ext_getElem?
  intro j
  by_cases hj : j < N
  · rw [gcells_at N _ j hj]
    simp [hj, tabG]
  · rw [Array.getElem?_eq_none (by simp; omega), Array.getElem?_eq_none (by rw [gcells_size]; omega)]
theorem Repeat_at (b : Nat) (e x : Int) (N : Nat) (w : World) (hx : x = N) (hb : Blk w b #[.int .i64 e] 3) (hN : 1 ≤ N) (hN2 : N ≤ 100001) :
    Calls Try.prog 28 #[.slice (some ⟨b, 0, none⟩) 1 1, .int .i64 x] w (RetR e N w) := by
  subst hx
  exact Repeat_calls b e N w hb hN hN2
theorem leads_at (a : Option Addr) (l : List Ins) (cap j : Nat) (x : Int) (w : World) (hr : RdIns w a l) (hx : x = j) (hj : j < l.length) (hn : l.length ≤ 100000) :
    Calls Try.prog 18 #[.slice a l.length cap, .int .i64 x] w (RetS (ldAt l j) w) := by
  subst hx
  rw [← ldAt_eq l j hj]
  exact leads_calls a l cap j w hr hj hn

def inL (l : List Ins) (e : Int) (m : List Int → Int) (k : Nat) (L0 : List Int) (i : Nat) : List Int := (L0.take i).map fun t => tabG l e m k (cut l t)
theorem inL_len (l : List Ins) (e : Int) (m : List Int → Int) (k : Nat) (L0 : List Int) (i : Nat) (h : i ≤ L0.length) : (inL l e m k L0 i).length = i := by simp [inL]; omega
theorem inL_snoc (l : List Ins) (e : Int) (m : List Int → Int) (k : Nat) (L0 : List Int) (i : Nat) (h : i < L0.length) : inL l e m k L0 (i + 1) = inL l e m k L0 i ++ [tabG l e m k (cut l (L0.getD i 0))] := by
  unfold inL
  rw [List.take_succ_eq_append_getElem h, List.map_append]
  simp [List.getD_eq_getElem?_getD, List.getElem?_eq_getElem h]
theorem inL_full (l : List Ins) (e : Int) (m : List Int → Int) (k : Nat) (L0 : List Int) : inL l e m k L0 L0.length = L0.map fun t => tabG l e m k (cut l t) := by
  unfold inL
  rw [List.take_of_length_le (Nat.le_refl _)]
theorem OwnI.pos {w : World} {base : Nat} {v : Value} {xs : List Int} (h : OwnI w base v xs) (h0 : 0 < xs.length) : ∃ g c, v = .slice (some ⟨g, 0, none⟩) xs.length c ∧ base ≤ g ∧ RdI w (some ⟨g, 0, none⟩) xs ∧ xs.length ≤ c := by
  obtain ⟨g, c, e, hb, _⟩ := World.ownsRow.form h h0
  subst e
  obtain ⟨a, c', e, hr, hc, _⟩ := h.rd
  injection e with e1 e2 e3
  subst e1 e3
  exact ⟨g, c, rfl, hb, hr, hc⟩

def RetTb (l : List Ins) (e : Int) (m : List Int → Int) (w : World) (en : Ending) (w' : World) : Prop :=
  ∃ T, en = .returned (.slice (some ⟨T, 0, none⟩) (l.length + 1) (l.length + 1)) ∧ Blk w' T (gcells (l.length + 1) (tabG l e m l.length)) 3 ∧ w.heap.size ≤ T ∧ Below w.heap.size w w'

set_option maxRecDepth 10000 in
set_option maxHeartbeats 4000000 in
theorem table_f (a : Option Addr) (l : List Ins) (cap : Nat) (e : Int) (qb : Nat) (w : World) (hr : RdIns w a l) (hc : l.length ≤ cap) (hn : l.length ≤ 200) (m : List Int → Int) (hpos : ∀ j, j < l.length → ∀ t ∈ ldAt l j, 0 ≤ t)
    (hG : ∀ k, k ≤ l.length → ∀ j, 0 ≤ tabG l e m k j ∧ tabG l e m k j ≤ 1000000)
    (PM : ∀ W L b c, RdI W (some ⟨b, 0, none⟩) L → 1 ≤ L.length → L.length ≤ 2 → L.length ≤ c → (∀ x ∈ L, 0 ≤ x ∧ x ≤ 1000000) → (∃ k j, k + 1 ≤ l.length ∧ m L = tabG l e m (k + 1) j) → Below w.heap.size w W →
      Calls Try.prog 25 #[.slice (some ⟨b, 0, none⟩) L.length c, .pointer (some ⟨qb, 0, none⟩)] W fun en w' => en = .returned (.int .i64 (m L)) ∧ w' = W) :
    Calls Try.prog 16 #[.slice a l.length cap, .int .i64 e, .func (.func 25) #[] #[.pointer (some ⟨qb, 0, none⟩)]] w (RetTb l e m w) := by
  have HR := hid hr
  have HPOS := hid hpos
  have HG := hid hG
  have HPM := hid PM
  clear hr hpos hG PM
  go_enter Try.func16, Try.ntmps16
  go_wp2_with fail
  refine (Repeat_at _ e _ (l.length + 1) _ (by omega) (Blk.new w #[.int .i64 e] 3) (by omega) (by omega)).mono ?_
  rintro en w1 ⟨T, rfl, hblk, hT, hb1⟩
  have hblk0 : Blk w1 T (gcells (l.length + 1) (tabG l e m 0)) 3 := by rw [← gcells_fill]; exact hblk
  have HB1 := hid (below_trans (bel_a1 w _) hb1)
  have HK1 := hid hblk0
  have hTw : w.heap.size ≤ T := by simp at hT; omega
  clear hblk hblk0 hb1 hT
  obtain ⟨N, hN⟩ : ∃ N, l.length = N := ⟨_, rfl⟩
  have HN := hid hN
  have hn2 : N ≤ 200 := by omega
  rw [hN] at hc HK1 ⊢
  clear hN hn
  go_wp2_with fail
  go_loopw [8] (fun v wr => ∃ k j : Nat, k + j = N ∧ v = .int .i64 ((j : Int) - 1) ∧ Blk wr T (gcells (N + 1) (tabG l e m k)) 3 ∧ Below w.heap.size w wr) (fun v _ => (intOf v + 1).toNat)
  case atStart => exact ⟨0, N, by omega, rfl, HK1.out, HB1.out⟩
  case round =>
    obtain ⟨k, j, hkj, rfl, hblk, hbel⟩ := hrel
    clear HK1 HB1
    have HBK := hid hblk
    have HBE := hid hbel
    clear hblk hbel
    rcases j with _ | j
    · obtain rfl : k = N := by omega
      go_wp2_with fail
      go_ret
      refine ⟨T, ?_, by rw [HN.out]; exact HBK.out, hTw, HBE.out⟩
      rw [HN.out]
      rfl
    · have i1 : (0 : Int) ≤ (j : Int) := Int.natCast_nonneg _
      have hjj : ((j + 1 : Nat) : Int) - 1 = (j : Int) := by omega
      rw [hjj]
      clear hjj
      have PL := hid (leads_at a l cap j j wr (HR.out.below HBE.out) rfl (by rw [HN.out]; omega) (by rw [HN.out]; omega))
      rw [HN.out] at PL
      have HP := hid (HPOS.out j (by rw [HN.out]; omega))
      have hLl : 1 ≤ (ldAt l j).length ∧ (ldAt l j).length ≤ 2 := ldI_len _ _ _
      obtain ⟨L0, hL0⟩ : ∃ L0, ldAt l j = L0 := ⟨_, rfl⟩
      have HL0 := hid hL0
      rw [hL0] at PL HP hLl
      obtain ⟨hLl1, hLl2⟩ := hLl
      clear hL0
      go_wp2_with fail
      refine PL.out.mono ?_
      rintro en w2 ⟨lb, lc, rfl, hrl, hl1, -, hb2⟩
      have HK2 := hid (HBK.out.below hb2)
      have HB2 := hid (below_trans HBE.out hb2)
      have HRL := hid hrl
      have hTl : T < w2.heap.size := HK2.out.lt
      obtain ⟨n0, hn0⟩ : ∃ n0, L0.length = n0 := ⟨_, rfl⟩
      have HN0 := hid hn0
      rw [hn0] at hLl1 hLl2 hl1 ⊢
      clear hrl hb2 HBK HBE PL hn0
      go_wp2_with fail
      go_loopw [9, 29] (fun v s wx => ∃ i : Nat, i ≤ n0 ∧ s = .int .i64 i ∧ OwnI wx w2.heap.size v (inL l e m k L0 i) ∧ Below w2.heap.size w2 wx) (fun _ s _ => n0 - (intOf s).toNat)
      case atStart => exact ⟨0, Nat.zero_le _, rfl, OwnI.nil _ _, Below.refl _ _⟩
      case round =>
        obtain ⟨i, hi, rfl, hown, hbx⟩ := hrel
        have HO := hid hown
        have HBX := hid hbx
        have hsz := hbx.size
        clear hown hbx
        by_cases hlt : i < n0
        · have hil : i < L0.length := by rw [HN0.out]; exact hlt
          obtain ⟨b', off, hae, hcl⟩ := (HRL.out.below HBX.out).cell i hil
          injection hae with hae
          injection hae with hae1 hae2
          subst hae1 hae2
          rw [Nat.zero_add] at hcl
          have ht0 : 0 ≤ L0.getD i 0 := HP.out _ (by rw [List.getD_eq_getElem?_getD, List.getElem?_eq_getElem hil]; simp)
          have HSN := hid (inL_snoc l e m k L0 i hil)
          have HLN := hid (inL_len l e m k L0 i (Nat.le_of_lt hil))
          have hcut : min (L0.getD i 0) (N : Int) = (cut l (L0.getD i 0) : Int) := by unfold cut; rw [HN.out]; omega
          have hcl2 : cut l (L0.getD i 0) ≤ N := by unfold cut; rw [HN.out]; omega
          generalize L0.getD i 0 = t at *
          generalize cut l t = c at *
          have hcT := (HK2.out.below HBX.out).cell c _ (gcells_at _ _ c (by omega))
          have i2 : (0 : Int) ≤ (i : Int) := Int.natCast_nonneg _
          have i3 : (0 : Int) ≤ (c : Int) := Int.natCast_nonneg _
          have i4 : (c : Int) < (N : Int) + 1 := by omega
          have hlen : (inL l e m k L0 i).length + 1 ≤ 17592186044416 := by rw [HLN.out]; omega
          generalize tabG l e m k c = x at *
          go_wp2_with (at_builtin; refine wpl_app1 wr rfl _ _ rfl w2.heap.size u9 _ x rfl HO.out rfl hlen hsz ?_)
          intro g c2 w5 hown5 hgrow hat hlt5
          have hb5 : Below w2.heap.size w2 w5 := (HBX.out.alloc hsz _).grown hgrow (by simp; omega) (fun q hq => (HO.out.lt q hq).1)
          have ho5 : OwnI w5 w2.heap.size (.slice (some ⟨g, 0, none⟩) ((inL l e m k L0 i).length + 1) c2) (inL l e m k L0 (i + 1)) := by rw [HSN.out]; exact hown5
          have HO5 := hid ho5
          have HB5 := hid hb5
          clear hown5 hgrow hat hlt5 hb5 ho5 HO HBX hcT hcl hcut
          go_wp2_with fail
          go_roundw
          case rel => exact ⟨i + 1, by omega, by go_num, HO5.out, HB5.out⟩
          case measure => simp [intOf]; omega
        · obtain rfl : i = n0 := by omega
          have HFULL := hid (inL_full l e m k L0)
          have hln := inL_len l e m k L0 i (by rw [HN0.out]; exact Nat.le_refl _)
          obtain ⟨g, c2, rfl, hg, hr, hc2⟩ := HO.out.pos (by rw [hln]; omega)
          obtain ⟨L1, hL1⟩ : ∃ L1, inL l e m k L0 i = L1 := ⟨_, rfl⟩
          have hL1' : L1 = L0.map fun t => tabG l e m k (cut l t) := by rw [← hL1, ← HFULL.out, HN0.out]
          rw [hL1] at hr hc2 hln ⊢
          have hln1 : 1 ≤ L1.length := by omega
          have hln2 : L1.length ≤ 2 := by omega
          clear hln
          have hbd : ∀ x ∈ L1, 0 ≤ x ∧ x ≤ 1000000 := by
            intro x hx
            rw [hL1'] at hx
            obtain ⟨t, _, rfl⟩ := List.mem_map.1 hx
            exact HG.out k (by rw [HN.out]; omega) _
          have hstep : m L1 = tabG l e m (k + 1) j := by
            rw [hL1', tabG, if_pos (by rw [HN.out]; omega), HL0.out]
          have PC := hid (HPM.out wr L1 g c2 hr hln1 hln2 hc2 hbd ⟨k, j, by rw [HN.out]; omega, hstep⟩ (bel_far HB2.out (by have := HB2.out.size; omega) HBX.out))
          have HST := hid hstep
          have hTf := (HK2.out.below HBX.out).free j
          have hTc := (HK2.out.below HBX.out).cell j _ (gcells_at _ _ j (by omega))
          have HK3 := hid (HK2.out.below HBX.out)
          have HB3 := hid (bel_far HB2.out (by have := HB2.out.size; omega) HBX.out)
          have i4 : (j : Int) < (N : Int) + 1 := by omega
          have hd : decide ((i : Int) < (i : Int)) = false := by simp
          clear hL1 hL1' hr hstep hbd HO HBX HFULL HK2 HB2 hc2
          go_wp2_with fail
          refine PC.out.mono ?_
          rintro en w6 ⟨rfl, rfl⟩
          go_wp2_with fail
          go_roundw
          case rel =>
            refine ⟨k + 1, j, by omega, rfl, ?_, ?_⟩
            · have := HK3.out.set j (.int .i64 (m L1))
              rw [gcells_set (N + 1) (tabG l e m k) (tabG l e m (k + 1)) j (m L1) (fun q => by
                by_cases e : q = j
                · rw [if_pos e, e, HST.out]
                · rw [if_neg e, tabG, if_neg (by rw [HN.out]; omega)])] at this
              exact this
            · exact bel_set HB3.out hTw _ _
          case measure => first | (simp [intOf]; done) | (simp [intOf]; omega)

set_option maxRecDepth 10000 in
set_option maxHeartbeats 4000000 in
theorem table_w (a : Option Addr) (l : List Ins) (cap : Nat) (e : Int) (w : World) (hr : RdIns w a l) (hc : l.length ≤ cap) (hn : l.length ≤ 200) (m : List Int → Int) (hpos : ∀ j, j < l.length → ∀ t ∈ ldAt l j, 0 ≤ t)
    (hG : ∀ k, k ≤ l.length → ∀ j, 0 ≤ tabG l e m k j ∧ tabG l e m k j ≤ 1000000)
    (PM : ∀ W L b c, RdI W (some ⟨b, 0, none⟩) L → 1 ≤ L.length → L.length ≤ 2 → L.length ≤ c → (∀ x ∈ L, 0 ≤ x ∧ x ≤ 1000000) → (∃ k j, k + 1 ≤ l.length ∧ m L = tabG l e m (k + 1) j) → Below w.heap.size w W →
      Calls Try.prog 17 #[.slice (some ⟨b, 0, none⟩) L.length c] W fun en w' => en = .returned (.int .i64 (m L)) ∧ w' = W) :
    Calls Try.prog 16 #[.slice a l.length cap, .int .i64 e, .func (.func 17) #[] #[]] w (RetTb l e m w) := by
  have HR := hid hr
  have HPOS := hid hpos
  have HG := hid hG
  have HPM := hid PM
  clear hr hpos hG PM
  go_enter Try.func16, Try.ntmps16
  go_wp2_with fail
  refine (Repeat_at _ e _ (l.length + 1) _ (by omega) (Blk.new w #[.int .i64 e] 3) (by omega) (by omega)).mono ?_
  rintro en w1 ⟨T, rfl, hblk, hT, hb1⟩
  have hblk0 : Blk w1 T (gcells (l.length + 1) (tabG l e m 0)) 3 := by rw [← gcells_fill]; exact hblk
  have HB1 := hid (below_trans (bel_a1 w _) hb1)
  have HK1 := hid hblk0
  have hTw : w.heap.size ≤ T := by simp at hT; omega
  clear hblk hblk0 hb1 hT
  obtain ⟨N, hN⟩ : ∃ N, l.length = N := ⟨_, rfl⟩
  have HN := hid hN
  have hn2 : N ≤ 200 := by omega
  rw [hN] at hc HK1 ⊢
  clear hN hn
  go_wp2_with fail
  go_loopw [8] (fun v wr => ∃ k j : Nat, k + j = N ∧ v = .int .i64 ((j : Int) - 1) ∧ Blk wr T (gcells (N + 1) (tabG l e m k)) 3 ∧ Below w.heap.size w wr) (fun v _ => (intOf v + 1).toNat)
  case atStart => exact ⟨0, N, by omega, rfl, HK1.out, HB1.out⟩
  case round =>
    obtain ⟨k, j, hkj, rfl, hblk, hbel⟩ := hrel
    clear HK1 HB1
    have HBK := hid hblk
    have HBE := hid hbel
    clear hblk hbel
    rcases j with _ | j
    · obtain rfl : k = N := by omega
      go_wp2_with fail
      go_ret
      refine ⟨T, ?_, by rw [HN.out]; exact HBK.out, hTw, HBE.out⟩
      rw [HN.out]
      rfl
    · have i1 : (0 : Int) ≤ (j : Int) := Int.natCast_nonneg _
      have hjj : ((j + 1 : Nat) : Int) - 1 = (j : Int) := by omega
      rw [hjj]
      clear hjj
      have PL := hid (leads_at a l cap j j wr (HR.out.below HBE.out) rfl (by rw [HN.out]; omega) (by rw [HN.out]; omega))
      rw [HN.out] at PL
      have HP := hid (HPOS.out j (by rw [HN.out]; omega))
      have hLl : 1 ≤ (ldAt l j).length ∧ (ldAt l j).length ≤ 2 := ldI_len _ _ _
      obtain ⟨L0, hL0⟩ : ∃ L0, ldAt l j = L0 := ⟨_, rfl⟩
      have HL0 := hid hL0
      rw [hL0] at PL HP hLl
      obtain ⟨hLl1, hLl2⟩ := hLl
      clear hL0
      go_wp2_with fail
      refine PL.out.mono ?_
      rintro en w2 ⟨lb, lc, rfl, hrl, hl1, -, hb2⟩
      have HK2 := hid (HBK.out.below hb2)
      have HB2 := hid (below_trans HBE.out hb2)
      have HRL := hid hrl
      have hTl : T < w2.heap.size := HK2.out.lt
      obtain ⟨n0, hn0⟩ : ∃ n0, L0.length = n0 := ⟨_, rfl⟩
      have HN0 := hid hn0
      rw [hn0] at hLl1 hLl2 hl1 ⊢
      clear hrl hb2 HBK HBE PL hn0
      go_wp2_with fail
      go_loopw [9, 29] (fun v s wx => ∃ i : Nat, i ≤ n0 ∧ s = .int .i64 i ∧ OwnI wx w2.heap.size v (inL l e m k L0 i) ∧ Below w2.heap.size w2 wx) (fun _ s _ => n0 - (intOf s).toNat)
      case atStart => exact ⟨0, Nat.zero_le _, rfl, OwnI.nil _ _, Below.refl _ _⟩
      case round =>
        obtain ⟨i, hi, rfl, hown, hbx⟩ := hrel
        have HO := hid hown
        have HBX := hid hbx
        have hsz := hbx.size
        clear hown hbx
        by_cases hlt : i < n0
        · have hil : i < L0.length := by rw [HN0.out]; exact hlt
          obtain ⟨b', off, hae, hcl⟩ := (HRL.out.below HBX.out).cell i hil
          injection hae with hae
          injection hae with hae1 hae2
          subst hae1 hae2
          rw [Nat.zero_add] at hcl
          have ht0 : 0 ≤ L0.getD i 0 := HP.out _ (by rw [List.getD_eq_getElem?_getD, List.getElem?_eq_getElem hil]; simp)
          have HSN := hid (inL_snoc l e m k L0 i hil)
          have HLN := hid (inL_len l e m k L0 i (Nat.le_of_lt hil))
          have hcut : min (L0.getD i 0) (N : Int) = (cut l (L0.getD i 0) : Int) := by unfold cut; rw [HN.out]; omega
          have hcl2 : cut l (L0.getD i 0) ≤ N := by unfold cut; rw [HN.out]; omega
          generalize L0.getD i 0 = t at *
          generalize cut l t = c at *
          have hcT := (HK2.out.below HBX.out).cell c _ (gcells_at _ _ c (by omega))
          have i2 : (0 : Int) ≤ (i : Int) := Int.natCast_nonneg _
          have i3 : (0 : Int) ≤ (c : Int) := Int.natCast_nonneg _
          have i4 : (c : Int) < (N : Int) + 1 := by omega
          have hlen : (inL l e m k L0 i).length + 1 ≤ 17592186044416 := by rw [HLN.out]; omega
          generalize tabG l e m k c = x at *
          go_wp2_with (at_builtin; refine wpl_app1 wr rfl _ _ rfl w2.heap.size u9 _ x rfl HO.out rfl hlen hsz ?_)
          intro g c2 w5 hown5 hgrow hat hlt5
          have hb5 : Below w2.heap.size w2 w5 := (HBX.out.alloc hsz _).grown hgrow (by simp; omega) (fun q hq => (HO.out.lt q hq).1)
          have ho5 : OwnI w5 w2.heap.size (.slice (some ⟨g, 0, none⟩) ((inL l e m k L0 i).length + 1) c2) (inL l e m k L0 (i + 1)) := by rw [HSN.out]; exact hown5
          have HO5 := hid ho5
          have HB5 := hid hb5
          clear hown5 hgrow hat hlt5 hb5 ho5 HO HBX hcT hcl hcut
          go_wp2_with fail
          go_roundw
          case rel => exact ⟨i + 1, by omega, by go_num, HO5.out, HB5.out⟩
          case measure => simp [intOf]; omega
        · obtain rfl : i = n0 := by omega
          have HFULL := hid (inL_full l e m k L0)
          have hln := inL_len l e m k L0 i (by rw [HN0.out]; exact Nat.le_refl _)
          obtain ⟨g, c2, rfl, hg, hr, hc2⟩ := HO.out.pos (by rw [hln]; omega)
          obtain ⟨L1, hL1⟩ : ∃ L1, inL l e m k L0 i = L1 := ⟨_, rfl⟩
          have hL1' : L1 = L0.map fun t => tabG l e m k (cut l t) := by rw [← hL1, ← HFULL.out, HN0.out]
          rw [hL1] at hr hc2 hln ⊢
          have hln1 : 1 ≤ L1.length := by omega
          have hln2 : L1.length ≤ 2 := by omega
          clear hln
          have hbd : ∀ x ∈ L1, 0 ≤ x ∧ x ≤ 1000000 := by
            intro x hx
            rw [hL1'] at hx
            obtain ⟨t, _, rfl⟩ := List.mem_map.1 hx
            exact HG.out k (by rw [HN.out]; omega) _
          have hstep : m L1 = tabG l e m (k + 1) j := by
            rw [hL1', tabG, if_pos (by rw [HN.out]; omega), HL0.out]
          have PC := hid (HPM.out wr L1 g c2 hr hln1 hln2 hc2 hbd ⟨k, j, by rw [HN.out]; omega, hstep⟩ (bel_far HB2.out (by have := HB2.out.size; omega) HBX.out))
          have HST := hid hstep
          have hTf := (HK2.out.below HBX.out).free j
          have hTc := (HK2.out.below HBX.out).cell j _ (gcells_at _ _ j (by omega))
          have HK3 := hid (HK2.out.below HBX.out)
          have HB3 := hid (bel_far HB2.out (by have := HB2.out.size; omega) HBX.out)
          have i4 : (j : Int) < (N : Int) + 1 := by omega
          have hd : decide ((i : Int) < (i : Int)) = false := by simp
          clear hL1 hL1' hr hstep hbd HO HBX HFULL HK2 HB2 hc2
          go_wp2_with fail
          refine PC.out.mono ?_
          rintro en w6 ⟨rfl, rfl⟩
          go_wp2_with fail
          go_roundw
          case rel =>
            refine ⟨k + 1, j, by omega, rfl, ?_, ?_⟩
            · have := HK3.out.set j (.int .i64 (m L1))
              rw [gcells_set (N + 1) (tabG l e m k) (tabG l e m (k + 1)) j (m L1) (fun q => by
                by_cases e : q = j
                · rw [if_pos e, e, HST.out]
                · rw [if_neg e, tabG, if_neg (by rw [HN.out]; omega)])] at this
              exact this
            · exact bel_set HB3.out hTw _ _
          case measure => first | (simp [intOf]; done) | (simp [intOf]; omega)
end Go.Proofs.Ytejdkaniepgbdaa
