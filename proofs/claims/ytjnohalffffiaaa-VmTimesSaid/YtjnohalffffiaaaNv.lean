/- A run keeps to the kinds that verify's table tells. -/
import Derived.Test.YtjnohalffffiaaaNu
set_option linter.unusedVariables false
set_option linter.unusedSimpArgs false
namespace Go.Proofs.Ytjnohalffffiaaa
open Go.RowKit

theorem wrapk_idem (k v : Int) : wrapk k (wrapk k v) = wrapk k v := by
  unfold wrapk
  by_cases h1 : k = 1
  · rw [if_pos h1, if_pos h1]
    by_cases h : v = 0
    · rw [if_pos h]; rfl
    · rw [if_neg h]; rfl
  rw [if_neg h1, if_neg h1]
  by_cases h2 : k = 2
  · rw [if_pos h2, if_pos h2, i8_w, i8_w]; omega
  rw [if_neg h2, if_neg h2]
  by_cases h3 : k = 3
  · rw [if_pos h3, if_pos h3, i16_w, i16_w]; omega
  rw [if_neg h3, if_neg h3]
  by_cases h4 : k = 4
  · rw [if_pos h4, if_pos h4, i32_w, i32_w]; omega
  rw [if_neg h4, if_neg h4]
  by_cases h5 : k = 5
  · rw [if_pos h5, if_pos h5, u16_w, u16_w]; omega
  rw [if_neg h5, if_neg h5]
  by_cases h6 : k = 6
  · rw [if_pos h6, if_pos h6, u16_w, u16_w]; omega
  rw [if_neg h6, if_neg h6]
  by_cases h7 : k = 7
  · rw [if_pos h7, if_pos h7, u32_w, u32_w]; omega
  rw [if_neg h7, if_neg h7]
theorem isk_wrapk {k : Int} (hk : kok k = true) (v : Int) : isk k (wrapk k v) = true := by
  unfold isk
  rw [hk, wrapk_idem]
  simp
theorem isk_zero {k : Int} (hk : kok k = true) : isk k 0 = true := by
  have h0 : wrapk k 0 = 0 := by
    unfold kok at hk
    have h := of_decide_eq_true hk
    obtain rfl | rfl | rfl | rfl | rfl | rfl | rfl : k = 1 ∨ k = 2 ∨ k = 3 ∨ k = 4 ∨ k = 5 ∨ k = 6 ∨ k = 7 := by omega
    all_goals first | rfl | decide
  unfold isk
  rw [hk, h0]
  rfl
theorem isk_kok {k v : Int} (h : isk k v = true) : kok k = true := by
  unfold isk at h
  simp at h
  exact h.1
theorem may_kok {op k : Int} (h : may op k = true) : kok k = true := by
  unfold may at h
  by_cases hk : kok k = true
  · exact hk
  · rw [if_neg hk] at h; cases h
theorem kok_ne {k : Int} (h : kok k = true) : k ≠ 0 := by
  unfold kok at h
  have := of_decide_eq_true h
  omega
theorem isk_bool {v : Int} (h : isk 1 v = true) : v = 0 ∨ v = 1 := by
  unfold isk wrapk at h
  simp at h
  by_cases h0 : v = 0
  · exact .inl h0
  · rw [if_neg h0] at h
    exact .inr h.2.symm
theorem isk_yes (b : Bool) : isk 1 (yesI b) = true := by cases b <;> rfl
theorem isk_not {k : Int} (hm : may 13 k = true) (v : Int) : isk k (notk k v) = true := by
  have hk := may_kok hm
  unfold notk
  by_cases h : may 13 k = false ∨ isk k v = false
  · rw [if_pos h]; exact isk_zero hk
  · rw [if_neg h]
    have hv : isk k v = true := by
      cases e : isk k v with
      | true => rfl
      | false => exact absurd (.inr e) h
    by_cases h1 : k = 1
    · rw [if_pos h1]
      subst h1
      rcases isk_bool hv with rfl | rfl <;> rfl
    · rw [if_neg h1]; exact isk_wrapk hk _
theorem rawk_yes {op : Int} (h : 19 ≤ op) (a b : Int) : ∃ c, rawk op a b = yesI c := by
  unfold rawk
  repeat rw [if_neg (show ¬ op = _ by omega)]
  repeat' split
  all_goals exact ⟨_, rfl⟩
theorem dok_ok {op k a b : Int} (hm : may op k = true) (h13 : op ≠ 13) (ha : isk k a = true) (hb : isk k b = true) : isk (if 19 ≤ op then 1 else k) (dok op k a b).1 = true := by
  have hk := may_kok hm
  have e : dok op k a b = if negop op then (wrapk k (rawk (op - 3) a (notk k b)), 0) else if op < 19 then (wrapk k (rawk op a b), 0) else (rawk op a b, 0) := by
    unfold dok
    rw [if_neg (show ¬ (op = 13 ∨ may op k = false) by simp [h13, hm]), if_neg (show ¬ (isk k a = false ∨ isk k b = false) by simp [ha, hb])]
  rw [e]
  have ho := may_op hm
  by_cases hn : negop op = true
  · have : 10 ≤ op ∧ op ≤ 12 := by unfold negop at hn; simp at hn; exact hn
    rw [if_pos hn, if_neg (show ¬ 19 ≤ op by omega)]
    exact isk_wrapk hk _
  · rw [if_neg hn]
    by_cases h19 : op < 19
    · rw [if_pos h19, if_neg (show ¬ 19 ≤ op by omega)]
      exact isk_wrapk hk _
    · rw [if_neg h19, if_pos (show 19 ≤ op by omega)]
      obtain ⟨c, hc⟩ := rawk_yes (show 19 ≤ op by omega) a b
      rw [hc]
      exact isk_yes c

/-- A run keeps to a kind and to brackets. -/
structure Ty (S : VS) (k : Int) (bs : List (Int × Int)) : Prop where
  kind : k = 0 ∨ S.kind = k
  val : S.kind = 0 ∨ isk S.kind S.n = true
  opn : S.op.map (fun b => (b.1, b.2.1)) = bs
  each : ∀ b ∈ S.op, isk b.2.1 b.2.2 = true ∧ may b.1 b.2.1 = true ∧ b.1 ≠ 13
  len : bs.length ≤ 8
theorem Ty.weak {S : VS} {s s' : St} (h : Ty S s.1 s.2) (w : Wk s s') : Ty S s'.1 s'.2 := by
  obtain ⟨w1, w2⟩ := w
  refine ⟨?_, h.val, by rw [w1]; exact h.opn, h.each, by rw [w1]; exact h.len⟩
  rcases w2 with w2 | w2
  · rw [w2]; exact h.kind
  · exact .inl w2
theorem Ty.ext {S T : VS} {k : Int} {bs : List (Int × Int)} (h : Ty S k bs) (e1 : T.kind = S.kind) (e2 : T.n = S.n) (e3 : T.op = S.op) : Ty T k bs :=
  ⟨by rw [e1]; exact h.kind, by rw [e1, e2]; exact h.val, by rw [e3]; exact h.opn, by rw [e3]; exact h.each, h.len⟩
theorem Ty.res {S T : VS} {k k' : Int} {bs : List (Int × Int)} (h : Ty S k bs) (hk : k' = 0 ∨ T.kind = k') (hv : isk T.kind T.n = true) (e3 : T.op = S.op) : Ty T k' bs :=
  ⟨hk, .inr hv, by rw [e3]; exact h.opn, by rw [e3]; exact h.each, h.len⟩
theorem Ty.says {S T : VS} {k : Int} {bs : List (Int × Int)} (h : Ty S k bs) (b : Bool) (hk : k = 1) (e3 : T.op = S.op) : Ty (T.says b) k bs :=
  h.res (.inr (by subst hk; rfl)) (isk_yes b) e3
theorem must_true {b : Bool} (h : mustI b = 0) : b = true := by cases b with | true => rfl | false => cases h

theorem opd_isk {S : VS} {i : Ins} (hr : rightb i = true) (hc : cls i.op = 1) : isk i.kind (S.opd i) = true := by
  unfold VS.opd
  by_cases h0 : i.area = 0
  · rw [if_pos h0]
    unfold rightb at hr
    rw [if_pos hc, if_pos h0] at hr
    simp at hr
    exact hr.2
  · rw [if_neg h0]
    rcases right_reads hr hc with h | ⟨_, _, h, _⟩
    · exact absurd h h0
    · have := ksize_ok h
      exact isk_wrapk (by unfold kok; exact decide_eq_true this) _
theorem VS.does_op (S : VS) (op ak an b : Int) : (S.does op ak an b).op = S.op := rfl
theorem does_ty {S T : VS} {op ak an b k : Int} {bs : List (Int × Int)} (hm : may op ak = true) (h13 : op ≠ 13) (ha : isk ak an = true) (hb : isk ak b = true) (h : Ty S k bs) (hT : T.op = S.op) : Ty (T.does op ak an b) (madeI op ak) bs := by
  have ho := may_op hm
  have hd := dok_ok hm h13 ha hb
  have ek : (T.does op ak an b).kind = if 19 ≤ op then 1 else ak := rfl
  refine h.res (.inr ?_) ?_ hT
  · rw [ek]
    unfold madeI
    by_cases h19 : 19 ≤ op
    · rw [if_pos h19, if_pos ⟨h19, ho.2⟩]
    · rw [if_neg h19, if_neg (fun h => h19 h.1)]
  · rw [ek]; exact hd

/-- Kinds behind an instruction. -/
theorem step_ty {S : VS} {p : Int} {i : Ins} {k : Int} {bs : List (Int × Int)} (h : Ty S k bs) (hr : rightb i = true) (he : (behI k bs i).1 = 0) (hj : jumpsb i = false) (ht : retb i = false) : Ty (S.step p i) (behI k bs i).2.1 (behI k bs i).2.2 := by
  have hop := right_op hr
  have hnj : ¬ (25 ≤ i.op ∧ i.op ≤ 30) := by
    unfold jumpsb at hj
    unfold retb at ht
    simp at hj ht
    omega
  have hlen := behI_len k bs i h.len
  by_cases h1 : i.op = 1
  · have eb : behI k bs i = (0, i.kind, bs) := by unfold behI; rw [if_pos h1]
    have es : S.step p i = { S with kind := i.kind, n := S.opd i } := by unfold VS.step; rw [if_pos h1]
    rw [eb, es]
    exact h.res (.inr rfl) (opd_isk hr (by rw [h1]; rfl)) rfl
  by_cases h2 : i.op = 2
  · have eb : behI k bs i = (mustI (may 13 i.kind), i.kind, bs) := by unfold behI; rw [if_neg h1, if_pos h2]
    have es : S.step p i = { S with kind := i.kind, n := notk i.kind (S.opd i) } := by unfold VS.step; rw [if_neg h1, if_pos h2]
    rw [eb] at he ⊢
    rw [es]
    exact h.res (.inr rfl) (isk_not (must_true he) _) rfl
  by_cases h3 : i.op = 3
  · have eb : behI k bs i = (mustI (k == i.kind), k, bs) := by unfold behI; rw [if_neg h1, if_neg h2, if_pos h3]
    have es : S.step p i = S.put i.area i.at_ i.kind S.n := by unfold VS.step; rw [if_neg h1, if_neg h2, if_pos h3]
    rw [eb, es]
    exact h.ext rfl rfl rfl
  by_cases h4 : i.op = 4
  · have eb : behI k bs i = (mustI (k == i.kind && may 13 i.kind), k, bs) := by unfold behI; rw [if_neg h1, if_neg h2, if_neg h3, if_pos h4]
    have es : S.step p i = S.put i.area i.at_ i.kind (notk i.kind S.n) := by unfold VS.step; rw [if_neg h1, if_neg h2, if_neg h3, if_pos h4]
    rw [eb, es]
    exact h.ext rfl rfl rfl
  by_cases h5 : i.op = 5 ∨ i.op = 6
  · have eb : behI k bs i = (mustI (k == 1 && i.kind == 1), k, bs) := by unfold behI; rw [if_neg h1, if_neg h2, if_neg h3, if_neg h4, if_pos h5]
    have es : S.step p i = (if S.is then S.put i.area i.at_ 1 (6 - i.op) else S) := by unfold VS.step; rw [if_neg h1, if_neg h2, if_neg h3, if_neg h4, if_pos h5]
    rw [eb, es]
    cases S.is with
    | true => exact h.ext rfl rfl rfl
    | false => exact h
  by_cases h13 : i.op = 13
  · have eb : behI k bs i = (mustI (may 13 k), k, bs) := by unfold behI; rw [if_neg h1, if_neg h2, if_neg h3, if_neg h4, if_neg h5, if_pos h13]
    have es : S.step p i = { S with n := notk S.kind S.n } := by unfold VS.step; rw [if_neg h1, if_neg h2, if_neg h3, if_neg h4, if_neg h5, if_pos h13]
    rw [eb] at he ⊢
    rw [es]
    have hm := must_true he
    have hk : S.kind = k := by
      rcases h.kind with e | e
      · exact absurd e (kok_ne (may_kok hm))
      · exact e
    exact h.res (.inr hk) (by show isk S.kind (notk S.kind S.n) = true; rw [hk]; exact isk_not hm _) rfl
  by_cases h31 : i.op = 31
  · have eb : behI k bs i = (mustI (k != 0), i.kind, bs) := by unfold behI; rw [if_neg h1, if_neg h2, if_neg h3, if_neg h4, if_neg h5, if_neg h13, if_neg (by omega), if_neg (by omega), if_neg (by omega), if_pos h31]
    have es : S.step p i = { S with kind := i.kind, n := wrapk i.kind S.n } := by unfold VS.step; rw [if_neg h1, if_neg h2, if_neg h3, if_neg h4, if_neg h5, if_neg h13, if_pos h31]
    rw [eb, es]
    have hk : 0 < ksize i.kind := by
      unfold rightb at hr
      rw [show cls i.op = 5 from by rw [h31]; rfl] at hr
      simp at hr
      exact hr.2.2
    exact h.res (.inr rfl) (isk_wrapk (by unfold kok; exact decide_eq_true (ksize_ok hk)) _) rfl
  by_cases h32 : i.op = 32
  · have eb : behI k bs i = pushI k i.at_ bs := by unfold behI; rw [if_neg h1, if_neg h2, if_neg h3, if_neg h4, if_neg h5, if_neg h13, if_neg (by omega), if_neg (by omega), if_neg (by omega), if_neg h31, if_pos h32]
    have es : S.step p i = { S with op := S.op ++ [(i.at_, S.kind, S.n)], kind := 0, n := 0 } := by unfold VS.step; rw [if_neg h1, if_neg h2, if_neg h3, if_neg h4, if_neg h5, if_neg h13, if_neg h31, if_pos h32]
    rw [eb] at he hlen ⊢
    rw [es]
    unfold pushI at he hlen ⊢
    by_cases hm : may i.at_ k = false
    · rw [if_pos hm] at he; cases he
    rw [if_neg hm] at he hlen ⊢
    by_cases h8 : bs.length = 8
    · rw [if_pos h8] at he; cases he
    rw [if_neg h8] at he hlen ⊢
    have hm' : may i.at_ k = true := by simpa using hm
    have hk : S.kind = k := by
      rcases h.kind with e | e
      · exact absurd e (kok_ne (may_kok hm'))
      · exact e
    have hv : isk S.kind S.n = true := by
      rcases h.val with e | e
      · exact absurd (hk.symm.trans e) (kok_ne (may_kok hm'))
      · exact e
    have hw : i.at_ ≠ 13 := by
      unfold rightb at hr
      rw [show cls i.op = 6 from by rw [h32]; rfl] at hr
      simp [withinb] at hr
      intro e
      rw [e] at hr
      exact absurd hr.2.2.1 (by decide)
    refine ⟨.inl rfl, .inl rfl, ?_, ?_, hlen⟩
    · show (S.op ++ [(i.at_, S.kind, S.n)]).map _ = _
      rw [List.map_append, h.opn, hk]
      rfl
    · intro b hb
      rcases List.mem_append.1 hb with hb | hb
      · exact h.each b hb
      · simp at hb
        subst hb
        exact ⟨hv, by dsimp only; rw [hk]; exact hm', hw⟩
  by_cases h33 : i.op = 33
  · have eb : behI k bs i = popI k bs := by unfold behI; rw [if_neg h1, if_neg h2, if_neg h3, if_neg h4, if_neg h5, if_neg h13, if_neg (by omega), if_neg (by omega), if_neg (by omega), if_neg h31, if_neg h32, if_pos h33]
    have es : S.step p i = (match S.op.getLast? with
        | some (o, k, n) => { S with op := S.op.dropLast }.does o k n S.n
        | none => S) := by unfold VS.step; rw [if_neg h1, if_neg h2, if_neg h3, if_neg h4, if_neg h5, if_neg h13, if_neg h31, if_neg h32, if_pos h33]; rfl
    rw [eb] at he hlen ⊢
    rw [es]
    rcases List.eq_nil_or_concat S.op with hnil | ⟨l, b, hb⟩
    · have : bs = [] := by rw [← h.opn, hnil]; rfl
      subst this
      cases he
    · rw [List.concat_eq_append] at hb
      obtain ⟨ob, kb, nb⟩ := b
      have hbs : bs = l.map (fun b => (b.1, b.2.1)) ++ [(ob, kb)] := by rw [← h.opn, hb, List.map_append]; rfl
      have e1 : S.op.getLast? = some (ob, kb, nb) := by rw [hb]; simp
      have e2 : S.op.dropLast = l := by rw [hb]; simp
      have e3 : bs.getLast? = some (ob, kb) := by rw [hbs]; simp
      have e4 : bs.dropLast = l.map (fun b => (b.1, b.2.1)) := by rw [hbs]; simp
      unfold popI at he hlen ⊢
      rw [e3, e4] at he hlen ⊢
      rw [e1, e2]
      dsimp only at he hlen ⊢
      by_cases hk : kb = k
      · rw [if_pos hk] at he hlen ⊢
        dsimp only at hlen ⊢
        obtain ⟨v1, v2, v3⟩ := h.each (ob, kb, nb) (by rw [hb]; simp)
        dsimp only at v1 v2 v3
        have hk2 : S.kind = k := by
          rcases h.kind with e | e
          · exact absurd (hk.trans e) (kok_ne (may_kok v2))
          · exact e
        have hv : isk S.kind S.n = true := by
          rcases h.val with e | e
          · exact absurd ((hk.trans hk2.symm).trans e) (kok_ne (may_kok v2))
          · exact e
        have hS : Ty { S with op := l } k (l.map (fun b => (b.1, b.2.1))) := ⟨h.kind, h.val, rfl, fun b hb2 => h.each b (by rw [hb]; exact List.mem_append_left _ hb2), hlen⟩
        rw [← hk]
        exact does_ty v2 v3 v1 (by rw [hk, ← hk2]; exact hv) hS rfl
      · rw [if_neg hk] at he; cases he
  by_cases h34 : i.op = 34
  · have eb : behI k bs i = (mustI (k == 1), k, bs) := by unfold behI; rw [if_neg h1, if_neg h2, if_neg h3, if_neg h4, if_neg h5, if_neg h13, if_neg (by omega), if_pos (by omega)]
    have es : S.step p i = S.timer p i := by unfold VS.step; rw [if_neg h1, if_neg h2, if_neg h3, if_neg h4, if_neg h5, if_neg h13, if_neg h31, if_neg h32, if_neg h33, if_pos h34]
    rw [eb] at he ⊢
    rw [es]
    unfold VS.timer
    exact h.says _ (by simpa using must_true he) rfl
  by_cases h35 : i.op = 35
  · have eb : behI k bs i = (mustI (k == 1), k, bs) := by unfold behI; rw [if_neg h1, if_neg h2, if_neg h3, if_neg h4, if_neg h5, if_neg h13, if_neg (by omega), if_pos (by omega)]
    have es : S.step p i = S.counter i := by unfold VS.step; rw [if_neg h1, if_neg h2, if_neg h3, if_neg h4, if_neg h5, if_neg h13, if_neg h31, if_neg h32, if_neg h33, if_neg h34, if_pos h35]
    rw [eb] at he ⊢
    rw [es]
    have hk1 : k = 1 := by simpa using must_true he
    unfold VS.counter
    dsimp only
    split
    · exact h.says _ hk1 rfl
    · exact h.says _ hk1 rfl
  by_cases h36 : i.op = 36
  · have eb : behI k bs i = (mustI (k == 1), k, bs) := by unfold behI; rw [if_neg h1, if_neg h2, if_neg h3, if_neg h4, if_neg h5, if_neg h13, if_neg (by omega), if_pos (by omega)]
    have es : S.step p i = (S.put i.area i.at_ 1 S.n).says (S.rise i.area i.at_) := by unfold VS.step; rw [if_neg h1, if_neg h2, if_neg h3, if_neg h4, if_neg h5, if_neg h13, if_neg h31, if_neg h32, if_neg h33, if_neg h34, if_neg h35, if_pos h36]
    rw [eb] at he ⊢
    rw [es]
    exact h.says _ (by simpa using must_true he) rfl
  have eb : behI k bs i = (mustI (k == i.kind && may i.op i.kind), madeI i.op i.kind, bs) := by unfold behI; rw [if_neg h1, if_neg h2, if_neg h3, if_neg h4, if_neg h5, if_neg h13, if_neg (by omega), if_neg (by omega), if_neg (by omega), if_neg h31, if_neg h32, if_neg h33]
  have es : S.step p i = S.does i.op S.kind S.n (S.opd i) := by unfold VS.step; rw [if_neg h1, if_neg h2, if_neg h3, if_neg h4, if_neg h5, if_neg h13, if_neg h31, if_neg h32, if_neg h33, if_neg h34, if_neg h35, if_neg h36]
  rw [eb] at he ⊢
  rw [es]
  have hm := must_true he
  simp at hm
  obtain ⟨hm1, hm2⟩ := hm
  have hk : S.kind = i.kind := by
    rcases h.kind with e | e
    · exact absurd (hm1.symm.trans e) (kok_ne (may_kok hm2))
    · rw [e, hm1]
  have hv : isk S.kind S.n = true := by
    rcases h.val with e | e
    · exact absurd (hk.symm.trans e) (kok_ne (may_kok hm2))
    · exact e
  rw [hk] at hv ⊢
  exact does_ty hm2 h13 hv (opd_isk hr (cls_reads ⟨by omega, by omega, h13⟩)) h rfl

def InvT (A : Nat → Option St) (j : Nat) (S : VS) : Prop := ∃ k bs, A j = some (k, bs) ∧ Ty S k bs
theorem beh_same {k : Int} {bs : List (Int × Int)} {i : Ins} (h : jumpsb i = true ∨ retb i = true) : (behI k bs i).2 = (k, bs) := by
  have ho : 25 ≤ i.op ∧ i.op ≤ 30 := by
    unfold jumpsb retb at h
    simp at h
    omega
  unfold behI
  repeat rw [if_neg (show ¬ (i.op = _) by omega)]
  rw [if_neg (show ¬ (i.op = 5 ∨ i.op = 6) by omega)]
  repeat' split
  all_goals first | rfl | omega
theorem safe_of {l : List Ins} {A : Nat → Option St} (h : TOk l A) (p : Int) : Safe p l (InvT A) := by
  refine ⟨fun j S hj _ => h.right j hj, ?_, ?_, ?_, ?_⟩
  · rintro j S hj ⟨k, bs, hA, hT⟩ h33 hnil
    have he := h.err j hj k bs hA
    have : bs = [] := by rw [← hT.opn, hnil]; rfl
    subst this
    have e : behI k [] l[j] = popI k [] := by unfold behI; rw [h33]; rfl
    rw [e] at he
    exact absurd he (show ¬ (3 : Int) = 0 by decide)
  · rintro j S ⟨k, bs, hA, hT⟩
    have h1 := hT.len
    rw [← hT.opn, List.length_map] at h1
    omega
  · rintro j S hj ⟨k, bs, hA, hT⟩ hjm
    exact h.jump j hj k bs hA hjm
  · rintro j S hj ⟨k, bs, hA, hT⟩ hnr
    have hT' : Ty S.tick k bs := hT.ext rfl rfl rfl
    have hon := h.on j hj k bs hA
    have hgo := h.goes j hj k bs hA
    have hjp := h.jump j hj k bs hA
    have he := h.err j hj k bs hA
    have hr := h.right j hj
    generalize l[j] = i at *
    unfold VS.next VS.after
    cases hjb : jumpsb i with
    | true =>
      have hb := beh_same (k := k) (bs := bs) (.inl hjb)
      rw [hb] at hon hgo
      rw [if_pos rfl, if_pos rfl]
      have hj3 := hjp hjb
      cases hlv : S.tick.leaves i.op with
      | true =>
        rw [if_pos rfl, show max (j + 1) i.at_.toNat = i.at_.toNat by omega]
        obtain ⟨s', q, w⟩ := hgo hjb
        exact ⟨s'.1, s'.2, q, hT'.weak w⟩
      | false =>
        rw [if_neg (by simp)]
        have ho : onb i = true := by
          unfold VS.leaves at hlv
          unfold onb
          unfold jumpsb at hjb
          simp at hjb ⊢
          by_cases e : i.op = 25 ∨ i.op = 28
          · rw [if_pos e] at hlv; cases hlv
          · omega
        obtain ⟨s', q, w⟩ := hon ho
        exact ⟨s'.1, s'.2, q, hT'.weak w⟩
    | false =>
      rw [if_neg (show ¬ (false = true) by simp), if_neg (show ¬ (false = true) by simp)]
      cases hrb : retb i with
      | true =>
        have hb := beh_same (k := k) (bs := bs) (.inr hrb)
        rw [hb] at hon
        rw [if_pos rfl, if_pos rfl]
        cases hlv : S.tick.leaves i.op with
        | true => exact absurd ⟨hrb, hlv⟩ hnr
        | false =>
          rw [if_neg (by simp)]
          have ho : onb i = true := by
            unfold VS.leaves at hlv
            unfold onb
            simp
            by_cases e : i.op = 25 ∨ i.op = 28
            · rw [if_pos e] at hlv; cases hlv
            · omega
          obtain ⟨s', q, w⟩ := hon ho
          exact ⟨s'.1, s'.2, q, hT'.weak w⟩
      | false =>
        rw [if_neg (show ¬ (false = true) by simp), if_neg (show ¬ (false = true) by simp)]
        have ho : onb i = true := by
          unfold onb
          unfold jumpsb at hjb
          unfold retb at hrb
          simp at hjb hrb ⊢
          omega
        obtain ⟨s', q, w⟩ := hon ho
        exact ⟨s'.1, s'.2, q, (step_ty hT' hr he hjb hrb).weak w⟩
theorem safe_start {l : List Ins} {A : Nat → Option St} (h : TOk l A) (ar : Int → ByteArray) : InvT A 0 ⟨ar, 0, 0, [], 0, 0⟩ :=
  ⟨0, [], h.start, .inl rfl, .inl rfl, rfl, (fun b hb => by cases hb), by simp⟩
end Go.Proofs.Ytjnohalffffiaaa
