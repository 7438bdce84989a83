/- plain's List. -/
import Derived.Test.YtofhdlkocgbcgaaGreatDoorTelD
import Derived.Test.YtofhdlkocgbcgaaGreatDoorChkA
namespace Go.Proofs.YtofhdlkocgbcgaaGreatDoor
open Go Go.RowKit Pu
set_option linter.unusedVariables false
set_option linter.unusedSimpArgs false
theorem RdLb.src {w : World} {A : Option Addr} {l : List LabelP} (R : RdLb w A l) : Src w A l.length 2 (lbC l) := by
  refine ⟨lbC_len l, fun j u hu => ?_⟩
  have hj : j < (lbC l).length := (List.getElem?_eq_some_iff.1 hu).1
  rw [lbC_len] at hj
  obtain ⟨b, off, rfl, hr⟩ := R (by omega)
  refine ⟨_, rfl, ?_⟩
  have e : ∀ i, (⟨b, off, none⟩ : Addr).add i = ⟨b, off + i, none⟩ := fun i => by unfold Addr.add; by_cases h : i = 0 <;> simp [h]
  rw [e]
  have hi : j / 2 < l.length := by omega
  obtain ⟨a1, a2⟩ := lbC_at l (j / 2) hi
  obtain ⟨c1, c2⟩ := hr (j / 2) hi
  rcases Nat.mod_two_eq_zero_or_one j with h | h
  · have hjj : j / 2 * 2 = j := by omega
    rw [hjj] at a1 c1
    rw [a1] at hu; injection hu with hu; subst hu; exact c1
  · have hjj : j / 2 * 2 + 1 = j := by omega
    rw [hjj] at a2
    rw [Nat.add_assoc, hjj] at c2
    rw [a2] at hu; injection hu with hu; subst hu; exact c2
/-- A block of another kind is not touched. -/
theorem TelS.apart {w : World} {P B : Nat} {out : List ItemP} {rem : List LabelP} {v : Value} (T : TelS w P B out rem v) {q : Nat} {cs : Array Value} {t : TypeId} (hq : w.heap[q]? = some (.cells cs t (0, 0))) (h1 : t ≠ 63) (h2 : t ≠ 52) : ¬ TelD P v q := by
  obtain ⟨s, hP, ⟨xs, ho, _⟩, hL⟩ := T
  rintro (e | e)
  · subst e; rw [hP] at hq; injection hq with hq; injection hq with _ ht; exact h1 ht.symm
  · exact own_blk ho hq (fun e => h2 e.symm) e
set_option maxHeartbeats 1000000 in
set_option maxRecDepth 100000 in
theorem plain_List_bad (w : World) (T : Tabs w) (A B C : Option Addr) (ca cb cc : Nat) (o : ObjP) (ok : ObjOK o) (R : RdO w A B C o) (hk : okO o = false) : Calls Tryz.prog 8 #[.agg #[.slice A o.blocks.length ca, .slice B o.marks.length cb, .slice C o.labels.length cc]] w fun e w' => e = .returned (.tuple #[.slice none 0 0, .int .i64 1]) ∧ Below w.heap.size w w' := by
  have hn : okN o = 1 := by unfold okN; rw [hk]; rfl
  have HN := Lib.hid hn
  clear hn
  go_enter Tryz.func8, Tryz.ntmps8
  go_wp2_with (first | (go_at_call 21; refine (asm_Check _ (T.alloc _) _ _ _ _ _ _ o ok (R.below (belowA _))).mono ?_; rw [HN.out]; rintro e w1 ⟨rfl, hb1⟩))
  go_ret2
  exact ⟨rfl, below1 hb1⟩
/-- What holds all the way: the telling, the object's box, the memory that was. -/
structure LstI (w : World) (P : Nat) (cs : Array Value) (out : List ItemP) (rem : List LabelP) (v : Value) (wr : World) : Prop where
  T : TelS wr P w.heap.size out rem v
  bx : wr.heap[w.heap.size]? = some (.cells cs 26 (0, 0))
  b : Below w.heap.size w wr
  p : w.heap.size ≤ P
theorem LstI.below {w wr wz : World} {P : Nat} {cs : Array Value} {out : List ItemP} {rem : List LabelP} {v : Value} (I : LstI w P cs out rem v wr) (hb : Below wr.heap.size wr wz) : LstI w P cs out rem v wz :=
  ⟨I.T.below hb, heapB' hb I.bx, I.b.trans (hb.mono I.b.size), I.p⟩
theorem LstI.step {w wr wz : World} {P : Nat} {cs : Array Value} {out out2 : List ItemP} {rem rem2 : List LabelP} {v v2 : Value} (I : LstI w P cs out rem v wr) (T2 : TelS wz P w.heap.size out2 rem2 v2) (t : Tch (TelD P v) wr wz) : LstI w P cs out2 rem2 v2 wz :=
  ⟨T2, t.heap I.bx (I.T.apart I.bx (by decide) (by decide)), I.b.trans (t.to_below I.b.size (I.T.low I.p)), I.p⟩
theorem beginP_nil {o : ObjP} (h : o.blocks.length = 0) : beginP o = true := by
  unfold beginP; rw [List.eq_nil_of_length_eq_zero h]
theorem beginP_cons {o : ObjP} (h : 0 < o.blocks.length) : beginP o = !decide (o.blocks[0].at_ = 0) := by
  obtain ⟨bl, ms, ls⟩ := o
  cases bl with
  | nil => simp at h
  | cons b r => rfl
def pickP {α : Type} (b : Bool) (x y : α) : α := if b then x else y
theorem listP_pick (o : ObjP) : listP o = (pickP (beginP o) (tellI 0 o.labels) [] ++ (blksP true o.blocks o.marks (pickP (beginP o) (dropI 0 o.labels) o.labels)).1) ++ restP (blksP true o.blocks o.marks (pickP (beginP o) (dropI 0 o.labels) o.labels)).2 := rfl
theorem begin_len (o : ObjP) : (pickP (beginP o) (tellI 0 o.labels) []).length + (pickP (beginP o) (dropI 0 o.labels) o.labels).length = o.labels.length := by
  unfold pickP; split
  · exact tell_len 0 o.labels
  · simp
theorem okO_parts {o : ObjP} (h : okO o = true) : okBl (-1) o.blocks = true ∧ okMk o.blocks o.marks = true ∧ okLb o.labels = true := by
  unfold okO at h
  rw [Bool.and_eq_true, Bool.and_eq_true] at h
  exact ⟨h.1.1, h.1.2, h.2⟩
theorem restP_step {rem : List LabelP} (h : 0 < rem.length) : restP rem = atI rem[0].at_ :: (tellI rem[0].at_ rem ++ restP (dropI rem[0].at_ rem)) := by
  cases rem with
  | nil => simp at h
  | cons x r => rw [restP]; rfl
theorem dropI_len {rem : List LabelP} (h : 0 < rem.length) : (dropI rem[0].at_ rem).length < rem.length := by
  cases rem with
  | nil => simp at h
  | cons x r => exact dropI_lt _ _ _ rfl
theorem TelS.vlen_eq {w : World} {P B : Nat} {out : List ItemP} {rem : List LabelP} {v : Value} (T : TelS w P B out rem v) : vlen ((w.cell? ⟨P, 1, none⟩).getD undef) = rem.length := by
  obtain ⟨s, hP, _, hL⟩ := T
  obtain ⟨A, c, rfl, _⟩ := hL.form
  rw [blk_cell (i := 1) hP rfl]; rfl
/-- Between two blocks. -/
structure LstB (o : ObjP) (tot : List ItemP) (last : List LabelP) (i k : Nat) (out : List ItemP) (rem : List LabelP) : Prop where
  e1 : out ++ (blksP (decide (i = 0)) (o.blocks.drop i) (o.marks.drop k) rem).1 = tot
  e2 : (blksP (decide (i = 0)) (o.blocks.drop i) (o.marks.drop k) rem).2 = last
  len : out.length + rem.length + sumB (o.blocks.drop i) ≤ 8388608
  mo : MkO o.blocks o.marks i k
theorem LstB.done {o : ObjP} {tot : List ItemP} {last : List LabelP} {k : Nat} {out : List ItemP} {rem : List LabelP} (h : LstB o tot last o.blocks.length k out rem) : out = tot ∧ rem = last := by
  have a := h.e1
  have b := h.e2
  rw [List.drop_length] at a b
  simp only [blksP, List.append_nil] at a b
  exact ⟨a, b⟩
theorem rowsP_done {bs : List Int} {off : Nat} (ms : List MarkP) (rem : List LabelP) (h : bs.length ≤ off) : rowsP bs ms off rem = ([], ms, rem) := by
  cases ms with
  | nil => rfl
  | cons m r => rw [rowsP, if_pos h]
theorem rowsP_cons {bs : List Int} {off : Nat} (m : MarkP) (ms : List MarkP) (rem : List LabelP) (h : off < bs.length) : rowsP bs (m :: ms) off rem = ((markP rem bs off m).1 ++ (rowsP bs ms (off + m.n.toNat) (markP rem bs off m).2).1, (rowsP bs ms (off + m.n.toNat) (markP rem bs off m).2).2) := by
  rw [rowsP, if_neg (by omega)]
/-- Within a block. -/
structure LstR (o : ObjP) (i : Nat) (a : Int) (bs : List Int) (tot : List ItemP) (fin : List MarkP × List LabelP) (S k t : Nat) (out : List ItemP) (rem : List LabelP) : Prop where
  e1 : out ++ (rowsP bs (o.marks.drop k) t rem).1 = tot
  e2 : (rowsP bs (o.marks.drop k) t rem).2 = fin
  len : out.length + rem.length + (bs.length - t) + S ≤ 8388608
  mo : MkI o.blocks o.marks i k t ⟨a, bs⟩
theorem LstR.step {o : ObjP} {i : Nat} {a : Int} {bs : List Int} {tot : List ItemP} {fin : List MarkP × List LabelP} {S k t : Nat} {out : List ItemP} {rem : List LabelP} (h : LstR o i a bs tot fin S k t out rem) (ht : t < bs.length) (hk : okMk o.blocks o.marks = true) :
    ∃ hkm : k < o.marks.length, o.marks[k].at_ = a + t ∧ 1 ≤ o.marks[k].n ∧ o.marks[k].n ≤ bs.length - t ∧ (o.marks[k].code = true → wholeP ((bs.drop t).take o.marks[k].n.toNat) = true) ∧
      LstR o i a bs tot fin S (k + 1) (t + o.marks[k].n.toNat) (out ++ (markP rem bs t o.marks[k]).1) (markP rem bs t o.marks[k]).2 := by
  have hkm : k < o.marks.length := by
    rcases Nat.lt_or_ge k o.marks.length with h1 | h1
    · exact h1
    · have := h.mo.none ht (by omega); rw [hk] at this; exact absurd this (by simp)
  have hm : mkOk a bs t (prevOf o.marks k t) o.marks[k] = true := by
    cases hq : mkOk a bs t (prevOf o.marks k t) o.marks[k] with
    | true => rfl
    | false => have := h.mo.bad ht hkm hq; rw [hk] at this; exact absurd this (by simp)
  obtain ⟨m1, m2, m3, m4⟩ := mkOk_parts hm
  have hl := markP_len rem bs t o.marks[k]
  have e1 := h.e1
  have e2 := h.e2
  rw [List.drop_eq_getElem_cons hkm, rowsP_cons _ _ _ ht] at e1 e2
  have hlen := h.len
  exact ⟨hkm, m1, m2, m3, m4, by rw [List.append_assoc]; exact e1, e2, by rw [List.length_append]; omega, h.mo.good ht hkm hm m2 m3⟩
theorem LstB.enter {o : ObjP} {tot : List ItemP} {last : List LabelP} {i k : Nat} {out : List ItemP} {rem : List LabelP} (h : LstB o tot last i k out rem) (hi : i < o.blocks.length) :
    LstR o i o.blocks[i].at_ o.blocks[i].bytes (out ++ (if decide (i = 0) && decide (o.blocks[i].at_ = 0) then [] else [atI o.blocks[i].at_]) ++ (rowsP o.blocks[i].bytes (o.marks.drop k) 0 rem).1) (rowsP o.blocks[i].bytes (o.marks.drop k) 0 rem).2 (sumB (o.blocks.drop (i + 1))) k 0
      (out ++ (if decide (i = 0) && decide (o.blocks[i].at_ = 0) then [] else [atI o.blocks[i].at_])) rem := by
  have hlen := h.len
  rw [List.drop_eq_getElem_cons hi] at hlen
  simp only [sumB] at hlen
  have h4 : (if decide (i = 0) && decide (o.blocks[i].at_ = 0) then [] else [atI o.blocks[i].at_]).length ≤ 1 := by split <;> simp
  exact ⟨rfl, rfl, by rw [List.length_append]; omega, h.mo.enter hi⟩
theorem LstR.leave {o : ObjP} {tot : List ItemP} {last : List LabelP} {i k k' t : Nat} {out out' : List ItemP} {rem rem' : List LabelP} (h : LstB o tot last i k out rem) (hi : i < o.blocks.length)
    (r : LstR o i o.blocks[i].at_ o.blocks[i].bytes (out ++ (if decide (i = 0) && decide (o.blocks[i].at_ = 0) then [] else [atI o.blocks[i].at_]) ++ (rowsP o.blocks[i].bytes (o.marks.drop k) 0 rem).1) (rowsP o.blocks[i].bytes (o.marks.drop k) 0 rem).2 (sumB (o.blocks.drop (i + 1))) k' t out' rem')
    (ht : o.blocks[i].bytes.length = t) : LstB o tot last (i + 1) k' (out' ++ tellI (o.blocks[i].at_ + o.blocks[i].bytes.length) rem') (dropI (o.blocks[i].at_ + o.blocks[i].bytes.length) rem') := by
  obtain ⟨e1, e2, e3, e4⟩ := h
  obtain ⟨r1, r2, r3, r4⟩ := r
  subst ht
  rw [rowsP_done _ _ (Nat.le_refl _)] at r1 r2
  simp only [List.append_nil] at r1 r2
  rw [List.drop_eq_getElem_cons hi, blksP] at e1 e2
  simp only [← r2] at e1 e2
  have ht := tell_len (o.blocks[i].at_ + o.blocks[i].bytes.length) rem'
  refine ⟨?_, ?_, by rw [List.length_append]; omega, r4.leave⟩
  · rw [← e1, r1, show decide (i + 1 = 0) = false by simp]
    simp only [List.append_assoc]
  · rw [show decide (i + 1 = 0) = false by simp]; exact e2
theorem plain_code' (w : World) (P B : Nat) (out : List ItemP) (rem : List LabelP) (v : Value) (A : Option Addr) (c : Nat) (b : List Int) (a : Int) (T : TelS w P B out rem v) (TW : Tabs w) (hB : 10 ≤ B) (hBP : B ≤ P) (R : RdB w A b) (hAB : ∀ x, A = some x → x.block < B) (hx : Bytes b) (hc : b.length ≤ c) (hw : wholeP b = true)
    (hr : out.length + rem.length + b.length ≤ 16777216) (ha : 0 ≤ a) (ha2 : a + b.length ≤ 65536) (n : Nat) (hn : n = b.length) : Calls Tryz.prog 23 #[.pointer (some ⟨P, 0, none⟩), .slice A n c, .int .i64 a] w fun e w' => e = .returned (.tuple #[]) ∧ ∃ v', TelS w' P B (out ++ (codeP rem b a).1) (codeP rem b a).2 v' ∧ Tch (TelD P v) w w' ∧ NewOr w v v' :=
  hn ▸ plain_code w P B out rem v A c b a T TW hB hBP R hAB hx hc hw hr ha ha2
theorem plain_data' (w : World) (P B : Nat) (out : List ItemP) (rem : List LabelP) (v : Value) (A : Option Addr) (c : Nat) (b : List Int) (a : Int) (T : TelS w P B out rem v) (hBP : B ≤ P) (R : RdB w A b) (hAB : ∀ x, A = some x → x.block < B) (hx : Bytes b) (hc : b.length ≤ c)
    (hr : out.length + rem.length + b.length ≤ 16777216) (ha : 0 ≤ a) (ha2 : a + b.length ≤ 65536) (n : Nat) (hn : n = b.length) : Calls Tryz.prog 24 #[.pointer (some ⟨P, 0, none⟩), .slice A n c, .int .i64 a] w fun e w' => e = .returned (.tuple #[]) ∧ ∃ v', TelS w' P B (out ++ (dataP rem b a).1) (dataP rem b a).2 v' ∧ Tch (TelD P v) w w' ∧ NewOr w v v' :=
  hn ▸ plain_data w P B out rem v A c b a T hBP R hAB hx hc hr ha ha2
set_option maxHeartbeats 8000000 in
set_option maxRecDepth 100000 in
theorem plain_List_ok (w : World) (T : Tabs w) (A B C : Option Addr) (ca cb cc : Nat) (o : ObjP) (ok : ObjOK o) (R : RdO w A B C o) (hk : okO o = true) : Calls Tryz.prog 8 #[.agg #[.slice A o.blocks.length ca, .slice B o.marks.length cb, .slice C o.labels.length cc]] w fun e w' => (∃ v, e = .returned (.tuple #[v, .int .i64 0]) ∧ ItL w' w.heap.size v (listP o)) ∧ Below w.heap.size w w' := by
  obtain ⟨i0, hi0, hz0, hz1, hz2⟩ := info_parts infoItem
  obtain ⟨j0, hj, hy0, hy1, hy2⟩ := info_parts infoLabel
  have hn : okN o = 0 := by unfold okN; rw [hk]; rfl
  have HN := Lib.hid hn
  have hbd := ok.nb
  have hbm := ok.nm
  have hbl := ok.nl
  unfold big at hbd hbm hbl
  clear hn
  have hW := belowA (w := w) (.cells #[.slice A o.blocks.length ca, .slice B o.marks.length cb, .slice C o.labels.length cc] 26)
  have hWn := heap_alloc_new w (.cells #[.slice A o.blocks.length ca, .slice B o.marks.length cb, .slice C o.labels.length cc] 26)
  go_enter Tryz.func8, Tryz.ntmps8
  go_upto_region 5 with (first | (go_at_call 21; refine (asm_Check _ (T.alloc _) _ _ _ _ _ _ o ok (R.below (belowA _))).mono ?_; rw [HN.out]; rintro e w1 ⟨rfl, hb1⟩; have hN1 := heapB' hb1 hWn; have x0 := blk_cell (i := 0) hN1 rfl; have x2 := blk_cell (i := 2) hN1 rfl) | (at_builtin; refine wpList_append_src _ rfl (.const (.slice none 0 0)) (.tmp 19) 24 rfl w.heap.size 57 j0 _ 2 24 Tryz.underlying24 hj hy0 hy1 hy2 rfl (by decide) (.slice none 0 0) 0 [] rfl (World.ownsRow_nil _ _ _ _) C o.labels.length cc (lbC o.labels) rfl ((R.l.below (hW.trans (hb1.mono hW.size))).src) (lbC_one _) (by unfold maxLen; omega) (by omega) (hW.trans (hb1.mono hW.size)).size ?_; intro s w2 ho2 hg2 hs2; simp only [Nat.zero_add, List.nil_append] at ho2; obtain ⟨sA, sc, rfl, _⟩ := LbL.form ho2; have hb2 := grown_below hg2; have hN2 := heapB' hb2 hN1; have zl := blk_lt hN2))
  have hPz : w.heap.size ≤ w2.heap.size := ((hW.trans (hb1.mono hW.size)).trans (hb2.mono (Nat.le_trans hW.size hb1.size))).size
  have I0 : LstI w w2.heap.size #[.slice A o.blocks.length ca, .slice B o.marks.length cb, .slice C o.labels.length cc] [] o.labels (.slice none 0 0) (w2.alloc (.cells #[.slice none 0 0, .slice sA o.labels.length sc] 63)) :=
    ⟨⟨_, heap_alloc_new _ _, ItL.nil _ _, own_below ho2 (belowA _)⟩, heapB' (belowA _) hN2, ((hW.trans (hb1.mono hW.size)).trans (hb2.mono (Nat.le_trans hW.size hb1.size))).trans ((belowA _).mono hPz), hPz⟩
  generalize hVV : w2.alloc (.cells #[.slice none 0 0, .slice sA o.labels.length sc] 63) = V at *
  generalize w2.heap.size = P at *
  go_cut [34] (fun t wx => t = .bool (beginP o) ∧ LstI w P #[.slice A o.blocks.length ca, .slice B o.marks.length cb, .slice C o.labels.length cc] [] o.labels (.slice none 0 0) wx)
  case first =>
    have y0 := blk_cell (i := 0) I0.bx rfl
    have RV := R.b.below I0.b
    have HI := Lib.hid I0
    clear I0
    by_cases hl : o.blocks.length = 0
    · have h0 : ((o.blocks.length : Int) == 0) = true := by simpa using hl
      have HQ := Lib.hid (beginP_nil hl)
      clear hl RV
      go_wp2_with fail
      go_meet
      exact ⟨by rw [HQ.out], HI.out⟩
    · have h0 : ((o.blocks.length : Int) == 0) = false := by simpa using hl
      have hp0 : 0 < o.blocks.length := by omega
      obtain ⟨b, off, rfl, hr⟩ := RV hp0
      obtain ⟨c0, _⟩ := hr 0 hp0
      have HQ := Lib.hid (beginP_cons hp0)
      rw [Nat.zero_mul, Nat.add_zero] at c0
      clear hr hl
      generalize o.blocks[0].at_ = a0 at *
      go_wp2_with fail
      go_meet
      exact ⟨by rw [HQ.out]; simp [bne]; rfl, HI.out⟩
  case rest =>
    obtain ⟨rfl, I⟩ := hcut
    clear hWn hW x0 x2 hb1 hb2 hN1 hN2 zl hs2 ho2 hg2 hVV hPz
    go_upto_if 34 with fail
    have hPL := listP_pick o
    have hln := begin_len o
    go_cut [] (fun wx => ∃ v, LstI w P #[.slice A o.blocks.length ca, .slice B o.marks.length cb, .slice C o.labels.length cc] (pickP (beginP o) (tellI 0 o.labels) []) (pickP (beginP o) (dropI 0 o.labels) o.labels) v wx)
    case first =>
      cases hq : beginP o with
      | true =>
        go_wp2_with (first | (go_at_call 22; refine (plain_here _ P w.heap.size [] o.labels _ 0 I.T I.b.size (by simp; omega)).mono ?_; rintro e w5 ⟨rfl, v5, T5, t5, n5⟩))
        go_meet
        rw [hq]
        exact ⟨v5, I.step T5 t5⟩
      | false =>
        go_wp2_with fail
        go_meet
        rw [hq]
        exact ⟨_, I⟩
    case rest =>
      obtain ⟨v0, I⟩ := hcut
      have y0 := blk_cell (i := 0) I.bx rfl
      generalize pickP (beginP o) (tellI 0 o.labels) [] = out0 at *
      generalize pickP (beginP o) (dropI 0 o.labels) o.labels = rem0 at *
      obtain ⟨h1, h2, h3⟩ := okO_parts hk
      have hsum := sumB_ok _ _ (by omega) (by omega) h1
      have B0 : LstB o (out0 ++ (blksP true o.blocks o.marks rem0).1) (blksP true o.blocks o.marks rem0).2 0 0 out0 rem0 := ⟨by simp, by simp, by simp; omega, ⟨by simp, Nat.zero_le _⟩⟩
      generalize out0 ++ (blksP true o.blocks o.marks rem0).1 = tot at *
      generalize (blksP true o.blocks o.marks rem0).2 = last at *
      have HPL := Lib.hid hPL
      clear hPL hln
      go_wp2_with fail
      go_loopw [6, 40] (fun mk i wr => ∃ (k i' : Nat) (out : List ItemP) (rem : List LabelP) (v : Value), mk = .int .i64 k ∧ i = .int .i64 i' ∧ i' ≤ o.blocks.length ∧ LstB o tot last i' k out rem ∧ LstI w P #[.slice A o.blocks.length ca, .slice B o.marks.length cb, .slice C o.labels.length cc] out rem v wr) (fun _ i _ => o.blocks.length - (intOf i).toNat)
      case atStart => exact ⟨0, 0, out0, rem0, v0, rfl, rfl, Nat.zero_le _, B0, I⟩
      case round =>
        clear I B0 y0
        obtain ⟨k, i, out, rem, v, rfl, rfl, hi, PB, I⟩ := hrel
        by_cases hlt : i < o.blocks.length
        · have hki : (i : Int) < o.blocks.length := by omega
          have y0 := blk_cell (i := 0) I.bx rfl
          obtain ⟨b, off, hAe, hr⟩ := R.b (by omega)
          obtain ⟨d0, A', c, d1, RA, hc⟩ := hr i hlt
          have ba := okBl_at _ _ (by omega) h1 i hlt
          have bo := ok.bs i hlt
          have hent := PB.enter hlt
          have hlv := fun k' t out' rem' => LstR.leave (k' := k') (t := t) (out' := out') (rem' := rem') PB hlt
          have hPBl := PB.len
          clear hr PB
          generalize o.blocks[i] = X at *
          obtain ⟨a, bs⟩ := X
          simp only at *
          obtain ⟨⟨b1, b2⟩, b3, b4⟩ := bo
          unfold big at b4
          obtain ⟨ba1, ba2, ba3, _⟩ := ba
          have hAB : ∀ x, A' = some x → x.block < w.heap.size := by
            obtain ⟨bb, oo, rfl, hlt, _⟩ := RA (by omega)
            intro x hx; injection hx with hx; subst hx; exact hlt
          have c0 := cellB I.b d0
          have c1 := cellB I.b d1
          subst hAe
          generalize out ++ (if decide (i = 0) && decide (a = 0) then [] else [atI a]) ++ (rowsP bs (o.marks.drop k) 0 rem).1 = tot1 at *
          generalize (rowsP bs (o.marks.drop k) 0 rem).2 = fin at *
          have HE := Lib.hid hent
          have HV := Lib.hid hlv
          clear hent hlv
          go_upto_region 11 with fail
          have hbx := belowA (w := wr) (.cells #[.int .i64 a, .slice A' bs.length c] 41)
          have IV := I.below hbx
          have hqV := heap_alloc_new wr (.cells #[.int .i64 a, .slice A' bs.length c] 41)
          generalize hVV : wr.alloc (.cells #[.int .i64 a, .slice A' bs.length c] 41) = V at *
          generalize wr.heap.size = q at *
          clear hVV hbx I c0 c1 y0
          go_cut [51] (fun t wx => t = .bool (!(decide (i = 0) && decide (a = 0))) ∧ LstI w P #[.slice (some ⟨b, off, none⟩) o.blocks.length ca, .slice B o.marks.length cb, .slice C o.labels.length cc] out rem v wx ∧ wx.heap[q]? = some (.cells #[.int .i64 a, .slice A' bs.length c] 41 (0, 0)))
          case first =>
            have x0 := blk_cell (i := 0) hqV rfl
            have II := Lib.hid IV
            clear IV
            by_cases hi0 : i = 0
            · subst hi0
              have HH : Hid (0 = 0) := Lib.hid rfl
              go_wp2_with fail
              go_meet
              exact ⟨by rw [decide_eq_true HH.out]; simp [bne]; rfl, II.out, hqV⟩
            · have hi1 : decide ((0 : Int) < i) = true := by simp; omega
              have HH := Lib.hid hi0
              clear hi0
              go_wp2_with fail
              go_meet
              exact ⟨by rw [decide_eq_false HH.out]; rfl, II.out, hqV⟩
          case rest =>
            obtain ⟨rfl, IV, hqV⟩ := hcut
            go_upto_if 51 with fail
            have hpf : pickP (!(decide (i = 0) && decide (a = 0))) [atI a] [] = (if decide (i = 0) && decide (a = 0) then [] else [atI a]) := by unfold pickP; cases (decide (i = 0) && decide (a = 0)) <;> rfl
            rw [← hpf] at HE
            clear hpf
            go_cut [] (fun wx => ∃ v1, LstI w P #[.slice (some ⟨b, off, none⟩) o.blocks.length ca, .slice B o.marks.length cb, .slice C o.labels.length cc] (out ++ pickP (!(decide (i = 0) && decide (a = 0))) [atI a] []) rem v1 wx ∧ wx.heap[q]? = some (.cells #[.int .i64 a, .slice A' bs.length c] 41 (0, 0)))
            case first =>
              cases hq : (!(decide (i = 0) && decide (a = 0))) with
              | true =>
                have hlo : out.length ≤ 8388608 := by omega
                obtain ⟨sV, pV, ⟨xs, o1V, o2V⟩, _⟩ := IV.T
                have q0 := blk_cell (i := 0) pV rfl
                have qf := blk_frozen (i := 0) pV
                have qP := blk_lt pV
                have pN := own_blk o1V pV (by decide)
                have x0 := blk_cell (i := 0) hqV rfl
                have xq := blk_lt hqV
                have II := Lib.hid IV
                have hbz := IV.b.size
                clear IV
                go_wp2_with fail
                go_region_law ((refine step_append_src _ (by rfl) (.tmp 56) (.tmp 60) 29 (by rfl) w.heap.size 52 i0 _ 6 80 Tryz.underlying29 hi0 hz0 hz1 hz2 (by rfl) (by decide) v out.length xs (by rfl) (own_drew (o1V.alloc _)) _ 1 1 _ (by rfl) (Src.block (heap_alloc_new _ _) (by rfl)) (itC_one ⟨4, ⟨#[]⟩, a, []⟩) (by unfold maxLen; omega) (by omega) (by simp; omega) ?_; intro v2 wy ho2 hg2 hv2; obtain ⟨g2, c2, rfl, _, _⟩ := ho2.form (by omega); have pw2 := kept_blk hg2 pV (belowA _).drew pN; have k0 := blk_cell (i := 0) pw2 rfl; have f0 := blk_frozen (i := 0) pw2))
                all_goals
                  obtain ⟨Tz, tz, nz⟩ := II.out.T.push (x := atI a) (belowA _).drew (own_drew (o1V.alloc _)) (o2V.below (belowA _).drew) (ItR.one_nil (atI a) rfl) hg2 hv2 ho2
                  have hap := II.out.T.apart hqV (by decide) (by decide)
                  go_wp2_with fail
                  go_meet
                  rw [hq]
                  exact ⟨_, II.out.step Tz tz, tz.heap hqV hap⟩
              | false =>
                go_wp2_with fail
                go_meet
                rw [hq]
                exact ⟨v, by simpa [pickP] using IV, hqV⟩
            case rest =>
              obtain ⟨v1, IV, hqV⟩ := hcut
              have RE := HE.out
              generalize out ++ pickP (!(decide (i = 0) && decide (a = 0))) [atI a] [] = out1 at *
              clear HE
              go_wp2_with fail
              go_loopw [6, 9] (fun mk t wq => ∃ (k' t' : Nat) (out' : List ItemP) (rem' : List LabelP) (v' : Value), mk = .int .i64 k' ∧ t = .int .i64 t' ∧ LstR o i a bs tot1 fin (sumB (o.blocks.drop (i + 1))) k' t' out' rem' ∧ LstI w P #[.slice (some ⟨b, off, none⟩) o.blocks.length ca, .slice B o.marks.length cb, .slice C o.labels.length cc] out' rem' v' wq ∧ wq.heap[q]? = some (.cells #[.int .i64 a, .slice A' bs.length c] 41 (0, 0))) (fun _ t _ => bs.length - (intOf t).toNat)
              case atStart => exact ⟨k, 0, out1, rem, v1, rfl, rfl, RE, IV, hqV⟩
              case round =>
                clear IV hqV RE
                obtain ⟨k, t, out', rem', v', rfl, rfl, HR, I, hqV⟩ := hrel
                have x0 := blk_cell (i := 0) hqV rfl
                have x1 := blk_cell (i := 1) hqV rfl
                have y1 := blk_cell (i := 1) I.bx rfl
                have hxq := blk_lt hqV
                by_cases hlt2 : t < bs.length
                · obtain ⟨hkm, m1, m2, m3, m4, HR2⟩ := HR.step hlt2 h2
                  have hkk : (k : Int) < o.marks.length := by omega
                  have hlen := HR.len
                  obtain ⟨mb, mo, hBe, hmr⟩ := R.m (by omega)
                  obtain ⟨e0, e1, e2⟩ := hmr k hkm
                  have g0 := cellB I.b e0
                  have g1 := cellB I.b e1
                  have g2 := cellB I.b e2
                  have hmrk : markP rem' bs t o.marks[k] = if o.marks[k].code then codeP rem' ((bs.drop t).take o.marks[k].n.toNat) o.marks[k].at_ else dataP rem' ((bs.drop t).take o.marks[k].n.toNat) o.marks[k].at_ := rfl
                  clear hmr e0 e1 e2 HR
                  generalize o.marks[k] = M at *
                  obtain ⟨ma, mn, mc⟩ := M
                  simp only at *
                  subst m1
                  obtain ⟨n, rfl⟩ : ∃ n : Nat, mn = n := ⟨mn.toNat, by omega⟩
                  rw [Int.toNat_natCast] at m4 HR2 hmrk
                  subst hBe
                  have hys : ((bs.drop t).take n).length = n := by rw [List.length_take, List.length_drop]; omega
                  have Rc := ((RA.below I.b).cut c t hc).take n
                  have hAc := cutA_block (c := c) (n := t) hAB
                  have hy := (b3.drop t).take n
                  unfold cutA at Rc hAc
                  rw [if_neg (show ¬ c = t by omega)] at Rc hAc
                  generalize hYS : (bs.drop t).take n = ys at *
                  have HY := Lib.hid hys
                  have HM := Lib.hid hmrk
                  have H2 := Lib.hid HR2
                  have II := Lib.hid I
                  have hbz := I.b.size
                  have TW : Tabs wr := T.b I.b
                  clear hYS hys hmrk HR2 I
                  cases mc with
                  | true =>
                    have hwy := m4 rfl
                    clear m4
                    go_wp2_with (first | (go_at_call 23; refine (plain_code' _ P w.heap.size out' rem' v' _ _ ys (a + t) (II.out.T.below (belowA _)) (TW.alloc _) T.sz II.out.p (Rc.below (belowA _)) hAc hy (by have := HY.out; omega) hwy (by have := HY.out; omega) (by omega) (by have := HY.out; omega) _ (by have := HY.out; omega)).mono ?_; rintro e w5 ⟨rfl, v5, T5, t5, n5⟩; have x3 := t5.heap (heap_alloc_new wr (.cells #[.int .i64 (a + t), .int .i64 n, .bool true] 54)) ((II.out.T.below (belowA _)).apart (heap_alloc_new wr (.cells #[.int .i64 (a + t), .int .i64 n, .bool true] 54)) (by decide) (by decide)); have x4 := blk_cell (i := 1) x3 rfl))
                    exact ⟨⟨k + 1, t + n, _, _, v5, by go_num, by go_num, by have := H2.out; rw [HM.out] at this; exact this, (II.out.below (belowA _)).step T5 t5, t5.heap (heapB' (belowA _) hqV) (II.out.T.apart hqV (by decide) (by decide))⟩, by simp [intOf]; omega⟩
                  | false =>
                    clear m4
                    go_wp2_with (first | (go_at_call 24; refine (plain_data' _ P w.heap.size out' rem' v' _ _ ys (a + t) (II.out.T.below (belowA _))  II.out.p (Rc.below (belowA _)) hAc hy (by have := HY.out; omega) (by have := HY.out; omega) (by omega) (by have := HY.out; omega) _ (by have := HY.out; omega)).mono ?_; rintro e w5 ⟨rfl, v5, T5, t5, n5⟩; have x3 := t5.heap (heap_alloc_new wr (.cells #[.int .i64 (a + t), .int .i64 n, .bool false] 54)) ((II.out.T.below (belowA _)).apart (heap_alloc_new wr (.cells #[.int .i64 (a + t), .int .i64 n, .bool false] 54)) (by decide) (by decide)); have x4 := blk_cell (i := 1) x3 rfl))
                    exact ⟨⟨k + 1, t + n, _, _, v5, by go_num, by go_num, by have := H2.out; rw [HM.out] at this; exact this, (II.out.below (belowA _)).step T5 t5, t5.heap (heapB' (belowA _) hqV) (II.out.T.apart hqV (by decide) (by decide))⟩, by simp [intOf]; omega⟩
                · have htl : bs.length = t := by have := HR.mo.2.2.1; simp only at this; omega
                  have hB := HV.out k t out' rem' HR htl
                  have hlen := HR.len
                  subst htl
                  have hbz := I.b.size
                  have HB := Lib.hid hB
                  clear hB HR
                  go_wp2_with (first | (go_at_call 22; refine (plain_here _ P w.heap.size out' rem' v' (a + bs.length) I.T hbz (by omega)).mono ?_; rintro e w5 ⟨rfl, v5, T5, t5, n5⟩))
                  exact ⟨⟨k, i + 1, _, _, v5, rfl, by go_num, by omega, HB.out, I.step T5 t5⟩, by simp [intOf]; omega⟩
        · obtain rfl : i = o.blocks.length := by omega
          obtain ⟨e1, e2⟩ := PB.done
          subst e1; subst e2
          have hlen := PB.len
          rw [List.drop_length] at hlen
          have hrest : out ++ restP rem = listP o := HPL.out.symm
          clear PB
          go_wp2_with fail
          go_loopw [12] (fun _ wr => ∃ (out : List ItemP) (rem : List LabelP) (v : Value), LstI w P #[.slice A o.blocks.length ca, .slice B o.marks.length cb, .slice C o.labels.length cc] out rem v wr ∧ out ++ restP rem = listP o ∧ out.length + 2 * rem.length ≤ 16777216) (fun _ wr => vlen ((wr.cell? ⟨P, 1, none⟩).getD undef))
          case atStart => exact ⟨out, rem, v, I, hrest, by omega⟩
          case round =>
            clear I hrest hlen
            obtain ⟨out, rem, v, I, hrest, hlen⟩ := hrel
            have hml := I.T.vlen_eq
            obtain ⟨s, pV, ⟨xs, o1, o2⟩, hL⟩ := I.T
            obtain ⟨A', c', rfl, hA⟩ := hL.form
            have p0 := blk_cell (i := 0) pV rfl
            have p1 := blk_cell (i := 1) pV rfl
            have pf := blk_frozen (i := 0) pV
            have pP := blk_lt pV
            have pN := own_blk o1 pV (by decide)
            by_cases hr0 : 0 < rem.length
            · obtain ⟨g, rfl, hg, hc⟩ := hA hr0
              obtain ⟨_, c1⟩ := hc 0 hr0
              have hstep := restP_step hr0
              have hdl := dropI_len hr0
              have htl := tell_len rem[0].at_ rem
              simp only [Nat.zero_mul, Nat.zero_add] at c1
              clear hc hA
              generalize rem[0].at_ = a0 at *
              have HR := Lib.hid hrest
              have HS := Lib.hid hstep
              have HT := Lib.hid htl
              have HM := Lib.hid hml
              have II := Lib.hid I
              have hbz := I.b.size
              clear hrest hstep htl hml I
              go_wp2_with (first | (at_builtin; refine wpList_append_src _ rfl (.tmp 126) (.tmp 129) 29 rfl w.heap.size 52 i0 _ 6 80 Tryz.underlying29 hi0 hz0 hz1 hz2 rfl (by decide) v out.length xs rfl (o1.alloc _) _ 1 1 _ rfl (Src.block (heap_alloc_new _ _) rfl) (itC_one ⟨4, ⟨#[]⟩, a0, []⟩) (by unfold maxLen; omega) (by omega) (by simp; omega) ?_; intro v2 wy ho2 hg2 hv2; obtain ⟨pu1, pu2, pu3⟩ := II.out.T.push (x := atI a0) (belowA _) (o1.alloc _) (o2.below (belowA _)) (ItR.one_nil (atI a0) rfl) hg2 hv2 ho2; obtain ⟨g2, c2, rfl, _, _⟩ := ho2.form (by omega); have pw2 := kept_blk hg2 pV (belowA _) pN; have k0 := blk_cell (i := 0) pw2 rfl; have f0 := blk_frozen (i := 0) pw2) | (go_at_call 22; refine (plain_here _ P w.heap.size _ _ _ a0 pu1 (by have := pu2.size; omega) (by rw [List.length_append]; simp only [List.length_cons, List.length_nil]; omega)).mono ?_; rintro e w5 ⟨rfl, v5, T5, t5, n5⟩))
              have h5 := T5.vlen_eq
              have ht2 : (tellI a0 rem).length + (dropI a0 rem).length = rem.length := HT.out
              refine ⟨⟨_, _, v5, (II.out.step pu1 pu2).step T5 t5, by rw [List.append_assoc, List.append_assoc, List.singleton_append, ← HS.out]; exact HR.out, ?_⟩, ?_⟩
              · rw [List.length_append, List.length_append]; simp only [List.length_cons, List.length_nil]; omega
              · rw [h5, HM.out]; exact hdl
            · have hnil : rem = [] := List.eq_nil_of_length_eq_zero (by omega)
              subst hnil
              have hlo : out = listP o := by rw [← hrest, restP, List.append_nil]
              have HL := Lib.hid hlo
              clear hlo hrest
              go_wp2
              go_ret2
              exact ⟨⟨v, rfl, by rw [← HL.out]; exact ⟨xs, o1, o2⟩⟩, I.b⟩
end Go.Proofs.YtofhdlkocgbcgaaGreatDoor
