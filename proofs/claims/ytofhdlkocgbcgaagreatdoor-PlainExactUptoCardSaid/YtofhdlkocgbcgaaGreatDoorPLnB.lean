/- plain's Lines. -/
import Derived.Test.YtofhdlkocgbcgaaGreatDoorPLnA
import Derived.Test.YtofhdlkocgbcgaaGreatDoorPLst
import Derived.Test.YtofhdlkocgbcgaaGreatDoorRefC
namespace Go.Proofs.YtofhdlkocgbcgaaGreatDoor
open Go Go.RowKit Pu
set_option linter.unusedVariables false
set_option linter.unusedSimpArgs false
theorem ItL.item {w : World} {B : Nat} {v : Value} {l : List ItemP} (h : ItL w B v l) (i : Nat) (hi : i < l.length) : ∃ g cap A c, v = .slice (some ⟨g, 0, none⟩) l.length cap ∧ g < w.heap.size ∧ l.length ≤ cap ∧
    w.cell? ⟨g, i * 6, none⟩ = some (.int .u8 l[i].kind) ∧ w.cell? ⟨g, i * 6 + 1, none⟩ = some (.string l[i].name) ∧ w.cell? ⟨g, i * 6 + 2, none⟩ = some (.int .i64 l[i].arg) ∧ w.cell? ⟨g, i * 6 + 3, none⟩ = some (.string ⟨#[]⟩) ∧ w.cell? ⟨g, i * 6 + 4, none⟩ = some (.int .u8 0) ∧ w.cell? ⟨g, i * 6 + 5, none⟩ = some (.slice A l[i].bytes.length c) ∧
    RdB w A l[i].bytes ∧ (∀ x, A = some x → x.block < w.heap.size) ∧ l[i].bytes.length ≤ c := by
  obtain ⟨xs, ho, hr⟩ := h
  obtain ⟨g, cap, rfl, hg1, hg2⟩ := ho.form (by omega)
  have hcap : l.length ≤ cap := by
    rcases ho.2 with ⟨e, _⟩ | ⟨g', cap', cur, e, _, _, h3, _⟩
    · cases e
    · cases e; exact h3
  obtain ⟨s, hc, hs⟩ := hr.at i hi
  have hcell : ∀ j u, (itC l[i] s)[j]? = some u → w.cell? ⟨g, i * 6 + j, none⟩ = some u := fun j u hu => by
    have := ho.cells (g := g) rfl _ u (hc j u hu)
    have ha : (⟨g, 0, none⟩ : Addr).add (i * 6 + j) = ⟨g, i * 6 + j, none⟩ := by unfold Addr.add; split <;> simp_all
    rwa [ha] at this
  have c5 := hcell 5 s rfl
  rcases hs.2 with ⟨rfl, e⟩ | ⟨g', cap', cur, rfl, _, h2, h3, _⟩
  · refine ⟨g, cap, none, 0, rfl, hg2, hcap, hcell 0 _ rfl, hcell 1 _ rfl, hcell 2 _ rfl, hcell 3 _ rfl, hcell 4 _ rfl, by rw [e]; exact c5, fun h0 => by omega, by simp, by omega⟩
  · refine ⟨g, cap, _, _, rfl, hg2, hcap, hcell 0 _ rfl, hcell 1 _ rfl, hcell 2 _ rfl, hcell 3 _ rfl, hcell 4 _ rfl, c5, fun h0 => ⟨g', 0, rfl, blk_lt h2, fun j hj => ?_⟩, fun x hx => by injection hx with hx; subst hx; exact blk_lt h2, h3⟩
    have := hs.cells (g := g') rfl j (.int .u8 (l[i].bytes.getD j 0)) (by rw [List.getElem?_map, List.getElem?_eq_getElem hj, List.getD_eq_getElem?_getD, List.getElem?_eq_getElem hj]; rfl)
    have ha : (⟨g', 0, none⟩ : Addr).add j = ⟨g', 0 + j, none⟩ := by unfold Addr.add; split <;> simp_all
    rwa [ha] at this
set_option maxHeartbeats 1000000 in
set_option maxRecDepth 100000 in
theorem plain_Lines_bad (w : World) (T : Tabs w) (A B C : Option Addr) (ca cb cc : Nat) (o : ObjP) (ok : ObjOK o) (R : RdO w A B C o) (hk : okO o = false) : Calls Tryz.prog 9 #[.agg #[.slice A o.blocks.length ca, .slice B o.marks.length cb, .slice C o.labels.length cc]] w fun e w' => e = .returned (.tuple #[.string ⟨#[]⟩, .int .i64 1]) ∧ Below w.heap.size w w' := by
  have R1 := R.below (belowA (w := w) (.cells #[.slice A o.blocks.length ca, .slice B o.marks.length cb, .slice C o.labels.length cc] 26))
  have HK := Lib.hid hk
  clear hk
  go_enter Tryz.func9, Tryz.ntmps9
  go_wp2_with (first | (go_at_call 8; refine (plain_List_bad _ (T.alloc _) _ _ _ _ _ _ o ok R1 HK.out).mono ?_; rintro e w1 ⟨rfl, hb1⟩))
  go_ret2
  exact ⟨rfl, below1 hb1⟩
/-- The listing under way. -/
structure PlI (wL : World) (tot : List UInt8) (l : List ItemP) (i : Nat) (a : Int) (txt : List UInt8) (wr : World) : Prop where
  wf : ∃ c, WfL a (l.drop i) c
  tot_ : txt ++ linesL a (l.drop i) = tot
  bl : BL wL.heap.size a txt wr
  lo : Below wL.heap.size wL wr
  a0 : 0 ≤ a
  a1 : a ≤ 65536
theorem lineL_lbl (l : LabelP) (a : Int) : lineL (lblI l) a = l.name.data.toList ++ [58, 10] := rfl
theorem lineL_at (x a : Int) : lineL (atI x) a = [] := rfl
theorem PlI.step {wL wr wz : World} {tot : List UInt8} {l : List ItemP} {i : Nat} {a b : Int} {txt : List UInt8} {x : ItemP} (I : PlI wL tot l i a txt wr) (hi : i < l.length) (hx : l[i] = x) (hw : WfI a x b) (hbl : BL wL.heap.size b (txt ++ lineL x (if x.kind = 4 then x.arg else a)) wz) (hlo : Below wL.heap.size wL wz) (h0 : 0 ≤ b) (h1 : b ≤ 65536) : PlI wL tot l (i + 1) b (txt ++ lineL x (if x.kind = 4 then x.arg else a)) wz := by
  obtain ⟨c, hc⟩ := I.wf
  have ht := I.tot_
  rw [List.drop_eq_getElem_cons hi, hx] at hc ht
  obtain ⟨b', hb', hl⟩ := hc.inv
  have e1 := hw.next
  have e2 := hb'.next
  have : b = b' := e1.symm.trans e2
  subst this
  exact ⟨⟨c, hl⟩, by rw [linesL, e1] at ht; rw [List.append_assoc]; exact ht, hbl, hlo, h0, h1⟩
theorem lineL_code {nm : ByteArray} {ar a : Int} {n : Nat} (hd : DecOK nm ar n) (h0 : 0 ≤ a) (h1 : a + n ≤ 65536) : lineL ⟨2, nm, ar, []⟩ a = lineB a (encI nm ar).2 (printI nm ar).1.data.toList := by
  have h2 := hx_len a 4 (.inr rfl) h0 (by have := hd.n1; omega)
  have h3 := sepL_len _ hd.bts
  have h4 := hd.n3
  have h5 := hd.len
  obtain ⟨_, h6⟩ := print_size hd
  have h7 : (printI nm ar).1.data.toList ≠ [] := fun e => h6 (by have := congrArg List.length e; rw [bl_size] at this; exact this)
  have h8 : (digL a (encI nm ar).2).length = 6 + (sepL (encI nm ar).2).length := by unfold digL; simp [h2]; omega
  have e : 16 - (6 + (sepL (encI nm ar).2).length) = (8 - (sepL (encI nm ar).2).length) + 2 := by omega
  unfold lineB
  rw [if_neg h7]
  show padL (digL a (encI nm ar).2) ++ (printI nm ar).1.data.toList ++ [10] = _
  unfold padL
  rw [h8, e, ← List.replicate_append_replicate]
  simp
/-- The rows of an item of data, under way. -/
structure DtI (wL : World) (b : Nat) (tot1 : List UInt8) (aend : Int) (ys : List Int) (A' : Option Addr) (c' : Nat) (a' : Int) (txt' : List UInt8) (wq : World) : Prop where
  t : txt' ++ rowsL8 a' ys = tot1
  s : a' + ys.length = aend
  R : RdB wq A' ys
  ab : ∀ x, A' = some x → x.block < b
  by_ : Bytes ys
  c : ys.length ≤ c'
  bl : BL b a' txt' wq
  lo : Below b wL wq
  a0 : 0 ≤ a'
theorem DtI.step {wL wq wz : World} {b k : Nat} {tot1 : List UInt8} {aend : Int} {ys : List Int} {A' : Option Addr} {c' : Nat} {a' : Int} {txt' : List UInt8} (I : DtI wL b tot1 aend ys A' c' a' txt' wq) (hne : ys ≠ []) (hk : k = min ys.length 8) (H : BL b (a' + k) (txt' ++ lineB a' (ys.take k) []) wz) (hb : Below b wq wz) :
    DtI wL b tot1 aend (ys.drop k) (cutA A' c' k) (c' - k) (a' + k) (txt' ++ lineB a' (ys.take k) []) wz := by
  have e1 : ys.take k = ys.take 8 := by
    rcases Nat.le_total ys.length 8 with h | h
    · rw [hk, Nat.min_eq_left h, List.take_length, List.take_of_length_le h]
    · rw [hk, Nat.min_eq_right h]
  have e2 : ys.drop k = ys.drop 8 := by
    rcases Nat.le_total ys.length 8 with h | h
    · rw [hk, Nat.min_eq_left h, List.drop_length, List.drop_eq_nil_of_le h]
    · rw [hk, Nat.min_eq_right h]
  have e3 : (ys.take 8).length = k := by rw [← e1, List.length_take]; omega
  have ht := I.t
  rw [rowsL8_step _ hne, e3] at ht
  refine ⟨?_, by rw [List.length_drop]; have := I.s; omega, (I.R.belowB hb I.ab).cut c' k I.c, cutA_block I.ab, I.by_.drop k, by rw [List.length_drop]; have := I.c; omega, H, I.lo.trans hb, by have := I.a0; omega⟩
  rw [e2, ← ht, e1]
  unfold lineB
  simp
theorem b_len (b : Nat) (a : Int) (l : List UInt8) (w : World) (h : BL b a l w) : Calls Tryz.prog 32 #[.pointer (some ⟨b, 0, none⟩)] w fun e w' => e = .returned (.int .i64 l.length) ∧ w = w' :=
  (Any.Builder_Len_f Tryz.lays170 b b (Lib.byteCells l) w h.h).mono fun e w' ⟨h1, h2⟩ => ⟨by rw [h1, Lib.byteCells_length], h2.symm⟩
theorem b_str (b : Nat) (a : Int) (l : List UInt8) (w : World) (h : BL b a l w) : Calls Tryz.prog 33 #[.pointer (some ⟨b, 0, none⟩)] w fun e w' => e = .returned (.string ⟨l.toArray⟩) ∧ Below b w w' :=
  (Any.Builder_String_any_k Tryz.lays169 Tryz.Builder_Extra_169 b b l w h.h (by have := h.lt; omega)).mono fun e w' ⟨h1, _, h2, _⟩ => ⟨h1, h2⟩
theorem cat_data (x y : ByteArray) : (x ++ y).data.toList = x.data.toList ++ y.data.toList := by simp
set_option maxHeartbeats 4000000 in
set_option maxRecDepth 100000 in
theorem plain_Lines_ok (w : World) (T : Tabs w) (A B C : Option Addr) (ca cb cc : Nat) (o : ObjP) (ok : ObjOK o) (R : RdO w A B C o) (hk : okO o = true) : Calls Tryz.prog 9 #[.agg #[.slice A o.blocks.length ca, .slice B o.marks.length cb, .slice C o.labels.length cc]] w fun e w' => e = .returned (.tuple #[.string (linesV (listP o)).1, .int .i64 (linesV (listP o)).2]) ∧ Below w.heap.size w w' := by
  have R1 := R.below (belowA (w := w) (.cells #[.slice A o.blocks.length ca, .slice B o.marks.length cb, .slice C o.labels.length cc] 26))
  obtain ⟨h1, _, _⟩ := okO_parts hk
  have hll := listP_len o h1
  have hnl := ok.nl
  unfold big at hnl
  have hwf := listP_wf o hk (fun b hb => by obtain ⟨i, hi, rfl⟩ := List.mem_iff_getElem.1 hb; exact (ok.bs i hi).2.1)
  have htl : (linesL 0 (listP o)).length ≤ 11000 * (listP o).length := by obtain ⟨c, hc⟩ := hwf; exact linesL_len hc
  have HK := Lib.hid hk
  clear hk h1
  have PL := plain_List_ok _ (T.alloc _) A B C ca cb cc o ok R1 HK.out
  have T1 := T.alloc (.cells #[.slice A o.blocks.length ca, .slice B o.marks.length cb, .slice C o.labels.length cc] 26)
  generalize listP o = l at *
  go_enter Tryz.func9, Tryz.ntmps9
  go_wp2_with (first | (go_at_call 8; refine PL.mono ?_; rintro e wL ⟨⟨v, rfl, hL⟩, hbL⟩; obtain ⟨A0, c0, _, rfl, _, _⟩ := hL.src))
  have TL := T1.b hbL
  have hbw := below1 hbL
  have hfin : ∀ wz, Below wL.heap.size wL wz → Below w.heap.size w wz := fun wz h => hbw.trans (h.mono hbw.size)
  have I0 : PlI wL (linesL 0 l) l 0 0 [] ((wL.alloc (.cells #[.pointer none, .slice none 0 0] 68)).alloc (.cells #[.int .i64 0] 3)) := by
    have b1 := belowA (w := wL) (.cells #[.pointer none, .slice none 0 0] 68)
    have b2 := belowA (w := wL.alloc (.cells #[.pointer none, .slice none 0 0] 68)) (.cells #[.int .i64 0] 3)
    refine ⟨hwf, rfl, ⟨?_, heap_new1 _ _ _⟩, b1.trans (b2.mono b1.size), by omega, by omega⟩
    exact (Lib.IsBuilderF.of (Lib.fresh_isBuilder _ _ wL)).alloc _
  have hsz := TL.sz
  generalize hV : ((wL.alloc (.cells #[.pointer none, .slice none 0 0] 68)).alloc (.cells #[.int .i64 0] 3)) = V at *
  clear hV hbL R1 PL T T1 R ok HK hwf
  generalize hb : wL.heap.size = b at *
  have HB := Lib.hid hb
  clear hb
  go_loopw [29] (fun i wr => ∃ (k : Nat) (a : Int) (txt : List UInt8), i = .int .i64 k ∧ k ≤ l.length ∧ PlI wL (linesL 0 l) l k a txt wr) (fun i _ => l.length - (intOf i).toNat)
  case atStart => exact ⟨0, 0, [], rfl, Nat.zero_le _, I0⟩
  case round =>
    clear I0
    obtain ⟨k, a, txt, rfl, hk, I⟩ := hrel
    by_cases hlt : k < l.length
    · have hki : (k : Int) < l.length := by omega
      obtain ⟨g, cap, A1, c1, hv, hg, hcap, q0, q1, q2, q3, q4, q5, RA, hA1, hc1⟩ := hL.item k hlt
      injection hv with hv1 _ hv2
      subst hv1; subst hv2
      have z0 := cellB I.lo q0; have z1 := cellB I.lo q1; have z2 := cellB I.lo q2; have z3 := cellB I.lo q3; have z4 := cellB I.lo q4; have z5 := cellB I.lo q5
      obtain ⟨cw, hcw⟩ := I.wf
      rw [List.drop_eq_getElem_cons hlt] at hcw
      obtain ⟨b1, hI1, _⟩ := hcw.inv
      have hst := fun wz hbl hlo h0 h1 => I.step (wz := wz) hlt rfl hI1 hbl hlo h0 h1
      have hbl := I.bl
      have htx : txt.length ≤ 549755813888 := by have := congrArg List.length I.tot_; rw [List.length_append] at this; omega
      have a0 := I.a0
      have a1 := I.a1
      have hlo := I.lo
      rw [HB.out] at hbl hA1 hlo hst
      have hbz := hbl.lt
      have HST := Lib.hid hst
      clear hst q0 q1 q2 q3 q4 q5 hcw I
      generalize l[k] = x at *
      cases hI1 with
      | lbl lb hsz =>
        have z0' : wr.cell? ⟨g, k * 6, none⟩ = some (.int .u8 1) := z0
        have z1' : wr.cell? ⟨g, k * 6 + 1, none⟩ = some (.string lb.name) := z1
        have hns : (lb.name ++ (⟨#[58, 10]⟩ : ByteArray)).size ≤ 100 := by
          rw [ByteArray.size_append]
          have : (⟨#[58, 10]⟩ : ByteArray).size = 2 := rfl
          omega
        clear z0 z1
        go_wp2_with (first | (go_at_call 28; refine (wr_str b a txt _ _ (hbl.below (belowA _)) (by omega)).mono ?_; rintro e w3 ⟨rfl, H3, hb3⟩))
        exact ⟨⟨k + 1, _, _, by go_num, by omega, HST.out _ (by rw [cat_data] at H3; exact H3) (hlo.trans (((Below.refl _ _).alloc (by omega) _).trans hb3)) a0 a1⟩, by simp [intOf]; omega⟩
      | code bs hbb hne hok h0 h1 =>
        have hd := dec_ok hbb hok
        have hci : codeI bs = ⟨2, (decI bs).1, (decI bs).2.1, []⟩ := rfl
        rw [hci] at HST z0 z1 z2
        generalize decN bs = n at *
        generalize (decI bs).1 = nm at *
        generalize (decI bs).2.1 = ar at *
        obtain ⟨p1, p2⟩ := print_size hd
        have hEn := hd.enc
        have hEl := hd.len
        have hEb := hd.bts
        have har0 := hd.a0
        have har1 := hd.a1
        have hn3 := hd.n3
        have hnz := hd.sz
        have hPe : (printI nm ar).2 = 0 := by unfold printI; rw [if_pos hEn]; split <;> rfl
        have hline := lineL_code hd h0 h1
        have TR := TL.below hlo (by omega)
        generalize hen : encI nm ar = en at *
        have HPE := Lib.hid hPe
        clear hPe
        generalize htx : (printI nm ar).1 = tx at *
        have HTX := Lib.hid htx
        clear htx
        obtain ⟨e1, e2⟩ := en
        simp only at *
        subst hEn
        have HEN := Lib.hid hen
        have HLN := Lib.hid hline
        have HEL := Lib.hid hEl
        clear hen hline hEl hci hd hok
        go_wp2_with (first | (go_at_call 30; refine (code_Encode nm ar _ (TR.b (by (repeat first | exact Below.refl _ _ | assumption | refine Below.trans ?_ (hb.mono (by first | omega | (simp; done) | (simp; omega))) | refine Below.drew ?_ | refine Below.alloc ?_ (by first | omega | (simp; done) | (simp; omega)) _ | refine Below.setCell ?_ (by first | omega | (simp; done) | (simp; omega)) _))) (by omega) (by omega)).mono ?_; rw [HEN.out]; rintro e w1 ⟨⟨v1, rfl, ob1⟩, hb1⟩; obtain ⟨A2, c2, rfl, R2⟩ := ob1.rd; have hq1 : Below wr.heap.size wr w1 := (((Below.refl _ _).alloc (Nat.le_refl _) _).alloc (by simp) _).trans (hb1.mono (by simp; omega)); have s0 := cellB hb1 (a := ⟨wr.heap.size + 1, 0, none⟩) (v := .string nm) (by simp); have s1 := cellB hb1 (a := ⟨wr.heap.size + 1, 1, none⟩) (v := .int .i64 ar) (by simp)) | (go_at_call 31; refine (code_Print nm ar _ (TR.b hq1) (by omega) (by omega) (by omega)).mono ?_; rw [HTX.out, HPE.out]; rintro e w2 ⟨rfl, hb2⟩; have hq2 := hq1.trans (hb2.mono hq1.size)) | (go_at_call 25; refine (plain_line_1 _ b a txt A2 c2 e2 tx (hbl.below hq2) (R2.below hb2) hEb (by omega) (by have := HEL.out; omega) a0 (by omega) p2 (by omega) _ rfl).mono ?_; rintro e w3 ⟨rfl, H3, hb3⟩))
        exact ⟨⟨k + 1, _, _, by go_num, by omega, HST.out _ (by rw [if_neg (show ¬ ((2 : Int) = 4) by decide), HLN.out]; have := HEL.out; rw [this] at H3; exact H3) (hlo.trans ((hq2.mono (by omega)).trans hb3)) (by omega) (by omega)⟩, by simp [intOf]; omega⟩
      | data bs hbb h1 h2 h0 h3 =>
        have z0' : wr.cell? ⟨g, k * 6, none⟩ = some (.int .u8 3) := z0
        have z5' : wr.cell? ⟨g, k * 6 + 5, none⟩ = some (.slice A1 bs.length c1) := z5
        have RA' : RdB wL A1 bs := RA
        have D0 : DtI wL b (txt ++ rowsL8 a bs) (a + bs.length) bs A1 c1 a txt (wr.alloc (.cells #[.int .u8 3, .string ⟨#[]⟩, .int .i64 0, .string ⟨#[]⟩, .int .u8 0, .slice A1 bs.length c1] 52)) :=
          have hV := (belowA (w := wr) (.cells #[.int .u8 3, .string ⟨#[]⟩, .int .i64 0, .string ⟨#[]⟩, .int .u8 0, .slice A1 bs.length c1] 52))
          ⟨rfl, rfl, (RA'.belowB hlo hA1).below hV, hA1, hbb, hc1, hbl.below hV, hlo.trans (hV.mono (by omega)), a0⟩
        have HLN : Hid (lineL (dataI bs) (if (dataI bs).kind = 4 then (dataI bs).arg else a) = rowsL8 a bs) := Lib.hid rfl
        have z1' : wr.cell? ⟨g, k * 6 + 1, none⟩ = some (.string ⟨#[]⟩) := z1
        have z2' : wr.cell? ⟨g, k * 6 + 2, none⟩ = some (.int .i64 0) := z2
        generalize hE : wr.alloc (.cells #[.int .u8 3, .string ⟨#[]⟩, .int .i64 0, .string ⟨#[]⟩, .int .u8 0, .slice A1 bs.length c1] 52) = W1 at *
        have HE := Lib.hid hE
        clear z0 z5 RA z1 z2 hE
        have hrw := rowsL8_le bs.length a bs (Nat.le_refl _)
        generalize rowsL8 a bs = rw8 at *
        go_wp2_with fail
        rw [HE.out]
        go_loopw [16] (fun s wq => ∃ (ys : List Int) (A' : Option Addr) (c' : Nat) (a' : Int) (txt' : List UInt8), s = .slice A' ys.length c' ∧ DtI wL b (txt ++ rw8) (a + bs.length) ys A' c' a' txt' wq) (fun s _ => vlen s)
        case atStart => exact ⟨bs, A1, c1, a, txt, rfl, D0⟩
        case round =>
          clear D0
          obtain ⟨ys, A', c', a', txt', rfl, D⟩ := hrel
          by_cases hne : ys = []
          · subst hne
            have e1 := D.t
            have e2 := D.s
            rw [rowsL8_nil, List.append_nil] at e1
            simp only [List.length_nil] at e2
            have DD := Lib.hid D
            have E1 := Lib.hid e1
            have E2 := Lib.hid e2
            clear D e1 e2
            go_wp2_with fail
            exact ⟨⟨k + 1, _, _, by go_num, by omega, HST.out _ (by rw [HLN.out, ← E1.out]; have := DD.out.bl; have e := E2.out; rw [show a' = a + bs.length by omega] at this; exact this) DD.out.lo (by omega) (by omega)⟩, by simp [intOf]; omega⟩
          · have hpos := List.length_pos_iff.2 hne
            have hcap := D.c
            have d0 := D.a0
            have ds := D.s
            have htl' := congrArg List.length D.t
            rw [List.length_append, List.length_append] at htl'
            have htx' : txt'.length ≤ 1099511627776 := by omega
            have DD := Lib.hid D
            obtain ⟨q, hq⟩ : ∃ q, q = min ys.length 8 := ⟨_, rfl⟩
            have hqi : min (ys.length : Int) 8 = q := by omega
            have q1 : q ≤ ys.length := by omega
            have q2 : q ≤ 8 := by omega
            have q3 : 1 ≤ q := by omega
            have q4 : q ≤ c' := by omega
            have HTK := Lib.hid (show (ys.take q).length = q by rw [List.length_take]; omega)
            have hys : (ys.drop q).length = ys.length - q := List.length_drop ..
            have HYS := Lib.hid hys
            have HQ := Lib.hid hq
            clear D hq hys htl'
            go_wp2_with (first | (go_at_call 25; refine (plain_line_0 _ b a' txt' A' c' (ys.take q) DD.out.bl (DD.out.R.take q) (DD.out.by_.take q) htx' (by rw [HTK.out]; omega) d0 (by omega) q HTK.out.symm).mono ?_; rw [HTK.out]; rintro e w3 ⟨rfl, H3, hb3⟩))
            exact ⟨⟨ys.drop q, cutA A' c' q, c' - q, a' + q, _, by rw [HYS.out]; rfl, DD.out.step hne HQ.out H3 hb3⟩, by simp [vlen]; omega⟩
      | at_ _ h0 h1 =>
        have z0' : wr.cell? ⟨g, k * 6, none⟩ = some (.int .u8 4) := z0
        have z2' : wr.cell? ⟨g, k * 6 + 2, none⟩ = some (.int .i64 b1) := z2
        have f1 := blk_frozen (i := 0) hbl.at_
        have hbc := blk_cell (i := 0) hbl.at_ rfl
        clear z0 z2
        go_wp2_with fail
        exact ⟨⟨k + 1, _, _, by go_num, by omega, HST.out _ (by rw [lineL_at, List.append_nil]; exact (hbl.put b1).below (belowA _)) (hlo.trans (((Below.refl _ wr).setCell (by simp) _).alloc (by simp; omega) _)) (by omega) (by omega)⟩, by simp [intOf]; omega⟩
    · obtain rfl : k = l.length := by omega
      have e := I.tot_
      rw [List.drop_length, linesL, List.append_nil] at e
      have hbl := I.bl
      rw [HB.out] at hbl
      have hlo := I.lo
      have hbz := hbl.lt
      have HE := Lib.hid e
      clear I e
      by_cases hbig : 65536 < txt.length
      · have h1 : (65536 : Int) < txt.length := by omega
        have hV : linesV l = (⟨#[]⟩, 2) := by unfold linesV; rw [← HE.out, if_pos hbig]
        have HV := Lib.hid hV
        clear hV hbig
        go_wp2_with (first | (go_at_call 32; refine (b_len b a txt _ hbl).mono ?_; rintro e w3 ⟨rfl, rfl⟩))
        go_ret2
        rw [HV.out]
        exact ⟨rfl, hfin _ (by rw [← HB.out]; exact hlo)⟩
      · have h1 : ¬ (65536 : Int) < txt.length := by omega
        have hV : linesV l = (⟨txt.toArray⟩, 0) := by unfold linesV; rw [← HE.out, if_neg hbig]
        have HV := Lib.hid hV
        clear hV hbig
        go_wp2_with (first | (go_at_call 32; refine (b_len b a txt _ hbl).mono ?_; rintro e w3 ⟨rfl, rfl⟩) | (go_at_call 33; refine (b_str b a txt _ hbl).mono ?_; rintro e w3 ⟨rfl, hb3⟩))
        go_ret2
        rw [HV.out]
        exact ⟨rfl, hfin _ (by have := hlo.trans (by rw [HB.out]; exact hb3); rw [← HB.out]; exact this)⟩
end Go.Proofs.YtofhdlkocgbcgaaGreatDoor
