/- The reference's Lines. -/
import Derived.Test.YtofhdlkocgbcgaaGreatDoorRLnA
import Derived.Test.YtofhdlkocgbcgaaGreatDoorRLst
import Derived.Test.YtofhdlkocgbcgaaGreatDoorPLnB
namespace Go.Proofs.YtofhdlkocgbcgaaGreatDoor
open Go Go.RowKit Pu
set_option linter.unusedVariables false
set_option linter.unusedSimpArgs false
set_option maxHeartbeats 1000000 in
set_option maxRecDepth 100000 in
theorem r15_Lines_bad (w : World) (A B C : Option Addr) (ca cb cc : Nat) (o : ObjP) (ok : ObjOK o) (R : RdO w A B C o) (hk : okO o = false) : Calls Tryz.prog 7 #[.agg #[.slice A o.blocks.length ca, .slice B o.marks.length cb, .slice C o.labels.length cc]] w fun e w' => e = .returned (.tuple #[.string ⟨#[]⟩, .int .i64 1]) ∧ Below w.heap.size w w' := by
  have R1 := R.below (belowA (w := w) (.cells #[.slice A o.blocks.length ca, .slice B o.marks.length cb, .slice C o.labels.length cc] 26))
  have HK := Lib.hid hk
  clear hk
  go_enter Tryz.func7, Tryz.ntmps7
  go_wp2_with (first | (go_at_call 6; refine (r15_List_bad _ _ _ _ _ _ _ o ok R1 HK.out).mono ?_; rintro e w1 ⟨rfl, hb1⟩))
  go_ret2
  exact ⟨rfl, below1 hb1⟩
/-- The reference's listing under way. -/
structure RLI (wL : World) (tot : List UInt8) (l : List ItemP) (i : Nat) (a : Int) (txt : List UInt8) (v : Value) (wr : World) : Prop where
  wf : ∃ c, WfL a (l.drop i) c
  tot_ : txt ++ linesL a (l.drop i) = tot
  ob : OB wL.heap.size wr v txt
  lo : Below wL.heap.size wL wr
  a0 : 0 ≤ a
  a1 : a ≤ 65536
  sm : txt.length ≤ 65536
theorem RLI.tail {wL wr : World} {tot : List UInt8} {l : List ItemP} {i : Nat} {a b : Int} {txt : List UInt8} {v : Value} {x : ItemP} (I : RLI wL tot l i a txt v wr) (hi : i < l.length) (hx : l[i] = x) (hw : WfI a x b) : (∃ c, WfL b (l.drop (i + 1)) c) ∧ (txt ++ lineL x (if x.kind = 4 then x.arg else a)) ++ linesL b (l.drop (i + 1)) = tot := by
  obtain ⟨c, hc⟩ := I.wf
  have ht := I.tot_
  rw [List.drop_eq_getElem_cons hi, hx] at hc ht
  obtain ⟨b', hb', hl⟩ := hc.inv
  have e1 := hw.next
  have e2 := hb'.next
  have : b = b' := e1.symm.trans e2
  subst this
  exact ⟨⟨c, hl⟩, by rw [linesL, e1] at ht; rw [List.append_assoc]; exact ht⟩
theorem strOfBytes (l : List UInt8) : strOfNums (l.map fun b => (b.toNat : Int)) = ⟨l.toArray⟩ := by
  unfold strOfNums
  rw [List.map_map]
  congr 1
  have : ((fun n : Int => UInt8.ofNat n.toNat) ∘ fun b : UInt8 => (b.toNat : Int)) = id := by funext b; simp
  rw [this, List.map_id]
theorem ob_conv {B : Nat} {w : World} {v : Value} {l : List UInt8} (h : OB B w v l) : (convert 39 9 v).run Tryz.prog w = .ok (.string ⟨l.toArray⟩) w := by
  have e : Lib.byteCells l = (l.map fun b => (b.toNat : Int)).map (Value.int .u8) := by unfold Lib.byteCells; rw [List.map_map]; rfl
  unfold OB at h
  rw [e] at h
  rw [own_conv h, strOfBytes]
theorem r15_line_at' (L : List UInt8) (hL : [] = L) (nm : ByteArray) (x a : Int) (A : Option Addr) (c : Nat) (w : World) : Calls Tryz.prog 19 #[.agg #[.int .u8 4, .string nm, .int .i64 x, .string ⟨#[]⟩, .int .u8 0, .slice A 0 c], .int .i64 a] w fun e w' => (∃ v, e = .returned v ∧ OB w.heap.size w' v L) ∧ Below w.heap.size w w' := by
  subst hL
  exact r15_line_at nm x a A c w
set_option maxHeartbeats 4000000 in
set_option maxRecDepth 100000 in
theorem r15_Lines_ok (w : World) (A B C : Option Addr) (ca cb cc : Nat) (o : ObjP) (ok : ObjOK o) (R : RdO w A B C o) (hk : okO o = true) : Calls Tryz.prog 7 #[.agg #[.slice A o.blocks.length ca, .slice B o.marks.length cb, .slice C o.labels.length cc]] w fun e w' => e = .returned (.tuple #[.string (linesV (listP o)).1, .int .i64 (linesV (listP o)).2]) ∧ Below w.heap.size w w' := by
  have R1 := R.below (belowA (w := w) (.cells #[.slice A o.blocks.length ca, .slice B o.marks.length cb, .slice C o.labels.length cc] 26))
  obtain ⟨h1, _, _⟩ := okO_parts hk
  have hll := listP_len o h1
  have hnl := ok.nl
  unfold big at hnl
  have hwf := listP_wf o hk (fun b hb => by obtain ⟨i, hi, rfl⟩ := List.mem_iff_getElem.1 hb; exact (ok.bs i hi).2.1)
  have HK := Lib.hid hk
  clear hk h1
  have PL := r15_List_ok _ A B C ca cb cc o ok R1 HK.out
  generalize listP o = l at *
  go_enter Tryz.func7, Tryz.ntmps7
  go_wp2_with (first | (go_at_call 6; refine PL.mono ?_; rintro e wL ⟨⟨v, rfl, hL⟩, hbL⟩; obtain ⟨A0, c0, _, rfl, _, _⟩ := hL.src))
  have hbw := below1 hbL
  have hfin : ∀ wz, Below wL.heap.size wL wz → Below w.heap.size w wz := fun wz h => hbw.trans (h.mono hbw.size)
  have I0 : RLI wL (linesL 0 l) l 0 0 [] (.slice none 0 0) wL := ⟨hwf, rfl, OB.nil _ _, Below.refl _ _, by omega, by omega, by simp⟩
  clear hbL R1 PL R ok HK hwf
  go_loopw [6, 7, 8] (fun v t i wr => ∃ (k : Nat) (a : Int) (txt : List UInt8) (A' : Option Addr) (c' : Nat), v = .slice A' txt.length c' ∧ t = .int .i64 a ∧ i = .int .i64 k ∧ k ≤ l.length ∧ RLI wL (linesL 0 l) l k a txt (.slice A' txt.length c') wr) (fun _ _ i _ => l.length - (intOf i).toNat)
  case atStart => exact ⟨0, 0, [], none, 0, rfl, rfl, rfl, Nat.zero_le _, I0⟩
  case round =>
    clear I0
    obtain ⟨k, a, txt, A', c', rfl, rfl, rfl, hk, I⟩ := hrel
    by_cases hlt : k < l.length
    · have hki : (k : Int) < l.length := by omega
      obtain ⟨g, cap, A1, c1, hv, hg, hcap, p0, p1, p2, q3, q4, p5, RA, hA1, hc1⟩ := hL.item k hlt
      injection hv with hv1 _ hv2
      subst hv1; subst hv2
      have RA1 := RA.below I.lo
      obtain ⟨cw, hcw⟩ := I.wf
      rw [List.drop_eq_getElem_cons hlt] at hcw
      obtain ⟨b1, hI1, _⟩ := hcw.inv
      obtain ⟨hn1, hn2⟩ := I.tail hlt rfl hI1
      have hll2 := hI1.line_len (if l[k].kind = 4 then l[k].arg else a)
      have hob := I.ob
      have a0 := I.a0
      have a1 := I.a1
      have hlo := I.lo
      have hsm := I.sm
      have hz := hlo.size
      have HN2 := Lib.hid hn2
      clear hn2 hcw I RA
      generalize l[k] = x at *
      cases hI1 with
      | lbl lb hsz =>
        have q0 : wL.cell? ⟨g, k * 6, none⟩ = some (.int .u8 1) := p0
        have q1 : wL.cell? ⟨g, k * 6 + 1, none⟩ = some (.string lb.name) := p1
        have q2 : wL.cell? ⟨g, k * 6 + 2, none⟩ = some (.int .i64 0) := p2
        have q5 : wL.cell? ⟨g, k * 6 + 5, none⟩ = some (.slice A1 0 c1) := p5
        have hL1 : (lb.name.data.toList ++ [58, 10]).length ≤ 11000 := hll2
        have HN3 : Hid (txt ++ (lb.name.data.toList ++ [58, 10]) ++ linesL a (l.drop (k + 1)) = linesL 0 l) := HN2
        clear p0 p1 p2 p5 hll2 HN2
        have z0 := cellB hlo q0; have z1 := cellB hlo q1; have z2 := cellB hlo q2; have z3 := cellB hlo q3; have z4 := cellB hlo q4; have z5 := cellB hlo q5
        generalize hLN : lb.name.data.toList ++ [58, 10] = L at *
        have HLN := Lib.hid hLN
        clear hLN
        by_cases hbig : 65536 < txt.length + L.length
        · have hbi : (65536 : Int) < txt.length + L.length := by omega
          have hV : linesV l = (⟨#[]⟩, 2) := by unfold linesV; rw [if_pos (by rw [← HN3.out, List.length_append, List.length_append]; omega)]
          have HV := Lib.hid hV
          clear hV
          go_wp2_with (first | (go_at_call 19; refine (r15_line_lbl lb.name A1 c1 a hsz _).mono ?_; rw [HLN.out]; rintro e w2 ⟨⟨v2, rfl, o2⟩, hb2⟩; obtain ⟨A2, c2, rfl, s2⟩ := o2.form) | (at_builtin; refine ob_src rfl (.tmp 43) (.tmp 44) rfl wL.heap.size _ _ txt rfl (hob.below hb2) A2 _ c2 L rfl s2 rfl (by omega) (by have := hb2.size; omega) ?_; intro v3 w3 o3 b3 zz3; obtain ⟨A3, c3, rfl, _⟩ := o3.form' (txt.length + L.length) (List.length_append); have hq3 : Below wL.heap.size wL w3 := hlo.trans ((hb2.mono hz).trans b3); have y0 := cellB hq3 q0; have y1 := cellB hq3 q1; have y2 := cellB hq3 q2; have y3 := cellB hq3 q3; have y4 := cellB hq3 q4; have y5 := cellB hq3 q5) | (go_at_call 20; refine (r13_Size_lbl lb.name A1 c1 _).mono ?_; rintro e w4 ⟨⟨er, rfl⟩, hb4⟩))
          go_ret2
          rw [HV.out]
          exact ⟨rfl, hfin _ (hq3.trans (hb4.mono hq3.size))⟩
        · have hbi : ¬ (65536 : Int) < txt.length + L.length := by omega
          go_wp2_with (first | (go_at_call 19; refine (r15_line_lbl lb.name A1 c1 a hsz _).mono ?_; rw [HLN.out]; rintro e w2 ⟨⟨v2, rfl, o2⟩, hb2⟩; obtain ⟨A2, c2, rfl, s2⟩ := o2.form) | (at_builtin; refine ob_src rfl (.tmp 43) (.tmp 44) rfl wL.heap.size _ _ txt rfl (hob.below hb2) A2 _ c2 L rfl s2 rfl (by omega) (by have := hb2.size; omega) ?_; intro v3 w3 o3 b3 zz3; obtain ⟨A3, c3, rfl, _⟩ := o3.form' (txt.length + L.length) (List.length_append); have hq3 : Below wL.heap.size wL w3 := hlo.trans ((hb2.mono hz).trans b3); have y0 := cellB hq3 q0; have y1 := cellB hq3 q1; have y2 := cellB hq3 q2; have y3 := cellB hq3 q3; have y4 := cellB hq3 q4; have y5 := cellB hq3 q5) | (go_at_call 20; refine (r13_Size_lbl lb.name A1 c1 _).mono ?_; rintro e w4 ⟨⟨er, rfl⟩, hb4⟩))
          exact ⟨⟨k + 1, a, txt ++ L, A3, c3, by rw [List.length_append], by go_num, by go_num, by omega, ⟨hn1, HN3.out, by rw [List.length_append]; exact o3.below hb4, hq3.trans (hb4.mono hq3.size), a0, a1, by rw [List.length_append]; omega⟩⟩, by simp [intOf]; omega⟩
      | code bs hbb hne hok h0 h1 =>
        have hd := dec_ok hbb hok
        have hci : codeI bs = ⟨2, (decI bs).1, (decI bs).2.1, []⟩ := rfl
        rw [hci] at hll2 HN2 p0 p1 p2
        generalize decN bs = n at *
        generalize (decI bs).1 = nm at *
        generalize (decI bs).2.1 = ar at *
        clear hci hok
        have q0 : wL.cell? ⟨g, k * 6, none⟩ = some (.int .u8 2) := p0
        have q1 : wL.cell? ⟨g, k * 6 + 1, none⟩ = some (.string nm) := p1
        have q2 : wL.cell? ⟨g, k * 6 + 2, none⟩ = some (.int .i64 ar) := p2
        have q5 : wL.cell? ⟨g, k * 6 + 5, none⟩ = some (.slice A1 0 c1) := p5
        have hL1 : (padL (digL a (encI nm ar).2) ++ (printI nm ar).1.data.toList ++ [10]).length ≤ 11000 := hll2
        have HN3 : Hid (txt ++ (padL (digL a (encI nm ar).2) ++ (printI nm ar).1.data.toList ++ [10]) ++ linesL (a + n) (l.drop (k + 1)) = linesL 0 l) := HN2
        clear p0 p1 p2 p5 hll2 HN2
        have z0 := cellB hlo q0; have z1 := cellB hlo q1; have z2 := cellB hlo q2; have z3 := cellB hlo q3; have z4 := cellB hlo q4; have z5 := cellB hlo q5
        generalize hLN : padL (digL a (encI nm ar).2) ++ (printI nm ar).1.data.toList ++ [10] = L at *
        have HLN := Lib.hid hLN
        clear hLN
        by_cases hbig : 65536 < txt.length + L.length
        · have hbi : (65536 : Int) < txt.length + L.length := by omega
          have hV : linesV l = (⟨#[]⟩, 2) := by unfold linesV; rw [if_pos (by rw [← HN3.out, List.length_append, List.length_append]; omega)]
          have HV := Lib.hid hV
          clear hV
          go_wp2_with (first | (go_at_call 19; refine (r15_line_code nm ar a n hd A1 c1 a0 h1 _).mono ?_; rw [HLN.out]; rintro e w2 ⟨⟨v2, rfl, o2⟩, hb2⟩; obtain ⟨A2, c2, rfl, s2⟩ := o2.form) | (at_builtin; refine ob_src rfl (.tmp 43) (.tmp 44) rfl wL.heap.size _ _ txt rfl (hob.below hb2) A2 _ c2 L rfl s2 rfl (by omega) (by have := hb2.size; omega) ?_; intro v3 w3 o3 b3 zz3; obtain ⟨A3, c3, rfl, _⟩ := o3.form' (txt.length + L.length) (List.length_append); have hq3 : Below wL.heap.size wL w3 := hlo.trans ((hb2.mono hz).trans b3); have y0 := cellB hq3 q0; have y1 := cellB hq3 q1; have y2 := cellB hq3 q2; have y3 := cellB hq3 q3; have y4 := cellB hq3 q4; have y5 := cellB hq3 q5) | (go_at_call 20; refine (r13_Size_code nm ar n hd A1 c1 _).mono ?_; rintro e w4 ⟨rfl, hb4⟩))
          go_ret2
          rw [HV.out]
          exact ⟨rfl, hfin _ (hq3.trans (hb4.mono hq3.size))⟩
        · have hbi : ¬ (65536 : Int) < txt.length + L.length := by omega
          go_wp2_with (first | (go_at_call 19; refine (r15_line_code nm ar a n hd A1 c1 a0 h1 _).mono ?_; rw [HLN.out]; rintro e w2 ⟨⟨v2, rfl, o2⟩, hb2⟩; obtain ⟨A2, c2, rfl, s2⟩ := o2.form) | (at_builtin; refine ob_src rfl (.tmp 43) (.tmp 44) rfl wL.heap.size _ _ txt rfl (hob.below hb2) A2 _ c2 L rfl s2 rfl (by omega) (by have := hb2.size; omega) ?_; intro v3 w3 o3 b3 zz3; obtain ⟨A3, c3, rfl, _⟩ := o3.form' (txt.length + L.length) (List.length_append); have hq3 : Below wL.heap.size wL w3 := hlo.trans ((hb2.mono hz).trans b3); have y0 := cellB hq3 q0; have y1 := cellB hq3 q1; have y2 := cellB hq3 q2; have y3 := cellB hq3 q3; have y4 := cellB hq3 q4; have y5 := cellB hq3 q5) | (go_at_call 20; refine (r13_Size_code nm ar n hd A1 c1 _).mono ?_; rintro e w4 ⟨rfl, hb4⟩))
          exact ⟨⟨k + 1, (a + n), txt ++ L, A3, c3, by rw [List.length_append], rfl, by go_num, by omega, ⟨hn1, HN3.out, by rw [List.length_append]; exact o3.below hb4, hq3.trans (hb4.mono hq3.size), by omega, by omega, by rw [List.length_append]; omega⟩⟩, by simp [intOf]; omega⟩
      | data bs hbb h1 h2 h0 h3 =>
        have RA2 : RdB wr A1 bs := RA1
        clear RA1
        have q0 : wL.cell? ⟨g, k * 6, none⟩ = some (.int .u8 3) := p0
        have q1 : wL.cell? ⟨g, k * 6 + 1, none⟩ = some (.string ⟨#[]⟩) := p1
        have q2 : wL.cell? ⟨g, k * 6 + 2, none⟩ = some (.int .i64 0) := p2
        have q5 : wL.cell? ⟨g, k * 6 + 5, none⟩ = some (.slice A1 bs.length c1) := p5
        have hL1 : (rowsL8 a bs).length ≤ 11000 := hll2
        have HN3 : Hid (txt ++ (rowsL8 a bs) ++ linesL (a + bs.length) (l.drop (k + 1)) = linesL 0 l) := HN2
        clear p0 p1 p2 p5 hll2 HN2
        have z0 := cellB hlo q0; have z1 := cellB hlo q1; have z2 := cellB hlo q2; have z3 := cellB hlo q3; have z4 := cellB hlo q4; have z5 := cellB hlo q5
        generalize hLN : rowsL8 a bs = L at *
        have HLN := Lib.hid hLN
        clear hLN
        by_cases hbig : 65536 < txt.length + L.length
        · have hbi : (65536 : Int) < txt.length + L.length := by omega
          have hV : linesV l = (⟨#[]⟩, 2) := by unfold linesV; rw [if_pos (by rw [← HN3.out, List.length_append, List.length_append]; omega)]
          have HV := Lib.hid hV
          clear hV
          go_wp2_with (first | (go_at_call 19; refine (r15_line_data bs a A1 c1 _ RA2 hbb h2 hc1 a0 a1 _ rfl).mono ?_; rw [HLN.out]; rintro e w2 ⟨⟨v2, rfl, o2⟩, hb2⟩; obtain ⟨A2, c2, rfl, s2⟩ := o2.form) | (at_builtin; refine ob_src rfl (.tmp 43) (.tmp 44) rfl wL.heap.size _ _ txt rfl (hob.below hb2) A2 _ c2 L rfl s2 rfl (by omega) (by have := hb2.size; omega) ?_; intro v3 w3 o3 b3 zz3; obtain ⟨A3, c3, rfl, _⟩ := o3.form' (txt.length + L.length) (List.length_append); have hq3 : Below wL.heap.size wL w3 := hlo.trans ((hb2.mono hz).trans b3); have y0 := cellB hq3 q0; have y1 := cellB hq3 q1; have y2 := cellB hq3 q2; have y3 := cellB hq3 q3; have y4 := cellB hq3 q4; have y5 := cellB hq3 q5) | (go_at_call 20; refine (r13_Size_data A1 _ c1 h1 h2 _).mono ?_; rintro e w4 ⟨rfl, hb4⟩))
          go_ret2
          rw [HV.out]
          exact ⟨rfl, hfin _ (hq3.trans (hb4.mono hq3.size))⟩
        · have hbi : ¬ (65536 : Int) < txt.length + L.length := by omega
          go_wp2_with (first | (go_at_call 19; refine (r15_line_data bs a A1 c1 _ RA2 hbb h2 hc1 a0 a1 _ rfl).mono ?_; rw [HLN.out]; rintro e w2 ⟨⟨v2, rfl, o2⟩, hb2⟩; obtain ⟨A2, c2, rfl, s2⟩ := o2.form) | (at_builtin; refine ob_src rfl (.tmp 43) (.tmp 44) rfl wL.heap.size _ _ txt rfl (hob.below hb2) A2 _ c2 L rfl s2 rfl (by omega) (by have := hb2.size; omega) ?_; intro v3 w3 o3 b3 zz3; obtain ⟨A3, c3, rfl, _⟩ := o3.form' (txt.length + L.length) (List.length_append); have hq3 : Below wL.heap.size wL w3 := hlo.trans ((hb2.mono hz).trans b3); have y0 := cellB hq3 q0; have y1 := cellB hq3 q1; have y2 := cellB hq3 q2; have y3 := cellB hq3 q3; have y4 := cellB hq3 q4; have y5 := cellB hq3 q5) | (go_at_call 20; refine (r13_Size_data A1 _ c1 h1 h2 _).mono ?_; rintro e w4 ⟨rfl, hb4⟩))
          exact ⟨⟨k + 1, (a + bs.length), txt ++ L, A3, c3, by rw [List.length_append], rfl, by go_num, by omega, ⟨hn1, HN3.out, by rw [List.length_append]; exact o3.below hb4, hq3.trans (hb4.mono hq3.size), by omega, by omega, by rw [List.length_append]; omega⟩⟩, by simp [intOf]; omega⟩
      | at_ _ h0 h1 =>
        have q0 : wL.cell? ⟨g, k * 6, none⟩ = some (.int .u8 4) := p0
        have q1 : wL.cell? ⟨g, k * 6 + 1, none⟩ = some (.string ⟨#[]⟩) := p1
        have q2 : wL.cell? ⟨g, k * 6 + 2, none⟩ = some (.int .i64 b1) := p2
        have q5 : wL.cell? ⟨g, k * 6 + 5, none⟩ = some (.slice A1 0 c1) := p5
        have hL1 : (([] : List UInt8)).length ≤ 11000 := hll2
        have HN3 : Hid (txt ++ (([] : List UInt8)) ++ linesL b1 (l.drop (k + 1)) = linesL 0 l) := HN2
        clear p0 p1 p2 p5 hll2 HN2
        have z0 := cellB hlo q0; have z1 := cellB hlo q1; have z2 := cellB hlo q2; have z3 := cellB hlo q3; have z4 := cellB hlo q4; have z5 := cellB hlo q5
        obtain ⟨L, hLN⟩ : ∃ L : List UInt8, [] = L := ⟨_, rfl⟩
        have HLN := Lib.hid hLN
        have HN3 : Hid (txt ++ L ++ linesL b1 (l.drop (k + 1)) = linesL 0 l) := by rw [← hLN]; exact HN3
        have hL1 : L.length ≤ 11000 := by rw [← hLN]; exact hL1
        clear hLN
        by_cases hbig : 65536 < txt.length + L.length
        · have hbi : (65536 : Int) < txt.length + L.length := by omega
          have hV : linesV l = (⟨#[]⟩, 2) := by unfold linesV; rw [if_pos (by rw [← HN3.out, List.length_append, List.length_append]; omega)]
          have HV := Lib.hid hV
          clear hV
          go_wp2_with (first | (go_at_call 19; refine (r15_line_at' L HLN.out ⟨#[]⟩ b1 b1 A1 c1 _).mono ?_; rintro e w2 ⟨⟨v2, rfl, o2⟩, hb2⟩; obtain ⟨A2, c2, rfl, s2⟩ := o2.form) | (at_builtin; refine ob_src rfl (.tmp 43) (.tmp 44) rfl wL.heap.size _ _ txt rfl (hob.below hb2) A2 _ c2 L rfl s2 rfl (by omega) (by have := hb2.size; omega) ?_; intro v3 w3 o3 b3 zz3; obtain ⟨A3, c3, rfl, _⟩ := o3.form' (txt.length + L.length) (List.length_append); have hq3 : Below wL.heap.size wL w3 := hlo.trans ((hb2.mono hz).trans b3); have y0 := cellB hq3 q0; have y1 := cellB hq3 q1; have y2 := cellB hq3 q2; have y3 := cellB hq3 q3; have y4 := cellB hq3 q4; have y5 := cellB hq3 q5) | (go_at_call 20; refine (r13_Size_at b1 A1 c1 h0 h1 _).mono ?_; rintro e w4 ⟨rfl, hb4⟩))
          go_ret2
          rw [HV.out]
          exact ⟨rfl, hfin _ (hq3.trans (hb4.mono hq3.size))⟩
        · have hbi : ¬ (65536 : Int) < txt.length + L.length := by omega
          go_wp2_with (first | (go_at_call 19; refine (r15_line_at' L HLN.out ⟨#[]⟩ b1 b1 A1 c1 _).mono ?_; rintro e w2 ⟨⟨v2, rfl, o2⟩, hb2⟩; obtain ⟨A2, c2, rfl, s2⟩ := o2.form) | (at_builtin; refine ob_src rfl (.tmp 43) (.tmp 44) rfl wL.heap.size _ _ txt rfl (hob.below hb2) A2 _ c2 L rfl s2 rfl (by omega) (by have := hb2.size; omega) ?_; intro v3 w3 o3 b3 zz3; obtain ⟨A3, c3, rfl, _⟩ := o3.form' (txt.length + L.length) (List.length_append); have hq3 : Below wL.heap.size wL w3 := hlo.trans ((hb2.mono hz).trans b3); have y0 := cellB hq3 q0; have y1 := cellB hq3 q1; have y2 := cellB hq3 q2; have y3 := cellB hq3 q3; have y4 := cellB hq3 q4; have y5 := cellB hq3 q5) | (go_at_call 20; refine (r13_Size_at b1 A1 c1 h0 h1 _).mono ?_; rintro e w4 ⟨rfl, hb4⟩))
          exact ⟨⟨k + 1, b1, txt ++ L, A3, c3, by rw [List.length_append], by go_num, by go_num, by omega, ⟨hn1, HN3.out, by rw [List.length_append]; exact o3.below hb4, hq3.trans (hb4.mono hq3.size), h0, by omega, by rw [List.length_append]; omega⟩⟩, by simp [intOf]; omega⟩
    · obtain rfl : k = l.length := by omega
      have e := I.tot_
      rw [List.drop_length, linesL, List.append_nil] at e
      have hsm := I.sm
      have hV : linesV l = (⟨txt.toArray⟩, 0) := by unfold linesV; rw [← e, if_neg (by omega)]
      have hcv := ob_conv I.ob
      have hlo := I.lo
      have HV := Lib.hid hV
      clear hV e I
      go_wp2_with fail
      go_ret2
      rw [HV.out]
      exact ⟨rfl, hfin _ hlo⟩
end Go.Proofs.YtofhdlkocgbcgaaGreatDoor
