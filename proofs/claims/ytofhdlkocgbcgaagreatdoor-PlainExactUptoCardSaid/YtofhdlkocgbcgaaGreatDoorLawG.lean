/- law15: PlainExact's walk. -/
import Derived.Test.YtofhdlkocgbcgaaGreatDoorLawD
import Derived.Test.YtofhdlkocgbcgaaGreatDoorLawE
import Derived.Test.YtofhdlkocgbcgaaGreatDoorLawF
namespace Go.Proofs.YtofhdlkocgbcgaaGreatDoor
open Go Go.RowKit Pu
set_option linter.unusedVariables false
set_option linter.unusedSimpArgs false
def lstO (o : ObjP) : List ItemP := if okO o then listP o else []
def linO (o : ObjP) : ByteArray × Int := if okO o then linesV (listP o) else (⟨#[]⟩, 1)
theorem r15_List (w : World) (A B C : Option Addr) (ca cb cc : Nat) (o : ObjP) (ok : ObjOK o) (R : RdO w A B C o) : Calls Tryz.prog 6 #[.agg #[.slice A o.blocks.length ca, .slice B o.marks.length cb, .slice C o.labels.length cc]] w fun e w' => (∃ v, e = .returned (.tuple #[v, .int .i64 (okN o)]) ∧ ItL w' w.heap.size v (lstO o)) ∧ Below w.heap.size w w' := by
  unfold okN lstO
  cases hk : okO o with
  | true => exact r15_List_ok w A B C ca cb cc o ok R hk
  | false => exact (r15_List_bad w A B C ca cb cc o ok R hk).mono fun e w' ⟨h1, h2⟩ => ⟨⟨_, h1, ItL.nil _ _⟩, h2⟩
theorem r15_Lines (w : World) (A B C : Option Addr) (ca cb cc : Nat) (o : ObjP) (ok : ObjOK o) (R : RdO w A B C o) : Calls Tryz.prog 7 #[.agg #[.slice A o.blocks.length ca, .slice B o.marks.length cb, .slice C o.labels.length cc]] w fun e w' => e = .returned (.tuple #[.string (linO o).1, .int .i64 (linO o).2]) ∧ Below w.heap.size w w' := by
  unfold linO
  cases hk : okO o with
  | true => exact r15_Lines_ok w A B C ca cb cc o ok R hk
  | false => exact r15_Lines_bad w A B C ca cb cc o ok R hk
theorem plain_List (w : World) (T : Tabs w) (A B C : Option Addr) (ca cb cc : Nat) (o : ObjP) (ok : ObjOK o) (R : RdO w A B C o) : Calls Tryz.prog 8 #[.agg #[.slice A o.blocks.length ca, .slice B o.marks.length cb, .slice C o.labels.length cc]] w fun e w' => (∃ v, e = .returned (.tuple #[v, .int .i64 (okN o)]) ∧ ItL w' w.heap.size v (lstO o)) ∧ Below w.heap.size w w' := by
  unfold okN lstO
  cases hk : okO o with
  | true => exact plain_List_ok w T A B C ca cb cc o ok R hk
  | false => exact (plain_List_bad w T A B C ca cb cc o ok R hk).mono fun e w' ⟨h1, h2⟩ => ⟨⟨_, h1, ItL.nil _ _⟩, h2⟩
theorem plain_Lines (w : World) (T : Tabs w) (A B C : Option Addr) (ca cb cc : Nat) (o : ObjP) (ok : ObjOK o) (R : RdO w A B C o) : Calls Tryz.prog 9 #[.agg #[.slice A o.blocks.length ca, .slice B o.marks.length cb, .slice C o.labels.length cc]] w fun e w' => e = .returned (.tuple #[.string (linO o).1, .int .i64 (linO o).2]) ∧ Below w.heap.size w w' := by
  unfold linO
  cases hk : okO o with
  | true => exact plain_Lines_ok w T A B C ca cb cc o ok R hk
  | false => exact plain_Lines_bad w T A B C ca cb cc o ok R hk
theorem RoomO.rd {w : World} {A : Option Addr} {l : List (BlockP × Nat)} {bs : List BlockP} (h : RoomO w A l) (hm : l.map Prod.fst = bs) : RdBl w A bs := fun h0 => by
  subst hm
  rw [List.length_map] at h0
  obtain ⟨g, rfl, hr⟩ := h h0
  refine ⟨g, 0, rfl, fun i hi => ?_⟩
  rw [List.length_map] at hi
  obtain ⟨c0, c1, c2⟩ := hr i hi
  simp only [List.getElem_map, Nat.zero_add]
  refine ⟨c0, _, _, c1, fun hp => ⟨l[i].2, 0, rfl, blk_lt c2, fun j hj => ?_⟩, by omega⟩
  rw [Nat.zero_add]
  refine blk_cell c2 ?_
  unfold roomC
  rw [List.getElem?_toArray, List.getElem?_append_left (by simpa using hj), List.getElem?_map, List.getElem?_eq_getElem hj, List.getD_eq_getElem?_getD, List.getElem?_eq_getElem hj]
  rfl
theorem RoomO.below {w w' : World} {A : Option Addr} {l : List (BlockP × Nat)} (h : RoomO w A l) (hb : Below w.heap.size w w') : RoomO w' A l := fun h0 => by
  obtain ⟨g, e, hr⟩ := h h0
  exact ⟨g, e, fun i hi => by obtain ⟨c0, c1, c2⟩ := hr i hi; exact ⟨cellB hb c0, cellB hb c1, heapB' hb c2⟩⟩
theorem wfl_items {c : Int} : ∀ {l : List ItemP} {a : Int}, WfL a l c → ∀ i (h : i < l.length), Bytes l[i].bytes ∧ l[i].bytes.length ≤ 1048576 := by
  intro l
  induction l with
  | nil => intro a _ i h; simp at h
  | cons x l ih =>
    intro a h i hi
    obtain ⟨b, hx, ht⟩ := h.inv
    cases i with
    | zero =>
      show Bytes x.bytes ∧ x.bytes.length ≤ 1048576
      cases hx with
      | lbl lb h => exact ⟨by intro y hy; simp [lblI] at hy, by simp [lblI]⟩
      | code bs hb hne hok h0 h1 => exact ⟨by intro y hy; simp [codeI] at hy, by simp [codeI]⟩
      | data bs hb h1 h2 h0 h3 => exact ⟨hb, by simp [dataI]; omega⟩
      | at_ _ h0 h1 => exact ⟨by intro y hy; simp [atI] at hy, by simp [atI]⟩
    | succ i => exact ih ht i (by simpa using hi)
theorem lstO_facts (o : ObjP) (ok : ObjOK o) : (lstO o).length ≤ 16777216 ∧ ∀ i (h : i < (lstO o).length), Bytes (lstO o)[i].bytes ∧ (lstO o)[i].bytes.length ≤ 1048576 := by
  unfold lstO
  cases hk : okO o with
  | true =>
    obtain ⟨h1, _, _⟩ := okO_parts hk
    have hl := listP_len o h1
    have nl := ok.nl
    unfold big at nl
    obtain ⟨c, hc⟩ := listP_wf o hk (fun b hb => by obtain ⟨i, hi, rfl⟩ := List.mem_iff_getElem.1 hb; exact (ok.bs i hi).2.1)
    simp only [if_true]
    exact ⟨by omega, wfl_items hc⟩
  | false => exact ⟨by simp, fun i h => by simp at h⟩
theorem ItL.lo {w w' : World} {B : Nat} {v : Value} {l : List ItemP} (h : ItL w B v l) (k : Below w.heap.size w w') : ItL w' B v l := h.below k
set_option maxHeartbeats 8000000 in
set_option maxRecDepth 100000 in
theorem law_PlainExact (w : World) (T : Tabs w) (A B C : Option Addr) (ca cb cc : Nat) (o : ObjP) (ok : ObjOK o) (R : RdO w A B C o) (hs : sumL o.blocks ≤ 1048576) : Calls Tryz.prog 3 #[.agg #[.slice A o.blocks.length ca, .slice B o.marks.length cb, .slice C o.labels.length cc]] w fun e w' => e = .returned (.bool true) ∧ Below w.heap.size w w' := by
  obtain ⟨hll, hlb⟩ := lstO_facts o ok
  have nb := ok.nb
  unfold big at nb
  have hV0 := belowA (w := w) (.cells #[.slice A o.blocks.length ca, .slice B o.marks.length cb, .slice C o.labels.length cc] 26)
  have k0 := heap_alloc_new w (.cells #[.slice A o.blocks.length ca, .slice B o.marks.length cb, .slice C o.labels.length cc] 26)
  have R0 := R.below hV0
  have T0 := T.b hV0
  go_enter Tryz.func3, Tryz.ntmps3
  go_upto_region 4 with (first | (go_at_call 4; refine (law_large _ _ _ _ _ _ _ o ok R0 hs).mono ?_; rintro e w1 ⟨rfl, b1⟩; have x0 := blk_cell (i := 0) (heapB' b1 k0) rfl; have x1 := blk_cell (i := 1) (heapB' b1 k0) rfl; have x2 := blk_cell (i := 2) (heapB' b1 k0) rfl) | (go_at_call 5; refine (law_own _ _ _ _ _ _ _ o ok (R0.below b1)).mono ?_; rintro e w2 ⟨A', B', C', ca', cb', cc', bl, rfl, hbl, hro, hmk, hlb', b2⟩; clear x0 x1 x2))
  have b02 : Below w.heap.size w w2 := hV0.trans ((b1.trans (b2.mono b1.size)).mono hV0.size)
  have hA2 := belowA (w := w2) (.cells #[.slice A' o.blocks.length ca', .slice B' o.marks.length cb', .slice C' o.labels.length cc'] 26)
  have k2 := heap_alloc_new w2 (.cells #[.slice A' o.blocks.length ca', .slice B' o.marks.length cb', .slice C' o.labels.length cc'] 26)
  have k02 := heapB' hA2 (heapB' b2 (heapB' b1 k0))
  have b03 : Below w.heap.size w (w2.alloc (.cells #[.slice A' o.blocks.length ca', .slice B' o.marks.length cb', .slice C' o.labels.length cc'] 26)) := b02.trans (hA2.mono b02.size)
  have RX : RdO w2 A' B' C' o := ⟨hro.rd hbl, hmk, hlb'⟩
  have RX3 := RX.below hA2
  have hro3 := hro.below hA2
  have R3 := R.below b03
  have T3 := T.b b03
  generalize w2.alloc (.cells #[.slice A' o.blocks.length ca', .slice B' o.marks.length cb', .slice C' o.labels.length cc'] 26) = W3 at *
  clear b1 b2 b02 hA2 k0 R0 T0 hV0 RX hro hmk hlb' T R
  generalize hgl : lstO o = l at *
  generalize hgn : okN o = n at *
  generalize hgx : linO o = lx at *
  obtain ⟨tx, er⟩ := lx
  have HL := Lib.hid hgl
  have HN := Lib.hid hgn
  have HX := Lib.hid hgx
  have HBL := Lib.hid hbl
  clear hgl hgn hgx hbl
  generalize w2.heap.size = q at *
  have oc : ∀ (wz : World), Below W3.heap.size W3 wz → wz.cell? ⟨w.heap.size, 0, none⟩ = some (.slice A o.blocks.length ca) ∧ wz.cell? ⟨w.heap.size, 1, none⟩ = some (.slice B o.marks.length cb) ∧ wz.cell? ⟨w.heap.size, 2, none⟩ = some (.slice C o.labels.length cc) ∧ wz.cell? ⟨q, 0, none⟩ = some (.slice A' o.blocks.length ca') ∧ wz.cell? ⟨q, 1, none⟩ = some (.slice B' o.marks.length cb') ∧ wz.cell? ⟨q, 2, none⟩ = some (.slice C' o.labels.length cc') := fun wz h => ⟨blk_cell (heapB' h k02) rfl, blk_cell (heapB' h k02) rfl, blk_cell (heapB' h k02) rfl, blk_cell (heapB' h k2) rfl, blk_cell (heapB' h k2) rfl, blk_cell (heapB' h k2) rfl⟩
  have OC := Lib.hid oc
  clear oc
  obtain ⟨x30, x31, x32, x33, x34, x35⟩ := OC.out _ (Below.refl _ _)
  go_upto_region 5 with (first | (go_at_call 6; refine (r15_List _ _ _ _ _ _ _ o ok R3).mono ?_; rw [HL.out, HN.out]; rintro e w4 ⟨⟨v4, rfl, i4⟩, b4⟩; obtain ⟨x40, x41, x42, x43, x44, x45⟩ := OC.out _ b4))
  go_upto_region 6 with (first | (go_at_call 7; refine (r15_Lines _ _ _ _ _ _ _ o ok (R3.below b4)).mono ?_; rw [HX.out]; rintro e w5 ⟨rfl, b5⟩; have q5 := b4.trans (b5.mono b4.size); obtain ⟨x50, x51, x52, x53, x54, x55⟩ := OC.out _ q5))
  go_upto_region 7 with (first | (go_at_call 8; refine (plain_List _ (T3.b q5) _ _ _ _ _ _ o ok (RX3.below q5)).mono ?_; rw [HL.out, HN.out]; rintro e w6 ⟨⟨v6, rfl, i6⟩, b6⟩; have q6 := q5.trans (b6.mono q5.size); obtain ⟨x60, x61, x62, x63, x64, x65⟩ := OC.out _ q6))
  go_upto_region 8 with (first | (go_at_call 8; refine (plain_List _ (T3.b q6) _ _ _ _ _ _ o ok (RX3.below q6)).mono ?_; rw [HL.out, HN.out]; rintro e w7 ⟨⟨v7, rfl, i7⟩, b7⟩; have q7 := q6.trans (b7.mono q6.size); obtain ⟨x70, x71, x72, x73, x74, x75⟩ := OC.out _ q7))
  go_upto_region 9 with (first | (go_at_call 9; refine (plain_Lines _ (T3.b q7) _ _ _ _ _ _ o ok (RX3.below q7)).mono ?_; rw [HX.out]; rintro e w8 ⟨rfl, b8⟩; have q8 := q7.trans (b8.mono q7.size); obtain ⟨x80, x81, x82, x83, x84, x85⟩ := OC.out _ q8))
  clear x30 x31 x32 x33 x34 x35 x40 x41 x42 x43 x44 x45 x50 x51 x52 x53 x54 x55 x60 x61 x62 x63 x64 x65 x70 x71 x72 x73 x74 x75
  have i4' := i4.below (b5.trans (b6.trans ((b7.trans (b8.mono b7.size)).mono b6.size) |>.mono b5.size))
  have e1 : (n != n) = false := by simp
  have e2 : (er != er) = false := by simp
  have e3 : (tx.toList == tx.toList) = true := by simp
  have i6' := i6.below ((b7.trans (b8.mono b7.size)))
  have i7' := i7.below b8
  have q68 : Below w6.heap.size w6 w8 := b7.trans (b8.mono b7.size)
  go_wp2_with fail
  refine (law_alike _ _ _ v6 v4 l i6' i4' hll hlb).mono ?_
  rintro e w9 ⟨rfl, b9⟩
  have i7a := i7'.below b9
  have i4a := i4'.below b9
  have q9 := q8.trans (b9.mono q8.size)
  go_wp2_with fail
  refine (law_alike _ _ _ v7 v4 l i7a i4a hll hlb).mono ?_
  rintro e w10 ⟨rfl, b10⟩
  have q10 := q9.trans (b10.mono q9.size)
  obtain ⟨x100, x101, x102, x103, x104, x105⟩ := OC.out _ q10
  go_wp2_with fail
  refine (law_equal _ _ _ _ _ _ _ _ _ _ _ _ _ o ok (RX3.below q10) (R3.below q10)).mono ?_
  rintro e w11 ⟨rfl, b11⟩
  have q11 := q10.trans (b11.mono q10.size)
  have q6b : Below w6.heap.size w6 w11 := q68.trans ((b9.trans ((b10.trans (b11.mono b10.size)).mono b9.size)).mono q68.size)
  go_wp2_with fail
  refine (law_wipe _ w6 w5.heap.size v6 l i6 q6b).mono ?_
  rintro e w12 ⟨rfl, t12⟩
  go_wp2_with fail
  have q4z := b4.size
  have q5z := b5.size
  have q6z := b6.size
  have q7z := b7.size
  have z512 : w5.heap.size ≤ w11.heap.size := Nat.le_trans q6z q6b.size
  have l12 : Below w5.heap.size w11 w12 := t12.to_below z512 (fun k hk h => by omega)
  have q12 : Below W3.heap.size W3 w12 := q11.trans (l12.mono (by have := q5.size; omega))
  have i4b : ItL w11 W3.heap.size v4 l := i4a.below (b10.trans (b11.mono b10.size))
  have i4z : ItL w12 W3.heap.size v4 l := i4.below (b5.trans ((b6.trans ((b7.trans (b8.mono b7.size)).mono b6.size)).mono b5.size) |>.trans (((b9.trans ((b10.trans (b11.mono b10.size)).mono b9.size)).mono (by have := b8.size; omega)).trans (l12.mono q5z)))
  have i7z : ItL w12 w6.heap.size v7 l := by
    have h := i7a.below (b10.trans (b11.mono b10.size))
    obtain ⟨xs, ho, _⟩ := h
    exact (i7a.below (b10.trans (b11.mono b10.size))).tch t12 (fun k hk h => by have := (ho.lt k hk).1; omega) (fun k cs hk _ h => by omega)
  have b12 : Below w.heap.size w w12 := b03.trans (q12.mono b03.size)
  have hro12 := hro3.below q12
  have R12 := R3.below q12
  have RX12 := RX3.below q12
  have hbl2 := congrArg List.length HBL.out
  rw [List.length_map] at hbl2
  have HB2 := Lib.hid hbl2
  clear hbl2 x80 x81 x82 x83 x84 x85 x100 x101 x102 x103 x104 x105
  go_loopw [14] (fun i wr => ∃ k : Nat, i = .int .i64 k ∧ k ≤ o.blocks.length ∧ Below w12.heap.size w12 wr) (fun i _ => o.blocks.length - (intOf i).toNat)
  case atStart => exact ⟨0, rfl, Nat.zero_le _, Below.refl _ _⟩
  case round =>
    obtain ⟨k, rfl, hk, hbw⟩ := hrel
    have qw := q12.trans (hbw.mono q12.size)
    obtain ⟨y0, y1, y2, y3, y4, y5⟩ := OC.out _ qw
    by_cases hlt : k < o.blocks.length
    · have hki : (k : Int) < o.blocks.length := by omega
      have hk0 : (0 : Int) ≤ k := by omega
      have hkb : k < bl.length := by rw [HB2.out]; exact hlt
      obtain ⟨g, rfl, hr⟩ := hro12 (by omega)
      obtain ⟨_, c1, c2⟩ := hr k hkb
      obtain ⟨b, off, rfl, hr2⟩ := R12.b (by omega)
      obtain ⟨_, D, cD, d1, _, _⟩ := hr2 k hlt
      have hX : bl[k].1 = o.blocks[k] := by
        have h := HBL.out
        have h2 : (bl.map Prod.fst)[k]'(by rw [List.length_map]; exact hkb) = o.blocks[k] := by simp only [h]
        rw [List.getElem_map] at h2
        exact h2
      rw [hX] at c1 c2
      obtain ⟨_, _, bn⟩ := ok.bs k hlt
      unfold big at bn
      clear hr hr2 hX
      generalize bl[k].2 = gk at *
      generalize o.blocks[k].bytes = bs at *
      have z1 := fun z : Up wr => z.cell (cellB hbw c1)
      have z2 := fun z : Up wr => z.cell (cellB hbw d1)
      have z3 := fun z : Up wr => z.cell y0
      have z4 := fun z : Up wr => z.cell y3
      have z5 := fun z : Up wr => z.heap (heapB' hbw c2)
      go_wp2_with fail
      clear y0 y1 y2 y3 y4 y5
      refine region_up (by kernel_rfl) (by kernel_rfl) ?_
      repeat (go_big_quiet_step ((go_at_call 13; refine Calls.up_same (v := .bool true) ?_; exact law_roomy _ gk bs (z5 _) bn _ _ rfl rfl)))
      refine wpQuiet_nil ?_
      rintro w13 ⟨⟨_, hb13⟩, rfl⟩
      clear z1 z2 z3 z4 z5
      go_wp2
      exact ⟨⟨k + 1, by go_num, by omega, hbw.trans (hb13.mono hbw.size)⟩, by simp [intOf]; omega⟩
    · obtain rfl : k = o.blocks.length := by omega
      have i7y := i7z.below hbw
      have i4y := i4z.below hbw
      have RO := R12.below hbw
      have RXX := RX12.below hbw
      go_wp2_with fail
      refine (law_alike _ _ _ v7 v4 l i7y i4y hll hlb).mono ?_
      rintro e w14 ⟨rfl, b14⟩
      have q14 := qw.trans (b14.mono qw.size)
      clear y0 y1 y2 y3 y4 y5
      obtain ⟨y0, y1, y2, y3, y4, y5⟩ := OC.out _ q14
      go_wp2_with fail
      refine (law_equal _ _ _ _ _ _ _ _ _ _ _ _ _ o ok (RXX.below b14) (RO.below b14)).mono ?_
      rintro e w15 ⟨rfl, b15⟩
      have q15 := q14.trans (b15.mono q14.size)
      go_wp2_with fail
      go_ret
      exact ⟨rfl, b03.trans (q15.mono b03.size)⟩
end Go.Proofs.YtofhdlkocgbcgaaGreatDoor
