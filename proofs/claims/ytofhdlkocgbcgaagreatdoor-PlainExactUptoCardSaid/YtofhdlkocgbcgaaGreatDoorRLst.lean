/- the reference's List. -/
import Derived.Test.YtofhdlkocgbcgaaGreatDoorRefD
import Derived.Test.YtofhdlkocgbcgaaGreatDoorRChk
import Derived.Test.YtofhdlkocgbcgaaGreatDoorPLst
import Derived.Test.YtofhdlkocgbcgaaGreatDoorRLpu
import Derived.Deep.OwnRows
namespace Go.Proofs.YtofhdlkocgbcgaaGreatDoor
open Go Go.RowKit Pu
set_option linter.unusedVariables false
set_option linter.unusedSimpArgs false
theorem infoBool : (Tryz.prog.info? 4).map (fun i => (i.zero, i.size, i.bytes)) = some (some (.bool false), 1, 1) := by kernel_rfl
set_option maxHeartbeats 1000000 in
set_option maxRecDepth 100000 in
theorem r15_List_bad (w : World) (A B C : Option Addr) (ca cb cc : Nat) (o : ObjP) (ok : ObjOK o) (R : RdO w A B C o) (hk : okO o = false) : Calls Tryz.prog 6 #[.agg #[.slice A o.blocks.length ca, .slice B o.marks.length cb, .slice C o.labels.length cc]] w fun e w' => e = .returned (.tuple #[.slice none 0 0, .int .i64 1]) ∧ Below w.heap.size w w' := by
  have hn : okN o = 1 := by unfold okN; rw [hk]; rfl
  have HN := Lib.hid hn
  clear hn
  go_enter Tryz.func6, Tryz.ntmps6
  go_wp2_with (first | (go_at_call 15; refine (r14_Check _ _ _ _ _ _ _ o ok (R.below (belowA _))).mono ?_; rw [HN.out]; rintro e w1 ⟨rfl, hb1⟩))
  go_ret2
  exact ⟨rfl, below1 hb1⟩
/-- What holds all the way. -/
structure RlI (w : World) (K Q : Nat) (l : List LabelP) (C : Option Addr) (cc : Nat) (cs : Array Value) (td : List Bool) (o : List ItemP) (v : Value) (wr : World) : Prop where
  ho : ItL wr w.heap.size v o
  s : KnS wr K Q l td C cc
  bx : wr.heap[w.heap.size]? = some (.cells cs 26 (0, 0))
  b : Below w.heap.size w wr
  q : w.heap.size ≤ Q
theorem RlI.below {w wr wz : World} {K Q : Nat} {l : List LabelP} {C : Option Addr} {cc : Nat} {cs : Array Value} {td : List Bool} {o : List ItemP} {v : Value} (I : RlI w K Q l C cc cs td o v wr) (hb : Below wr.heap.size wr wz) : RlI w K Q l C cc cs td o v wz :=
  ⟨I.ho.below hb, I.s.below hb, heapB' hb I.bx, I.b.trans (hb.mono I.b.size), I.q⟩
theorem RlI.call {w wr wz : World} {K Q : Nat} {l : List LabelP} {C : Option Addr} {cc : Nat} {cs : Array Value} {td td2 : List Bool} {o : List ItemP} {v : Value} (I : RlI w K Q l C cc cs td o v wr) (t : Tch (fun j => j = Q) wr wz) (S : KnS wz K Q l td2 C cc) : RlI w K Q l C cc cs td2 o v wz := by
  refine ⟨I.ho.tQ I.s.q t, S, t.heap I.bx ?_, I.b.trans (t.to_below I.b.size fun k hk e => ?_), I.q⟩
  · intro e
    have h := I.s.q
    rw [← e, I.bx] at h
    injection h with h
    injection h with _ h
    exact absurd h (by decide)
  · have := I.q; omega
/-- Behind an append to the list. -/
theorem RlI.app {w wr V w3 : World} {K Q : Nat} {l : List LabelP} {C : Option Addr} {cc : Nat} {cs : Array Value} {td : List Bool} {o o2 : List ItemP} {v v3 : Value} (I : RlI w K Q l C cc cs td o v wr) (R0 : RdLb w C l) (hV : Below wr.heap.size wr V) (hg : V.grownBy w3 v.ownBlock) (L : ItL w3 w.heap.size v3 o2) : RlI w K Q l C cc cs td o2 v3 w3 := by
  obtain ⟨xs, o1, _⟩ := I.ho
  have t : Tch (fun j => v.ownBlock = some j) wr w3 := ((Tch.refl _ wr).below hV).grown hg fun j _ e => e
  have hb : Below w.heap.size w w3 := I.b.trans (t.to_below I.b.size fun k hk e => by have := (own_some o1 e).1; omega)
  exact ⟨L, I.s.keep t (own_blk o1 I.s.k (by decide)) (own_blk o1 I.s.q (by decide)) (R0.below hb), t.heap I.bx (own_blk o1 I.bx (by decide)), hb, I.q⟩
theorem boolC_made (n : Nat) : madeCells #[Value.bool false] n = boolC (List.replicate n false) := by
  apply Array.ext'
  rw [toList_madeCells_one]
  unfold boolC
  simp
set_option maxHeartbeats 8000000 in
set_option maxRecDepth 100000 in
theorem r15_List_ok (w : World) (A B C : Option Addr) (ca cb cc : Nat) (o : ObjP) (ok : ObjOK o) (R : RdO w A B C o) (hk : okO o = true) : Calls Tryz.prog 6 #[.agg #[.slice A o.blocks.length ca, .slice B o.marks.length cb, .slice C o.labels.length cc]] w fun e w' => (∃ v, e = .returned (.tuple #[v, .int .i64 0]) ∧ ItL w' w.heap.size v (listP o)) ∧ Below w.heap.size w w' := by
  obtain ⟨i0, hi0, hz0, hz1, hz2'⟩ := info_parts infoItem'
  have hn : okN o = 0 := by unfold okN; rw [hk]; rfl
  have HN := Lib.hid hn
  have hbd := ok.nb
  have hbm := ok.nm
  have hbl := ok.nl
  unfold big at hbd hbm hbl
  clear hn
  have hmk := fun w => run_make_row' (P := Tryz.prog) 45 4 (.bool false) 1 Tryz.underlying45 infoBool rfl .i64 .i64 o.labels.length (by omega) (by omega) w
  have hW := belowA (w := w) (.cells #[.slice A o.blocks.length ca, .slice B o.marks.length cb, .slice C o.labels.length cc] 26)
  have hWn := heap_alloc_new w (.cells #[.slice A o.blocks.length ca, .slice B o.marks.length cb, .slice C o.labels.length cc] 26)
  go_enter Tryz.func6, Tryz.ntmps6
  go_upto_region 3 with (first | (go_at_call 15; refine (r14_Check _ _ _ _ _ _ _ o ok (R.below (belowA _))).mono ?_; rw [HN.out]; rintro e w1 ⟨rfl, hb1⟩; have hN1 := heapB' hb1 hWn; have x0 := blk_cell (i := 0) hN1 rfl; have x2 := blk_cell (i := 2) hN1 rfl))
  have hn1 := blk_lt hN1
  have hbw := hW.trans (hb1.mono hW.size)
  go_region_held3 (fun w' => w'.cell? ⟨w.heap.size, 2, none⟩ = some (.slice C o.labels.length cc) ∧ w.heap.size < w'.heap.size) (first | assumption | (obtain ⟨j1, j2⟩ := ‹_ ∧ w.heap.size < _›; exact ⟨cellA j1, by simp; omega⟩) | (go_split_ands; refine ⟨?_, ?_⟩ <;> first | assumption | go_keep | (simp; omega))) (fail)
  have R0 := R.l
  have IV : RlI w (w1.heap.size + 1) w1.heap.size o.labels C cc #[.slice A o.blocks.length ca, .slice B o.marks.length cb, .slice C o.labels.length cc] (List.replicate o.labels.length false) [] (.slice none 0 0) (((w1.alloc (.cells (madeCells #[.bool false] o.labels.length) 4)).alloc (.cells #[.slice C o.labels.length cc, .slice (some ⟨w1.heap.size, 0, none⟩) o.labels.length o.labels.length] 47)).drew) := by
    have hb2 := belowA (w := w1) (.cells (madeCells #[.bool false] o.labels.length) 4)
    have hb3 := belowA (w := w1.alloc (.cells (madeCells #[.bool false] o.labels.length) 4)) (.cells #[.slice C o.labels.length cc, .slice (some ⟨w1.heap.size, 0, none⟩) o.labels.length o.labels.length] 47)
    have hba := hb2.trans (hb3.mono hb2.size)
    have hbz := hbw.trans (hba.mono hbw.size)
    refine ⟨ItL.nil _ _, ⟨heap_new1 _ _ _, ?_, by simp, R0.below hbz, fun h0 x hx e => ?_⟩, heapB' hba hN1, hbz.drew, hbw.size⟩
    · have := heapB' hb3 (heap_alloc_new w1 (.cells (madeCells #[.bool false] o.labels.length) 4))
      rw [boolC_made] at this; rw [boolC_made]; exact this
    · obtain ⟨g, off, hg, hc⟩ := R0 h0
      rw [hg] at hx; injection hx with hx; subst hx
      have := World.block_lt_of_cell? _ _ (hc 0 h0).1
      have := hbw.size
      simp only at *; omega
  generalize ((w1.alloc (.cells (madeCells #[.bool false] o.labels.length) 4)).alloc (.cells #[.slice C o.labels.length cc, .slice (some ⟨w1.heap.size, 0, none⟩) o.labels.length o.labels.length] 47)).drew = V at *
  generalize w1.heap.size + 1 = K at *
  generalize w1.heap.size = Q at *
  clear hmk hW hWn x0 x2 hb1 hN1 hn1 hbw
  go_upto_region 5 with fail
  go_cut [35] (fun t wx => t = .bool (beginP o) ∧ RlI w K Q o.labels C cc #[.slice A o.blocks.length ca, .slice B o.marks.length cb, .slice C o.labels.length cc] (List.replicate o.labels.length false) [] (.slice none 0 0) wx)
  case first =>
    have y0 := blk_cell (i := 0) IV.bx rfl
    have RV := R.b.below IV.b
    have HI := Lib.hid IV
    clear IV
    by_cases hl : o.blocks.length = 0
    · have h0 : ((o.blocks.length : Int) == 0) = true := by simpa using hl
      have HQ := Lib.hid (beginP_nil hl)
      clear hl RV
      go_wp2_with fail
      go_meet
      exact ⟨by rw [HQ.out], HI.out⟩
    · have h0 : ((o.blocks.length : Int) == 0) = false := by simpa using hl
      have hp0 : 0 < o.blocks.length := by omega
      obtain ⟨b, off, rfl, hr⟩ := RV hp0
      obtain ⟨c0, _⟩ := hr 0 hp0
      have HQ := Lib.hid (beginP_cons hp0)
      rw [Nat.zero_mul, Nat.add_zero] at c0
      clear hr hl
      generalize o.blocks[0].at_ = a0 at *
      go_wp2_with fail
      go_meet
      exact ⟨by rw [HQ.out]; simp [bne]; rfl, HI.out⟩
  case rest =>
    obtain ⟨rfl, I⟩ := hcut
    go_upto_if 35 with fail
    have hPL := listP_pick o
    have hln := begin_len o
    go_cut [5] (fun v wx => ∃ td, RlI w K Q o.labels C cc #[.slice A o.blocks.length ca, .slice B o.marks.length cb, .slice C o.labels.length cc] td (pickP (beginP o) (tellI 0 o.labels) []) v wx ∧ remT o.labels td = pickP (beginP o) (dropI 0 o.labels) o.labels ∧ TB o.labels td 0)
    case first =>
      cases hq : beginP o with
      | true =>
        have hl1 : (tellI 0 (remT o.labels (List.replicate o.labels.length false))).length ≤ 1048576 := by rw [remT_none]; have := tell_len 0 o.labels; omega
        go_wp2_with (first | (go_at_call 16; refine (r15_tell _ K Q o.labels _ C cc 0 I.s (by omega)).mono ?_; rintro e w5 ⟨⟨v5, rfl, o5⟩, S5, t5⟩; obtain ⟨A5, c5, y5, rfl, s5, r5⟩ := o5.src; have IC := I.call t5 S5; obtain ⟨xs5, o15, o25⟩ := IC.ho) | (at_builtin; refine wpList_append_src _ rfl (.tmp 36) (.tmp 38) 29 rfl w.heap.size 52 i0 _ 6 80 Tryz.underlying29 hi0 hz0 hz1 hz2' rfl (by decide) _ 0 xs5 rfl o15 A5 _ c5 y5 rfl s5 r5.one_cell (by unfold maxLen; omega) (by omega) IC.b.size ?_; intro v3 w3 ho3 hg3 hv3))
        have L3 := ItL.grown (l := []) (m := tellI 0 (remT o.labels (List.replicate o.labels.length false))) o15 o25 (r5.mono I.b.size) hg3 (by simpa using ho3)
        have I3 := IC.app R0 (Below.refl _ _) hg3 L3
        go_wp2_with fail
        go_meet
        rw [hq]
        exact ⟨_, by rw [remT_none] at I3; exact I3, by rw [remT_tell, remT_none]; rfl, (TB.none _ _).tell⟩
      | false =>
        go_wp2_with fail
        go_meet
        rw [hq]
        exact ⟨_, I, by rw [remT_none]; rfl, TB.none _ _⟩
    case rest =>
      obtain ⟨td0, I, hrem, htb⟩ := hcut
      rw [← hrem] at hPL hln
      obtain ⟨h1, h2, h3⟩ := okO_parts hk
      have hsum := sumB_ok _ _ (by omega) (by omega) h1
      have htn : ∀ h : 0 < o.blocks.length, TB o.labels td0 o.blocks[0].at_ := fun h => htb.mono (okBl_at _ _ (by omega) h1 0 h).1
      generalize pickP (beginP o) (tellI 0 o.labels) [] = out0 at *
      have B0 : LstB o (out0 ++ (blksP true o.blocks o.marks (remT o.labels td0)).1) (blksP true o.blocks o.marks (remT o.labels td0)).2 0 0 out0 (remT o.labels td0) := ⟨by simp, by simp, by simp; omega, ⟨by simp, Nat.zero_le _⟩⟩
      generalize out0 ++ (blksP true o.blocks o.marks (remT o.labels td0)).1 = tot at *
      generalize (blksP true o.blocks o.marks (remT o.labels td0)).2 = last at *
      have HPL := Lib.hid hPL
      clear hPL hln hrem htb hsum
      go_wp2_with fail
      go_loopw [5, 6, 7] (fun v mk i wr => ∃ (k i' : Nat) (td : List Bool) (out : List ItemP), mk = .int .i64 k ∧ i = .int .i64 i' ∧ i' ≤ o.blocks.length ∧ LstB o tot last i' k out (remT o.labels td) ∧ RlI w K Q o.labels C cc #[.slice A o.blocks.length ca, .slice B o.marks.length cb, .slice C o.labels.length cc] td out v wr ∧ (∀ h : i' < o.blocks.length, TB o.labels td o.blocks[i'].at_)) (fun _ _ i _ => o.blocks.length - (intOf i).toNat)
      case atStart => exact ⟨0, 0, td0, out0, rfl, rfl, Nat.zero_le _, B0, I, htn⟩
      case round =>
        clear I B0 htn
        obtain ⟨k, i, td, out, rfl, rfl, hi, PB, I, htb⟩ := hrel
        have y0 := blk_cell (i := 0) I.bx rfl
        by_cases hlt : i < o.blocks.length
        · have hki : (i : Int) < o.blocks.length := by omega
          obtain ⟨b, off, hAe, hr⟩ := R.b (by omega)
          obtain ⟨d0, A', c, d1, RA, hc⟩ := hr i hlt
          have ba := okBl_at _ _ (by omega) h1 i hlt
          have bo := ok.bs i hlt
          have hent := PB.enter hlt
          have hlv := fun k' t out' rem' => LstR.leave (k' := k') (t := t) (out' := out') (rem' := rem') PB hlt
          have hPBl := PB.len
          have hfp := first_pos hlt h1
          have hma := fun k' hm hk' => mark_after (k := k') hlt h1 h2 hm hk'
          have htx := fun td' h => TB_next (l := o.labels) (td := td') hlt h1 h
          have htb0 := htb hlt
          clear hr PB htb
          generalize o.blocks[i] = X at *
          obtain ⟨a, bs⟩ := X
          simp only at *
          obtain ⟨⟨b1, b2⟩, b3, b4⟩ := bo
          unfold big at b4
          obtain ⟨ba1, ba2, ba3, _⟩ := ba
          have hAB : ∀ x, A' = some x → x.block ≠ Q := by
            obtain ⟨bb, oo, rfl, hlt, _⟩ := RA (by omega)
            intro x hx; injection hx with hx; subst hx; have := I.q; show bb ≠ Q; omega
          have c0 := cellB I.b d0
          have c1 := cellB I.b d1
          subst hAe
          have hcond : (decide (i = 0) && decide (a = 0)) = decide (a = 0) := by
            by_cases h0 : a = 0
            · rw [decide_eq_true (hfp h0)]; rfl
            · rw [decide_eq_false h0, Bool.and_false]
          rw [hcond] at hent
          simp only [hcond] at hlv
          clear hcond hfp
          have hpf : pickP (!decide (a = 0)) [atI a] [] = (if decide (a = 0) then [] else [atI a]) := by unfold pickP; cases decide (a = 0) <;> rfl
          rw [← hpf] at hent
          rw [← hpf] at hlv
          clear hpf
          generalize out ++ pickP (!decide (a = 0)) [atI a] [] ++ (rowsP bs (o.marks.drop k) 0 (remT o.labels td)).1 = tot1 at *
          generalize (rowsP bs (o.marks.drop k) 0 (remT o.labels td)).2 = fin at *
          have HE := Lib.hid hent
          have HV := Lib.hid hlv
          have HM := Lib.hid hma
          have HX := Lib.hid htx
          clear hent hlv hma htx
          go_upto_if 54 with fail
          have hbx := belowA (w := wr) (.cells #[.int .i64 a, .slice A' bs.length c] 41)
          have IV := I.below hbx
          have hqV := heap_alloc_new wr (.cells #[.int .i64 a, .slice A' bs.length c] 41)
          generalize hVV : wr.alloc (.cells #[.int .i64 a, .slice A' bs.length c] 41) = V2 at *
          generalize wr.heap.size = q at *
          clear hVV hbx I c0 c1 y0
          go_cut [5] (fun v wx => RlI w K Q o.labels C cc #[.slice (some ⟨b, off, none⟩) o.blocks.length ca, .slice B o.marks.length cb, .slice C o.labels.length cc] td (out ++ pickP (!decide (a = 0)) [atI a] []) v wx ∧ wx.heap[q]? = some (.cells #[.int .i64 a, .slice A' bs.length c] 41 (0, 0)))
          case first =>
            have x0 := blk_cell (i := 0) hqV rfl
            obtain ⟨xs, o1, o2⟩ := IV.ho
            have hxq := blk_lt hqV
            have hbz := IV.b.size
            have II := Lib.hid IV
            clear IV
            by_cases hz : a = 0
            · have hz2 : (a != 0) = false := by simpa using hz
              have HZ := Lib.hid hz
              clear hz
              go_wp2_with fail
              go_meet
              exact ⟨by rw [decide_eq_true HZ.out]; simpa [pickP] using II.out, hqV⟩
            · have hz2 : (a != 0) = true := by simpa using hz
              have HZ := Lib.hid hz
              clear hz
              go_wp2_with (first | (at_builtin; refine wpList_append_src _ rfl (.tmp 55) (.tmp 59) 29 rfl w.heap.size 52 i0 _ 6 80 Tryz.underlying29 hi0 hz0 hz1 hz2' rfl (by decide) _ out.length xs rfl (o1.alloc _) _ 1 1 _ rfl (Src.block (heap_alloc_new _ _) rfl) (itC_one ⟨4, ⟨#[]⟩, a, []⟩) (by unfold maxLen; omega) (by omega) (by simp; omega) ?_; intro v2 w2 ho2 hg2 hv2; have L2 := ItL.grown (m := [atI a]) (o1.alloc _) (o2.below (belowA _)) (ItR.one_nil (atI a) rfl) hg2 ho2; have I2 := II.out.app R0 (belowA _) hg2 L2; have hq2 := kept_blk hg2 hqV (belowA _) (own_blk o1 hqV (by decide))))
              go_meet
              exact ⟨by rw [decide_eq_false HZ.out]; exact I2, hq2⟩
          case rest =>
            obtain ⟨IV, hqV⟩ := hcut
            have RE := HE.out
            generalize out ++ pickP (!decide (a = 0)) [atI a] [] = out1 at *
            clear HE
            have x0 := blk_cell (i := 0) hqV rfl
            have x1 := blk_cell (i := 1) hqV rfl
            go_wp2_with fail
            go_loopw [5, 6] (fun v mk wq => ∃ (k' t' : Nat) (td' : List Bool) (out' : List ItemP), mk = .int .i64 k' ∧ LstR o i a bs tot1 fin (sumB (o.blocks.drop (i + 1))) k' t' out' (remT o.labels td') ∧ RlI w K Q o.labels C cc #[.slice (some ⟨b, off, none⟩) o.blocks.length ca, .slice B o.marks.length cb, .slice C o.labels.length cc] td' out' v wq ∧ wq.heap[q]? = some (.cells #[.int .i64 a, .slice A' bs.length c] 41 (0, 0)) ∧ TB o.labels td' (a + t')) (fun _ mk _ => o.marks.length - (intOf mk).toNat)
            case atStart => exact ⟨k, 0, td, out1, rfl, RE, IV, hqV, by simpa using htb0⟩
            case round =>
              clear IV hqV RE x0 x1 htb0
              obtain ⟨k, t, td', out', rfl, HR, I, hqV, htb⟩ := hrel
              have x0 := blk_cell (i := 0) hqV rfl
              have x1 := blk_cell (i := 1) hqV rfl
              have y1 := blk_cell (i := 1) I.bx rfl
              have hxq := blk_lt hqV
              by_cases hlt2 : t < bs.length
              · obtain ⟨hkm, m1, m2, m3, m4, HR2⟩ := HR.step hlt2 h2
                have hkk : (k : Int) < o.marks.length := by omega
                have hlen := HR.len
                have hlen2 := HR2.len
                obtain ⟨mb, mo, hBe, hmr⟩ := R.m (by omega)
                obtain ⟨e0, e1, e2⟩ := hmr k hkm
                have g0 := cellB I.b e0
                have g1 := cellB I.b e1
                have g2 := cellB I.b e2
                have hmrk : markP (remT o.labels td') bs t o.marks[k] = if o.marks[k].code then codeP (remT o.labels td') ((bs.drop t).take o.marks[k].n.toNat) o.marks[k].at_ else dataP (remT o.labels td') ((bs.drop t).take o.marks[k].n.toNat) o.marks[k].at_ := rfl
                clear hmr e0 e1 e2 HR
                generalize o.marks[k] = M at *
                obtain ⟨ma, mn, mc⟩ := M
                simp only at *
                subst m1
                obtain ⟨n, rfl⟩ : ∃ n : Nat, mn = n := ⟨mn.toNat, by omega⟩
                rw [Int.toNat_natCast] at m4 HR2 hmrk
                subst hBe
                have hys : ((bs.drop t).take n).length = n := by rw [List.length_take, List.length_drop]; omega
                have Rc := ((RA.below I.b).cut c t hc).take n
                have hAc : ∀ x, cutA A' c t = some x → x.block ≠ Q := by
                  intro x hx
                  unfold cutA at hx
                  rw [if_neg (by omega)] at hx
                  cases A' with
                  | none => simp at hx
                  | some y => simp only [Option.map_some, Option.some.injEq] at hx; subst hx; have := hAB y rfl; unfold Addr.add; split <;> exact this
                have hy := (b3.drop t).take n
                unfold cutA at Rc hAc
                rw [if_neg (show ¬ c = t by omega)] at Rc hAc
                generalize hYS : (bs.drop t).take n = ys at *
                have hqQ : q ≠ Q := fun e => by have h := I.s.q; rw [← e, hqV] at h; injection h with h; injection h with _ h; exact absurd h (by decide)
                have hlm : (markP (remT o.labels td') bs t ⟨a + t, n, mc⟩).1.length + out'.length ≤ 8388608 := by rw [List.length_append] at hlen2; omega
                rw [hmrk] at hlm
                have HY := Lib.hid hys
                have HMK := Lib.hid hmrk
                have H2 := Lib.hid HR2
                have II := Lib.hid I
                have hbz := I.b.size
                have hcm : a + (t : Int) < a + bs.length := by omega
                have hat1 : a + (t : Int) - a = t := by omega
                have hat2 : ((t : Int) + n).toNat = t + n := by omega
                clear hYS hys hmrk HR2 I hlen2
                cases mc with
                | true =>
                  have hwy := m4 rfl
                  simp only [if_true] at hlm
                  clear m4
                  go_wp2_with (first | (go_at_call 17; refine (r15_code _ K Q o.labels td' C cc _ _ ys (a + t) (II.out.below (belowA _)).s (Rc.below (belowA _)) hAc hy (by have := HY.out; omega) hwy (by omega) (by have := HY.out; omega) (by omega) (by have := HY.out; omega) _ (by have := HY.out; omega)).mono ?_; rintro e w5 ⟨⟨v5, rfl, o5⟩, td5, S5, hr5, htb5, t5⟩; have HR5 := Lib.hid hr5; have HT5 := Lib.hid htb5; clear hr5 htb5; obtain ⟨A5, c5, y5, rfl, s5, r5⟩ := o5.src; have IC := (II.out.below (belowA (.cells #[.int .i64 (a + t), .int .i64 n, .bool true] 54))).call t5 S5; obtain ⟨xs5, o15, o25⟩ := IC.ho; have hq5 := t5.heap (heapB' (belowA (.cells #[.int .i64 (a + t), .int .i64 n, .bool true] 54)) hqV) hqQ) | (at_builtin; refine wpList_append_src _ rfl (.tmp 105) (.tmp 110) 29 rfl w.heap.size 52 i0 _ 6 80 Tryz.underlying29 hi0 hz0 hz1 hz2' rfl (by decide) _ out'.length xs5 rfl o15 A5 _ c5 y5 rfl s5 r5.one_cell (by unfold maxLen; omega) (by omega) IC.b.size ?_; intro v3 w3 ho3 hg3 hv3))
                  have L3 := ItL.grown o15 o25 (r5.mono (Nat.le_trans hbz (belowA _).size)) hg3 ho3
                  have I3 := IC.app R0 (Below.refl _ _) hg3 L3
                  have hq3 := kept_blk hg3 hq5 (Below.refl _ _) (own_blk o15 hq5 (by decide))
                  exact ⟨⟨k + 1, t + n, td5, _, by go_num, by rw [HR5.out]; have := H2.out; rw [HMK.out] at this; exact this, I3, hq3, by have := HT5.out htb; rw [HY.out] at this; exact this.mono (by omega)⟩, by simp [intOf]; omega⟩
                | false =>
                  simp only [Bool.false_eq_true, if_false] at hlm
                  clear m4
                  go_wp2_with (first | (go_at_call 18; refine (r15_data _ K Q o.labels td' C cc _ _ ys (a + t) (II.out.below (belowA _)).s (Rc.below (belowA _)) hAc hy (by have := HY.out; omega) htb (by omega) (by have := HY.out; omega) (by omega) (by have := HY.out; omega) _ (by have := HY.out; omega)).mono ?_; rintro e w5 ⟨⟨v5, rfl, o5⟩, td5, S5, hr5, htb5, t5⟩; have HR5 := Lib.hid hr5; have HT5 := Lib.hid htb5; clear hr5 htb5; obtain ⟨A5, c5, y5, rfl, s5, r5⟩ := o5.src; have IC := (II.out.below (belowA (.cells #[.int .i64 (a + t), .int .i64 n, .bool false] 54))).call t5 S5; obtain ⟨xs5, o15, o25⟩ := IC.ho; have hq5 := t5.heap (heapB' (belowA (.cells #[.int .i64 (a + t), .int .i64 n, .bool false] 54)) hqV) hqQ) | (at_builtin; refine wpList_append_src _ rfl (.tmp 112) (.tmp 117) 29 rfl w.heap.size 52 i0 _ 6 80 Tryz.underlying29 hi0 hz0 hz1 hz2' rfl (by decide) _ out'.length xs5 rfl o15 A5 _ c5 y5 rfl s5 r5.one_cell (by unfold maxLen; omega) (by omega) IC.b.size ?_; intro v3 w3 ho3 hg3 hv3))
                  have L3 := ItL.grown o15 o25 (r5.mono (Nat.le_trans hbz (belowA _).size)) hg3 ho3
                  have I3 := IC.app R0 (Below.refl _ _) hg3 L3
                  have hq3 := kept_blk hg3 hq5 (Below.refl _ _) (own_blk o15 hq5 (by decide))
                  exact ⟨⟨k + 1, t + n, td5, _, by go_num, by rw [HR5.out]; have := H2.out; rw [HMK.out] at this; exact this, I3, hq3, by have := HT5.out; rw [HY.out] at this; exact this.mono (by omega)⟩, by simp [intOf]; omega⟩
              · have htl : bs.length = t := by have := HR.mo.2.2.1; simp only at this; omega
                have hB := HV.out k t out' (remT o.labels td') HR htl
                have hlen := HR.len
                have hmo := HR.mo
                subst htl
                have hafter := HM.out k hmo
                have hl5 := tell_len (a + bs.length) (remT o.labels td')
                have HB := Lib.hid hB
                have HL := Lib.hid hl5
                have hl6 : out'.length + (tellI (a + bs.length) (remT o.labels td')).length ≤ 8388608 := by omega
                have hrt := remT_tell (a + bs.length) o.labels td'
                have HRT := Lib.hid hrt
                have htz := (htb.tell (c := a + bs.length))
                clear hB HR hmo hl5 hrt
                by_cases hkm : k < o.marks.length
                · have hkk : (k : Int) < o.marks.length := by omega
                  obtain ⟨mb, mo, hBe, hmr⟩ := R.m (by omega)
                  obtain ⟨e0, _, _⟩ := hmr k hkm
                  have g0 := cellB I.b e0
                  have hma := hafter hkm
                  clear hafter hmr e0
                  generalize o.marks[k].at_ = ma at *
                  subst hBe
                  have hd : decide (ma < a + bs.length) = false := by simp; omega
                  clear hma
                  go_wp2_with (first | (go_at_call 16; refine (r15_tell _ K Q o.labels td' C cc (a + bs.length) I.s (by omega)).mono ?_; rintro e w5 ⟨⟨v5, rfl, o5⟩, S5, t5⟩; obtain ⟨A5, c5, y5, rfl, s5, r5⟩ := o5.src; have IC := I.call t5 S5; obtain ⟨xs5, o15, o25⟩ := IC.ho) | (at_builtin; refine wpList_append_src _ rfl (.tmp 121) (.tmp 124) 29 rfl w.heap.size 52 i0 _ 6 80 Tryz.underlying29 hi0 hz0 hz1 hz2' rfl (by decide) _ out'.length xs5 rfl o15 A5 _ c5 y5 rfl s5 r5.one_cell (by unfold maxLen; omega) (by omega) IC.b.size ?_; intro v3 w3 ho3 hg3 hv3))
                  have L3 := ItL.grown o15 o25 (r5.mono I.b.size) hg3 ho3
                  have I3 := IC.app R0 (Below.refl _ _) hg3 L3
                  exact ⟨⟨k, i + 1, _, _, rfl, by go_num, by omega, by rw [HRT.out]; exact HB.out, I3, HX.out _ htz⟩, by simp [intOf]; omega⟩
                · have hkk : decide (k < o.marks.length) = false := by simpa using hkm
                  clear hafter
                  go_wp2_with (first | (go_at_call 16; refine (r15_tell _ K Q o.labels td' C cc (a + bs.length) I.s (by omega)).mono ?_; rintro e w5 ⟨⟨v5, rfl, o5⟩, S5, t5⟩; obtain ⟨A5, c5, y5, rfl, s5, r5⟩ := o5.src; have IC := I.call t5 S5; obtain ⟨xs5, o15, o25⟩ := IC.ho) | (at_builtin; refine wpList_append_src _ rfl (.tmp 121) (.tmp 124) 29 rfl w.heap.size 52 i0 _ 6 80 Tryz.underlying29 hi0 hz0 hz1 hz2' rfl (by decide) _ out'.length xs5 rfl o15 A5 _ c5 y5 rfl s5 r5.one_cell (by unfold maxLen; omega) (by omega) IC.b.size ?_; intro v3 w3 ho3 hg3 hv3))
                  have L3 := ItL.grown o15 o25 (r5.mono I.b.size) hg3 ho3
                  have I3 := IC.app R0 (Below.refl _ _) hg3 L3
                  exact ⟨⟨k, i + 1, _, _, rfl, by go_num, by omega, by rw [HRT.out]; exact HB.out, I3, HX.out _ htz⟩, by simp [intOf]; omega⟩
        · obtain rfl : i = o.blocks.length := by omega
          obtain ⟨e1, e2⟩ := PB.done
          subst e1
          have hlen := PB.len
          rw [List.drop_length] at hlen
          simp only [sumB] at hlen
          have hrest : out ++ restP (remT o.labels td) = listP o := by rw [e2]; exact HPL.out.symm
          have htot : (listP o).length ≤ 16777216 := by rw [← hrest, List.length_append]; have := restP_len' (remT o.labels td); omega
          clear PB hlen e2 HPL htb
          go_wp2_with fail
          go_loopw [5, 12] (fun v i wr => ∃ (i' : Nat) (td : List Bool) (out : List ItemP), i = .int .i64 i' ∧ i' ≤ o.labels.length ∧ Told td i' ∧ RlI w K Q o.labels C cc #[.slice A o.blocks.length ca, .slice B o.marks.length cb, .slice C o.labels.length cc] td out v wr ∧ out ++ restP (remT o.labels td) = listP o) (fun _ i _ => o.labels.length - (intOf i).toNat)
          case atStart => exact ⟨0, td, out, rfl, Nat.zero_le _, fun j hj => absurd hj (by omega), I, hrest⟩
          case round =>
            clear I hrest y0
            obtain ⟨i, td, out, rfl, hil, htold, I, hrest⟩ := hrel
            have y2 := blk_cell (i := 2) I.bx rfl
            by_cases hlt2 : i < o.labels.length
            · have hki : (i : Int) < o.labels.length := by omega
              have hn := I.s.n
              have z1 := blk_cell (i := 1) I.s.k rfl
              have zq : wr.cell? ⟨Q, i, none⟩ = some (.bool (td.getD i false)) := blk_cell I.s.q (by rw [boolC_at (by rw [hn]; exact hlt2), List.getD_eq_getElem?_getD, List.getElem?_eq_getElem (by rw [hn]; exact hlt2)]; rfl)
              cases htd : td.getD i false with
              | true =>
                rw [htd] at zq
                have HT := Lib.hid (htold.skip htd)
                have HR := Lib.hid hrest
                have II := Lib.hid I
                clear hrest htold htd I
                go_wp2_with fail
                exact ⟨⟨i + 1, td, out, by go_num, by omega, HT.out, II.out, HR.out⟩, by simp [intOf]; omega⟩
              | false =>
                rw [htd] at zq
                obtain ⟨r, hhead⟩ := remT_head hn hlt2 htold htd
                have hstep := restP_head hhead
                have hlen := congrArg List.length hrest
                rw [hstep, List.length_append, List.length_cons, List.length_append] at hlen
                have htold2 := htold.tell hn hlt2
                have hrt := remT_tell o.labels[i].at_ o.labels td
                obtain ⟨g, off, hCe, hc⟩ := R0 (by omega)
                obtain ⟨_, c1w⟩ := hc i hlt2
                subst hCe
                have c1 := cellB I.b c1w
                clear hc hhead htd htold
                generalize o.labels[i].at_ = a0 at *
                have HCW := Lib.hid c1w
                clear c1w
                obtain ⟨xs, o1, o2⟩ := I.ho
                have HT := Lib.hid htold2
                have HR := Lib.hid hrest
                have HS := Lib.hid hstep
                have HRT := Lib.hid hrt
                have II := Lib.hid I
                have hbz := I.b.size
                have hl1 : (out ++ [atI a0]).length ≤ out.length + 1 := by simp
                clear hrest htold2 hstep hrt I
                go_wp2_with (first | (at_builtin; refine wpList_append_src _ rfl (.tmp 141) (.tmp 149) 29 rfl w.heap.size 52 i0 _ 6 80 Tryz.underlying29 hi0 hz0 hz1 hz2' rfl (by decide) _ out.length xs rfl (o1.alloc _) _ 1 1 _ rfl (Src.block (heap_alloc_new _ _) rfl) (itC_one ⟨4, ⟨#[]⟩, a0, []⟩) (by unfold maxLen; omega) (by omega) (by simp; omega) ?_; intro v2 w2 ho2 hg2 hv2; have L2 := ItL.grown (m := [atI a0]) (o1.alloc _) (o2.below (belowA _)) (ItR.one_nil (atI a0) rfl) hg2 ho2; have I2 := II.out.app R0 (belowA _) hg2 L2; have y3 := blk_cell (i := 2) I2.bx rfl; have c2 := cellB I2.b HCW.out) | (go_at_call 16; refine (r15_tell _ K Q o.labels td _ cc a0 I2.s (by omega)).mono ?_; rintro e w5 ⟨⟨v5, rfl, o5⟩, S5, t5⟩; obtain ⟨A5, c5, y5, rfl, s5, r5⟩ := o5.src; have IC := I2.call t5 S5; obtain ⟨xs5, o15, o25⟩ := IC.ho) | (at_builtin; refine wpList_append_src _ rfl (.tmp 151) (.tmp 159) 29 rfl w.heap.size 52 i0 _ 6 80 Tryz.underlying29 hi0 hz0 hz1 hz2' rfl (by decide) _ (out ++ [atI a0]).length xs5 rfl o15 A5 _ c5 y5 rfl s5 r5.one_cell (by unfold maxLen; omega) (by omega) IC.b.size ?_; intro v3 w3 ho3 hg3 hv3))
                have L3 := ItL.grown o15 o25 (r5.mono I2.b.size) hg3 ho3
                have I3 := IC.app R0 (Below.refl _ _) hg3 L3
                exact ⟨⟨i + 1, _, _, by go_num, by omega, HT.out, I3, by rw [HRT.out, List.append_assoc, List.append_assoc, List.singleton_append, ← HS.out]; exact HR.out⟩, by simp [intOf]; omega⟩
            · obtain rfl : i = o.labels.length := by omega
              have hend := remT_end I.s.n htold
              have HL : Hid (out = listP o) := Lib.hid (by rw [← hrest, hend, restP, List.append_nil])
              have II := Lib.hid I
              clear I hrest hend htold
              go_wp2
              go_ret2
              exact ⟨⟨_, rfl, by rw [← HL.out]; exact II.out.ho⟩, II.out.b⟩
end Go.Proofs.YtofhdlkocgbcgaaGreatDoor
