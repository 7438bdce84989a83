/- The walk of the reference's marksMay. -/
import Derived.Test.YtofhdlkocgbcgaaGreatDoorMrkW
import Derived.Test.YtofhdlkocgbcgaaGreatDoorQuiW
namespace Go.Proofs.YtofhdlkocgbcgaaGreatDoor
open Go Go.RowKit Pu
set_option linter.unusedVariables false
set_option linter.unusedSimpArgs false
theorem frst {t n : Nat} (q : (1 : Int) ≤ n) : Value.bool false = Value.bool (decide (t + n = 0)) := by
  rw [decide_eq_false (by omega)]
set_option maxHeartbeats 4000000 in
set_option maxRecDepth 100000 in
theorem r14_marksMay (w : World) (A B C : Option Addr) (nl ca cb cc : Nat) (o : ObjP) (ok : ObjOK o) (R : RdO w A B C o) (hbl : okBl (-1) o.blocks = true) : Calls Tryz.prog 36 #[.agg #[.slice A o.blocks.length ca, .slice B o.marks.length cb, .slice C nl cc]] w fun e w' => e = .returned (.bool (okMk o.blocks o.marks)) ∧ Below w.heap.size w w' := by
  have hbd := ok.nb
  have hbm := ok.nm
  unfold big at hbd hbm
  go_enter Tryz.func36, Tryz.ntmps36
  go_wp2
  have RW : RdO (w.alloc (.cells #[.slice A o.blocks.length ca, .slice B o.marks.length cb, .slice C nl cc] 26)) A B C o := R.below (belowA _)
  have hBW := belowA (w := w) (.cells #[.slice A o.blocks.length ca, .slice B o.marks.length cb, .slice C nl cc] 26)
  have w0 : (w.alloc (.cells #[.slice A o.blocks.length ca, .slice B o.marks.length cb, .slice C nl cc] 26)).cell? ⟨w.heap.size, 0, none⟩ = some (.slice A o.blocks.length ca) := by simp
  have w1 : (w.alloc (.cells #[.slice A o.blocks.length ca, .slice B o.marks.length cb, .slice C nl cc] 26)).cell? ⟨w.heap.size, 1, none⟩ = some (.slice B o.marks.length cb) := by simp
  generalize hW : w.alloc (.cells #[.slice A o.blocks.length ca, .slice B o.marks.length cb, .slice C nl cc] 26) = W at *
  go_loopw [3, 4] (fun k i wr => ∃ (k' i' : Nat), k = .int .i64 k' ∧ i = .int .i64 i' ∧ i' ≤ o.blocks.length ∧ MkO o.blocks o.marks i' k' ∧ Below W.heap.size W wr) (fun _ i _ => o.blocks.length - (intOf i).toNat)
  case atStart => exact ⟨0, 0, rfl, rfl, Nat.zero_le _, ⟨by simp, Nat.zero_le _⟩, Below.refl _ _⟩
  case round =>
    obtain ⟨k, i, rfl, rfl, hi, hO, hb⟩ := hrel
    have e0 := cellB hb w0
    have e1 := cellB hb w1
    have hk := hO.2
    by_cases hlt : i < o.blocks.length
    · obtain ⟨b, off, rfl, hr⟩ := RW.b (by omega)
      obtain ⟨d0, A', c, d1, RA0, hc⟩ := hr i hlt
      have hI := hO.enter hlt
      have ba := okBl_at _ _ (by omega) hbl i hlt
      have bo := ok.bs i hlt
      clear hr
      generalize hX : o.blocks[i] = X at *
      obtain ⟨a, bs⟩ := X
      simp only at *
      obtain ⟨bo1, bo2, bo3⟩ := bo
      unfold big at bo3
      have hki : (i : Int) < o.blocks.length := by omega
      have c0 := cellB hb d0
      have c1 := cellB hb d1
      go_wp2
      go_loopw [3, 5, 7] (fun k t f wq => ∃ (k' t' : Nat), k = .int .i64 k' ∧ t = .int .i64 (a + t') ∧ f = .bool (decide (t' = 0)) ∧ MkI o.blocks o.marks i k' t' ⟨a, bs⟩ ∧ Below W.heap.size W wq) (fun k _ _ _ => o.marks.length - (intOf k).toNat)
      case atStart => exact ⟨k, 0, rfl, by go_num, rfl, hI, hb⟩
      case round =>
        clear hI hO hk e0 e1 c0 c1
        have hb0 := hb
        clear hb
        obtain ⟨k, t, rfl, rfl, rfl, hI, hb⟩ := hrel
        have e0 := cellB hb w0
        have e1 := cellB hb w1
        have c0 := cellB hb d0
        have c1 := cellB hb d1
        have RA := RA0.below hb
        have RM := (RW.m.below hb)
        have hk := hI.2.1
        have ht := hI.2.2.1
        have hk1 := hI.2.2.2
        simp only at ht
        by_cases hlt2 : t < bs.length
        · by_cases hkm : k < o.marks.length
          · obtain ⟨b2, off2, rfl, hr⟩ := RM (by omega)
            obtain ⟨m0, m1, m2⟩ := hr k hkm
            have hprev : 0 < t → ∃ pc, prevOf o.marks k t = some pc ∧ wr.cell? ⟨b2, off2 + (k - 1) * 3 + 2, none⟩ = some (.bool pc) := fun h0 => by
              have h1 := hk1 h0
              have h2 : k - 1 < o.marks.length := by omega
              refine ⟨o.marks[k - 1].code, ?_, (hr (k - 1) h2).2.2⟩
              unfold prevOf; rw [if_neg (by omega), List.getElem?_eq_getElem h2]; rfl
            have hprev0 : t = 0 → prevOf o.marks k t = none := fun h => by unfold prevOf; rw [if_pos h]
            have mo := ok.ms k hkm
            have hbad := hI.bad hlt2 hkm
            have hgood := hI.good hlt2 hkm
            clear hr RM
            generalize hM : o.marks[k] = M at *
            generalize hpv : prevOf o.marks k t = pv at *
            obtain ⟨ma, mn, mc⟩ := M
            obtain ⟨mo1, mo2⟩ := mo
            simp only at *
            have hki2 : (k : Int) < o.marks.length := by omega
            have hki3 : ((k : Int) == o.marks.length) = false := by simp; omega
            have htl : a + (t : Int) < a + bs.length := by omega
            have HB := Lib.hid hbad
            have HG := Lib.hid hgood
            clear hbad hgood hI
            by_cases q1 : ma = a + t
            · by_cases q2 : 1 ≤ mn
              · have q2' : decide (mn < 1) = false := by simp; omega
                by_cases q3 : mn ≤ bs.length - t
                · have q3' : decide (a + bs.length - (a + t) < mn) = false := by simp; omega
                  by_cases ht0 : t = 0
                  · have hp := hprev0 ht0
                    have hpm : pv ≠ some mc := by rw [hp]; simp
                    have ht0' : decide (t = 0) = true := by simpa using ht0
                    clear ht0 hprev0 hprev
                    have hys : ((bs.drop t).take mn.toNat).length = mn.toNat := by rw [List.length_take, List.length_drop]; omega
                    have Rc := (RA.cut c t hc).take mn.toNat
                    have hy := (bo2.drop t).take mn.toNat
                    unfold cutA at Rc
                    rw [if_neg (show ¬ c = t by omega)] at Rc
                    generalize hYS : (bs.drop t).take mn.toNat = ys at *
                    have hHB : (mc = true → wholeP ys = false) → mc = true → okMk o.blocks o.marks = false := fun h h2 => HB.out (mkOk_false (by rintro ⟨_, _, _, _, h5⟩; have := h5 h2; simp only at this; rw [hYS, h h2] at this; exact absurd this (by simp)))
                    have hHG : (mc = true → wholeP ys = true) → MkI o.blocks o.marks i (k + 1) (t + mn.toNat) ⟨a, bs⟩ := fun h => HG.out (mkOk_true q1 q2 q3 hpm (fun h2 => by simp only at h2 ⊢; rw [hYS]; exact h h2)) q2 q3
                    clear HB HG
                    obtain ⟨n, rfl⟩ : ∃ n : Nat, mn = n := ⟨mn.toNat, by omega⟩
                    rw [Int.toNat_natCast] at hys hHG
                    have hge : (t : Int) ≤ t + n := by omega
                    have hs1 : a + (t : Int) - a = t := by omega
                    have hs2 : (t : Int) + n ≤ c := by omega
                    have hs3 : (0 : Int) ≤ (t : Int) + n := by omega
                    have hs4 : (0 : Int) ≤ (t : Int) := by omega
                    have hck : ¬ c = t := by omega
                    have hs5 : ((t : Int) + n).toNat = t + n := by omega
                    have hw0 : IntKind.i64.wrap (t : Int) = t := by rw [IntKind.wrap_i64]; omega
                    have hw1 : IntKind.i64.wrap (a + (t : Int) - a) = t := by rw [hs1, hw0]
                    have hw2 : IntKind.i64.wrap ((t : Int) + n) = t + n := by rw [IntKind.wrap_i64]; omega
                    have hw0 : IntKind.i64.wrap (t : Int) = t := by rw [IntKind.wrap_i64]; omega
                    have hw1 : IntKind.i64.wrap (a + (t : Int) - a) = t := by rw [hs1, hw0]
                    have hw2 : IntKind.i64.wrap ((t : Int) + n) = t + n := by rw [IntKind.wrap_i64]; omega
                    cases mc with
                    | false =>
                      have hG := Lib.hid (hHG (by simp))
                      clear hHG hHB
                      go_wp2
                      go_quiet (fail)
                      go_wp2
                      go_quiet (fail)
                      go_wp2
                      exact ⟨⟨k + 1, t + n, by go_num, by go_num, frst q2, hG.out, ⟨hb.os, hb.tape, hb.output, hb.size, hb.block⟩⟩, by simp [intOf]; omega⟩
                    | true =>
                      cases hwh : wholeP ys with
                      | false =>
                        have hBad := Lib.hid (hHB (fun _ => hwh) rfl)
                        clear hHG hHB
                        go_wp2
                        go_quiet (fail)
                        go_wp2
                        have z0 := fun z : Up (wr.drewN nq) => z.cell e0
                        have z1 := fun z : Up (wr.drewN nq) => z.cell e1
                        have z2 := fun z : Up (wr.drewN nq) => z.cell c0
                        have z3 := fun z : Up (wr.drewN nq) => z.cell c1
                        have z4 := fun z : Up (wr.drewN nq) => z.cell m1
                        have z5 := fun z : Up (wr.drewN nq) => z.cell m2
                        refine region_up (by kernel_rfl) (by kernel_rfl) ?_
                        repeat (go_big_quiet_step ((go_at_call 60; rename_i zz; refine Calls.up (v := .bool false) ?_; refine (r14_whole' _ _ ys _ (Rc.keep zz.up.size (fun _ _ h => zz.cell h)) hy (by unfold big; omega) (by omega) _ hys.symm).mono ?_; rw [hwh]; exact fun _ _ h => h)))
                        refine wpQuiet_nil ?_
                        rintro w9 ⟨⟨_, hb9⟩, rfl⟩
                        have y0 := cellB hb9 e0
                        have y1 := cellB hb9 e1
                        have y2 := cellB hb9 c0
                        have y3 := cellB hb9 c1
                        have y4 := cellB hb9 m1
                        have y5 := cellB hb9 m2
                        clear z0 z1 z2 z3 z4 z5
                        go_wp2
                        have hbE : Below W.heap.size W w9 := hb.trans (Below.mono (B := wr.heap.size) ⟨hb9.os, hb9.tape, hb9.output, hb9.size, hb9.block⟩ hb.size)
                        refine bodyPost_ret (v := .bool false) (by simp [results, Tryz.results36, go_sem, *]) rfl ⟨ret_bool hBad.out.symm, hBW.trans (hbE.mono hBW.size)⟩
                      | true =>
                        have hG := Lib.hid (hHG (fun _ => hwh))
                        clear hHG hHB
                        go_wp2
                        go_quiet (fail)
                        go_wp2
                        have z0 := fun z : Up (wr.drewN nq) => z.cell e0
                        have z1 := fun z : Up (wr.drewN nq) => z.cell e1
                        have z2 := fun z : Up (wr.drewN nq) => z.cell c0
                        have z3 := fun z : Up (wr.drewN nq) => z.cell c1
                        have z4 := fun z : Up (wr.drewN nq) => z.cell m1
                        have z5 := fun z : Up (wr.drewN nq) => z.cell m2
                        refine region_up (by kernel_rfl) (by kernel_rfl) ?_
                        repeat (go_big_quiet_step ((go_at_call 60; rename_i zz; refine Calls.up (v := .bool true) ?_; refine (r14_whole' _ _ ys _ (Rc.keep zz.up.size (fun _ _ h => zz.cell h)) hy (by unfold big; omega) (by omega) _ hys.symm).mono ?_; rw [hwh]; exact fun _ _ h => h)))
                        refine wpQuiet_nil ?_
                        rintro w9 ⟨⟨_, hb9⟩, rfl⟩
                        have y0 := cellB hb9 e0
                        have y1 := cellB hb9 e1
                        have y2 := cellB hb9 c0
                        have y3 := cellB hb9 c1
                        have y4 := cellB hb9 m1
                        have y5 := cellB hb9 m2
                        clear z0 z1 z2 z3 z4 z5
                        go_wp2
                        have hbE : Below W.heap.size W w9 := hb.trans (Below.mono (B := wr.heap.size) ⟨hb9.os, hb9.tape, hb9.output, hb9.size, hb9.block⟩ hb.size)
                        exact ⟨⟨k + 1, t + n, by go_num, by go_num, frst q2, hG.out, hbE⟩, by simp [intOf]; omega⟩
                  · obtain ⟨pc, hp, m3⟩ := hprev (by omega)
                    have ht0' : decide (t = 0) = false := by simpa using ht0
                    have hk10 := hk1 (by omega)
                    obtain ⟨k0, rfl⟩ : ∃ k0, k = k0 + 1 := ⟨k - 1, by omega⟩
                    rw [Nat.add_sub_cancel] at m3
                    have hk01 : (k0 : Int) < o.marks.length := by omega
                    by_cases hpc : pc = mc
                    · have hpc2 : (mc == pc) = true := by simpa using hpc.symm
                      go_wp2
                      go_quiet (fail)
                      go_wp2
                      refine bodyPost_ret (v := .bool false) (by simp [results, Tryz.results36, go_sem, *]) rfl ⟨ret_bool (HB.out (mkOk_false (by rintro ⟨_, _, _, h4, _⟩; exact h4 (by rw [hp, hpc])))).symm, hBW.trans (Below.mono ⟨hb.os, hb.tape, hb.output, hb.size, hb.block⟩ hBW.size)⟩
                    · have hpm : pv ≠ some mc := by rw [hp]; simpa using hpc
                      have hpc2 : (mc == pc) = false := by simpa using (fun h => hpc h.symm)
                      have hys : ((bs.drop t).take mn.toNat).length = mn.toNat := by rw [List.length_take, List.length_drop]; omega
                      have Rc := (RA.cut c t hc).take mn.toNat
                      have hy := (bo2.drop t).take mn.toNat
                      unfold cutA at Rc
                      rw [if_neg (show ¬ c = t by omega)] at Rc
                      generalize hYS : (bs.drop t).take mn.toNat = ys at *
                      have hHB : (mc = true → wholeP ys = false) → mc = true → okMk o.blocks o.marks = false := fun h h2 => HB.out (mkOk_false (by rintro ⟨_, _, _, _, h5⟩; have := h5 h2; simp only at this; rw [hYS, h h2] at this; exact absurd this (by simp)))
                      have hHG : (mc = true → wholeP ys = true) → MkI o.blocks o.marks i (k0 + 1 + 1) (t + mn.toNat) ⟨a, bs⟩ := fun h => HG.out (mkOk_true q1 q2 q3 hpm (fun h2 => by simp only at h2 ⊢; rw [hYS]; exact h h2)) q2 q3
                      clear HB HG
                      obtain ⟨n, rfl⟩ : ∃ n : Nat, mn = n := ⟨mn.toNat, by omega⟩
                      rw [Int.toNat_natCast] at hys hHG
                      have hge : (t : Int) ≤ t + n := by omega
                      have hs1 : a + (t : Int) - a = t := by omega
                      have hs2 : (t : Int) + n ≤ c := by omega
                      have hs3 : (0 : Int) ≤ (t : Int) + n := by omega
                      have hs4 : (0 : Int) ≤ (t : Int) := by omega
                      have hck : ¬ c = t := by omega
                      have hs5 : ((t : Int) + n).toNat = t + n := by omega
                      have hw0 : IntKind.i64.wrap (t : Int) = t := by rw [IntKind.wrap_i64]; omega
                      have hw1 : IntKind.i64.wrap (a + (t : Int) - a) = t := by rw [hs1, hw0]
                      have hw2 : IntKind.i64.wrap ((t : Int) + n) = t + n := by rw [IntKind.wrap_i64]; omega
                      have hw0 : IntKind.i64.wrap (t : Int) = t := by rw [IntKind.wrap_i64]; omega
                      have hw1 : IntKind.i64.wrap (a + (t : Int) - a) = t := by rw [hs1, hw0]
                      have hw2 : IntKind.i64.wrap ((t : Int) + n) = t + n := by rw [IntKind.wrap_i64]; omega
                      cases mc with
                      | false =>
                        have hG := Lib.hid (hHG (by simp))
                        clear hHG hHB
                        go_wp2
                        go_quiet (fail)
                        go_wp2
                        go_quiet (fail)
                        go_wp2
                        exact ⟨⟨k0 + 1 + 1, t + n, by go_num, by go_num, frst q2, hG.out, ⟨hb.os, hb.tape, hb.output, hb.size, hb.block⟩⟩, by simp [intOf]; omega⟩
                      | true =>
                        cases hwh : wholeP ys with
                        | false =>
                          have hBad := Lib.hid (hHB (fun _ => hwh) rfl)
                          clear hHG hHB
                          go_wp2
                          go_quiet (fail)
                          go_wp2
                          have z0 := fun z : Up (wr.drewN nq) => z.cell e0
                          have z1 := fun z : Up (wr.drewN nq) => z.cell e1
                          have z2 := fun z : Up (wr.drewN nq) => z.cell c0
                          have z3 := fun z : Up (wr.drewN nq) => z.cell c1
                          have z4 := fun z : Up (wr.drewN nq) => z.cell m1
                          have z5 := fun z : Up (wr.drewN nq) => z.cell m2
                          refine region_up (by kernel_rfl) (by kernel_rfl) ?_
                          repeat (go_big_quiet_step ((go_at_call 60; rename_i zz; refine Calls.up (v := .bool false) ?_; refine (r14_whole' _ _ ys _ (Rc.keep zz.up.size (fun _ _ h => zz.cell h)) hy (by unfold big; omega) (by omega) _ hys.symm).mono ?_; rw [hwh]; exact fun _ _ h => h)))
                          refine wpQuiet_nil ?_
                          rintro w9 ⟨⟨_, hb9⟩, rfl⟩
                          have y0 := cellB hb9 e0
                          have y1 := cellB hb9 e1
                          have y2 := cellB hb9 c0
                          have y3 := cellB hb9 c1
                          have y4 := cellB hb9 m1
                          have y5 := cellB hb9 m2
                          clear z0 z1 z2 z3 z4 z5
                          go_wp2
                          have hbE : Below W.heap.size W w9 := hb.trans (Below.mono (B := wr.heap.size) ⟨hb9.os, hb9.tape, hb9.output, hb9.size, hb9.block⟩ hb.size)
                          refine bodyPost_ret (v := .bool false) (by simp [results, Tryz.results36, go_sem, *]) rfl ⟨ret_bool hBad.out.symm, hBW.trans (hbE.mono hBW.size)⟩
                        | true =>
                          have hG := Lib.hid (hHG (fun _ => hwh))
                          clear hHG hHB
                          go_wp2
                          go_quiet (fail)
                          go_wp2
                          have z0 := fun z : Up (wr.drewN nq) => z.cell e0
                          have z1 := fun z : Up (wr.drewN nq) => z.cell e1
                          have z2 := fun z : Up (wr.drewN nq) => z.cell c0
                          have z3 := fun z : Up (wr.drewN nq) => z.cell c1
                          have z4 := fun z : Up (wr.drewN nq) => z.cell m1
                          have z5 := fun z : Up (wr.drewN nq) => z.cell m2
                          refine region_up (by kernel_rfl) (by kernel_rfl) ?_
                          repeat (go_big_quiet_step ((go_at_call 60; rename_i zz; refine Calls.up (v := .bool true) ?_; refine (r14_whole' _ _ ys _ (Rc.keep zz.up.size (fun _ _ h => zz.cell h)) hy (by unfold big; omega) (by omega) _ hys.symm).mono ?_; rw [hwh]; exact fun _ _ h => h)))
                          refine wpQuiet_nil ?_
                          rintro w9 ⟨⟨_, hb9⟩, rfl⟩
                          have y0 := cellB hb9 e0
                          have y1 := cellB hb9 e1
                          have y2 := cellB hb9 c0
                          have y3 := cellB hb9 c1
                          have y4 := cellB hb9 m1
                          have y5 := cellB hb9 m2
                          clear z0 z1 z2 z3 z4 z5
                          go_wp2
                          have hbE : Below W.heap.size W w9 := hb.trans (Below.mono (B := wr.heap.size) ⟨hb9.os, hb9.tape, hb9.output, hb9.size, hb9.block⟩ hb.size)
                          exact ⟨⟨k0 + 1 + 1, t + n, by go_num, by go_num, frst q2, hG.out, hbE⟩, by simp [intOf]; omega⟩
                · have q3' : a + (bs.length : Int) - (a + t) < mn := by omega
                  go_wp2
                  refine bodyPost_ret (v := .bool false) (by simp [results, Tryz.results36, go_sem, *]) rfl ⟨ret_bool (HB.out (mkOk_false (by rintro ⟨_, _, h3, _, _⟩; simp only at h3; omega))).symm, hBW.trans (hb.mono hBW.size)⟩
              · have q2' : mn < 1 := by omega
                go_wp2
                refine bodyPost_ret (v := .bool false) (by simp [results, Tryz.results36, go_sem, *]) rfl ⟨ret_bool (HB.out (mkOk_false (by rintro ⟨_, h2, _, _, _⟩; simp only at h2; omega))).symm, hBW.trans (hb.mono hBW.size)⟩
            · have q1' : (ma != a + (t : Int)) = true := by simpa using q1
              go_wp2
              refine bodyPost_ret (v := .bool false) (by simp [results, Tryz.results36, go_sem, *]) rfl ⟨ret_bool (HB.out (mkOk_false (by rintro ⟨h1, _, _, _, _⟩; exact q1 h1))).symm, hBW.trans (hb.mono hBW.size)⟩
          · have hnone := hI.none hlt2 hkm
            obtain rfl : k = o.marks.length := by omega
            have htl : a + (t : Int) < a + bs.length := by omega
            go_wp2
            refine bodyPost_ret (v := .bool false) (by simp [results, Tryz.results36, go_sem, *]) rfl ⟨ret_bool hnone.symm, hBW.trans (hb.mono hBW.size)⟩
        · obtain rfl : t = bs.length := by omega
          have hO2 := hI.leave
          clear hI hlt2
          go_wp2
          exact ⟨⟨k, i + 1, rfl, by go_num, by omega, hO2, hb⟩, by simp [intOf]; omega⟩
    · obtain rfl : i = o.blocks.length := by omega
      go_wp2
      have hd := hO.done
      have e : ((k : Int) == (o.marks.length : Int)) = decide (k = o.marks.length) := by rw [Bool.eq_iff_iff]; simp; omega
      refine bodyPost_ret (v := .bool (decide (k = o.marks.length))) (by simp [results, Tryz.results36, go_sem, *]) rfl ⟨ret_bool hd.symm, hBW.trans (hb.mono hBW.size)⟩
end Go.Proofs.YtofhdlkocgbcgaaGreatDoor
