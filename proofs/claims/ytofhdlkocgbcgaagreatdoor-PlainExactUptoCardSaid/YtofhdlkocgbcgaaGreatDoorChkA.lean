/- The walk of asm's Check. -/
import Derived.Test.YtofhdlkocgbcgaaGreatDoorMapA
import Derived.Test.YtofhdlkocgbcgaaGreatDoorLinP
import Derived.Test.YtofhdlkocgbcgaaGreatDoorQuiW
namespace Go.Proofs.YtofhdlkocgbcgaaGreatDoor
open Go Go.RowKit Pu
set_option linter.unusedVariables false
set_option linter.unusedSimpArgs false
def okN (o : ObjP) : Int := if okO o then 0 else 1
theorem okN_bl {o : ObjP} (h : okBl (-1) o.blocks = false) : okN o = 1 := by unfold okN okO; rw [h]; rfl
theorem okN_mk {o : ObjP} (h : okMk o.blocks o.marks = false) : okN o = 1 := by unfold okN okO; rw [h, Bool.and_false]; rfl
theorem okN_lb {o : ObjP} (h : okLb o.labels = false) : okN o = 1 := by unfold okN okO; rw [h, Bool.and_false]; rfl
theorem okN_ok {o : ObjP} (h1 : okBl (-1) o.blocks = true) (h2 : okMk o.blocks o.marks = true) (h3 : okLb o.labels = true) : okN o = 0 := by unfold okN okO; rw [h1, h2, h3]; rfl
theorem heapB {w w1 : World} (hb : Below w.heap.size w w1) {b : Nat} {o : Obj} (h : w.heap[b]? = some o) : w1.heap[b]? = some o := by
  have hlt : b < w.heap.size := by
    rcases Nat.lt_or_ge b w.heap.size with h1 | h1
    · exact h1
    · rw [Array.getElem?_eq_none h1] at h; exact absurd h (by simp)
  rw [hb.block b hlt, h]
def nsOf (l : List LabelP) (i : Nat) : List ByteArray := (l.take i).map (·.name)
theorem lbDup_mem (l : List LabelP) (x : ByteArray) : ∀ i, i ≤ l.length → (lbDup l x i = true ↔ x ∈ nsOf l i)
  | 0, _ => by simp [lbDup, nsOf]
  | i + 1, h => by
    rw [lbDup, Bool.or_eq_true, lbDup_mem l x i (by omega), decide_eq_true_iff, lb_at l i (by omega)]
    unfold nsOf
    rw [List.take_succ_eq_append_getElem (by omega), List.map_append, List.mem_append]
    simp [eq_comm]
theorem nsOf_succ (l : List LabelP) (i : Nat) (h : i < l.length) : nsOf l (i + 1) = nsOf l i ++ [l[i].name] := by
  unfold nsOf; rw [List.take_succ_eq_append_getElem h, List.map_append]; rfl
theorem ord_pos {a b : LabelP} (hne : a.name ≠ b.name) {r : Int} (hr : (if Lib.compareInt a.at_ b.at_ = 0 then Lib.compareBytes a.name.data.toList b.name.data.toList else Lib.compareInt a.at_ b.at_) = r) : decide (0 < r) = !lbBefore a b := by
  subst hr
  rw [cmp_less]
  unfold lbBefore Lib.compareInt
  rw [Lib.toList_data, Lib.toList_data]
  have hne2 : ¬ a.name.data.toList = b.name.data.toList := by
    intro h; apply hne
    rcases a with ⟨⟨⟨x⟩⟩, _⟩; rcases b with ⟨⟨⟨y⟩⟩, _⟩
    simp at h; subst h; rfl
  by_cases h1 : a.at_ < b.at_
  · simp [h1]
  · by_cases h2 : b.at_ < a.at_
    · have : ¬ a.at_ = b.at_ := by omega
      simp [h1, h2, this]
    · have : a.at_ = b.at_ := by omega
      simp [h1, h2, this, hne2]
      cases Op.bytesLess a.name.data.toList b.name.data.toList <;> simp
set_option maxHeartbeats 4000000 in
set_option maxRecDepth 100000 in
theorem asm_Check (w : World) (T : Tabs w) (A B C : Option Addr) (ca cb cc : Nat) (o : ObjP) (ok : ObjOK o) (R : RdO w A B C o) : Calls Tryz.prog 21 #[.agg #[.slice A o.blocks.length ca, .slice B o.marks.length cb, .slice C o.labels.length cc]] w fun e w' => e = .returned (.int .i64 (okN o)) ∧ Below w.heap.size w w' := by
  have hbd := ok.nb
  have hbm := ok.nm
  have hbl := ok.nl
  unfold big at hbd hbm hbl
  have hmm := @run_makeMap Tryz.prog
  go_enter Tryz.func21, Tryz.ntmps21
  go_wp2
  have RW : RdO (w.alloc (.cells #[.slice A o.blocks.length ca, .slice B o.marks.length cb, .slice C o.labels.length cc] 26)) A B C o := R.below (belowA _)
  have TW := T.alloc (.cells #[.slice A o.blocks.length ca, .slice B o.marks.length cb, .slice C o.labels.length cc] 26)
  have hBW := belowA (w := w) (.cells #[.slice A o.blocks.length ca, .slice B o.marks.length cb, .slice C o.labels.length cc] 26)
  have w0 : (w.alloc (.cells #[.slice A o.blocks.length ca, .slice B o.marks.length cb, .slice C o.labels.length cc] 26)).cell? ⟨w.heap.size, 0, none⟩ = some (.slice A o.blocks.length ca) := by simp
  have w1 : (w.alloc (.cells #[.slice A o.blocks.length ca, .slice B o.marks.length cb, .slice C o.labels.length cc] 26)).cell? ⟨w.heap.size, 1, none⟩ = some (.slice B o.marks.length cb) := by simp
  have w2 : (w.alloc (.cells #[.slice A o.blocks.length ca, .slice B o.marks.length cb, .slice C o.labels.length cc] 26)).cell? ⟨w.heap.size, 2, none⟩ = some (.slice C o.labels.length cc) := by simp
  generalize hW : w.alloc (.cells #[.slice A o.blocks.length ca, .slice B o.marks.length cb, .slice C o.labels.length cc] 26) = W at *
  go_loopw [3, 12] (fun e i wr => ∃ (k : Nat) (en : Int), i = .int .i64 k ∧ e = .int .i64 en ∧ k ≤ o.blocks.length ∧ BlI o.blocks k en ∧ Below W.heap.size W wr) (fun _ i _ => o.blocks.length - (intOf i).toNat)
  case atStart => exact ⟨0, -1, rfl, rfl, by omega, ⟨rfl, by omega, by omega⟩, Below.refl _ _⟩
  case round =>
    obtain ⟨k, en, rfl, rfl, hk, hI, hb⟩ := hrel
    have e0 := cellB hb w0
    have e1 := cellB hb w1
    have e2 := cellB hb w2
    by_cases hlt : k < o.blocks.length
    · obtain ⟨b, off, rfl, hr⟩ := (RW.b.below hb) (by omega)
      obtain ⟨c0, A', c, c1, c2⟩ := hr k (by omega)
      have bo := ok.bs k hlt
      have hg := fun h1 h2 h3 h4 => hI.good hlt h1 h2 h3 h4
      have hbad := fun h1 => hI.bad hlt h1
      generalize hB : o.blocks[k] = X at *
      obtain ⟨X1, X2⟩ := X
      obtain ⟨⟨b1, b2⟩, b3, b4⟩ := bo
      unfold big at b4
      simp only at *
      generalize hn : X2.length = n at *
      have hki : (k : Int) < o.blocks.length := by omega
      clear hr c2 b3
      have hen := hI.2.1
      have HG := Lib.hid hg
      have HB := Lib.hid hbad
      clear hg hbad
      go_wp2
      all_goals first
        | (refine bodyPost_ret (v := .int .i64 1) (by simp [results, Tryz.results21, go_sem, *]) rfl ⟨ret_int (okN_bl (HB.out (by intro hh; simp at *; omega))).symm, ?_⟩; exact hBW.trans ((hb.trans ((belowA _).mono hb.size)).mono hBW.size))
        | exact ⟨⟨k + 1, _, by go_num, rfl, by omega, HG.out (by omega) (by omega) (by omega) (by omega), hb.trans ((belowA _).mono hb.size)⟩, by simp [intOf]; omega⟩
        | skip
    · obtain rfl : k = o.blocks.length := by omega
      have hbk := hI.done
      clear hI
      cases hmk : okMk o.blocks o.marks with
      | false =>
        go_wp2_with (first | (go_at_call 45; refine (asm_marked _ (Tabs.b TW hb) _ _ _ _ _ _ _ o ok (RW.below hb) hbk).mono ?_; rw [hmk]; rintro e w5 ⟨rfl, hb5⟩))
        refine bodyPost_ret (v := .int .i64 1) (by simp [results, Tryz.results21, go_sem, *]) rfl ⟨ret_int (okN_mk hmk).symm, hBW.trans ((hb.trans (hb5.mono hb.size)).mono hBW.size)⟩
      | true =>
        go_wp2_with (first | (go_at_call 45; refine (asm_marked _ (Tabs.b TW hb) _ _ _ _ _ _ _ o ok (RW.below hb) hbk).mono ?_; rw [hmk]; rintro e w5 ⟨rfl, hb5⟩; have e2 := fun O => cellA (O := O) (cellB hb5 e2)))
        have hB5 := hb.trans (hb5.mono hb.size)
        clear hb hb5
        have hV : Below W.heap.size W (w5.alloc (.map #[] 0)) := hB5.alloc hB5.size _
        have hVm : (w5.alloc (.map #[] 0)).heap[w5.heap.size]? = some (.map #[] 0) := heap_alloc_new _ _
        have hmb := hB5.size
        generalize w5.heap.size = mb at *
        generalize hVV : w5.alloc (.map #[] 0) = V at *
        go_loopw [59] (fun i wr => ∃ (i' : Nat) (es : Array MapEntry) (c : Nat), i = .int .i64 i' ∧ i' ≤ o.labels.length ∧ okLbN o.labels i' = true ∧ MapN es (nsOf o.labels i') ∧ wr.heap[mb]? = some (.map es c) ∧ Below W.heap.size W wr) (fun i _ => o.labels.length - (intOf i).toNat)
        case atStart => exact ⟨0, #[], 0, rfl, Nat.zero_le _, rfl, rfl, hVm, hV⟩
        case round =>
          obtain ⟨i, es, c, rfl, hi, hok, hms, hmap, hb⟩ := hrel
          have e2 := cellB hb w2
          by_cases hlt : i < o.labels.length
          · have hki : (i : Int) < o.labels.length := by omega
            obtain ⟨b, off, rfl, hr0⟩ := RW.l (by omega)
            obtain ⟨d0, d1⟩ := hr0 i hlt
            have lo := ok.ls i hlt
            have hx0 := lb_at o.labels i hlt
            have hns := nsOf_succ o.labels i hlt
            rw [← hx0] at d0 d1 lo hns
            generalize hX : o.labels.getD i lb0 = x at *
            clear hx0
            have c0 := cellB hb d0
            have c1 := cellB hb d1
            obtain ⟨lo1, lo2⟩ := lo
            unfold I64 at lo1
            have hdup := lbDup_mem o.labels x.name i hi
            go_wp2
            have hv0 : (wr.alloc (.cells #[.string x.name, .int .i64 x.at_] 57)).cell? ⟨wr.heap.size, 0, none⟩ = some (.string x.name) := cellNew rfl rfl
            have hv1 : (wr.alloc (.cells #[.string x.name, .int .i64 x.at_] 57)).cell? ⟨wr.heap.size, 1, none⟩ = some (.int .i64 x.at_) := cellNew rfl rfl
            have hbV := hb.trans ((belowA (.cells #[.string x.name, .int .i64 x.at_] 57)).mono hb.size)
            have e2V := cellB (belowA (.cells #[.string x.name, .int .i64 x.at_] 57)) e2
            have hmV := heapB (belowA (.cells #[.string x.name, .int .i64 x.at_] 57)) hmap
            generalize hVV2 : wr.alloc (.cells #[.string x.name, .int .i64 x.at_] 57) = V2 at *
            generalize wr.heap.size = p at *
            have z0 := fun z : Up V2 => z.cell e2V
            have z1 := fun z : Up V2 => z.cell hv0
            have z2 := fun z : Up V2 => z.cell hv1
            cases q1 : isN x.name with
            | false =>
              have hF : okLb o.labels = false := okLbN_false o.labels _ i hlt (by unfold lbOk; rw [hX, q1]; rfl)
              refine region_up (by kernel_rfl) (by kernel_rfl) ?_
              repeat (go_big_quiet_step (((go_at_call 46; refine Calls.up (v := .bool false) ?_; refine (asm_named _ _).mono ?_; rw [q1]; exact fun _ _ h => h))))
              refine wpQuiet_nil ?_
              rintro _ ⟨⟨w9, hb9⟩, rfl⟩
              have hbE := hbV.trans (hb9.mono hbV.size)
              go_wp2
              refine bodyPost_ret (v := .int .i64 1) (by simp [results, Tryz.results21, go_sem, *]) rfl ⟨ret_int (okN_lb hF).symm, hBW.trans (hbE.mono hBW.size)⟩
            | true =>
              by_cases q2 : 0 ≤ x.at_
              · have q2' : decide (x.at_ < 0) = false := by simp; omega
                by_cases q3 : x.at_ < 65536
                · have q3' : decide (65536 ≤ x.at_) = false := by simp; omega
                  by_cases q4 : x.name ∈ nsOf o.labels i
                  · have hlook := fun z : Up V2 => names_has mb es c _ hms x.name q4 z.val (z.heap hmV)
                    have hF : okLb o.labels = false := okLbN_false o.labels _ i hlt (by unfold lbOk; rw [hX, hdup.2 q4]; simp)
                    refine region_up (by kernel_rfl) (by kernel_rfl) ?_
                    repeat (go_big_quiet_step (((go_at_call 46; refine Calls.up (v := .bool true) ?_; refine (asm_named _ _).mono ?_; rw [q1]; exact fun _ _ h => h))))
                    refine wpQuiet_nil ?_
                    rintro _ ⟨⟨w9, hb9⟩, rfl⟩
                    have hbE := hbV.trans (hb9.mono hbV.size)
                    go_wp2
                    refine bodyPost_ret (v := .int .i64 1) (by simp [results, Tryz.results21, go_sem, *]) rfl ⟨ret_int (okN_lb hF).symm, hBW.trans (hbE.mono hBW.size)⟩
                  · have hlook := fun z : Up V2 => names_none mb es c _ hms x.name q4 z.val (z.heap hmV)
                    have hadd := names_add mb es c _ hms x.name q4
                    have hdf : lbDup o.labels x.name i = false := by rw [Bool.eq_false_iff]; exact fun h => q4 (hdup.1 h)
                    cases i with
                    | zero =>
                      have hlk : lbOk o.labels 0 = true := by unfold lbOk; rw [hX, q1, hdf, decide_eq_true q2, decide_eq_true q3]; rfl
                      refine region_up (by kernel_rfl) (by kernel_rfl) ?_
                      repeat (go_big_quiet_step (((go_at_call 46; refine Calls.up (v := .bool true) ?_; refine (asm_named _ _).mono ?_; rw [q1]; exact fun _ _ h => h))))
                      refine wpQuiet_nil ?_
                      rintro _ ⟨⟨w9, hb9⟩, rfl⟩
                      have f2 := heapB hb9 hmV
                      have f3 := hbV.trans (hb9.mono hbV.size)
                      have fx := cellB hb9 hv0
                      go_wp2
                      exact ⟨⟨0 + 1, _, _, by go_num, by omega, by rw [okLbN, hok, hlk]; rfl, by rw [hns]; exact hms.push _ _, setBlk_get f2, setBlk_below f3 hmb⟩, by simp [intOf]; omega⟩
                    | succ k =>
                      obtain ⟨p0, p1⟩ := hr0 k (by omega)
                      rw [← lb_at o.labels k (by omega)] at p0 p1
                      have hyn : (o.labels.getD k lb0).name ≠ x.name := fun h => absurd (lbDup_true o.labels x.name (k + 1) k (by omega) h) (by rw [hdf]; simp)
                      generalize hY : o.labels.getD k lb0 = y at *
                      have g0 := cellB hbV p0
                      have g1 := cellB hbV p1
                      have z3 := fun z : Up V2 => z.cell g0
                      have z4 := fun z : Up V2 => z.cell g1
                      have hkl : (k : Int) < o.labels.length := by omega
                      have hk1 : (k : Int) + 1 < o.labels.length := by omega
                      have hk00 : (0 : Int) ≤ (k : Int) := by omega
                      have hk01 : (0 : Int) ≤ (k : Int) + 1 := by omega
                      have hk02 : (k : Int) + 1 - 1 = k := by omega
                      have hk03 : IntKind.i64.wrap (k : Int) = k := by rw [IntKind.wrap_i64]; omega
                      have hk04 : IntKind.i64.wrap ((k : Int) + 1 - 1) = k := by rw [hk02, hk03]
                      generalize hr : (if Lib.compareInt y.at_ x.at_ = 0 then Lib.compareBytes y.name.data.toList x.name.data.toList else Lib.compareInt y.at_ x.at_) = r
                      have hrp := ord_pos hyn hr
                      cases q5 : lbBefore y x with
                      | false =>
                        have hF : okLb o.labels = false := okLbN_false o.labels _ (k + 1) hlt (by unfold lbOk; rw [Nat.add_sub_cancel, hX, hY, q5]; simp)
                        rw [q5] at hrp
                        have hrp' : decide (0 < r) = true := hrp
                        refine region_up (by kernel_rfl) (by kernel_rfl) ?_
                        repeat (go_big_quiet_step ((first | (go_at_call 46; refine Calls.up (v := .bool true) ?_; refine (asm_named _ _).mono ?_; rw [q1]; exact fun _ _ h => h) | (go_at_call 47; refine Calls.up (v := .int .i64 r) ?_; exact asm_ordered y x _ _ _ rfl rfl _ hr))))
                        refine wpQuiet_nil ?_
                        rintro _ ⟨⟨w9, hb9⟩, rfl⟩
                        have hbE := hbV.trans (hb9.mono hbV.size)
                        go_wp2
                        refine bodyPost_ret (v := .int .i64 1) (by simp [results, Tryz.results21, go_sem, *]) rfl ⟨ret_int (okN_lb hF).symm, hBW.trans (hbE.mono hBW.size)⟩
                      | true =>
                        have hlk : lbOk o.labels (k + 1) = true := by unfold lbOk; rw [Nat.add_sub_cancel, hX, hY, q1, hdf, q5, decide_eq_true q2, decide_eq_true q3, Bool.or_true]; rfl
                        rw [q5] at hrp
                        have hrp' : decide (0 < r) = false := hrp
                        refine region_up (by kernel_rfl) (by kernel_rfl) ?_
                        repeat (go_big_quiet_step ((first | (go_at_call 46; refine Calls.up (v := .bool true) ?_; refine (asm_named _ _).mono ?_; rw [q1]; exact fun _ _ h => h) | (go_at_call 47; refine Calls.up (v := .int .i64 r) ?_; exact asm_ordered y x _ _ _ rfl rfl _ hr))))
                        refine wpQuiet_nil ?_
                        rintro _ ⟨⟨w9, hb9⟩, rfl⟩
                        have f2 := heapB hb9 hmV
                        have f3 := hbV.trans (hb9.mono hbV.size)
                        have fx := cellB hb9 hv0
                        clear hk02 hk03 hk04
                        go_wp2
                        exact ⟨⟨k + 1 + 1, _, _, by go_num, by omega, by rw [okLbN, hok, hlk]; rfl, by rw [hns]; exact hms.push _ _, setBlk_get f2, setBlk_below f3 hmb⟩, by simp [intOf]; omega⟩
                · have q3' : decide (65536 ≤ x.at_) = true := by simp; omega
                  have hF : okLb o.labels = false := okLbN_false o.labels _ i hlt (by unfold lbOk; rw [hX, decide_eq_false q3]; simp)
                  refine region_up (by kernel_rfl) (by kernel_rfl) ?_
                  repeat (go_big_quiet_step (((go_at_call 46; refine Calls.up (v := .bool true) ?_; refine (asm_named _ _).mono ?_; rw [q1]; exact fun _ _ h => h))))
                  refine wpQuiet_nil ?_
                  rintro _ ⟨⟨w9, hb9⟩, rfl⟩
                  have hbE := hbV.trans (hb9.mono hbV.size)
                  go_wp2
                  refine bodyPost_ret (v := .int .i64 1) (by simp [results, Tryz.results21, go_sem, *]) rfl ⟨ret_int (okN_lb hF).symm, hBW.trans (hbE.mono hBW.size)⟩
              · have q2' : decide (x.at_ < 0) = true := by simp; omega
                have hF : okLb o.labels = false := okLbN_false o.labels _ i hlt (by unfold lbOk; rw [hX, decide_eq_false q2]; simp)
                refine region_up (by kernel_rfl) (by kernel_rfl) ?_
                repeat (go_big_quiet_step (((go_at_call 46; refine Calls.up (v := .bool true) ?_; refine (asm_named _ _).mono ?_; rw [q1]; exact fun _ _ h => h))))
                refine wpQuiet_nil ?_
                rintro _ ⟨⟨w9, hb9⟩, rfl⟩
                have hbE := hbV.trans (hb9.mono hbV.size)
                go_wp2
                refine bodyPost_ret (v := .int .i64 1) (by simp [results, Tryz.results21, go_sem, *]) rfl ⟨ret_int (okN_lb hF).symm, hBW.trans (hbE.mono hBW.size)⟩
          · obtain rfl : i = o.labels.length := by omega
            go_wp2
            refine bodyPost_ret (v := .int .i64 0) (by simp [results, Tryz.results21, go_sem, *]) rfl ⟨ret_int (okN_ok hbk hmk hok).symm, hBW.trans (hb.mono hBW.size)⟩
end Go.Proofs.YtofhdlkocgbcgaaGreatDoor
