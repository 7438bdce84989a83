/- Marks that may be. -/
import Derived.Test.YtofhdlkocgbcgaaGreatDoorWhoW
namespace Go.Proofs.YtofhdlkocgbcgaaGreatDoor
open Go Go.RowKit Pu
set_option linter.unusedVariables false
set_option linter.unusedSimpArgs false
def mkOk (A : Int) (bs : List Int) (off : Nat) (prev : Option Bool) (m : MarkP) : Bool :=
  decide (m.at_ = A + off) && decide (1 ≤ m.n) && decide (m.n ≤ bs.length - off) && decide (prev ≠ some m.code) && (!m.code || wholeP ((bs.drop off).take m.n.toNat))
def eatMk (A : Int) (bs : List Int) : List MarkP → Nat → Option Bool → Option (List MarkP)
  | [], off, _ => if bs.length ≤ off then some [] else none
  | m :: r, off, prev => if bs.length ≤ off then some (m :: r) else if mkOk A bs off prev m then eatMk A bs r (off + m.n.toNat) (some m.code) else none
def okMk : List BlockP → List MarkP → Bool
  | [], ms => ms.isEmpty
  | b :: r, ms => match eatMk b.at_ b.bytes ms 0 none with
    | none => false
    | some ms' => okMk r ms'
def prevOf (ms : List MarkP) (k off : Nat) : Option Bool := if off = 0 then none else ms[k - 1]?.map (·.code)
/-- Between blocks. -/
def MkO (bl : List BlockP) (ms : List MarkP) (i k : Nat) : Prop := okMk (bl.drop i) (ms.drop k) = okMk bl ms ∧ k ≤ ms.length
/-- Within a block. -/
def MkI (bl : List BlockP) (ms : List MarkP) (i k off : Nat) (b : BlockP) : Prop :=
  (match eatMk b.at_ b.bytes (ms.drop k) off (prevOf ms k off) with | none => false | some m' => okMk (bl.drop (i + 1)) m') = okMk bl ms ∧ k ≤ ms.length ∧ off ≤ b.bytes.length ∧ (0 < off → 1 ≤ k)
theorem MkO.enter {bl : List BlockP} {ms : List MarkP} {i k : Nat} (h : MkO bl ms i k) (hi : i < bl.length) : MkI bl ms i k 0 bl[i] := by
  refine ⟨?_, h.2, Nat.zero_le _, fun h => absurd h (by omega)⟩
  rw [← h.1, List.drop_eq_getElem_cons hi, okMk]
  rfl
theorem MkI.leave {bl : List BlockP} {ms : List MarkP} {i k : Nat} {b : BlockP} (h : MkI bl ms i k b.bytes.length b) : MkO bl ms (i + 1) k := by
  refine ⟨?_, h.2.1⟩
  rw [← h.1]
  cases hd : ms.drop k with
  | nil => rw [eatMk, if_pos (Nat.le_refl _)]
  | cons m r => rw [eatMk, if_pos (Nat.le_refl _)]
theorem MkI.none {bl : List BlockP} {ms : List MarkP} {i k off : Nat} {b : BlockP} (h : MkI bl ms i k off b) (ho : off < b.bytes.length) (hk : ¬ k < ms.length) : okMk bl ms = false := by
  rw [← h.1, List.drop_eq_nil_of_le (by omega), eatMk, if_neg (by omega)]
theorem MkI.bad {bl : List BlockP} {ms : List MarkP} {i k off : Nat} {b : BlockP} (h : MkI bl ms i k off b) (ho : off < b.bytes.length) (hk : k < ms.length) (hm : mkOk b.at_ b.bytes off (prevOf ms k off) ms[k] = false) : okMk bl ms = false := by
  rw [← h.1, List.drop_eq_getElem_cons hk, eatMk, if_neg (by omega), hm]; rfl
theorem MkI.good {bl : List BlockP} {ms : List MarkP} {i k off : Nat} {b : BlockP} (h : MkI bl ms i k off b) (ho : off < b.bytes.length) (hk : k < ms.length) (hm : mkOk b.at_ b.bytes off (prevOf ms k off) ms[k] = true) (h1 : 1 ≤ ms[k].n) (h2 : ms[k].n ≤ b.bytes.length - off) : MkI bl ms i (k + 1) (off + ms[k].n.toNat) b := by
  refine ⟨?_, by omega, by omega, fun _ => by omega⟩
  have e := h.1
  rw [List.drop_eq_getElem_cons hk, eatMk, if_neg (by omega), hm, if_pos rfl] at e
  rw [← e]
  have : prevOf ms (k + 1) (off + ms[k].n.toNat) = some ms[k].code := by
    unfold prevOf; rw [if_neg (by omega), Nat.add_sub_cancel, List.getElem?_eq_getElem hk]; rfl
  rw [this]
theorem MkO.done {bl : List BlockP} {ms : List MarkP} {k : Nat} (h : MkO bl ms bl.length k) : okMk bl ms = decide (k = ms.length) := by
  rw [← h.1, List.drop_length, okMk, Bool.eq_iff_iff, decide_eq_true_iff, List.isEmpty_iff, List.drop_eq_nil_iff]
  have := h.2; omega
theorem mkOk_false {A : Int} {bs : List Int} {off : Nat} {prev : Option Bool} {m : MarkP} (h : ¬ (m.at_ = A + off ∧ 1 ≤ m.n ∧ m.n ≤ bs.length - off ∧ prev ≠ some m.code ∧ (m.code = true → wholeP ((bs.drop off).take m.n.toNat) = true))) : mkOk A bs off prev m = false := by
  rw [Bool.eq_false_iff]; intro hh; apply h
  simp [mkOk, and_assoc] at hh
  obtain ⟨h1, h2, h3, h4, h5⟩ := hh
  exact ⟨h1, h2, h3, h4, fun hc => by simpa [hc] using h5⟩
theorem mkOk_true {A : Int} {bs : List Int} {off : Nat} {prev : Option Bool} {m : MarkP} (h1 : m.at_ = A + off) (h2 : 1 ≤ m.n) (h3 : m.n ≤ bs.length - off) (h4 : prev ≠ some m.code) (h5 : m.code = true → wholeP ((bs.drop off).take m.n.toNat) = true) : mkOk A bs off prev m = true := by
  unfold mkOk
  rw [decide_eq_true h1, decide_eq_true h2, decide_eq_true h3, decide_eq_true h4]
  cases hc : m.code with
  | false => rfl
  | true => rw [h5 hc]; rfl
theorem okBl_at : ∀ (l : List BlockP) (e : Int), -1 ≤ e → okBl e l = true → ∀ (i : Nat) (h : i < l.length), 0 ≤ l[i].at_ ∧ l[i].bytes.length ≠ 0 ∧ l[i].at_ + l[i].bytes.length ≤ 65536 ∧ e < l[i].at_
  | [], _, _, _, i, h => absurd h (by simp)
  | b :: r, e, he, hk, i, h => by
    rw [okBl, Bool.and_eq_true] at hk
    have h1 := hk.1
    unfold blOk at h1
    rw [decide_eq_true_iff] at h1
    cases i with
    | zero => exact ⟨h1.2.1, h1.2.2.1, by simp only [List.getElem_cons_zero]; omega, h1.1⟩
    | succ j =>
      have := okBl_at r _ (by omega) hk.2 j (by simpa using h)
      simp only [List.getElem_cons_succ]
      omega
theorem RdB.take {w : World} {A : Option Addr} {xs : List Int} (R : RdB w A xs) (n : Nat) : RdB w A (xs.take n) := by
  intro h0
  rw [List.length_take] at h0
  obtain ⟨b, off, rfl, hb, hr⟩ := R (by omega)
  refine ⟨b, off, rfl, hb, fun i hi => ?_⟩
  rw [List.length_take] at hi
  rw [hr i (by omega), List.getD_eq_getElem?_getD, List.getD_eq_getElem?_getD, List.getElem?_take_of_lt (by omega)]
theorem Bytes.take {xs : List Int} (h : Bytes xs) (n : Nat) : Bytes (xs.take n) := fun x hx => h x (List.mem_of_mem_take hx)
theorem RdB.drew {w : World} {A : Option Addr} {xs : List Int} (R : RdB w A xs) : RdB w.drew A xs := R
theorem asm_whole' (A : Option Addr) (c : Nat) (xs : List Int) (w : World) (T : Tabs w) (R : RdB w A xs) (hx : Bytes xs) (hl : xs.length ≤ big) (hc : xs.length ≤ c) (n : Nat) (hn : n = xs.length) : Calls Tryz.prog 73 #[.slice A n c] w fun e w' => e = .returned (.bool (wholeP xs)) ∧ Below w.heap.size w w' := hn ▸ asm_whole A c xs w T R hx hl hc
theorem r14_whole' (A : Option Addr) (c : Nat) (xs : List Int) (w : World) (R : RdB w A xs) (hx : Bytes xs) (hl : xs.length ≤ big) (hc : xs.length ≤ c) (n : Nat) (hn : n = xs.length) : Calls Tryz.prog 60 #[.slice A n c] w fun e w' => e = .returned (.bool (wholeP xs)) ∧ Below w.heap.size w w' := hn ▸ r14_whole A c xs w R hx hl hc
set_option maxHeartbeats 4000000 in
set_option maxRecDepth 100000 in
theorem asm_marked (w : World) (T : Tabs w) (A B C : Option Addr) (nl ca cb cc : Nat) (o : ObjP) (ok : ObjOK o) (R : RdO w A B C o) (hbl : okBl (-1) o.blocks = true) : Calls Tryz.prog 45 #[.agg #[.slice A o.blocks.length ca, .slice B o.marks.length cb, .slice C nl cc]] w fun e w' => e = .returned (.bool (okMk o.blocks o.marks)) ∧ Below w.heap.size w w' := by
  have hbd := ok.nb
  have hbm := ok.nm
  unfold big at hbd hbm
  go_enter Tryz.func45, Tryz.ntmps45
  go_wp2
  have RW : RdO (w.alloc (.cells #[.slice A o.blocks.length ca, .slice B o.marks.length cb, .slice C nl cc] 26)) A B C o := R.below (belowA _)
  have TW := T.alloc (.cells #[.slice A o.blocks.length ca, .slice B o.marks.length cb, .slice C nl cc] 26)
  have hBW := belowA (w := w) (.cells #[.slice A o.blocks.length ca, .slice B o.marks.length cb, .slice C nl cc] 26)
  have w0 : (w.alloc (.cells #[.slice A o.blocks.length ca, .slice B o.marks.length cb, .slice C nl cc] 26)).cell? ⟨w.heap.size, 0, none⟩ = some (.slice A o.blocks.length ca) := by simp
  have w1 : (w.alloc (.cells #[.slice A o.blocks.length ca, .slice B o.marks.length cb, .slice C nl cc] 26)).cell? ⟨w.heap.size, 1, none⟩ = some (.slice B o.marks.length cb) := by simp
  generalize hW : w.alloc (.cells #[.slice A o.blocks.length ca, .slice B o.marks.length cb, .slice C nl cc] 26) = W at *
  go_loopw [3, 11] (fun k i wr => ∃ (k' i' : Nat), k = .int .i64 k' ∧ i = .int .i64 i' ∧ i' ≤ o.blocks.length ∧ MkO o.blocks o.marks i' k' ∧ Below W.heap.size W wr) (fun _ i _ => o.blocks.length - (intOf i).toNat)
  case atStart => exact ⟨0, 0, rfl, rfl, Nat.zero_le _, ⟨by simp, Nat.zero_le _⟩, Below.refl _ _⟩
  case round =>
    obtain ⟨k, i, rfl, rfl, hi, hO, hb⟩ := hrel
    have e0 := cellB hb w0
    have e1 := cellB hb w1
    have hk := hO.2
    by_cases hlt : i < o.blocks.length
    · obtain ⟨b, off, rfl, hr⟩ := (RW.b.below hb) (by omega)
      obtain ⟨c0, A', c, c1, RA, hc⟩ := hr i hlt
      have hI := hO.enter hlt
      have ba := okBl_at _ _ (by omega) hbl i hlt
      have bo := ok.bs i hlt
      clear hr
      generalize hX : o.blocks[i] = X at *
      obtain ⟨a, bs⟩ := X
      simp only at *
      obtain ⟨bo1, bo2, bo3⟩ := bo
      unfold big at bo3
      have hki : (i : Int) < o.blocks.length := by omega
      go_wp2
      have hV := belowA (w := wr) (.cells #[.int .i64 a, .slice A' bs.length c] 41)
      have v0 : (wr.alloc (.cells #[.int .i64 a, .slice A' bs.length c] 41)).cell? ⟨wr.heap.size, 0, none⟩ = some (.int .i64 a) := by simp
      have v1 : (wr.alloc (.cells #[.int .i64 a, .slice A' bs.length c] 41)).cell? ⟨wr.heap.size, 1, none⟩ = some (.slice A' bs.length c) := by simp
      generalize hVV : wr.alloc (.cells #[.int .i64 a, .slice A' bs.length c] 41) = V at *
      go_loopw [3, 6] (fun k t wq => ∃ (k' t' : Nat), k = .int .i64 k' ∧ t = .int .i64 t' ∧ MkI o.blocks o.marks i k' t' ⟨a, bs⟩ ∧ Below V.heap.size V wq) (fun k _ _ => o.marks.length - (intOf k).toNat)
      case atStart => exact ⟨k, 0, rfl, rfl, hI, Below.refl _ _⟩
      case round =>
        clear hI c0 c1 hO hk
        obtain ⟨k, t, rfl, rfl, hI, hb2⟩ := hrel
        have E := hV.trans (hb2.mono hV.size)
        have e0 := cellB E e0
        have e1 := cellB E e1
        have p0 := cellB hb2 v0
        have p1 := cellB hb2 v1
        have RA := RA.below E
        have RM := (RW.m.below hb).below E
        have hk := hI.2.1
        have ht := hI.2.2.1
        have hk1 := hI.2.2.2
        simp only at ht
        by_cases hlt2 : t < bs.length
        · by_cases hkm : k < o.marks.length
          · obtain ⟨b2, off2, rfl, hr⟩ := RM (by omega)
            obtain ⟨m0, m1, m2⟩ := hr k hkm
            have hprev : 0 < t → ∃ pc, prevOf o.marks k t = some pc ∧ wr.cell? ⟨b2, off2 + (k - 1) * 3 + 2, none⟩ = some (.bool pc) := fun h0 => by
              have h1 := hk1 h0
              have h2 : k - 1 < o.marks.length := by omega
              refine ⟨o.marks[k - 1].code, ?_, (hr (k - 1) h2).2.2⟩
              unfold prevOf; rw [if_neg (by omega), List.getElem?_eq_getElem h2]; rfl
            have hprev0 : t = 0 → prevOf o.marks k t = none := fun h => by unfold prevOf; rw [if_pos h]
            have mo := ok.ms k hkm
            have hbad := hI.bad hlt2 hkm
            have hgood := hI.good hlt2 hkm
            clear hr RM
            generalize hM : o.marks[k] = M at *
            generalize hpv : prevOf o.marks k t = pv at *
            obtain ⟨ma, mn, mc⟩ := M
            obtain ⟨mo1, mo2⟩ := mo
            simp only at *
            have hki2 : (k : Int) < o.marks.length := by omega
            have z0 := World.block_lt_of_cell? _ _ e0
            have z1 := World.block_lt_of_cell? _ _ p0
            have z2 := World.block_lt_of_cell? _ _ m0
            simp only at z0 z1 z2
            have HB := Lib.hid hbad
            have HG := Lib.hid hgood
            clear hbad hgood hI
            by_cases q1 : ma = a + t
            · by_cases q2 : 1 ≤ mn
              · have q2' : decide (mn < 1) = false := by simp; omega
                by_cases q3 : mn ≤ bs.length - t
                · have q3' : decide ((bs.length : Int) - t < mn) = false := by simp; omega
                  by_cases ht0 : t = 0
                  · have hp := hprev0 ht0
                    have hpm : pv ≠ some mc := by rw [hp]; simp
                    have htp : decide (0 < (t : Int)) = false := by simp; omega
                    clear ht0 hprev0 hprev
                    have htp1 : decide (0 < t) = false := by simpa using htp
                    have hys : ((bs.drop t).take mn.toNat).length = mn.toNat := by rw [List.length_take, List.length_drop]; omega
                    have Rc := (RA.cut c t hc).take mn.toNat
                    have hy := (bo2.drop t).take mn.toNat
                    have TV := Tabs.b TW (hb.trans (E.mono hb.size))
                    unfold cutA at Rc
                    rw [if_neg (show ¬ c = t by omega)] at Rc
                    generalize hYS : (bs.drop t).take mn.toNat = ys at *
                    have hHB : (mc = true → wholeP ys = false) → mc = true → okMk o.blocks o.marks = false := fun h h2 => HB.out (mkOk_false (by rintro ⟨_, _, _, _, h5⟩; have := h5 h2; simp only at this; rw [hYS, h h2] at this; exact absurd this (by simp)))
                    have hHG : (mc = true → wholeP ys = true) → MkI o.blocks o.marks i (k + 1) (t + mn.toNat) ⟨a, bs⟩ := fun h => HG.out (mkOk_true q1 q2 q3 hpm (fun h2 => by simp only at h2 ⊢; rw [hYS]; exact h h2)) q2 q3
                    clear HB HG
                    cases mc with
                    | false =>
                      have hG := Lib.hid (hHG (by simp))
                      clear hHG hHB
                      go_wp2
                      go_region
                      all_goals
                        obtain ⟨n, rfl⟩ : ∃ n : Nat, mn = n := ⟨mn.toNat, by omega⟩
                        go_wp2
                        have hG2 := hG.out
                        rw [Int.toNat_natCast] at hG2
                        exact ⟨⟨k + 1, t + n, by go_num, by go_num, hG2, hb2.trans ((belowA _).drew.mono hb2.size)⟩, by simp [intOf]; omega⟩
                    | true =>
                      cases hwh : wholeP ys with
                      | false =>
                        have hBad := Lib.hid (hHB (fun _ => hwh) rfl)
                        clear hHG hHB
                        go_wp2
                        go_region
                        all_goals
                          obtain ⟨n, rfl⟩ : ∃ n : Nat, mn = n := ⟨mn.toNat, by omega⟩
                          rw [Int.toNat_natCast] at hys
                          have hge : (t : Int) ≤ t + n := by omega
                          go_wp2_with (first | (go_at_call 73; refine (asm_whole' _ _ ys _ (TV.alloc _).drew Rc.alloc.drew hy (by unfold big; omega) (by omega) _ hys.symm).mono ?_; rw [hwh]; rintro e w5 ⟨rfl, hb5⟩))
                          refine bodyPost_ret (v := .bool false) (by simp [results, Tryz.results45, go_sem, *]) rfl ⟨ret_bool hBad.out.symm, hBW.trans ((hb.trans ((E.trans (((belowA _).drew.trans (hb5.mono (belowA _).drew.size)).mono E.size)).mono hb.size)).mono hBW.size)⟩
                      | true =>
                        have hG := Lib.hid (hHG (fun _ => hwh))
                        clear hHG hHB
                        go_wp2
                        go_region
                        all_goals
                          obtain ⟨n, rfl⟩ : ∃ n : Nat, mn = n := ⟨mn.toNat, by omega⟩
                          rw [Int.toNat_natCast] at hys
                          have hge : (t : Int) ≤ t + n := by omega
                          go_wp2_with (first | (go_at_call 73; refine (asm_whole' _ _ ys _ (TV.alloc _).drew Rc.alloc.drew hy (by unfold big; omega) (by omega) _ hys.symm).mono ?_; rw [hwh]; rintro e w5 ⟨rfl, hb5⟩; have f1 := cellB hb5 (World.cell?_drew _ _ ▸ by simp : ((wr.alloc (.cells #[.int .i64 (a + t), .int .i64 n, .bool true] 54)).drew).cell? ⟨wr.heap.size, 1, none⟩ = some (.int .i64 n))))
                          have hG2 := hG.out
                          rw [Int.toNat_natCast] at hG2
                          exact ⟨⟨k + 1, t + n, by go_num, by go_num, hG2, hb2.trans (((belowA _).drew.trans (hb5.mono (belowA _).drew.size)).mono hb2.size)⟩, by simp [intOf]; omega⟩
                  · obtain ⟨pc, hp, m3⟩ := hprev (by omega)
                    by_cases hpc : pc = mc
                    · have hpc2 : (pc == mc) = true := by simpa using hpc
                      have hk10 := hk1 (by omega)
                      obtain ⟨k0, rfl⟩ : ∃ k0, k = k0 + 1 := ⟨k - 1, by omega⟩
                      rw [Nat.add_sub_cancel] at m3
                      have hk01 : (k0 : Int) < o.marks.length := by omega
                      have htp : 0 < t := by omega
                      go_wp2
                      go_region
                      all_goals
                        go_wp2
                        refine bodyPost_ret (v := .bool false) (by simp [results, Tryz.results45, go_sem, *]) rfl ⟨ret_bool (HB.out (mkOk_false (by rintro ⟨_, _, _, h4, _⟩; exact h4 (by rw [hp, hpc])))).symm, hBW.trans ((hb.trans ((E.trans ((belowA _).drew.mono E.size)).mono hb.size)).mono hBW.size)⟩
                    · have hpm : pv ≠ some mc := by rw [hp]; simpa using hpc
                      have hpc2 : (pc == mc) = false := by simpa using hpc
                      have hk10 := hk1 (by omega)
                      obtain ⟨k0, rfl⟩ : ∃ k0, k = k0 + 1 := ⟨k - 1, by omega⟩
                      rw [Nat.add_sub_cancel] at m3
                      have hk01 : (k0 : Int) < o.marks.length := by omega
                      have htp : 0 < t := by omega
                      have hys : ((bs.drop t).take mn.toNat).length = mn.toNat := by rw [List.length_take, List.length_drop]; omega
                      have Rc := (RA.cut c t hc).take mn.toNat
                      have hy := (bo2.drop t).take mn.toNat
                      have TV := Tabs.b TW (hb.trans (E.mono hb.size))
                      unfold cutA at Rc
                      rw [if_neg (show ¬ c = t by omega)] at Rc
                      generalize hYS : (bs.drop t).take mn.toNat = ys at *
                      have hHB : (mc = true → wholeP ys = false) → mc = true → okMk o.blocks o.marks = false := fun h h2 => HB.out (mkOk_false (by rintro ⟨_, _, _, _, h5⟩; have := h5 h2; simp only at this; rw [hYS, h h2] at this; exact absurd this (by simp)))
                      have hHG : (mc = true → wholeP ys = true) → MkI o.blocks o.marks i (k0 + 1 + 1) (t + mn.toNat) ⟨a, bs⟩ := fun h => HG.out (mkOk_true q1 q2 q3 hpm (fun h2 => by simp only at h2 ⊢; rw [hYS]; exact h h2)) q2 q3
                      clear HB HG
                      cases mc with
                      | false =>
                        have hG := Lib.hid (hHG (by simp))
                        clear hHG hHB
                        go_wp2
                        go_region
                        all_goals
                          obtain ⟨n, rfl⟩ : ∃ n : Nat, mn = n := ⟨mn.toNat, by omega⟩
                          go_wp2
                          have hG2 := hG.out
                          rw [Int.toNat_natCast] at hG2
                          exact ⟨⟨k0 + 1 + 1, t + n, by go_num, by go_num, hG2, hb2.trans ((belowA _).drew.mono hb2.size)⟩, by simp [intOf]; omega⟩
                      | true =>
                        cases hwh : wholeP ys with
                        | false =>
                          have hBad := Lib.hid (hHB (fun _ => hwh) rfl)
                          clear hHG hHB
                          go_wp2
                          go_region
                          all_goals
                            obtain ⟨n, rfl⟩ : ∃ n : Nat, mn = n := ⟨mn.toNat, by omega⟩
                            rw [Int.toNat_natCast] at hys
                            have hge : (t : Int) ≤ t + n := by omega
                            go_wp2_with (first | (go_at_call 73; refine (asm_whole' _ _ ys _ (TV.alloc _).drew Rc.alloc.drew hy (by unfold big; omega) (by omega) _ hys.symm).mono ?_; rw [hwh]; rintro e w5 ⟨rfl, hb5⟩))
                            refine bodyPost_ret (v := .bool false) (by simp [results, Tryz.results45, go_sem, *]) rfl ⟨ret_bool hBad.out.symm, hBW.trans ((hb.trans ((E.trans (((belowA _).drew.trans (hb5.mono (belowA _).drew.size)).mono E.size)).mono hb.size)).mono hBW.size)⟩
                        | true =>
                          have hG := Lib.hid (hHG (fun _ => hwh))
                          clear hHG hHB
                          go_wp2
                          go_region
                          all_goals
                            obtain ⟨n, rfl⟩ : ∃ n : Nat, mn = n := ⟨mn.toNat, by omega⟩
                            rw [Int.toNat_natCast] at hys
                            have hge : (t : Int) ≤ t + n := by omega
                            go_wp2_with (first | (go_at_call 73; refine (asm_whole' _ _ ys _ (TV.alloc _).drew Rc.alloc.drew hy (by unfold big; omega) (by omega) _ hys.symm).mono ?_; rw [hwh]; rintro e w5 ⟨rfl, hb5⟩; have f1 := cellB hb5 (World.cell?_drew _ _ ▸ by simp : ((wr.alloc (.cells #[.int .i64 (a + t), .int .i64 n, .bool true] 54)).drew).cell? ⟨wr.heap.size, 1, none⟩ = some (.int .i64 n))))
                            have hG2 := hG.out
                            rw [Int.toNat_natCast] at hG2
                            exact ⟨⟨k0 + 1 + 1, t + n, by go_num, by go_num, hG2, hb2.trans (((belowA _).drew.trans (hb5.mono (belowA _).drew.size)).mono hb2.size)⟩, by simp [intOf]; omega⟩
                · have q3' : (bs.length : Int) - t < mn := by omega
                  go_wp2
                  go_region
                  all_goals
                    go_wp2
                    refine bodyPost_ret (v := .bool false) (by simp [results, Tryz.results45, go_sem, *]) rfl ⟨ret_bool (HB.out (mkOk_false (by rintro ⟨_, _, h3, _, _⟩; simp only at h3; omega))).symm, hBW.trans ((hb.trans ((E.trans ((belowA _).drew.mono E.size)).mono hb.size)).mono hBW.size)⟩
              · go_wp2
                go_region
                all_goals
                  go_wp2
                  refine bodyPost_ret (v := .bool false) (by simp [results, Tryz.results45, go_sem, *]) rfl ⟨ret_bool (HB.out (mkOk_false (by rintro ⟨_, h2, _, _, _⟩; simp only at h2; omega))).symm, hBW.trans ((hb.trans ((E.trans ((belowA _).drew.mono E.size)).mono hb.size)).mono hBW.size)⟩
            · have q1' : (ma != a + (t : Int)) = true := by simpa using q1
              go_wp2
              go_region
              all_goals
                go_wp2
                refine bodyPost_ret (v := .bool false) (by simp [results, Tryz.results45, go_sem, *]) rfl ⟨ret_bool (HB.out (mkOk_false (by rintro ⟨h1, _, _, _, _⟩; exact q1 h1))).symm, hBW.trans ((hb.trans ((E.trans ((belowA _).drew.mono E.size)).mono hb.size)).mono hBW.size)⟩
          · have hnone := hI.none hlt2 hkm
            go_wp2
            refine bodyPost_ret (v := .bool false) (by simp [results, Tryz.results45, go_sem, *]) rfl ⟨ret_bool hnone.symm, hBW.trans ((hb.trans (E.mono hb.size)).mono hBW.size)⟩
        · obtain rfl : t = bs.length := by omega
          have hO2 := hI.leave
          clear hI hlt2
          go_wp2
          exact ⟨⟨k, i + 1, rfl, by go_num, by omega, hO2, hb.trans (E.mono hb.size)⟩, by simp [intOf]; omega⟩
    · obtain rfl : i = o.blocks.length := by omega
      go_wp2
      have hd := hO.done
      have e : ((k : Int) == (o.marks.length : Int)) = decide (k = o.marks.length) := by rw [Bool.eq_iff_iff]; simp; omega
      refine bodyPost_ret (v := .bool (decide (k = o.marks.length))) (by simp [results, Tryz.results45, go_sem, *]) rfl ⟨ret_bool hd.symm, hBW.trans (hb.mono hBW.size)⟩
end Go.Proofs.YtofhdlkocgbcgaaGreatDoor
