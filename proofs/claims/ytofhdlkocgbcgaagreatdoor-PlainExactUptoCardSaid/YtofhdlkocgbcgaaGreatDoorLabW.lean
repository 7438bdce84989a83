/- Labels that may be: the reference. -/
import Derived.Test.YtofhdlkocgbcgaaGreatDoorWhoW
namespace Go.Proofs.YtofhdlkocgbcgaaGreatDoor
open Go Go.RowKit Pu
set_option linter.unusedVariables false
set_option linter.unusedSimpArgs false
def lbBefore (a b : LabelP) : Bool := decide (a.at_ < b.at_) || (decide (a.at_ = b.at_) && Op.bytesLess a.name.toList b.name.toList)
theorem cmp_less : ∀ a b : List UInt8, Lib.compareBytes a b = if Op.bytesLess a b then -1 else if a = b then 0 else 1
  | [], [] => by simp [Lib.compareBytes, Op.bytesLess]
  | [], _ :: _ => by simp [Lib.compareBytes, Op.bytesLess]
  | _ :: _, [] => by simp [Lib.compareBytes, Op.bytesLess]
  | x :: a, y :: b => by
    rw [Lib.compareBytes, Op.bytesLess, cmp_less a b]
    by_cases h1 : x < y
    · simp [h1]
    · by_cases h2 : y < x
      · have : ¬ x = y := by rintro rfl; exact h1 h2
        simp [h1, h2, this]
      · have : x = y := by
          rcases Nat.lt_trichotomy x.toNat y.toNat with h | h | h
          · exact absurd (UInt8.lt_iff_toNat_lt.2 h) h1
          · exact UInt8.toNat_inj.1 h
          · exact absurd (UInt8.lt_iff_toNat_lt.2 h) h2
        subst this
        simp [h1]
def lb0 : LabelP := ⟨⟨#[]⟩, 0⟩
def lbDup (l : List LabelP) (x : ByteArray) : Nat → Bool
  | 0 => false
  | k + 1 => lbDup l x k || decide ((l.getD k lb0).name = x)
def lbOk (l : List LabelP) (i : Nat) : Bool :=
  isN (l.getD i lb0).name && decide (0 ≤ (l.getD i lb0).at_) && decide ((l.getD i lb0).at_ < 65536) && (decide (i = 0) || lbBefore (l.getD (i - 1) lb0) (l.getD i lb0)) && !lbDup l (l.getD i lb0).name i
def okLbN (l : List LabelP) : Nat → Bool
  | 0 => true
  | i + 1 => okLbN l i && lbOk l i
def okLb (l : List LabelP) : Bool := okLbN l l.length
theorem okLbN_false (l : List LabelP) : ∀ n i, i < n → lbOk l i = false → okLbN l n = false
  | 0, i, h, _ => absurd h (by omega)
  | n + 1, i, h, hf => by
    rw [okLbN]
    by_cases hi : i = n
    · subst hi; rw [hf, Bool.and_false]
    · rw [okLbN_false l n i (by omega) hf, Bool.false_and]
theorem lbDup_true (l : List LabelP) (x : ByteArray) : ∀ n k, k < n → (l.getD k lb0).name = x → lbDup l x n = true
  | 0, k, h, _ => absurd h (by omega)
  | n + 1, k, h, hf => by
    rw [lbDup]
    by_cases hi : k = n
    · subst hi; rw [decide_eq_true hf, Bool.or_true]
    · rw [lbDup_true l x n k (by omega) hf, Bool.true_or]
theorem lb_at (l : List LabelP) (i : Nat) (h : i < l.length) : l.getD i lb0 = l[i] := by simp [List.getD_eq_getElem?_getD, List.getElem?_eq_getElem h]
set_option maxHeartbeats 1000000 in
set_option maxRecDepth 100000 in
theorem r14_before (a b : LabelP) (w : World) : Calls Tryz.prog 62 #[.agg #[.string a.name, .int .i64 a.at_], .agg #[.string b.name, .int .i64 b.at_]] w fun e w' => e = .returned (.bool (lbBefore a b)) ∧ Below w.heap.size w w' := by
  obtain ⟨an, aa⟩ := a
  obtain ⟨bn, ba⟩ := b
  simp only
  by_cases h1 : aa < ba
  · have hr : lbBefore ⟨an, aa⟩ ⟨bn, ba⟩ = true := by simp [lbBefore, h1]
    rw [hr]
    go_enter Tryz.func62, Tryz.ntmps62
    go_wp2
    go_ret
    refine ⟨rfl, ?_⟩
    (repeat first | exact Below.refl _ _ | assumption | refine Below.trans ?_ (hb.mono (by first | omega | (simp; done) | (simp; omega))) | refine Below.drew ?_ | refine Below.alloc ?_ (by first | omega | (simp; done) | (simp; omega)) _ | refine Below.setCell ?_ (by first | omega | (simp; done) | (simp; omega)) _)
  · have h1' : decide (aa < ba) = false := by simp; omega
    by_cases h2 : aa = ba
    · have h2' : (aa == ba) = true := by simpa using h2
      generalize hs : Op.bytesLess an.toList bn.toList = s
      have hr : lbBefore ⟨an, aa⟩ ⟨bn, ba⟩ = s := by simp [lbBefore, h1, h2, hs]
      rw [hr]
      subst h2
      go_enter Tryz.func62, Tryz.ntmps62
      go_wp2
      all_goals
        go_ret
        refine ⟨by simp_all, ?_⟩
        (repeat first | exact Below.refl _ _ | assumption | refine Below.trans ?_ (hb.mono (by first | omega | (simp; done) | (simp; omega))) | refine Below.drew ?_ | refine Below.alloc ?_ (by first | omega | (simp; done) | (simp; omega)) _ | refine Below.setCell ?_ (by first | omega | (simp; done) | (simp; omega)) _)
    · have h2' : (aa == ba) = false := by simpa using h2
      have hr : lbBefore ⟨an, aa⟩ ⟨bn, ba⟩ = false := by simp [lbBefore, h1, h2]
      rw [hr]
      go_enter Tryz.func62, Tryz.ntmps62
      go_wp2
      go_ret
      refine ⟨rfl, ?_⟩
      (repeat first | exact Below.refl _ _ | assumption | refine Below.trans ?_ (hb.mono (by first | omega | (simp; done) | (simp; omega))) | refine Below.drew ?_ | refine Below.alloc ?_ (by first | omega | (simp; done) | (simp; omega)) _ | refine Below.setCell ?_ (by first | omega | (simp; done) | (simp; omega)) _)
set_option maxHeartbeats 4000000 in
set_option maxRecDepth 100000 in
theorem r14_labelsMay (w : World) (A : Option Addr) (c : Nat) (l : List LabelP) (hl : l.length ≤ big) (ok : ∀ (i : Nat) (h : i < l.length), LabelOK l[i]) (R : RdLb w A l) : Calls Tryz.prog 37 #[.slice A l.length c] w fun e w' => e = .returned (.bool (okLb l)) ∧ Below w.heap.size w w' := by
  unfold big at hl
  go_enter Tryz.func37, Tryz.ntmps37
  go_wp2
  go_loopw [3] (fun i wr => ∃ i' : Nat, i = .int .i64 i' ∧ i' ≤ l.length ∧ okLbN l i' = true ∧ Below w.heap.size w wr) (fun i _ => l.length - (intOf i).toNat)
  case atStart => exact ⟨0, rfl, Nat.zero_le _, rfl, Below.refl _ _⟩
  case round =>
    obtain ⟨i, rfl, hi, hI, hb⟩ := hrel
    by_cases hlt : i < l.length
    · obtain ⟨b, off, rfl, hr0⟩ := R (by omega)
      obtain ⟨d0, d1⟩ := hr0 i hlt
      have lo := ok i hlt
      rw [← lb_at l i hlt] at d0 d1 lo
      generalize hX : l.getD i lb0 = x at *
      have c0 := cellB hb d0
      have c1 := cellB hb d1
      obtain ⟨lo1, lo2⟩ := lo
      unfold I64 at lo1
      have hki : (i : Int) < l.length := by omega
      cases q1 : isN x.name with
      | false =>
        have hF : okLb l = false := okLbN_false l _ i hlt (by unfold lbOk; rw [hX, q1]; rfl)
        go_wp2_with (first | (go_at_call 61; refine (r13_IsName _ _).mono ?_; rw [q1]; rintro e w' ⟨rfl, rfl⟩))
        refine bodyPost_ret (v := .bool false) (by simp [results, Tryz.results37, go_sem, *]) rfl ⟨ret_bool hF.symm, hb⟩
      | true =>
        by_cases q2 : 0 ≤ x.at_
        · have q2' : decide (x.at_ < 0) = false := by simp; omega
          by_cases q3 : x.at_ < 65536
          · have q3' : decide (65536 ≤ x.at_) = false := by simp; omega
            cases i with
            | zero =>
              simp only [Nat.zero_mul, Nat.add_zero] at c0 c1 d0 d1
              go_wp2_with (first | (go_at_call 61; refine (r13_IsName _ _).mono ?_; rw [q1]; rintro e w' ⟨rfl, rfl⟩))
              go_region
              all_goals
                go_wp2
                go_loopw [4] (fun j wq => ∃ j' : Nat, j = .int .i64 j' ∧ j' ≤ 0 ∧ lbDup l x.name j' = false ∧ Below w.heap.size w wq) (fun j _ => 0 - (intOf j).toNat)
                case atStart => exact ⟨0, rfl, Nat.zero_le _, rfl, hb.drew⟩
                case round =>
                  obtain ⟨j, rfl, hj, hd, hb3⟩ := hrel
                  have c0 := cellB hb3 d0
                  by_cases hji : j < 0
                  · exact absurd hji (by omega)
                  · obtain rfl : j = 0 := by omega
                    have hok : lbOk l 0 = true := by unfold lbOk; rw [hX, q1, hd, decide_eq_true q2, decide_eq_true q3, show decide ((0 : Nat) = 0) = true from rfl, Bool.true_or]; rfl
                    go_wp2
                    exact ⟨⟨0 + 1, by go_num, by omega, by rw [okLbN, hI, hok]; rfl, hb3⟩, by simp [intOf]; omega⟩
            | succ k =>
              obtain ⟨p0, p1⟩ := hr0 k (by omega)
              rw [← lb_at l k (by omega)] at p0 p1
              generalize hY : l.getD k lb0 = y at *
              have g0 := cellB hb p0
              have g1 := cellB hb p1
              have hkl : (k : Int) < l.length := by omega
              have hk1 : (k : Int) + 1 < l.length := by omega
              have hk00 : (0 : Int) ≤ (k : Int) := by omega
              have hk01 : (0 : Int) ≤ (k : Int) + 1 := by omega
              have hk02 : (k : Int) + 1 - 1 = k := by omega
              have hk03 : IntKind.i64.wrap (k : Int) = k := by rw [IntKind.wrap_i64]; omega
              have hk04 : IntKind.i64.wrap ((k : Int) + 1 - 1) = k := by rw [hk02, hk03]
              cases q4 : lbBefore y x with
              | false =>
                have hF : okLb l = false := okLbN_false l _ (k + 1) hlt (by unfold lbOk; rw [Nat.add_sub_cancel, hX, hY, q4]; simp)
                go_wp2_with (first | (go_at_call 61; refine (r13_IsName _ _).mono ?_; rw [q1]; rintro e w' ⟨rfl, rfl⟩))
                go_region_held3 (fun w' => (w'.cell? ⟨b, off + (k + 1) * 2, none⟩ = some (.string x.name) ∧ w'.cell? ⟨b, off + (k + 1) * 2 + 1, none⟩ = some (.int .i64 x.at_) ∧ w'.cell? ⟨b, off + k * 2, none⟩ = some (.string y.name) ∧ w'.cell? ⟨b, off + k * 2 + 1, none⟩ = some (.int .i64 y.at_)) ∧ Below w.heap.size w w')
                  (first | (obtain ⟨⟨j0, j1, j2, j3⟩, j9⟩ := ‹(_ ∧ _ ∧ _ ∧ _) ∧ Below _ _ _›; exact ⟨⟨cellB hb5 j0, cellB hb5 j1, cellB hb5 j2, cellB hb5 j3⟩, j9.trans (hb5.mono j9.size)⟩) | (exact ⟨⟨c0, c1, g0, g1⟩, hb.drew⟩))
                  (first | (go_at_call 62; refine (r14_before y x _).mono ?_; rw [q4]; rintro e w5 ⟨rfl, hb5⟩))
                all_goals
                  have hbE := ‹(_ ∧ _ ∧ _ ∧ _) ∧ Below _ _ _›.2
                  clear hk02 hk03 hk04
                  go_wp2
                  refine bodyPost_ret (v := .bool false) (by simp [results, Tryz.results37, go_sem, *]) rfl ⟨ret_bool hF.symm, hbE⟩
              | true =>
                go_wp2_with (first | (go_at_call 61; refine (r13_IsName _ _).mono ?_; rw [q1]; rintro e w' ⟨rfl, rfl⟩))
                go_region_held3 (fun w' => (w'.cell? ⟨b, off + (k + 1) * 2, none⟩ = some (.string x.name) ∧ w'.cell? ⟨b, off + (k + 1) * 2 + 1, none⟩ = some (.int .i64 x.at_) ∧ w'.cell? ⟨b, off + k * 2, none⟩ = some (.string y.name) ∧ w'.cell? ⟨b, off + k * 2 + 1, none⟩ = some (.int .i64 y.at_)) ∧ Below w.heap.size w w')
                  (first | (obtain ⟨⟨j0, j1, j2, j3⟩, j9⟩ := ‹(_ ∧ _ ∧ _ ∧ _) ∧ Below _ _ _›; exact ⟨⟨cellB hb5 j0, cellB hb5 j1, cellB hb5 j2, cellB hb5 j3⟩, j9.trans (hb5.mono j9.size)⟩) | (exact ⟨⟨c0, c1, g0, g1⟩, hb.drew⟩))
                  (first | (go_at_call 62; refine (r14_before y x _).mono ?_; rw [q4]; rintro e w5 ⟨rfl, hb5⟩))
                all_goals
                  have hbE := ‹(_ ∧ _ ∧ _ ∧ _) ∧ Below _ _ _›.2
                  clear hk02 hk03 hk04
                  go_wp2
                  go_loopw [4] (fun j wq => ∃ j' : Nat, j = .int .i64 j' ∧ j' ≤ k + 1 ∧ lbDup l x.name j' = false ∧ Below w.heap.size w wq) (fun j _ => k + 1 - (intOf j).toNat)
                  case atStart => exact ⟨0, rfl, Nat.zero_le _, rfl, hbE⟩
                  case round =>
                    obtain ⟨j, rfl, hj, hd, hb3⟩ := hrel
                    have c0 := cellB hb3 d0
                    by_cases hji : (j : Int) < (k : Int) + 1
                    · have y0 := (hr0 j (by omega)).1
                      rw [← lb_at l j (by omega)] at y0
                      have y0 := cellB hb3 y0
                      generalize hZ : l.getD j lb0 = z at *
                      have hjl : (j : Int) < l.length := by omega
                      by_cases hn : z.name = x.name
                      · have hn2 := beqS_true hn
                        have hF : okLb l = false := okLbN_false l _ (k + 1) hlt (by unfold lbOk; rw [hX, lbDup_true l x.name (k + 1) j (by omega) (by rw [hZ]; exact hn)]; simp)
                        clear hn
                        go_wp2
                        go_region
                        all_goals
                          go_wp2
                          refine bodyPost_ret (v := .bool false) (by simp [results, Tryz.results37, go_sem, *]) rfl ⟨ret_bool hF.symm, hb3.drew⟩
                      · have hn2 := beqS_false hn
                        have hD : lbDup l x.name (j + 1) = false := by rw [lbDup, hd, hZ, decide_eq_false hn]; rfl
                        clear hn
                        go_wp2
                        go_region
                        all_goals
                          go_wp2
                          exact ⟨⟨j + 1, by go_num, by omega, hD, hb3.drew⟩, by simp [intOf]; omega⟩
                    · obtain rfl : j = k + 1 := by omega
                      have hok : lbOk l (k + 1) = true := by unfold lbOk; rw [hX, q1, hd, decide_eq_true q2, decide_eq_true q3, Nat.add_sub_cancel, hY, q4, Bool.or_true]; rfl
                      go_wp2
                      exact ⟨⟨k + 1 + 1, by go_num, by omega, by rw [okLbN, hI, hok]; rfl, hb3⟩, by simp [intOf]; omega⟩
          · have q3' : 65536 ≤ x.at_ := by omega
            have hF : okLb l = false := okLbN_false l _ i hlt (by unfold lbOk; rw [hX, decide_eq_false q3]; simp)
            go_wp2_with (first | (go_at_call 61; refine (r13_IsName _ _).mono ?_; rw [q1]; rintro e w' ⟨rfl, rfl⟩))
            refine bodyPost_ret (v := .bool false) (by simp [results, Tryz.results37, go_sem, *]) rfl ⟨ret_bool hF.symm, hb⟩
        · have q2' : x.at_ < 0 := by omega
          have hF : okLb l = false := okLbN_false l _ i hlt (by unfold lbOk; rw [hX, decide_eq_false q2]; simp)
          go_wp2_with (first | (go_at_call 61; refine (r13_IsName _ _).mono ?_; rw [q1]; rintro e w' ⟨rfl, rfl⟩))
          refine bodyPost_ret (v := .bool false) (by simp [results, Tryz.results37, go_sem, *]) rfl ⟨ret_bool hF.symm, hb⟩
    · obtain rfl : i = l.length := by omega
      go_wp2
      refine bodyPost_ret (v := .bool true) (by simp [results, Tryz.results37, go_sem, *]) rfl ⟨ret_bool hI.symm, hb⟩
end Go.Proofs.YtofhdlkocgbcgaaGreatDoor
