/- law15: large, same, roomy, room. -/
import Derived.Test.YtofhdlkocgbcgaaGreatDoorRLnB
namespace Go.Proofs.YtofhdlkocgbcgaaGreatDoor
open Go Go.RowKit Pu
set_option linter.unusedVariables false
set_option linter.unusedSimpArgs false
def sumL : List BlockP → Nat
  | [] => 0
  | b :: l => b.bytes.length + sumL l
def sumTk (l : List BlockP) (i : Nat) : Nat := sumL (l.take i)
theorem sumL_app (l m : List BlockP) : sumL (l ++ m) = sumL l + sumL m := by
  induction l with
  | nil => simp [sumL]
  | cons b l ih => rw [List.cons_append, sumL, sumL, ih]; omega
theorem sumTk_succ (l : List BlockP) (i : Nat) (h : i < l.length) : sumTk l (i + 1) = sumTk l i + l[i].bytes.length := by
  unfold sumTk
  rw [List.take_succ_eq_append_getElem h, sumL_app]
  simp [sumL]
set_option maxHeartbeats 2000000 in
set_option maxRecDepth 100000 in
theorem law_large (w : World) (A B C : Option Addr) (ca cb cc : Nat) (o : ObjP) (ok : ObjOK o) (R : RdO w A B C o) (hs : sumL o.blocks ≤ 1048576) : Calls Tryz.prog 4 #[.agg #[.slice A o.blocks.length ca, .slice B o.marks.length cb, .slice C o.labels.length cc]] w fun e w' => e = .returned (.bool false) ∧ Below w.heap.size w w' := by
  have h1 := ok.nb
  have h2 := ok.nm
  have h3 := ok.nl
  unfold big at h1 h2 h3
  have R1 := R.below (belowA (w := w) (.cells #[.slice A o.blocks.length ca, .slice B o.marks.length cb, .slice C o.labels.length cc] 26))
  go_enter Tryz.func4, Tryz.ntmps4
  go_wp2
  go_loop [3, 4] (fun t i => ∃ k : Nat, i = .int .i64 k ∧ k ≤ o.blocks.length ∧ t = .int .i64 (o.blocks.length + o.marks.length + o.labels.length + sumTk o.blocks k : Nat)) (fun _ i => o.blocks.length - (intOf i).toNat)
  case atStart => exact ⟨0, rfl, Nat.zero_le _, by simp [sumTk, sumL]⟩
  case round =>
    obtain ⟨k, rfl, hk, rfl⟩ := hrel
    have hle : sumTk o.blocks k ≤ 1048576 := by
      have := sumL_app (o.blocks.take k) (o.blocks.drop k)
      rw [List.take_append_drop] at this
      unfold sumTk; omega
    by_cases hlt : k < o.blocks.length
    · have hki : (k : Int) < o.blocks.length := by omega
      have hsn := sumTk_succ o.blocks k hlt
      obtain ⟨b, off, hA, hr⟩ := R1.b (by omega)
      obtain ⟨_, A', c, c1, _⟩ := hr k hlt
      subst hA
      have hby := (ok.bs k hlt).2.2
      unfold big at hby
      have HS := Lib.hid hsn
      clear hsn hr R1 R
      generalize o.blocks[k].bytes.length = bl at *
      go_wp2
      exact ⟨⟨k + 1, by go_num, by omega, by rw [HS.out]; go_num⟩, by simp [intOf]; omega⟩
    · obtain rfl : k = o.blocks.length := by omega
      have hd : decide ((2147483647 : Int) < o.blocks.length + o.marks.length + o.labels.length + sumTk o.blocks o.blocks.length) = false := by simp; omega
      go_wp2
      go_ret
      exact ⟨rfl, belowA _⟩
theorem below_drewN {B n : Nat} {a w : World} (h : Below B a w) : Below B a (w.drewN n) := ⟨h.os, h.tape, h.output, h.size, h.block⟩
theorem take_ext {α : Type} {xs ys : List α} (h : xs.length = ys.length) {k : Nat} (hk : k < xs.length) (ht : xs.take k = ys.take k) (he : xs[k]'hk = ys[k]'(h ▸ hk)) : xs.take (k + 1) = ys.take (k + 1) := by
  rw [List.take_succ_eq_append_getElem hk, List.take_succ_eq_append_getElem (h ▸ hk), ht, he]
set_option maxHeartbeats 2000000 in
set_option maxRecDepth 100000 in
theorem law_same (w : World) (A A' : Option Addr) (c c' : Nat) (xs ys : List Int) (R : RdB w A xs) (S : RdB w A' ys) (hx : Bytes xs) (hy : Bytes ys) (h1 : xs.length ≤ 1048576) (h2 : ys.length ≤ 1048576) (b : Bool) (hb : decide (xs = ys) = b) (n m : Nat) (hn : n = xs.length) (hm : m = ys.length) : Calls Tryz.prog 34 #[.slice A n c, .slice A' m c'] w fun e w' => e = .returned (.bool b) ∧ Below w.heap.size w w' := by
  subst hn; subst hm
  have HB := Lib.hid hb
  clear hb
  by_cases hl : xs.length = ys.length
  · have hli : ((xs.length : Int) != ys.length) = false := by simp; omega
    have HL := Lib.hid hl
    have hl1 : xs.length ≤ ys.length := by omega
    clear hl
    go_enter Tryz.func34, Tryz.ntmps34
    go_wp2
    go_loopw [5] (fun i wr => ∃ k : Nat, i = .int .i64 k ∧ k ≤ xs.length ∧ xs.take k = ys.take k ∧ Below w.heap.size w wr) (fun i _ => xs.length - (intOf i).toNat)
    case atStart => exact ⟨0, rfl, Nat.zero_le _, rfl, Below.refl _ _⟩
    case round =>
      obtain ⟨k, rfl, hk, ht, hbw⟩ := hrel
      have HT := Lib.hid ht
      clear ht
      by_cases hlt : k < xs.length
      · have hki : (k : Int) < xs.length := by omega
        have hkj : (k : Int) < ys.length := by omega
        have hk0 : (0 : Int) ≤ k := by omega
        obtain ⟨b1, o1, rfl, _, r1⟩ := R (by omega)
        obtain ⟨b2, o2, rfl, _, r2⟩ := S (by omega)
        have c1 := cellB hbw (r1 k hlt)
        have c2 := cellB hbw (r2 k (by omega))
        have g1 := arg_byte hx k
        have g2 := arg_byte hy k
        have HX := Lib.hid (show xs.getD k 0 = xs[k] by rw [List.getD_eq_getElem?_getD, List.getElem?_eq_getElem hlt]; rfl)
        have HY := Lib.hid (show ys.getD k 0 = ys[k]'(by omega) by rw [List.getD_eq_getElem?_getD, List.getElem?_eq_getElem (show k < ys.length by omega)]; rfl)
        clear r1 r2
        generalize xs.getD k 0 = x at *
        generalize ys.getD k 0 = y at *
        by_cases he : x = y
        · have hei : (x != y) = false := by simpa using he
          have HE := Lib.hid he
          clear he
          go_wp2_with fail
          go_quiet (fail)
          go_wp2
          exact ⟨⟨k + 1, by go_num, by omega, take_ext HL.out hlt HT.out (by rw [← HX.out, ← HY.out]; exact HE.out), below_drewN hbw⟩, by simp [intOf]; omega⟩
        · have hei : (x != y) = true := by simpa using he
          have hbf : b = false := by
            rw [← HB.out]
            have : xs ≠ ys := fun e => he (by rw [HX.out, HY.out]; subst e; rfl)
            simpa using this
          have HF := Lib.hid hbf
          clear he hbf
          go_wp2_with fail
          go_quiet (fail)
          go_wp2
          go_ret
          rw [HF.out]
          exact ⟨rfl, below_drewN hbw⟩
      · obtain rfl : k = xs.length := by omega
        have hbt : b = true := by
          rw [← HB.out]
          have e := HT.out
          rw [List.take_length, HL.out, List.take_length] at e
          simpa using e
        have HF := Lib.hid hbt
        clear hbt
        go_wp2
        go_ret
        rw [HF.out]
        exact ⟨rfl, hbw⟩
  · have hli : ((xs.length : Int) != ys.length) = true := by simp; omega
    have hbf : b = false := by
      rw [← HB.out]
      have : xs ≠ ys := fun e => hl (by rw [e])
      simpa using this
    subst hbf
    clear hl
    go_enter Tryz.func34, Tryz.ntmps34
    go_wp2
    go_ret
    exact ⟨rfl, Below.refl _ _⟩
end Go.Proofs.YtofhdlkocgbcgaaGreatDoor
