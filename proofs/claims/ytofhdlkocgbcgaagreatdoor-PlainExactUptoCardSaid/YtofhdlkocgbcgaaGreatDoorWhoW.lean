/- Are bytes whole instructions? Marks. -/
import Derived.Test.YtofhdlkocgbcgaaGreatDoorObjP
namespace Go.Proofs.YtofhdlkocgbcgaaGreatDoor
open Go Go.RowKit Pu
set_option linter.unusedVariables false
set_option linter.unusedSimpArgs false
def decN (b : List Int) : Nat := (decI b).2.2.1.toNat
theorem lenF_pos (f : Nat) : 1 ≤ lenF f := by unfold lenF; split <;> (try split) <;> (try split) <;> decide
theorem decI_cases (b : List Int) (hb : b ≠ []) : ((decI b).2.2.2 = 22 ∧ (decI b).2.2.1 = 0) ∨ ((decI b).2.2.2 = 0 ∧ 1 ≤ (decI b).2.2.1 ∧ (decI b).2.2.1 ≤ b.length) := by
  cases b with
  | nil => exact absurd rfl hb
  | cons o r =>
    have hp := lenF_pos (formF o.toNat)
    by_cases h : (o :: r).length < lenF (formF o.toNat)
    · left; simp only [decI, if_pos h]; exact ⟨trivial, trivial⟩
    · right; simp only [decI, if_neg h]; exact ⟨trivial, by omega, by omega⟩
/-- A slice cut at its front. -/
def cutA (A : Option Addr) (c n : Nat) : Option Addr := if c = n then A else Option.map (fun x => x.add n) A
theorem RdB.cut {w : World} {A : Option Addr} {xs : List Int} (R : RdB w A xs) (c n : Nat) (hc : xs.length ≤ c) : RdB w (cutA A c n) (xs.drop n) := by
  intro h0
  rw [List.length_drop] at h0
  obtain ⟨b, off, rfl, hb, hr⟩ := R (by omega)
  refine ⟨b, off + n, ?_, hb, fun i hi => ?_⟩
  · unfold cutA; rw [if_neg (by omega)]; simp [Addr.add]
  · rw [List.length_drop] at hi
    have := hr (n + i) (by omega)
    rw [show off + n + i = off + (n + i) by omega, this]
    simp [List.getD_eq_getElem?_getD]
theorem Bytes.drop {xs : List Int} (h : Bytes xs) (n : Nat) : Bytes (xs.drop n) := fun x hx => h x (List.mem_of_mem_drop hx)
def vlen : Value → Nat
  | .slice _ n _ => n
  | _ => 0
def wholeP (b : List Int) : Bool :=
  if h : b = [] then true else
  if h2 : (decI b).2.2.2 = 0 then wholeP (b.drop (decN b)) else false
termination_by b.length
decreasing_by
  have := decI_cases b h
  have hl : 0 < b.length := List.length_pos_iff.2 h
  simp only [decN, List.length_drop]
  omega
set_option maxHeartbeats 1000000 in
set_option maxRecDepth 100000 in
theorem asm_whole (A : Option Addr) (c : Nat) (xs : List Int) (w : World) (T : Tabs w) (R : RdB w A xs) (hx : Bytes xs) (hl : xs.length ≤ big) (hc : xs.length ≤ c) : Calls Tryz.prog 73 #[.slice A xs.length c] w fun e w' => e = .returned (.bool (wholeP xs)) ∧ Below w.heap.size w w' := by
  unfold big at hl
  go_enter Tryz.func73, Tryz.ntmps73
  go_wp2
  go_loopw [0] (fun v wr => ∃ (ys : List Int) (A' : Option Addr) (c' : Nat), v = .slice A' ys.length c' ∧ ys.length ≤ c' ∧ ys.length ≤ xs.length ∧ wholeP ys = wholeP xs ∧ RdB wr A' ys ∧ Bytes ys ∧ Below w.heap.size w wr) (fun v _ => vlen v)
  case atStart => exact ⟨xs, A, c, rfl, hc, Nat.le_refl _, rfl, R, hx, Below.refl _ _⟩
  case round =>
    obtain ⟨ys, A', c', rfl, hc', hlen, hw, Ry, hy, hb⟩ := hrel
    by_cases hne : ys = []
    · subst hne
      go_wp2
      go_ret
      exact ⟨ret_bool (by rw [← hw, wholeP]; rfl), hb⟩
    · have hpos : 0 < ys.length := List.length_pos_iff.2 hne
      have hw2 : wholeP xs = if (decI ys).2.2.2 = 0 then wholeP (ys.drop (decN ys)) else false := by rw [← hw, wholeP, dif_neg hne]; split <;> rfl
      have Rc := fun n => (Ry.cut c' n hc')
      unfold cutA decN at *
      rcases decI_cases ys hne with ⟨d1, d2⟩ | ⟨d1, d2, d3⟩
      · have Hd : Hid (DecV ys = .tuple #[.agg #[.string (decI ys).1, .int .i64 (decI ys).2.1], .int .i64 0, .int .i64 22]) := Lib.hid (by unfold DecV; rw [d1, d2])
        have hw3 : wholeP xs = false := by rw [hw2, d1]; rfl
        clear hw2
        go_wp2_with (first | (go_at_call 48; refine (code_Decode _ _ ys _ (Tabs.b T hb) Ry hy (by omega) _ rfl).mono ?_; rw [Hd.out]; rintro e w1 ⟨rfl, hb1⟩))
        go_ret
        exact ⟨ret_bool hw3.symm, (hb.trans (hb1.mono hb.size)).trans ((belowA _).mono (hb.trans (hb1.mono hb.size)).size)⟩
      · have Hd : Hid (DecV ys = .tuple #[.agg #[.string (decI ys).1, .int .i64 (decI ys).2.1], .int .i64 (decI ys).2.2.1, .int .i64 0]) := Lib.hid (by unfold DecV; rw [d1])
        have hw3 : wholeP (ys.drop (decI ys).2.2.1.toNat) = wholeP xs := by rw [hw2, d1]; rfl
        clear hw2 d1
        have hy2 := hy.drop (decI ys).2.2.1.toNat
        generalize hn : (decI ys).2.2.1 = n at *
        obtain ⟨k, rfl⟩ : ∃ k : Nat, n = k := ⟨n.toNat, by omega⟩
        simp only [Int.toNat_natCast] at *
        have hlen2 : (ys.drop k).length = ys.length - k := List.length_drop ..
        have R2 := Rc k
        clear Rc hn
        go_wp2_with (first | (go_at_call 48; refine (code_Decode _ _ ys _ (Tabs.b T hb) Ry hy (by omega) _ rfl).mono ?_; rw [Hd.out]; rintro e w1 ⟨rfl, hb1⟩))
        have hbb := (hb.trans (hb1.mono hb.size)).trans ((belowA (.cells #[.string (decI ys).1, .int .i64 (decI ys).2.1] 78)).mono (hb.trans (hb1.mono hb.size)).size)
        exact ⟨⟨ys.drop k, _, _, by rw [hlen2], by omega, by omega, hw3, ((R2.below hb1).alloc), hy2, hbb⟩, by simp [vlen]; omega⟩
set_option maxHeartbeats 1000000 in
set_option maxRecDepth 100000 in
theorem r14_whole (A : Option Addr) (c : Nat) (xs : List Int) (w : World) (R : RdB w A xs) (hx : Bytes xs) (hl : xs.length ≤ big) (hc : xs.length ≤ c) : Calls Tryz.prog 60 #[.slice A xs.length c] w fun e w' => e = .returned (.bool (wholeP xs)) ∧ Below w.heap.size w w' := by
  unfold big at hl
  go_enter Tryz.func60, Tryz.ntmps60
  go_wp2
  go_loopw [3] (fun i wr => ∃ (k : Nat), i = .int .i64 k ∧ k ≤ xs.length ∧ wholeP (xs.drop k) = wholeP xs ∧ Below w.heap.size w wr) (fun i _ => xs.length - (intOf i).toNat)
  case atStart => exact ⟨0, rfl, by omega, rfl, Below.refl _ _⟩
  case round =>
    obtain ⟨k, rfl, hk, hw, hb⟩ := hrel
    by_cases hlt : k < xs.length
    · have hne : xs.drop k ≠ [] := by intro h; have := congrArg List.length h; simp at this; omega
      have hlen : (xs.drop k).length = xs.length - k := List.length_drop ..
      have hw2 : wholeP xs = if (decI (xs.drop k)).2.2.2 = 0 then wholeP ((xs.drop k).drop (decN (xs.drop k))) else false := by 
        rw [← hw]
        conv => lhs; rw [wholeP, dif_neg hne]
        split <;> rfl
      have Rc := R.cut c k hc
      have hy := hx.drop k
      have hck : ¬ c = k := by omega
      have hki : (0 : Int) ≤ (k : Int) := by omega
      have hki2 : (k : Int) < xs.length := by omega
      have hki3 : (k : Int) ≤ xs.length := by omega
      unfold cutA decN at *
      rw [if_neg hck] at Rc
      generalize hys : xs.drop k = ys at *
      rcases decI_cases ys hne with ⟨d1, d2⟩ | ⟨d1, d2, d3⟩
      · have Hd : Hid (DecV ys = .tuple #[.agg #[.string (decI ys).1, .int .i64 (decI ys).2.1], .int .i64 0, .int .i64 22]) := Lib.hid (by unfold DecV; rw [d1, d2])
        have hw3 : wholeP xs = false := by rw [hw2, d1]; rfl
        clear hw2
        go_wp2_with (first | (go_at_call 38; refine (r2_Decode _ _ ys _ (Rc.below hb) hy (by omega) _ hlen.symm).mono ?_; rw [Hd.out]; rintro e w1 ⟨rfl, hb1⟩))
        go_ret
        exact ⟨ret_bool hw3.symm, (hb.trans (hb1.mono hb.size)).trans ((belowA _).mono (hb.trans (hb1.mono hb.size)).size)⟩
      · have Hd : Hid (DecV ys = .tuple #[.agg #[.string (decI ys).1, .int .i64 (decI ys).2.1], .int .i64 (decI ys).2.2.1, .int .i64 0]) := Lib.hid (by unfold DecV; rw [d1])
        have hw3 : wholeP (ys.drop (decI ys).2.2.1.toNat) = wholeP xs := by rw [hw2, d1]; rfl
        clear hw2 d1
        generalize hn : (decI ys).2.2.1 = n at *
        obtain ⟨j, rfl⟩ : ∃ j : Nat, n = j := ⟨n.toNat, by omega⟩
        simp only [Int.toNat_natCast] at *
        clear hn
        go_wp2_with (first | (go_at_call 38; refine (r2_Decode _ _ ys _ (Rc.below hb) hy (by omega) _ hlen.symm).mono ?_; rw [Hd.out]; rintro e w1 ⟨rfl, hb1⟩))
        have hbb := (hb.trans (hb1.mono hb.size)).trans ((belowA (.cells #[.string (decI ys).1, .int .i64 (decI ys).2.1] 78)).mono (hb.trans (hb1.mono hb.size)).size)
        exact ⟨⟨k + j, by go_num, by omega, by rw [← hw3, ← hys, List.drop_drop], hbb⟩, by simp [intOf]; omega⟩
    · obtain rfl : k = xs.length := by omega
      go_wp2
      go_ret
      refine ⟨ret_bool ?_, hb⟩
      rw [← hw, List.drop_length, wholeP]; rfl
end Go.Proofs.YtofhdlkocgbcgaaGreatDoor
