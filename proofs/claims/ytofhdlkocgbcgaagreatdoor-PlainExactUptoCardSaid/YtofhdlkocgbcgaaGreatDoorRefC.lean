/- the reference's known: code. -/
import Derived.Test.YtofhdlkocgbcgaaGreatDoorRefT
import Derived.Test.YtofhdlkocgbcgaaGreatDoorTelC
namespace Go.Proofs.YtofhdlkocgbcgaaGreatDoor
open Go Go.RowKit Pu
set_option linter.unusedVariables false
set_option linter.unusedSimpArgs false
theorem ItL.src {w : World} {B : Nat} {v : Value} {m : List ItemP} (h : ItL w B v m) : ∃ A c ys, v = .slice A m.length c ∧ Src w A m.length 6 ys ∧ ItR w B ys m := by
  obtain ⟨ys, h1, h2⟩ := h
  rcases h1.2 with ⟨rfl, hn⟩ | ⟨g, cap, cur, rfl, _⟩
  · exact ⟨none, 0, ys, by rw [hn], Src.of_own (c := 0) (by rw [hn] at h1 ⊢; exact h1), h2⟩
  · exact ⟨_, _, ys, rfl, Src.of_own h1, h2⟩
theorem ItL.tQ {w w' : World} {B Q : Nat} {v : Value} {o : List ItemP} {cs : Array Value} (h : ItL w B v o) (hq : w.heap[Q]? = some (.cells cs 4 (0, 0))) (t : Tch (fun j => j = Q) w w') : ItL w' B v o :=
  h.tch t (fun k hk e => by obtain ⟨xs, h1, _⟩ := h; exact own_blk h1 hq (by decide) (by rw [hk, e])) (fun k cs _ hk e => by subst e; rw [hq] at hk; simp at hk)
theorem KnS.keep {D : Nat → Prop} {w w' : World} {K Q : Nat} {l : List LabelP} {td : List Bool} {C : Option Addr} {cc : Nat} (S : KnS w K Q l td C cc) (t : Tch D w w') (hK : ¬ D K) (hQ : ¬ D Q) (R : RdLb w' C l) : KnS w' K Q l td C cc :=
  ⟨t.heap S.k hK, t.heap S.q hQ, S.n, R, S.c⟩
/-- What holds at each round. -/
structure RefI (w : World) (K Q : Nat) (l : List LabelP) (td : List Bool) (C : Option Addr) (cc : Nat) (b : List Int) (a : Int) (f : List LabelP → List Int → Int → List ItemP × List LabelP) (tot : List ItemP) (last : List LabelP) (i : Nat) (td' : List Bool) (o : List ItemP) (v : Value) (wr : World) : Prop where
  hi : i ≤ b.length
  ho : ItL wr w.heap.size v o
  s : KnS wr K Q l td' C cc
  t : Tch (fun j => j = Q) w wr
  e1 : o ++ (f (remT l td') (b.drop i) (a + i)).1 = tot
  e2 : (f (remT l td') (b.drop i) (a + i)).2 = last
  len : o.length + (remT l td').length + (b.length - i) ≤ 16777216
  tb : TB l td a → TB l td' (a + i)
theorem remT_len : ∀ (l : List LabelP) (td : List Bool), (remT l td).length ≤ l.length
  | [], _ => by simp [remT]
  | x :: l, [] => Nat.zero_le _
  | x :: l, t :: td => by
    have := remT_len l td
    simp only [remT]
    split <;> simp only [List.length_cons] <;> omega
theorem own_row_ne {w : World} {B : Nat} {v : Value} {o : List ItemP} (h : ItL w B v o) : ∀ k, v.ownBlock = some k → B ≤ k := fun k hk => by
  obtain ⟨xs, h1, _⟩ := h; exact (own_some h1 hk).1
/-- From one round to the next: a tell, an append of what was told, an append of an item. -/
theorem RefI.step {w wr w1 w2 w3 V w4 : World} {K Q : Nat} {l : List LabelP} {td : List Bool} {C : Option Addr} {cc : Nat} {b : List Int} {a : Int} {f : List LabelP → List Int → Int → List ItemP × List LabelP} {tot : List ItemP} {last : List LabelP} {i n : Nat} {td' : List Bool} {o : List ItemP} {v v3 v4 : Value} {xs3 : List Value} {x : ItemP}
    (I : RefI w K Q l td C cc b a f tot last i td' o v wr) (R0 : RdLb w C l) (hb : Below wr.heap.size wr w1) (t5 : Tch (fun j => j = Q) w1 w2) (S5 : KnS w2 K Q l (tellT (a + i) l td') C cc)
    (g3 : w2.grownBy w3 v.ownBlock) (o3 : w3.ownsRow w.heap.size 52 6 v3 (o ++ tellI (a + i) (remT l td')).length xs3)
    (hV : Below w3.heap.size w3 V) (g4 : V.grownBy w4 v3.ownBlock) (L4 : ItL w4 w.heap.size v4 (o ++ tellI (a + i) (remT l td') ++ [x]))
    (hn : i + n ≤ b.length) (hn1 : 1 ≤ n) (h1 : (o ++ tellI (a + i) (remT l td') ++ [x]) ++ (f (dropI (a + i) (remT l td')) (b.drop (i + n)) (a + (i + n : Nat))).1 = tot) (h2 : (f (dropI (a + i) (remT l td')) (b.drop (i + n)) (a + (i + n : Nat))).2 = last) :
    RefI w K Q l td C cc b a f tot last (i + n) (tellT (a + i) l td') (o ++ tellI (a + i) (remT l td') ++ [x]) v4 w4 := by
  have hz1 : w.heap.size ≤ w1.heap.size := Nat.le_trans I.t.size hb.size
  have hbv := own_row_ne I.ho
  have hb3 : ∀ k, v3.ownBlock = some k → w.heap.size ≤ k := fun k hk => (own_some o3 hk).1
  have q2 := S5.q
  have k2 := S5.k
  have vQ : v.ownBlock ≠ some Q := by
    obtain ⟨xs, o1, _⟩ := (I.ho.below hb)
    exact own_blk o1 (heapB' hb I.s.q) (by decide)
  have vK : v.ownBlock ≠ some K := by
    obtain ⟨xs, o1, _⟩ := (I.ho.below hb)
    exact own_blk o1 (heapB' hb I.s.k) (by decide)
  have t23 : Tch (fun j => v.ownBlock = some j) w2 w3 := (Tch.refl _ w2).grown g3 fun j _ e => e
  have q3 := t23.heap q2 vQ
  have k3 := t23.heap k2 vK
  have v3Q : v3.ownBlock ≠ some Q := own_blk o3 q3 (by decide)
  have v3K : v3.ownBlock ≠ some K := own_blk o3 k3 (by decide)
  have t34 : Tch (fun j => v3.ownBlock = some j) w3 w4 := ((Tch.refl _ w3).below hV).grown g4 fun j _ e => e
  have tz : Tch (fun j => j = Q) w w4 := (((I.t.below hb).trans t5 fun _ _ e => e).trans t23 fun j hj e => absurd (hbv j e) (by omega)).trans t34 fun j hj e => absurd (hb3 j e) (by omega)
  have ht := tell_len (a + i) (remT l td')
  have hlen := I.len
  have hr := remT_tell (a + i) l td'
  refine ⟨hn, L4, (S5.keep t23 vK vQ (R0.tch (((I.t.below hb).trans t5 fun _ _ e => e).trans t23 fun j hj e => absurd (hbv j e) (by omega)) fun h0 y hy => S5.c h0 y hy)).keep t34 v3K v3Q (R0.tch tz fun h0 y hy => S5.c h0 y hy), tz, by rw [hr]; exact h1, by rw [hr]; exact h2, ?_, fun h => ((I.tb h).tell).mono (by omega)⟩
  rw [hr]
  simp only [List.length_append, List.length_cons, List.length_nil]
  omega
set_option maxHeartbeats 4000000 in
set_option maxRecDepth 100000 in
theorem r15_code (w : World) (K Q : Nat) (l : List LabelP) (td : List Bool) (C : Option Addr) (cc : Nat) (A : Option Addr) (c : Nat) (b : List Int) (a : Int) (S : KnS w K Q l td C cc) (R : RdB w A b) (hAQ : ∀ x, A = some x → x.block ≠ Q) (hx : Bytes b) (hc : b.length ≤ c) (hw : wholeP b = true) (hll : l.length ≤ 1048576)
    (hr : b.length ≤ 1048576) (ha : 0 ≤ a) (ha2 : a + b.length ≤ 65536) (nb : Nat) (hnb : nb = b.length) : Calls Tryz.prog 17 #[.pointer (some ⟨K, 0, none⟩), .int .i64 a, .slice A nb c] w fun e w' => (∃ v, e = .returned v ∧ ItL w' w.heap.size v (codeP (remT l td) b a).1) ∧
      ∃ td', KnS w' K Q l td' C cc ∧ remT l td' = (codeP (remT l td) b a).2 ∧ (TB l td a → TB l td' (a + b.length)) ∧ Tch (fun j => j = Q) w w' := by
  subst hnb
  obtain ⟨i0, hi0, hz0, hz1, hz2'⟩ := info_parts infoItem'
  have R0 := S.r
  have hrl : (remT l td).length ≤ l.length := remT_len l td
  have I0 : RefI w K Q l td C cc b a codeP (codeP (remT l td) b a).1 (codeP (remT l td) b a).2 0 td [] (.slice none 0 0) w := ⟨Nat.zero_le _, ItL.nil _ _, S, Tch.refl _ _, by simp, by simp, by simp; omega, fun h => by simpa using h⟩
  generalize (codeP (remT l td) b a).1 = tot at *
  generalize (codeP (remT l td) b a).2 = last at *
  clear S hrl
  go_enter Tryz.func17, Tryz.ntmps17
  go_wp2
  go_loopw [7, 8] (fun v i wr => ∃ (i' : Nat) (td' : List Bool) (o : List ItemP), i = .int .i64 i' ∧ wholeP (b.drop i') = true ∧ RefI w K Q l td C cc b a codeP tot last i' td' o v wr) (fun _ i _ => b.length - (intOf i).toNat)
  case atStart => exact ⟨0, td, [], rfl, by simpa using hw, I0⟩
  case round =>
    clear I0 hw
    obtain ⟨i, td', o, rfl, hw, I⟩ := hrel
    have hil := I.hi
    by_cases hlt : i < b.length
    · have hki : (i : Int) < b.length := by omega
      have hne : b.drop i ≠ [] := by intro h; have := congrArg List.length h; simp at this; omega
      have hlen := I.len
      have e1 := I.e1
      have e2 := I.e2
      have Ry := (R.tch I.t hAQ).cut c i hc
      have hy := hx.drop i
      have hyl : (b.drop i).length = b.length - i := List.length_drop ..
      have hdd := fun n => List.drop_drop (i := n) (j := i) (l := b)
      rw [wholeP, dif_neg hne] at hw
      by_cases hok : (decI (b.drop i)).2.2.2 = 0
      · rw [dif_pos hok] at hw
        have hp := decN_pos hne hok
        have hd := dec_ok hy hok
        rw [codeP_step _ _ hne hok] at e1 e2
        simp only at e1 e2
        rw [hdd] at e1 e2 hw
        have hn : (decI (b.drop i)).2.2.1 = (decN (b.drop i) : Int) := by have := decI_cases _ hne; unfold decN; omega
        have Hd : Hid (DecV (b.drop i) = .tuple #[.agg #[.string (decI (b.drop i)).1, .int .i64 (decI (b.drop i)).2.1], .int .i64 (decN (b.drop i)), .int .i64 0]) := Lib.hid (by unfold DecV; rw [hok, hn])
        have harg := hd.a1
        have harg0 := hd.a0
        have hci : codeI (b.drop i) = ⟨2, (decI (b.drop i)).1, (decI (b.drop i)).2.1, []⟩ := rfl
        clear hn hok hdd
        unfold cutA at Ry
        rw [if_neg (show ¬ c = i by omega)] at Ry
        generalize decN (b.drop i) = n at *
        generalize (decI (b.drop i)).1 = nm at *
        generalize (decI (b.drop i)).2.1 = ar at *
        generalize b.drop i = ys at *
        have htl := tell_len (a + i) (remT l td')
        have hin : i + n ≤ b.length := by omega
        have hn1' := hp.1
        have hec : a + (i : Int) + (n : Int) = a + ((i + n : Nat) : Int) := by omega
        rw [hec] at e1 e2
        clear hec
        have E1 := Lib.hid e1
        have E2 := Lib.hid e2
        have HC := Lib.hid hci
        have HY := Lib.hid hyl
        have HW := Lib.hid hw
        have II := Lib.hid I
        have hsz := I.t.size
        have hm : (o ++ tellI (a + i) (remT l td')).length ≤ 16777216 := by rw [List.length_append]; omega
        have HT := Lib.hid htl
        clear e1 e2 hci hyl hw I htl
        go_wp2_with (first | (go_at_call 38; refine (r2_Decode _ _ ys _ Ry hy (by have := HY.out; omega) _ HY.out.symm).mono ?_; rw [Hd.out]; rintro e w1 ⟨rfl, hb1⟩) | (go_at_call 16; have hbb := hb1.trans ((belowA (w := w1) (.cells #[.string nm, .int .i64 ar] 78)).mono hb1.size); refine (r15_tell _ K Q l td' C cc (a + i) (II.out.s.below hbb) (by omega)).mono ?_; rintro e w2 ⟨⟨v5, rfl, o5⟩, S5, t5⟩; obtain ⟨A5, c5, y5, rfl, s5, r5⟩ := o5.src; have x2 := t5.heap (heap_alloc_new w1 (.cells #[.string nm, .int .i64 ar] 78)) (fun e => by have h5 := heapB' (belowA (w := w1) (.cells #[.string nm, .int .i64 ar] 78)) (heapB' hb1 II.out.s.q); rw [← e, heap_alloc_new] at h5; simp at h5); obtain ⟨xs2, o12, o22⟩ := (II.out.ho.below hbb).tQ (heapB' hbb II.out.s.q) t5; have hz2 : w.heap.size ≤ w2.heap.size := Nat.le_trans hsz (Nat.le_trans hbb.size t5.size)) | (at_builtin; refine wpList_append_src _ rfl (.tmp 24) (.tmp 29) 29 rfl w.heap.size 52 i0 _ 6 80 Tryz.underlying29 hi0 hz0 hz1 hz2' rfl (by decide) _ _ xs2 rfl o12 A5 _ c5 y5 rfl s5 r5.one_cell (by unfold maxLen; rw [← List.length_append]; omega) (by rw [← List.length_append]; omega) hz2 ?_; intro v3 w3 ho3 hg3 hv3; have x3 := kept_blk hg3 x2 (Below.refl _ _) (own_blk o12 x2 (by decide)); have n0 := blk_cell (i := 0) x3 rfl; have n1 := blk_cell (i := 1) x3 rfl; have xl := blk_lt x3; rw [← List.length_append] at ho3; obtain ⟨xs3, o13, o23⟩ := ItL.grown o12 o22 (r5.mono (Nat.le_trans hsz hbb.size)) hg3 (by rw [← List.length_append]; exact ho3); have hz3 : w.heap.size ≤ w3.heap.size := Nat.le_trans hz2 hg3.size) | (at_builtin; refine wpList_append_src _ rfl (.tmp 31) (.tmp 37) 29 rfl w.heap.size 52 i0 _ 6 80 Tryz.underlying29 hi0 hz0 hz1 hz2' rfl (by decide) _ _ xs3 rfl (o13.alloc _) _ 1 1 _ rfl (Src.block (heap_alloc_new _ _) rfl) (itC_one ⟨2, nm, ar, []⟩) (by unfold maxLen; omega) (by omega) (by simp; omega) ?_; intro v4 w4 ho4 hg4 hv4))
        exact ⟨⟨i + n, tellT (a + i) l td', _, by go_num, HW.out, II.out.step R0 hbb t5 S5 hg3 o13 (belowA _) hg4 (ItL.grown (m := [codeI ys]) (o13.alloc _) (o23.below (belowA _)) (by rw [HC.out]; exact ItR.one_nil ⟨2, nm, ar, []⟩ rfl) hg4 ho4) hin hn1' (by rw [List.append_assoc, List.append_assoc, List.singleton_append]; exact E1.out) E2.out⟩, by simp [intOf]; omega⟩
      · rw [dif_neg hok] at hw; exact absurd hw (by simp)
    · obtain rfl : i = b.length := by omega
      have e1 := I.e1
      have e2 := I.e2
      rw [List.drop_length, codeP_nil] at e1 e2
      simp only [List.append_nil] at e1
      subst e1; subst e2
      have II := Lib.hid I
      clear I
      go_wp2
      go_ret
      exact ⟨⟨_, rfl, II.out.ho⟩, td', II.out.s, rfl, II.out.tb, II.out.t⟩
end Go.Proofs.YtofhdlkocgbcgaaGreatDoor
