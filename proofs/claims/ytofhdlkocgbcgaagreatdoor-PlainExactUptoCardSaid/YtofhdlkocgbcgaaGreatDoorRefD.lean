/- the reference's known: data. -/
import Derived.Test.YtofhdlkocgbcgaaGreatDoorRefC
import Derived.Test.YtofhdlkocgbcgaaGreatDoorTelD
namespace Go.Proofs.YtofhdlkocgbcgaaGreatDoor
open Go Go.RowKit Pu
set_option linter.unusedVariables false
set_option linter.unusedSimpArgs false
/-- An item that is being filled: its box, its bytes. -/
structure BoxI (w3 : World) (B q : Nat) (bs : List Int) (vb : Value) (wq : World) : Prop where
  q : wq.heap[q]? = some (.cells #[.int .u8 3, .string ⟨#[]⟩, .int .i64 0, .string ⟨#[]⟩, .int .u8 0, vb] 52 (0, 0))
  o : wq.ownsRow B 5 1 vb bs.length (bs.map (Value.int .u8))
  b : Below w3.heap.size w3 wq
theorem BoxI.step {w3 wq V w4 : World} {B q : Nat} {bs : List Int} {y : Int} {vb v2 : Value} (I : BoxI w3 B q bs vb wq) (hq3 : w3.heap.size ≤ q) (hB : w3.heap.size ≤ B) (hV : Below wq.heap.size wq V) (hg : V.grownBy w4 vb.ownBlock) (ho : w4.ownsRow B 5 1 v2 (bs.length + 1) (bs.map (Value.int .u8) ++ [.int .u8 y])) :
    BoxI w3 B q (bs ++ [y]) v2 (w4.setCell ⟨q, 5, none⟩ v2) := by
  have qV := heapB' hV I.q
  have oV := own_below I.o hV
  have n1 : vb.ownBlock ≠ some q := own_blk oV qV (by decide)
  have q4 := (hg.block q (blk_lt qV) (fun e => n1 e.symm)).trans qV
  have n2 : v2.ownBlock ≠ some q := own_blk ho q4 (by decide)
  have tc := Tch.setCell (D := fun j => j = q) (Tch.refl _ w4) (p := ⟨q, 5, none⟩) (fun _ => rfl) v2
  have hbz := I.b.size
  refine ⟨by simp [World.setCell, Array.getElem?_modify, q4], ?_, ?_⟩
  · rw [List.length_append, List.map_append]
    exact own_tch ho tc (fun j hj e => n2 (by rw [hj, e]))
  · exact ((I.b.trans (hV.mono hbz)).grown hg (Nat.le_trans hbz hV.size) fun k hk => Nat.le_trans hB (own_some oV hk).1).setCell hq3 v2
theorem RefI.mid {w wr w1 w2 w3 : World} {K Q : Nat} {l : List LabelP} {td : List Bool} {C : Option Addr} {cc : Nat} {b : List Int} {a : Int} {f : List LabelP → List Int → Int → List ItemP × List LabelP} {tot : List ItemP} {last : List LabelP} {i : Nat} {td' td5 : List Bool} {o : List ItemP} {v : Value}
    (I : RefI w K Q l td C cc b a f tot last i td' o v wr) (R0 : RdLb w C l) (hb : Below wr.heap.size wr w1) (t5 : Tch (fun j => j = Q) w1 w2) (S5 : KnS w2 K Q l td5 C cc) (g3 : w2.grownBy w3 v.ownBlock) :
    KnS w3 K Q l td5 C cc ∧ Tch (fun j => j = Q) w w3 := by
  have hz1 : w.heap.size ≤ w1.heap.size := Nat.le_trans I.t.size hb.size
  have hbv := own_row_ne I.ho
  have vQ : v.ownBlock ≠ some Q := by
    obtain ⟨xs, o1, _⟩ := (I.ho.below hb)
    exact own_blk o1 (heapB' hb I.s.q) (by decide)
  have vK : v.ownBlock ≠ some K := by
    obtain ⟨xs, o1, _⟩ := (I.ho.below hb)
    exact own_blk o1 (heapB' hb I.s.k) (by decide)
  have t23 : Tch (fun j => v.ownBlock = some j) w2 w3 := (Tch.refl _ w2).grown g3 fun j _ e => e
  have tz := ((I.t.below hb).trans t5 fun _ _ e => e).trans t23 fun j hj e => absurd (hbv j e) (by omega)
  exact ⟨S5.keep t23 vK vQ (R0.tch tz fun h0 y hy => S5.c h0 y hy), tz⟩
set_option maxHeartbeats 8000000 in
set_option maxRecDepth 100000 in
theorem r15_data (w : World) (K Q : Nat) (l : List LabelP) (td : List Bool) (C : Option Addr) (cc : Nat) (A : Option Addr) (c : Nat) (b : List Int) (a : Int) (S : KnS w K Q l td C cc) (R : RdB w A b) (hAQ : ∀ x, A = some x → x.block ≠ Q) (hx : Bytes b) (hc : b.length ≤ c) (htb : TB l td a) (hll : l.length ≤ 1048576)
    (hr : b.length ≤ 1048576) (ha : 0 ≤ a) (ha2 : a + b.length ≤ 65536) (nb : Nat) (hnb : nb = b.length) : Calls Tryz.prog 18 #[.pointer (some ⟨K, 0, none⟩), .int .i64 a, .slice A nb c] w fun e w' => (∃ v, e = .returned v ∧ ItL w' w.heap.size v (dataP (remT l td) b a).1) ∧
      ∃ td', KnS w' K Q l td' C cc ∧ remT l td' = (dataP (remT l td) b a).2 ∧ TB l td' (a + b.length) ∧ Tch (fun j => j = Q) w w' := by
  subst hnb
  obtain ⟨i0, hi0, hz0, hz1, hz2'⟩ := info_parts infoItem'
  obtain ⟨u0, hu, hu0, hu1, hu2⟩ := info_parts infoU8
  have R0 := S.r
  have hrl : (remT l td).length ≤ l.length := remT_len l td
  have I0 : RefI w K Q l td C cc b a dataP (dataP (remT l td) b a).1 (dataP (remT l td) b a).2 0 td [] (.slice none 0 0) w := ⟨Nat.zero_le _, ItL.nil _ _, S, Tch.refl _ _, by simp, by simp, by simp; omega, fun h => by simpa using h⟩
  generalize (dataP (remT l td) b a).1 = tot at *
  generalize (dataP (remT l td) b a).2 = last at *
  clear S hrl
  go_enter Tryz.func18, Tryz.ntmps18
  go_wp2
  go_loopw [7, 8] (fun v i wr => ∃ (i' : Nat) (td' : List Bool) (o : List ItemP), i = .int .i64 i' ∧ RefI w K Q l td C cc b a dataP tot last i' td' o v wr) (fun _ i _ => b.length - (intOf i).toNat)
  case atStart => exact ⟨0, td, [], rfl, I0⟩
  case round =>
    clear I0
    obtain ⟨i, td', o, rfl, I⟩ := hrel
    have hil := I.hi
    by_cases hlt : i < b.length
    · have hki : (i : Int) < b.length := by omega
      have hne : b.drop i ≠ [] := by intro h; have := congrArg List.length h; simp at this; omega
      have hlen := I.len
      have e1 := I.e1
      have e2 := I.e2
      have hyl : (b.drop i).length = b.length - i := List.length_drop ..
      have hdd := fun n => List.drop_drop (i := n) (j := i) (l := b)
      have hp := datN_bd (remT l td') (a + i) hne
      have hdt := TB.dat_eq (b.drop i) (I.tb htb) I.s.n
      have hst := RowI.start (fun k => hasI (a + i + k) l) (List.length_pos_iff.2 hne)
      rw [dataP_step _ _ hne] at e1 e2
      simp only at e1 e2
      rw [hdd] at e1 e2
      generalize datN (remT l td') (b.drop i) (a + i) = n at *
      have htl := tell_len (a + i) (remT l td')
      have hn1' := hp.1
      have hn256 := hp.2.2
      have hin : i + n ≤ b.length := by omega
      have hec : a + (i : Int) + (n : Int) = a + ((i + n : Nat) : Int) := by omega
      rw [hec] at e1 e2
      clear hec hdd hp
      have E1 := Lib.hid e1
      have E2 := Lib.hid e2
      have HY := Lib.hid hyl
      have HD := Lib.hid hdt
      have HX := Lib.hid hst
      have hsz := I.t.size
      have hm : (o ++ tellI (a + i) (remT l td')).length ≤ 16777216 := by rw [List.length_append]; omega
      have II := Lib.hid I
      have HT := Lib.hid htl
      clear e1 e2 hyl I htl hdt hst
      go_upto_block 2 with (first | (go_at_call 16; refine (r15_tell _ K Q l td' C cc (a + i) II.out.s (by omega)).mono ?_; rintro e w2 ⟨⟨v5, rfl, o5⟩, S5, t5⟩; obtain ⟨A5, c5, y5, rfl, s5, r5⟩ := o5.src; obtain ⟨xs2, o12, o22⟩ := II.out.ho.tQ II.out.s.q t5; have hz2 : w.heap.size ≤ w2.heap.size := Nat.le_trans hsz t5.size) | (at_builtin; refine wpList_append_src _ rfl (.tmp 16) (.tmp 21) 29 rfl w.heap.size 52 i0 _ 6 80 Tryz.underlying29 hi0 hz0 hz1 hz2' rfl (by decide) _ _ xs2 rfl o12 A5 _ c5 y5 rfl s5 r5.one_cell (by unfold maxLen; rw [← List.length_append]; omega) (by rw [← List.length_append]; omega) hz2 ?_; intro v3 w3 ho3 hg3 hv3; rw [← List.length_append] at ho3; obtain ⟨xs3, o13, o23⟩ := ItL.grown o12 o22 (r5.mono hsz) hg3 (by rw [← List.length_append]; exact ho3); have hz3 : w.heap.size ≤ w3.heap.size := Nat.le_trans hz2 hg3.size))
      obtain ⟨S3, t3⟩ := II.out.mid R0 (Below.refl _ _) t5 S5 hg3
      have HT5 := Lib.hid t5
      have HS5 := Lib.hid S5
      clear t5 S5 o5 o12 o22 s5 r5
      go_cut [9] (fun t wx => t = .int .i64 n ∧ Below w3.heap.size w3 wx)
      case first =>
        go_wp2_with fail
        go_loop [9] (fun t => ∃ k : Nat, t = .int .i64 k ∧ RowI (fun k => hasI (a + i + k) l) (b.drop i).length k) (fun t => b.length - (intOf t).toNat)
        case atStart => exact ⟨1, rfl, HX.out⟩
        case round =>
          obtain ⟨k, rfl, hk⟩ := hrel
          have hk1 := hk.1
          have hk2 := hk.2.1
          have hk3 := hk.2.2.1
          have hy2 := HY.out
          rw [hy2] at hk2
          have HK := Lib.hid hk
          clear hk hy2
          by_cases q1 : k < b.length - i
          · have q1i : (i : Int) + k < b.length := by omega
            by_cases q2 : k = 256
            · have hq := Lib.hid (HK.out.stop (by rintro ⟨_, h, _⟩; exact h q2))
              have q2i : decide ((k : Int) < 256) = false := by simp; omega
              clear q2
              go_wp2_with fail
              go_meet
              exact ⟨by rw [hq.out, HD.out], Below.refl _ _⟩
            · have q2i : decide ((k : Int) < 256) = true := by simp; omega
              have hy3 := HY.out
              cases q3 : hasI (a + i + k) l with
              | true =>
                have hq := Lib.hid (HK.out.stop (by rintro ⟨_, _, h⟩; rw [q3] at h; exact absurd h (by simp)))
                clear hy3
                go_wp2_with (first | (go_at_call 39; refine (r15_has _ K Q l _ C cc (a + i + k) S3 (by omega)).mono ?_; rw [q3]; rintro e w9 ⟨rfl, rfl⟩))
                go_meet
                exact ⟨by rw [hq.out, HD.out], Below.refl _ _⟩
              | false =>
                have hq := Lib.hid (HK.out.step (by rw [hy3]; exact q1) q2 q3)
                clear hy3
                go_wp2_with (first | (go_at_call 39; refine (r15_has _ K Q l _ C cc (a + i + k) S3 (by omega)).mono ?_; rw [q3]; rintro e w9 ⟨rfl, rfl⟩))
                exact ⟨⟨k + 1, by go_num, hq.out⟩, by simp [intOf]; omega⟩
          · have hq := Lib.hid (HK.out.stop (by rintro ⟨h, _, _⟩; rw [HY.out] at h; exact q1 h))
            have q1i : decide ((i : Int) + k < b.length) = false := by simp; omega
            go_wp2_with fail
            go_meet
            exact ⟨by rw [hq.out, HD.out], Below.refl _ _⟩
      case rest =>
        obtain ⟨rfl, hb3⟩ := hcut
        go_wp2_with fail
        have BX : BoxI w3 w3.heap.size wc.heap.size [] (.slice none 0 0) (wc.alloc (.cells #[.int .u8 3, .string ⟨#[]⟩, .int .i64 0, .string ⟨#[]⟩, .int .u8 0, .slice none 0 0] 52)) := ⟨heap_alloc_new _ _, World.ownsRow_nil _ _ _ _, hb3.trans ((belowA _).mono hb3.size)⟩
        have hq3 := hb3.size
        generalize wc.heap.size = q at *
        have hyd : ∀ j, j < n → i + j < b.length ∧ (b.drop i).take (j + 1) = (b.drop i).take j ++ [b.getD (i + j) 0] ∧ ((b.drop i).take j).length = j := fun j hj => by
          have hy2 := HY.out
          have h1 : j < (b.drop i).length := by omega
          refine ⟨by omega, ?_, by rw [List.length_take]; omega⟩
          rw [List.take_succ_eq_append_getElem h1, List.getElem_drop, List.getD_eq_getElem?_getD, List.getElem?_eq_getElem (by omega)]; rfl
        go_loopw [11] (fun j wq => ∃ (j' : Nat) (vb : Value), j = .int .i64 j' ∧ j' ≤ n ∧ BoxI w3 w3.heap.size q ((b.drop i).take j') vb wq) (fun j _ => n - (intOf j).toNat)
        case atStart => exact ⟨0, _, rfl, Nat.zero_le _, by simpa using BX⟩
        case round =>
          clear BX hb3
          obtain ⟨j, vb, rfl, hj, I⟩ := hrel
          have x0 := blk_cell (i := 0) I.q rfl
          have x1 := blk_cell (i := 1) I.q rfl
          have x2 := blk_cell (i := 2) I.q rfl
          have x3 := blk_cell (i := 3) I.q rfl
          have x4 := blk_cell (i := 4) I.q rfl
          have x5 := blk_cell (i := 5) I.q rfl
          have xf := blk_frozen (i := 5) I.q
          have xl := blk_lt I.q
          by_cases hjn : j < n
          · obtain ⟨hd1, hd2, hd3⟩ := hyd j hjn
            obtain ⟨bb, off, rfl, _, hbc⟩ := (R.tch t3 hAQ).below I.b (by omega)
            have hby := hbc (i + j) hd1
            have hb01 := bytes_at hx (i + j)
            generalize b.getD (i + j) 0 = y at *
            have hbl := World.block_lt_of_cell? _ _ hby
            simp only at hbl
            have k1 : (i : Int) + j < b.length := by omega
            have k2 : (0 : Int) ≤ (i : Int) + j := by omega
            have k3 : IntKind.i64.wrap ((i : Int) + j) = (i : Int) + j := by rw [IntKind.wrap_i64]; omega
            have k4 : ((i : Int) + j).toNat = i + j := by omega
            have pN := own_blk I.o I.q (by decide)
            have hio := I.o
            rw [hd3] at hio
            have II2 := Lib.hid I
            have HD2 := Lib.hid hd2
            have HD3 := Lib.hid hd3
            clear I hd2 hd3 hbc hyd
            go_wp2_with fail
            go_region_law ((refine step_append_src _ (by rfl) (.tmp 52) (.tmp 59) 39 (by rfl) w3.heap.size 5 u0 _ 1 1 Tryz.underlying39 hu hu0 hu1 hu2 (by rfl) (by decide) vb j _ (by rfl) (own_drew (hio.alloc _)) _ 1 1 _ (by rfl) (Src.block (heap_alloc_new _ _) (by rfl)) (bytes_one [y]) (by unfold maxLen; omega) (by omega) (by have := II2.out.b.size; simp; omega) ?_; intro v2 w4 ho2 hg2 hv2; obtain ⟨g2, c2, rfl, _, _⟩ := ho2.form (by omega); have pw2 := kept_blk hg2 II2.out.q (belowA _).drew pN; have k0 := blk_cell (i := 5) pw2 rfl; have f0 := blk_frozen (i := 5) pw2))
            all_goals
              clear k3 k4
              go_wp2
              have hst := II2.out.step (y := y) hq3 (Nat.le_refl _) (belowA _).drew hg2 (by rw [HD3.out]; exact ho2)
              rw [← HD2.out] at hst
              exact ⟨⟨j + 1, _, by go_num, by omega, hst⟩, by simp [intOf]; omega⟩
          · obtain rfl : j = n := by omega
            have hil2 := I.o
            have hlj : ((b.drop i).take j).length = j := by rw [List.length_take, HY.out]; omega
            rw [hlj] at hil2
            obtain ⟨g5, c5', rfl, _, _⟩ := hil2.form (by omega)
            have HJ := Lib.hid hlj
            clear hlj
            have II2 := Lib.hid I
            have HI2 := Lib.hid hil2
            have o13q := own_below o13 I.b
            have o23q := o23.below I.b
            clear I hyd hil2
            go_wp2_with (first | (at_builtin; refine wpList_append_src _ rfl (.tmp 62) (.tmp 64) 29 rfl w.heap.size 52 i0 _ 6 80 Tryz.underlying29 hi0 hz0 hz1 hz2' rfl (by decide) _ _ xs3 rfl (o13q.alloc _) _ 1 1 _ rfl (Src.block (heap_alloc_new _ _) rfl) (itC_one2 ⟨3, ⟨#[]⟩, 0, []⟩ _ rfl) (by unfold maxLen; omega) (by omega) (by have := II2.out.b.size; simp; omega) ?_; intro v4 w4 ho4 hg4 hv4))
            exact ⟨⟨i + j, tellT (a + i) l td', _, by go_num, II.out.step R0 (Below.refl _ _) HT5.out HS5.out hg3 o13 (II2.out.b.trans ((belowA _).mono II2.out.b.size)) hg4 (ItL.grown (m := [dataI ((b.drop i).take j)]) (o13q.alloc _) (o23q.below (belowA _)) (ItR.one (dataI ((b.drop i).take j)) (s := .slice (some ⟨g5, 0, none⟩) j c5') (by show World.ownsRow _ _ _ _ _ ((b.drop i).take j).length _; rw [HJ.out]; exact World.ownsRow.alloc (own_mono HI2.out hz3) _)) hg4 ho4) hin hn1' (by rw [List.append_assoc, List.append_assoc, List.singleton_append]; exact E1.out) E2.out⟩, by simp [intOf]; omega⟩
    · obtain rfl : i = b.length := by omega
      have e1 := I.e1
      have e2 := I.e2
      rw [List.drop_length, dataP_nil] at e1 e2
      simp only [List.append_nil] at e1
      subst e1; subst e2
      have II := Lib.hid I
      clear I
      go_wp2
      go_ret
      exact ⟨⟨_, rfl, II.out.ho⟩, td', II.out.s, rfl, II.out.tb htb, II.out.t⟩
end Go.Proofs.YtofhdlkocgbcgaaGreatDoor
