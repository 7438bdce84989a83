/- plain's telling: data. -/
import Derived.Test.YtofhdlkocgbcgaaGreatDoorTelC
import Derived.Deep.DeepCutAuto
import Derived.Deep.CutBlock
namespace Go.Proofs.YtofhdlkocgbcgaaGreatDoor
open Go Go.RowKit Pu
set_option linter.unusedVariables false
set_option linter.unusedSimpArgs false
theorem RdB.src {w : World} {A : Option Addr} {xs : List Int} (R : RdB w A xs) : Src w A xs.length 1 (xs.map (Value.int .u8)) := by
  refine ⟨by simp, fun j u hu => ?_⟩
  have hj : j < xs.length := by
    have := (List.getElem?_eq_some_iff.1 hu).1; simpa using this
  obtain ⟨b, off, rfl, _, hr⟩ := R (by omega)
  refine ⟨_, rfl, ?_⟩
  rw [List.getElem?_map, List.getElem?_eq_getElem hj, Option.map_some, Option.some.injEq] at hu
  subst hu
  have := hr j hj
  rw [List.getD_eq_getElem?_getD, List.getElem?_eq_getElem hj, Option.getD_some] at this
  rw [← this]
  unfold Addr.add
  by_cases h0 : j = 0 <;> simp [h0]
theorem bytes_one (xs : List Int) : ∀ u ∈ xs.map (Value.int .u8), u.oneCell' = true := by
  intro u hu
  rw [List.mem_map] at hu
  obtain ⟨x, _, rfl⟩ := hu
  rfl
theorem own_none {a b : World} {B e size n : Nat} {v : Value} {xs : List Value} (h : a.ownsRow B e size v n xs) (hg : a.grownBy b (Value.slice none 0 0).ownBlock) : b.ownsRow B e size v n xs :=
  World.ownsRow.kept h hg (by cases v.ownBlock with
    | none => exact .inl rfl
    | some j => exact .inr (by simp [Value.ownBlock]))
theorem grown_below {a b : World} (hg : a.grownBy b (Value.slice none 0 0).ownBlock) : Below a.heap.size a b :=
  ⟨hg.os, hg.tape, hg.output, hg.size, fun k hk => hg.block k hk (by simp [Value.ownBlock])⟩
theorem infoU8 : (Tryz.prog.info? 5).map (fun i => (i.zero, i.size, i.bytes)) = some (some (.int .u8 0), 1, 1) := by kernel_rfl
theorem itC_one2 (x : ItemP) (s : Value) (hs : s.oneCell' = true) : ∀ u ∈ itC x s, u.oneCell' = true := by
  intro u hu
  simp only [itC, List.mem_cons, List.not_mem_nil, or_false] at hu
  rcases hu with rfl | rfl | rfl | rfl | rfl | rfl
  · rfl
  · rfl
  · rfl
  · rfl
  · rfl
  · exact hs
def RowH (rem : List LabelP) (a : Int) : Nat → Bool := fun k => hasI (a + k) (dropI a rem)
theorem RowH_eq (rem : List LabelP) (a : Int) (k : Nat) : RowH rem a k = hasI (a + k) (dropI a rem) := rfl
theorem datN_eq (rem : List LabelP) (b : List Int) (a : Int) : datN rem b a = rowL (RowH rem a) b.length := rfl
set_option maxHeartbeats 4000000 in
set_option maxRecDepth 100000 in
theorem plain_data (w : World) (P B : Nat) (out : List ItemP) (rem : List LabelP) (v : Value) (A : Option Addr) (c : Nat) (b : List Int) (a : Int) (T : TelS w P B out rem v) (hBP : B ≤ P) (R : RdB w A b) (hAB : ∀ x, A = some x → x.block < B) (hx : Bytes b) (hc : b.length ≤ c)
    (hr : out.length + rem.length + b.length ≤ 16777216) (ha : 0 ≤ a) (ha2 : a + b.length ≤ 65536) : Calls Tryz.prog 24 #[.pointer (some ⟨P, 0, none⟩), .slice A b.length c, .int .i64 a] w fun e w' => e = .returned (.tuple #[]) ∧ ∃ v', TelS w' P B (out ++ (dataP rem b a).1) (dataP rem b a).2 v' ∧ Tch (TelD P v) w w' ∧ NewOr w v v' := by
  obtain ⟨i0, hi, hz0, hz1, hz2⟩ := info_parts infoItem
  obtain ⟨u0, hu, hu0, hu1, hu2⟩ := info_parts infoU8
  have hlow := T.low hBP
  have hPw : P < w.heap.size := by obtain ⟨s, hP, _⟩ := T; exact blk_lt hP
  have I0 : TelI w P B v (out ++ (dataP rem b a).1) (dataP rem b a).2 (a + b.length).toNat dataP A c b a out rem v w := ⟨T, Tch.refl _ _, .inl rfl, R, hAB, hx, hc, rfl, rfl, hr, ha, by omega⟩
  have htot : ((a + b.length).toNat : Int) ≤ 65536 := by omega
  generalize out ++ (dataP rem b a).1 = tot at *
  generalize (dataP rem b a).2 = last at *
  generalize (a + b.length).toNat = sum at *
  clear T R hAB hx hr ha ha2
  go_enter Tryz.func24, Tryz.ntmps24
  go_wp2
  go_loopw [1, 2] (fun s t wr => ∃ (ys : List Int) (A' : Option Addr) (c' : Nat) (at' : Int) (out' : List ItemP) (rem' : List LabelP) (v' : Value), s = .slice A' ys.length c' ∧ t = .int .i64 at' ∧ TelI w P B v tot last sum dataP A' c' ys at' out' rem' v' wr) (fun s _ _ => vlen s)
  case atStart => exact ⟨b, A, c, a, out, rem, v, rfl, rfl, I0⟩
  case round =>
    clear I0 hc
    obtain ⟨ys, A', c', at', out', rem', v', rfl, rfl, I⟩ := hrel
    by_cases hne : ys = []
    · subst hne
      have e1 := I.o
      have e2 := I.r
      rw [dataP_nil] at e1 e2
      simp only [List.append_nil] at e1
      subst e1; subst e2
      go_wp2
      go_end0
      exact ⟨rfl, v', I.T, I.t, I.n⟩
    · have hpos : 0 < ys.length := List.length_pos_iff.2 hne
      have hp := datN_bd rem' at' hne
      have hs1 := I.o
      have hs2 := I.r
      rw [dataP_step _ _ hne] at hs1 hs2
      simp only at hs1 hs2
      have hlen := I.len
      have a0 := I.a0
      have a1 := I.a1
      have ht := tell_len at' rem'
      have hBw : B ≤ wr.heap.size := by have := I.t.size; omega
      have hlow' : ∀ k, k < B → ¬ TelD P v' k := I.T.low hBP
      have hcap := I.c
      have hst := RowI.start (RowH rem' at') hpos
      have hde := datN_eq rem' ys at'
      generalize datN rem' ys at' = n at *
      have II := Lib.hid I
      have HS1 := Lib.hid hs1
      have HS2 := Lib.hid hs2
      have HD := Lib.hid hde
      clear I hs1 hs2 hde
      go_wp2
      go_step3
      go_upto_block 2 with (first | (go_at_call 22; refine (plain_here _ P B out' rem' v' at' II.out.T hBw (by omega)).mono ?_; rintro e w1 ⟨rfl, v1, T1, t1, n1⟩))
      go_step3
      go_upto_block 2 with fail
      have hw1 : w.heap.size ≤ w1.heap.size := Nat.le_trans II.out.t.size t1.size
      have T1' := Lib.hid T1
      have t1' := Lib.hid t1
      have n1' := Lib.hid n1
      have HT := Lib.hid ht
      clear T1 t1 n1 ht
      go_cut [6] (fun t wx => t = .int .i64 n ∧ Below w1.heap.size w1 wx)
      case first =>
        go_wp2_with fail
        go_loopw [6] (fun t wx => ∃ k : Nat, t = .int .i64 k ∧ RowI (RowH rem' at') ys.length k ∧ Below w1.heap.size w1 wx) (fun t _ => ys.length - (intOf t).toNat)
        case atStart => exact ⟨1, rfl, hst, Below.refl _ _⟩
        case round =>
          clear hst
          obtain ⟨k, rfl, hk, hb⟩ := hrel
          have hk1 := hk.1
          have hk2 := hk.2.1
          have hk3 := hk.2.2.1
          have HK := Lib.hid hk
          clear hk
          by_cases q1 : k < ys.length
          · have q1i : (k : Int) < ys.length := by omega
            by_cases q2 : k = 256
            · have hq := Lib.hid (HK.out.stop (by rintro ⟨_, h, _⟩; exact h q2))
              go_wp2
              go_meet
              exact ⟨by rw [hq.out, HD.out], hb⟩
            · have q2i : ((k : Int) == 256) = false := by simp; omega
              cases q3 : RowH rem' at' k with
              | true =>
                have q3' : hasI (at' + k) (dropI at' rem') = true := q3
                have hq := Lib.hid (HK.out.stop (by rintro ⟨_, _, h⟩; rw [q3] at h; exact absurd h (by simp)))
                clear q3
                go_wp2_with (first | (go_at_call 49; refine (plain_has _ P B _ _ _ (at' + k) (T1'.out.below hb) (by have := HT.out; omega)).mono ?_; rw [q3']; rintro e w2 ⟨rfl, hb2⟩))
                go_meet
                exact ⟨by rw [hq.out, HD.out], hb.trans (hb2.mono hb.size)⟩
              | false =>
                have q3' : hasI (at' + k) (dropI at' rem') = false := q3
                have hq := Lib.hid (HK.out.step q1 q2 q3)
                clear q3
                go_wp2_with (first | (go_at_call 49; refine (plain_has _ P B _ _ _ (at' + k) (T1'.out.below hb) (by have := HT.out; omega)).mono ?_; rw [q3']; rintro e w2 ⟨rfl, hb2⟩))
                exact ⟨⟨k + 1, by go_num, hq.out, hb.trans (hb2.mono hb.size)⟩, by simp [intOf]; omega⟩
          · obtain rfl : k = ys.length := by omega
            have hq := Lib.hid (HK.out.stop (by rintro ⟨h, _, _⟩; omega))
            go_wp2
            go_meet
            exact ⟨by rw [hq.out, HD.out], hb⟩
      case rest =>
        obtain ⟨rfl, hb⟩ := hcut
        clear hst
        have hsz1 := t1'.out.size
        have hn1 := hp.1
        have hn2 := hp.2.1
        have hys : (ys.drop n).length = ys.length - n := List.length_drop ..
        have hsum : at' + n ≤ 65536 := by omega
        have hnc : n ≤ c' := by omega
        have htk : (ys.take n).length = n := by rw [List.length_take]; omega
        have TV := T1'.out.below hb
        obtain ⟨sV, pV, ⟨xs, o1V, o2V⟩, _⟩ := T1'.out.below hb
        have q0 := blk_cell (i := 0) pV rfl
        have qf := blk_frozen (i := 0) pV
        have qP := blk_lt pV
        have pN := own_blk o1V pV (by decide)
        have srcV := (((II.out.R.tch t1'.out (fun x hx => hlow' _ (II.out.ab x hx))).below hb).take n).src
        rw [htk] at srcV
        have hBV := Nat.le_trans hBw (Nat.le_trans hsz1 hb.size)
        have hm : (out' ++ tellI at' rem').length ≤ 16777216 := by have := HT.out; rw [List.length_append]; omega
        have HK := Lib.hid htk
        clear htk
        generalize hlg : (out' ++ tellI at' rem').length = m at *
        have HL := Lib.hid hlg
        clear hlg
        go_wp2_with fail
        go_region_law (first | ((refine step_append_src _ (by rfl) (.const (.slice none 0 0)) (.tmp 34) 39 (by rfl) B 5 u0 _ 1 1 Tryz.underlying39 hu hu0 hu1 hu2 (by rfl) (by decide) (.slice none 0 0) 0 [] (by rfl) (World.ownsRow_nil _ _ _ _) A' n c' _ (by rfl) srcV (bytes_one _) (by unfold maxLen; omega) (by omega) (by simp; omega) ?_; intro s3 w3 ho3 hg3 hs3; simp only [Nat.zero_add, List.nil_append] at ho3; obtain ⟨g3, c3, rfl, _, _⟩ := ho3.form (by omega); have pw3 := kept_blk hg3 pV (Below.refl _ _).drew (by simp [Value.ownBlock]); have k3 := blk_cell (i := 0) pw3 rfl; have f3 := blk_frozen (i := 0) pw3; have p3 := blk_lt pw3; have o13 := own_none (own_drew o1V) hg3; have b3 := grown_below hg3)) | ((refine step_append_src _ (by rfl) (.tmp 31) (.tmp 37) 29 (by rfl) B 52 i0 _ 6 80 Tryz.underlying29 hi hz0 hz1 hz2 (by rfl) (by decide) v1 m xs (by rfl) (o13.alloc _) _ 1 1 _ (by rfl) (Src.block (heap_alloc_new _ _) (by rfl)) (itC_one2 ⟨3, ⟨#[]⟩, 0, []⟩ _ (by rfl)) (by unfold maxLen; omega) (by omega) (by have := b3.size; simp at this ⊢; omega) ?_; intro v2 wy ho2 hg2 hv2; obtain ⟨g2, c2, rfl, _, _⟩ := ho2.form (by omega); have pw2 := kept_blk hg2 pw3 (belowA _) pN; have k0 := blk_cell (i := 0) pw2 rfl; have f0 := blk_frozen (i := 0) pw2)))
        all_goals
          have b3' := ((Below.refl wc.heap.size wc).drew.trans b3)
          obtain ⟨Tz, tz, nz⟩ := TV.push (x := dataI (ys.take n)) (b3'.trans ((belowA _).mono b3'.size)) (by rw [HL.out]; exact o13.alloc _) (o2V.below (b3'.trans ((belowA _).mono b3'.size))) (ItR.one (dataI (ys.take n)) (s := .slice (some ⟨g3, 0, none⟩) n c3) (by show World.ownsRow _ _ _ _ _ (ys.take n).length _; rw [HK.out]; exact World.ownsRow.alloc ho3 _)) hg2 hv2 (by rw [HL.out]; exact ho2)
          go_wp2
          have hl1 : (out' ++ tellI at' rem').length = m := HL.out
          have hl2 : (tellI at' rem').length + (dropI at' rem').length = rem'.length := HT.out
          rw [List.length_append] at hl1
          exact ⟨⟨ys.drop n, cutA A' c' n, c' - n, at' + n, _, _, _, by rw [hys]; rfl, rfl, II.out.step hBP T1'.out t1'.out n1'.out hb tz nz Tz (by omega) (by rw [List.append_assoc, List.append_assoc, List.singleton_append]; exact HS1.out) HS2.out (by rw [List.length_append, List.length_append]; simp only [List.length_cons, List.length_nil]; omega)⟩, by simp [vlen]; omega⟩
end Go.Proofs.YtofhdlkocgbcgaaGreatDoor
