/- plain's telling: code, data. -/
import Derived.Test.YtofhdlkocgbcgaaGreatDoorTelW
import Derived.Test.YtofhdlkocgbcgaaGreatDoorLinP
namespace Go.Proofs.YtofhdlkocgbcgaaGreatDoor
open Go Go.RowKit Pu
set_option linter.unusedVariables false
set_option linter.unusedSimpArgs false
theorem RdB.tch {D : Nat → Prop} {w w' : World} {A : Option Addr} {xs : List Int} (R : RdB w A xs) (t : Tch D w w') (hd : ∀ a, A = some a → ¬ D a.block) : RdB w' A xs := fun h0 => by
  obtain ⟨b, off, rfl, hb, hr⟩ := R h0
  exact ⟨b, off, rfl, Nat.lt_of_lt_of_le hb t.size, fun i hi => t.cell (hr i hi) (show ¬ D b from hd ⟨b, off, none⟩ rfl)⟩
theorem TelS.low {w : World} {P B : Nat} {out : List ItemP} {rem : List LabelP} {v : Value} (T : TelS w P B out rem v) (hBP : B ≤ P) : ∀ k, k < B → ¬ TelD P v k := by
  obtain ⟨s, hP, ⟨xs, ho, _⟩, hL⟩ := T
  rintro k hk (rfl | e)
  · omega
  · have := (own_some ho e).1; omega
theorem Tch.lowB {w w' : World} {P B : Nat} {v : Value} (t : Tch (TelD P v) w w') (hl : ∀ k, k < B → ¬ TelD P v k) (hB : B ≤ w.heap.size) : Below B w w' := t.to_below hB hl
theorem TelS.below {w w' : World} {P B : Nat} {out : List ItemP} {rem : List LabelP} {v : Value} (T : TelS w P B out rem v) (hb : Below w.heap.size w w') : TelS w' P B out rem v := by
  obtain ⟨s, hP, ho, hL⟩ := T
  exact ⟨s, heapB' hb hP, ho.below hb, own_below hL hb⟩
theorem NewOr.mono {w w' : World} {v v' : Value} (h : NewOr w' v v') (hz : w.heap.size ≤ w'.heap.size) : NewOr w v v' := by
  rcases h with h | h
  · exact .inl h
  · exact .inr fun k hk => Nat.le_trans hz (h k hk)
/-- One item more. -/
theorem TelS.push {w V w2 : World} {P B : Nat} {out : List ItemP} {rem : List LabelP} {v v2 : Value} {xs ys : List Value} {x : ItemP} (T : TelS w P B out rem v) (hV : Below w.heap.size w V)
    (h1 : V.ownsRow B 52 6 v out.length xs) (h2 : ItR V B xs out) (h3 : ItR V B ys [x]) (hg : V.grownBy w2 v.ownBlock) (hv2 : v2.ownBlock = v.ownBlock ∨ v2.ownBlock = some V.heap.size)
    (ho : w2.ownsRow B 52 6 v2 (out.length + 1) (xs ++ ys)) :
    TelS (w2.setCell ⟨P, 0, none⟩ v2) P B (out ++ [x]) rem v2 ∧ Tch (TelD P v) w (w2.setCell ⟨P, 0, none⟩ v2) ∧ NewOr w v v2 := by
  obtain ⟨s, hP, _, hL⟩ := T
  have pV : V.heap[P]? = some (.cells #[v, s] 63 (0, 0)) := heapB' hV hP
  have n1 : v.ownBlock ≠ some P := own_blk h1 pV (by decide)
  have p2 : w2.heap[P]? = some (.cells #[v, s] 63 (0, 0)) := by rw [hg.block P (blk_lt pV) (fun e => n1 e.symm)]; exact pV
  have n2 : v2.ownBlock ≠ some P := own_blk ho p2 (by decide)
  have i2 := ItL.grown (m := [x]) h1 h2 h3 hg ho
  have lV : LbL V B s rem := own_below hL hV
  have l2 : LbL w2 B s rem := World.ownsRow.kept lV hg (by
      cases hl : s.ownBlock with
      | none => exact .inl rfl
      | some j => exact .inr fun e => own_ne lV h1 (by decide) hl e.symm)
  have tV : Tch (TelD P v) w w2 := ((Tch.refl _ w).below hV).grown hg fun j hj e => .inr e
  have tc := (Tch.refl (fun j => j = P) w2).setCell (p := ⟨P, 0, none⟩) (fun _ => rfl) v2
  refine ⟨⟨s, by simp [World.setCell, Array.getElem?_modify, p2], i2.tch tc (fun j hj e => n2 (by rw [hj, e])) (fun j cs _ hj e => by subst e; rw [p2] at hj; simp at hj), l2.tch tc (fun j hj e => LbL.at_ne l2 p2 (by rw [hj, e]))⟩, tV.setCell (fun _ => .inl rfl) v2, ?_⟩
  rcases hv2 with e | e
  · exact .inl e
  · exact .inr fun j hj => by rw [e] at hj; injection hj with hj; have := hV.size; omega
structure TelI (w : World) (P B : Nat) (v : Value) (tot : List ItemP) (last : List LabelP) (sum : Nat) (f : List LabelP → List Int → Int → List ItemP × List LabelP) (A' : Option Addr) (c' : Nat) (ys : List Int) (at' : Int) (out' : List ItemP) (rem' : List LabelP) (v' : Value) (wr : World) : Prop where
  T : TelS wr P B out' rem' v'
  t : Tch (TelD P v) w wr
  n : NewOr w v v'
  R : RdB wr A' ys
  ab : ∀ a, A' = some a → a.block < B
  by_ : Bytes ys
  c : ys.length ≤ c'
  o : out' ++ (f rem' ys at').1 = tot
  r : (f rem' ys at').2 = last
  len : out'.length + rem'.length + ys.length ≤ 16777216
  a0 : 0 ≤ at'
  a1 : at' + ys.length = sum
theorem cutA_block {A : Option Addr} {c n B : Nat} (h : ∀ a, A = some a → a.block < B) : ∀ a, cutA A c n = some a → a.block < B := by
  intro a ha
  unfold cutA at ha
  split at ha
  · exact h a ha
  · cases A with
    | none => simp at ha
    | some x =>
      simp only [Option.map_some, Option.some.injEq] at ha
      subst ha
      have := h x rfl
      unfold Addr.add; split <;> exact this
theorem cutA_len {A : Option Addr} {c n : Nat} {w : World} {ys : List Int} (R : RdB w A ys) (hc : ys.length ≤ c) : RdB w (cutA A c n) (ys.drop n) := R.cut c n hc
theorem TelI.step {w wr w1 V wz : World} {P B : Nat} {v v' v1 v2 : Value} {tot : List ItemP} {last : List LabelP} {sum : Nat} {f : List LabelP → List Int → Int → List ItemP × List LabelP} {A' : Option Addr} {c' n : Nat} {ys : List Int} {at' : Int} {out' out1 out2 : List ItemP} {rem' rem1 rem2 : List LabelP}
    (I : TelI w P B v tot last sum f A' c' ys at' out' rem' v' wr) (hBP : B ≤ P) (T1 : TelS w1 P B out1 rem1 v1) (t1 : Tch (TelD P v') wr w1) (n1 : NewOr wr v' v1) (hb : Below w1.heap.size w1 V) (tp : Tch (TelD P v1) V wz) (np : NewOr V v1 v2) (Tz : TelS wz P B out2 rem2 v2)
    (hn : n ≤ ys.length) (ho : out2 ++ (f rem2 (ys.drop n) (at' + n)).1 = tot) (hr : (f rem2 (ys.drop n) (at' + n)).2 = last) (hlen : out2.length + rem2.length + (ys.length - n) ≤ 16777216) :
    TelI w P B v tot last sum f (cutA A' c' n) (c' - n) (ys.drop n) (at' + n) out2 rem2 v2 wz := by
  have hz1 : w.heap.size ≤ w1.heap.size := Nat.le_trans I.t.size t1.size
  have hzV : w.heap.size ≤ V.heap.size := Nat.le_trans hz1 hb.size
  have nv1 : NewOr w v v1 := I.n.trans n1 I.t.size
  have t2 : Tch (TelD P v) w wz := ((I.t.trans t1 I.n.tel).below hb).trans tp nv1.tel
  have tt : Tch (fun k => B ≤ k) wr wz := ((t1.mono fun j _ e => Nat.le_of_not_lt fun h => I.T.low hBP j h e).below hb).trans (tp.mono fun j _ e => Nat.le_of_not_lt fun h => T1.low hBP j h e) fun _ _ e => e
  exact ⟨Tz, t2, nv1.trans np hzV, (I.R.cut c' n I.c).tch tt (fun a ha => Nat.not_le.2 (cutA_block I.ab a ha)), cutA_block I.ab, I.by_.drop n, by rw [List.length_drop]; have := I.c; omega, ho, hr, by rw [List.length_drop]; omega, by have := I.a0; omega, by rw [List.length_drop]; have := I.a1; omega⟩
set_option maxHeartbeats 4000000 in
set_option maxRecDepth 100000 in
theorem plain_code (w : World) (P B : Nat) (out : List ItemP) (rem : List LabelP) (v : Value) (A : Option Addr) (c : Nat) (b : List Int) (a : Int) (T : TelS w P B out rem v) (TW : Tabs w) (hB : 10 ≤ B) (hBP : B ≤ P) (R : RdB w A b) (hAB : ∀ x, A = some x → x.block < B) (hx : Bytes b) (hc : b.length ≤ c) (hw : wholeP b = true)
    (hr : out.length + rem.length + b.length ≤ 16777216) (ha : 0 ≤ a) (ha2 : a + b.length ≤ 65536) : Calls Tryz.prog 23 #[.pointer (some ⟨P, 0, none⟩), .slice A b.length c, .int .i64 a] w fun e w' => e = .returned (.tuple #[]) ∧ ∃ v', TelS w' P B (out ++ (codeP rem b a).1) (codeP rem b a).2 v' ∧ Tch (TelD P v) w w' ∧ NewOr w v v' := by
  obtain ⟨i0, hi, hz0, hz1, hz2⟩ := info_parts infoItem
  have hlow := T.low hBP
  have hPw : P < w.heap.size := by obtain ⟨s, hP, _⟩ := T; exact blk_lt hP
  have I0 : TelI w P B v (out ++ (codeP rem b a).1) (codeP rem b a).2 (a + b.length).toNat codeP A c b a out rem v w := ⟨T, Tch.refl _ _, .inl rfl, R, hAB, hx, hc, rfl, rfl, hr, ha, by omega⟩
  have htot : ((a + b.length).toNat : Int) ≤ 65536 := by omega
  generalize out ++ (codeP rem b a).1 = tot at *
  generalize (codeP rem b a).2 = last at *
  generalize (a + b.length).toNat = sum at *
  clear T R hAB hx hr ha ha2
  go_enter Tryz.func23, Tryz.ntmps23
  go_wp2
  go_loopw [1, 2] (fun s t wr => ∃ (ys : List Int) (A' : Option Addr) (c' : Nat) (at' : Int) (out' : List ItemP) (rem' : List LabelP) (v' : Value), s = .slice A' ys.length c' ∧ t = .int .i64 at' ∧ wholeP ys = true ∧ TelI w P B v tot last sum codeP A' c' ys at' out' rem' v' wr) (fun s _ _ => vlen s)
  case atStart => exact ⟨b, A, c, a, out, rem, v, rfl, rfl, hw, I0⟩
  case round =>
    clear I0 hw hc
    obtain ⟨ys, A', c', at', out', rem', v', rfl, rfl, hw, I⟩ := hrel
    by_cases hne : ys = []
    · subst hne
      have e1 := I.o
      have e2 := I.r
      rw [codeP_nil] at e1 e2
      simp only [List.append_nil] at e1
      subst e1; subst e2
      go_wp2
      go_end0
      exact ⟨rfl, v', I.T, I.t, I.n⟩
    · have hpos : 0 < ys.length := List.length_pos_iff.2 hne
      rw [wholeP, dif_neg hne] at hw
      by_cases hok : (decI ys).2.2.2 = 0
      · rw [dif_pos hok] at hw
        have hp := decN_pos hne hok
        have hd := dec_ok I.by_ hok
        have hs1 := I.o
        have hs2 := I.r
        rw [codeP_step _ _ hne hok] at hs1 hs2
        simp only at hs1 hs2
        have hlen := I.len
        have a0 := I.a0
        have a1 := I.a1
        have ht := tell_len at' rem'
        have hBw : B ≤ wr.heap.size := by have := I.t.size; omega
        have hlow' : ∀ k, k < B → ¬ TelD P v' k := I.T.low hBP
        have hn : (decI ys).2.2.1 = (decN ys : Int) := by have := decI_cases ys hne; unfold decN; omega
        have Hd : Hid (DecV ys = .tuple #[.agg #[.string (decI ys).1, .int .i64 (decI ys).2.1], .int .i64 (decN ys), .int .i64 0]) := Lib.hid (by unfold DecV; rw [hok, hn])
        have harg := hd.a1
        have harg0 := hd.a0
        have hk3 := hd.n3
        have hci : codeI ys = ⟨2, (decI ys).1, (decI ys).2.1, []⟩ := rfl
        clear hn hok
        generalize decN ys = n at *
        generalize (decI ys).1 = nm at *
        generalize (decI ys).2.1 = ar at *
        have hcap := I.c
        have II := Lib.hid I
        have HS1 := Lib.hid hs1
        have HS2 := Lib.hid hs2
        have HC := Lib.hid hci
        clear I hs1 hs2 hci hd
        go_wp2_with (first | (go_at_call 22; refine (plain_here _ P B out' rem' v' at' II.out.T hBw (by omega)).mono ?_; rintro e w1 ⟨rfl, v1, T1, t1, n1⟩) | (go_at_call 48; refine (code_Decode _ _ ys _ (TW.below ((II.out.t.lowB hlow (by omega)).trans (t1.lowB hlow' hBw)) hB) (II.out.R.tch t1 (fun x hx => hlow' _ (II.out.ab x hx))) II.out.by_ (by omega) _ rfl).mono ?_; rw [Hd.out]; rintro e w2 ⟨rfl, hb2⟩))
        have T2 := T1.below hb2
        have hV := belowA (w := w2) (.cells #[.string nm, .int .i64 ar] 78)
        have c0 : (w2.alloc (.cells #[.string nm, .int .i64 ar] 78)).cell? ⟨w2.heap.size, 0, none⟩ = some (.string nm) := by simp
        have c1 : (w2.alloc (.cells #[.string nm, .int .i64 ar] 78)).cell? ⟨w2.heap.size, 1, none⟩ = some (.int .i64 ar) := by simp
        have hq : w2.heap.size < (w2.alloc (.cells #[.string nm, .int .i64 ar] 78)).heap.size := by simp
        have hBV : B ≤ (w2.alloc (.cells #[.string nm, .int .i64 ar] 78)).heap.size := by have := t1.size; have := hb2.size; simp; omega
        generalize hVV : w2.alloc (.cells #[.string nm, .int .i64 ar] 78) = V at *
        have TV := T2.below hV
        have hbV : Below w1.heap.size w1 V := hb2.trans (hV.mono hb2.size)
        obtain ⟨sV, pV, ⟨xs, o1V, o2V⟩, _⟩ := T2.below hV
        have q0 := blk_cell (i := 0) pV rfl
        have qf := blk_frozen (i := 0) pV
        have qP := blk_lt pV
        have pN := own_blk o1V pV (by decide)
        have hm : (out' ++ tellI at' rem').length ≤ 16777216 := by rw [List.length_append]; omega
        have HT := Lib.hid ht
        have hys : (ys.drop n).length = ys.length - n := List.length_drop ..
        have hsum : at' + n ≤ 65536 := by omega
        clear ht
        generalize hlg : (out' ++ tellI at' rem').length = m at *
        have HL := Lib.hid hlg
        clear hlg
        go_region_law ((refine step_append_src _ (by rfl) (.tmp 25) (.tmp 31) 29 (by rfl) B 52 i0 _ 6 80 Tryz.underlying29 hi hz0 hz1 hz2 (by rfl) (by decide) v1 m xs (by rfl) (own_drew (o1V.alloc _)) _ 1 1 _ (by rfl) (Src.block (heap_alloc_new _ _) (by rfl)) (itC_one ⟨2, nm, ar, []⟩) (by unfold maxLen; omega) (by omega) (by simp; omega) ?_; intro v2 wy ho2 hg2 hv2; obtain ⟨g2, c2, rfl, _, _⟩ := ho2.form (by omega); have pw2 := kept_blk hg2 pV (belowA _).drew pN; have k0 := blk_cell (i := 0) pw2 rfl; have f0 := blk_frozen (i := 0) pw2))
        all_goals
          obtain ⟨Tz, tz, nz⟩ := TV.push (x := codeI ys) (belowA _).drew (by rw [HL.out]; exact own_drew (o1V.alloc _)) (o2V.below (belowA _).drew) (by rw [HC.out]; exact ItR.one_nil ⟨2, nm, ar, []⟩ rfl) hg2 hv2 (by rw [HL.out]; exact ho2)
          go_wp2
          have hl1 : (out' ++ tellI at' rem').length = m := HL.out
          have hl2 : (tellI at' rem').length + (dropI at' rem').length = rem'.length := HT.out
          rw [List.length_append] at hl1
          exact ⟨⟨ys.drop n, cutA A' c' n, c' - n, at' + n, _, _, _, by rw [hys]; rfl, rfl, hw, II.out.step hBP T1 t1 n1 hbV tz (nz) Tz (by omega) (by rw [List.append_assoc, List.append_assoc, List.singleton_append]; exact HS1.out) HS2.out (by rw [List.length_append, List.length_append]; simp only [List.length_cons, List.length_nil]; omega)⟩, by simp [vlen]; omega⟩
      · rw [dif_neg hok] at hw; exact absurd hw (by simp)
end Go.Proofs.YtofhdlkocgbcgaaGreatDoor
