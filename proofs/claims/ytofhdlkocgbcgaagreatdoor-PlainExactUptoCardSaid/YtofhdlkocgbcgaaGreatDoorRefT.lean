/- the reference's known: has, tell. -/
import Derived.Test.YtofhdlkocgbcgaaGreatDoorTelW
namespace Go.Proofs.YtofhdlkocgbcgaaGreatDoor
open Go Go.RowKit Pu
set_option linter.unusedVariables false
set_option linter.unusedSimpArgs false
def boolC (td : List Bool) : Array Value := (td.map Value.bool).toArray
/-- The reference's known: labels, and which of them were told. -/
structure KnS (w : World) (K Q : Nat) (l : List LabelP) (td : List Bool) (C : Option Addr) (cc : Nat) : Prop where
  k : w.heap[K]? = some (.cells #[.slice C l.length cc, .slice (some ⟨Q, 0, none⟩) l.length l.length] 47 (0, 0))
  q : w.heap[Q]? = some (.cells (boolC td) 4 (0, 0))
  n : td.length = l.length
  r : RdLb w C l
  c : 0 < l.length → ∀ x, C = some x → x.block ≠ Q
theorem KnS.ne {w : World} {K Q : Nat} {l : List LabelP} {td : List Bool} {C : Option Addr} {cc : Nat} (S : KnS w K Q l td C cc) : K ≠ Q := by
  rintro rfl
  have h := S.q
  rw [S.k] at h
  injection h with h
  injection h with _ h
  exact absurd h (by decide)
theorem KnS.below {w w' : World} {K Q : Nat} {l : List LabelP} {td : List Bool} {C : Option Addr} {cc : Nat} (S : KnS w K Q l td C cc) (hb : Below w.heap.size w w') : KnS w' K Q l td C cc :=
  ⟨heapB' hb S.k, heapB' hb S.q, S.n, S.r.below hb, S.c⟩
theorem RdLb.tch {D : Nat → Prop} {w w' : World} {A : Option Addr} {l : List LabelP} (R : RdLb w A l) (t : Tch D w w') (hd : 0 < l.length → ∀ a, A = some a → ¬ D a.block) : RdLb w' A l := fun h0 => by
  obtain ⟨b, off, rfl, hr⟩ := R h0
  have hb : ¬ D b := hd h0 ⟨b, off, none⟩ rfl
  exact ⟨b, off, rfl, fun i hi => ⟨t.cell (hr i hi).1 hb, t.cell (hr i hi).2 hb⟩⟩
theorem boolC_at {td : List Bool} {i : Nat} (h : i < td.length) : (boolC td)[i]? = some (.bool td[i]) := by
  unfold boolC; simp [h]
/-- The marks after k labels. -/
def curT (a : Int) (l : List LabelP) (td : List Bool) (k : Nat) : List Bool := (tellT a l td).take k ++ td.drop k
theorem curT_zero (a : Int) (l : List LabelP) (td : List Bool) : curT a l td 0 = td := by simp [curT]
theorem curT_all {a : Int} {l : List LabelP} {td : List Bool} (h : td.length = l.length) : curT a l td l.length = tellT a l td := by
  unfold curT
  rw [List.take_of_length_le (by rw [tellT_length _ _ _ h]; exact Nat.le_refl _), List.drop_of_length_le (by omega), List.append_nil]
theorem curT_len {a : Int} {l : List LabelP} {td : List Bool} (h : td.length = l.length) (k : Nat) (hk : k ≤ l.length) : (curT a l td k).length = l.length := by
  unfold curT; rw [List.length_append, List.length_take, List.length_drop, tellT_length _ _ _ h]; omega
theorem tellT_at (a : Int) : ∀ (l : List LabelP) (td : List Bool) (k : Nat) (hl : k < l.length) (ht : td.length = l.length), (tellT a l td)[k]? = some ((td.getD k false) || decide (l[k].at_ = a))
  | [], _, k, hl, _ => absurd hl (by simp)
  | _ :: _, [], _, _, ht => by simp at ht
  | x :: l, t :: td, 0, _, _ => by simp [tellT]
  | x :: l, t :: td, k + 1, hl, ht => by
    have := tellT_at a l td k (by simpa using hl) (by simpa using ht)
    simp only [tellT, List.getElem?_cons_succ, this]; rfl
theorem curT_at {a : Int} {l : List LabelP} {td : List Bool} (h : td.length = l.length) {k : Nat} (hk : k < l.length) : (curT a l td k)[k]? = some (td.getD k false) := by
  unfold curT
  rw [List.getElem?_append_right (by rw [List.length_take, tellT_length _ _ _ h]; omega), List.length_take, tellT_length _ _ _ h, Nat.min_eq_left (by omega), Nat.sub_self, List.getElem?_drop, Nat.add_zero, List.getD_eq_getElem?_getD, List.getElem?_eq_getElem (by omega)]
  rfl
theorem curT_step {a : Int} {l : List LabelP} {td : List Bool} (h : td.length = l.length) {k : Nat} (hk : k < l.length) : curT a l td (k + 1) = (curT a l td k).set k (td.getD k false || decide (l[k].at_ = a)) := by
  have e1 := tellT_at a l td k hk h
  have hkt : k < (tellT a l td).length := by rw [tellT_length _ _ _ h]; exact hk
  have e2 : (tellT a l td)[k] = (td.getD k false || decide (l[k].at_ = a)) := by rw [List.getElem?_eq_getElem hkt] at e1; injection e1
  have e3 : td.drop k = td.getD k false :: td.drop (k + 1) := by
    rw [List.drop_eq_getElem_cons (by omega : k < td.length), List.getD_eq_getElem?_getD, List.getElem?_eq_getElem (by omega)]; rfl
  unfold curT
  rw [List.take_succ_eq_append_getElem hkt, e2, e3]
  have hlen : ((tellT a l td).take k).length = k := by rw [List.length_take]; omega
  rw [List.set_append_right _ _ (by omega), hlen, Nat.sub_self, List.set_cons_zero, List.append_assoc]
  rfl
theorem curT_skip {a : Int} {l : List LabelP} {td : List Bool} (h : td.length = l.length) {k : Nat} (hk : k < l.length) (hs : ¬ (l[k].at_ = a ∧ td.getD k false = false)) : curT a l td (k + 1) = curT a l td k := by
  rw [curT_step h hk]
  have e : (td.getD k false || decide (l[k].at_ = a)) = td.getD k false := by
    cases ht : td.getD k false
    · simp; intro hh; exact hs ⟨hh, ht⟩
    · rfl
  rw [e]
  have := curT_at (a := a) h hk
  apply List.ext_getElem?
  intro j
  rw [List.getElem?_set]
  by_cases hj : k = j
  · subst hj
    rw [if_pos rfl, if_pos (by rw [curT_len h k (by omega)]; exact hk), this]
  · rw [if_neg hj]
/-- What is told of the first k labels. -/
def outT (a : Int) (l : List LabelP) (td : List Bool) (k : Nat) : List ItemP := tellI a (remT (l.take k) (td.take k))
theorem remT_append : ∀ (l m : List LabelP) (td te : List Bool), td.length = l.length → remT (l ++ m) (td ++ te) = remT l td ++ remT m te
  | [], m, [], te, _ => rfl
  | [], _, _ :: _, _, h => by simp at h
  | _ :: _, _, [], _, h => by simp at h
  | x :: l, m, t :: td, te, h => by
    have ih := remT_append l m td te (by simpa using h)
    simp only [List.cons_append, remT, ih]
    split <;> simp
theorem outT_step {a : Int} {l : List LabelP} {td : List Bool} (h : td.length = l.length) {k : Nat} (hk : k < l.length) : outT a l td (k + 1) = if l[k].at_ = a ∧ td.getD k false = false then outT a l td k ++ [lblI l[k]] else outT a l td k := by
  have e3 : td.take (k + 1) = td.take k ++ [td.getD k false] := by
    rw [List.take_succ_eq_append_getElem (by omega : k < td.length), List.getD_eq_getElem?_getD, List.getElem?_eq_getElem (by omega)]; rfl
  unfold outT
  rw [List.take_succ_eq_append_getElem hk, e3, remT_append _ _ _ _ (by rw [List.length_take, List.length_take]; omega)]
  unfold tellI
  rw [List.filter_append, List.map_append]
  by_cases h1 : l[k].at_ = a <;> cases h2 : td.getD k false <;> simp [remT, h1]
theorem outT_all {a : Int} {l : List LabelP} {td : List Bool} (h : td.length = l.length) : outT a l td l.length = tellI a (remT l td) := by
  unfold outT; rw [List.take_length, List.take_of_length_le (by omega)]
theorem outT_len (a : Int) (l : List LabelP) (td : List Bool) (k : Nat) : (outT a l td k).length ≤ k := by
  have : ∀ (l : List LabelP) (td : List Bool), (remT l td).length ≤ l.length := by
    intro l
    induction l with
    | nil => intro td; cases td <;> exact Nat.le_refl _
    | cons x l ih =>
      intro td
      cases td with
      | nil => exact Nat.zero_le _
      | cons t td => have := ih td; simp only [remT]; split <;> simp only [List.length_cons] <;> omega
  unfold outT tellI
  rw [List.length_map]
  exact Nat.le_trans (List.length_filter_le ..) (Nat.le_trans (this _ _) (List.length_take_le ..))
set_option maxHeartbeats 1000000 in
set_option maxRecDepth 100000 in
theorem r15_has (w : World) (K Q : Nat) (l : List LabelP) (td : List Bool) (C : Option Addr) (cc : Nat) (a : Int) (S : KnS w K Q l td C cc) (hr : l.length ≤ 16777216) : Calls Tryz.prog 39 #[.pointer (some ⟨K, 0, none⟩), .int .i64 a] w fun e w' => e = .returned (.bool (hasI a l)) ∧ w = w' := by
  have p0 := blk_cell (i := 0) S.k rfl
  have RL := S.r
  clear S
  go_enter Tryz.func39, Tryz.ntmps39
  go_wp2
  go_loop [5] (fun i => ∃ k : Nat, i = .int .i64 k ∧ k ≤ l.length ∧ hasI a (l.take k) = false) (fun i => l.length - (intOf i).toNat)
  case atStart => exact ⟨0, rfl, Nat.zero_le _, rfl⟩
  case round =>
    obtain ⟨k, rfl, hk, hno⟩ := hrel
    by_cases hlt : k < l.length
    · have hki : (k : Int) < l.length := by omega
      obtain ⟨g, off, rfl, hc⟩ := RL (by omega)
      obtain ⟨_, c1⟩ := hc k hlt
      have ht := hasI_take (a := a) hlt
      have hm := hasI_mem (a := a) hlt
      clear hc RL
      generalize l[k].at_ = xa at *
      by_cases hx : xa = a
      · have hT := Lib.hid (hm hx)
        have hx2 : (xa == a) = true := by simpa using hx
        clear hm ht hx
        go_wp2
        go_ret
        exact ⟨ret_bool hT.out.symm, rfl⟩
      · have hx2 : (xa == a) = false := by simpa using hx
        rw [hno, decide_eq_false hx] at ht
        clear hm hx
        go_wp2
        exact ⟨⟨k + 1, by go_num, by omega, ht⟩, by simp [intOf]; omega⟩
    · obtain rfl : k = l.length := by omega
      rw [List.take_length] at hno
      have hN := Lib.hid hno
      clear hno
      go_wp2
      go_ret
      exact ⟨ret_bool hN.out.symm, rfl⟩
theorem infoItem' : (Tryz.prog.info? 52).map (fun i => (i.zero, i.size, i.bytes)) = some (some (.agg #[.int .u8 0, .string ⟨#[]⟩, .int .i64 0, .string ⟨#[]⟩, .int .u8 0, .slice none 0 0]), 6, 80) := by kernel_rfl
/-- While the labels of an address are told. -/
structure TelK (w : World) (K Q : Nat) (l : List LabelP) (td : List Bool) (C : Option Addr) (cc : Nat) (a : Int) (k : Nat) (v : Value) (wr : World) : Prop where
  s : KnS wr K Q l (curT a l td k) C cc
  o : ItL wr w.heap.size v (outT a l td k)
  t : Tch (fun j => j = Q) w wr
theorem boolC_set (td : List Bool) (k : Nat) (b : Bool) : (boolC td).setIfInBounds k (.bool b) = boolC (td.set k b) := by
  unfold boolC; simp [List.map_set]
/-- One label told. -/
theorem TelK.hit {w wr V w2 : World} {K Q : Nat} {l : List LabelP} {td : List Bool} {C : Option Addr} {cc : Nat} {a : Int} {k : Nat} {v v2 : Value} {xs : List Value} (h : TelK w K Q l td C cc a k v wr) (R0 : RdLb w C l) (hn : td.length = l.length) (hk : k < l.length) (hx : l[k].at_ = a ∧ td.getD k false = false) (hQw : Q < w.heap.size)
    (hV : V = ((wr.setCell ⟨Q, k, none⟩ (.bool true)).alloc (.cells #[.int .u8 1, .string l[k].name, .int .i64 0, .string ⟨#[]⟩, .int .u8 0, .slice none 0 0] 52)))
    (h1 : wr.ownsRow w.heap.size 52 6 v (outT a l td k).length xs) (h2 : ItR wr w.heap.size xs (outT a l td k)) (hg : V.grownBy w2 v.ownBlock)
    (ho : w2.ownsRow w.heap.size 52 6 v2 ((outT a l td k).length + 1) (xs ++ itC (lblI l[k]) (.slice none 0 0))) :
    TelK w K Q l td C cc a (k + 1) v2 w2 := by
  have tQ : Tch (fun j => j = Q) wr (wr.setCell ⟨Q, k, none⟩ (.bool true)) := Tch.setCell (D := fun j => j = Q) (Tch.refl _ _) (fun _ => rfl) _
  have tV : Tch (fun j => j = Q) wr V := by rw [hV]; exact tQ.alloc _
  have hq := h.s.q
  have n1 : v.ownBlock ≠ some Q := own_blk h1 hq (by decide)
  have h1V : V.ownsRow w.heap.size 52 6 v (outT a l td k).length xs := own_tch h1 tV (fun j hj e => n1 (by rw [hj, e]))
  have h2V : ItR V w.heap.size xs (outT a l td k) := h2.tch tV (fun j cs _ hj e => by subst e; rw [hq] at hj; simp at hj)
  have i2 := ItL.grown (m := [lblI l[k]]) h1V h2V (ItR.one_nil (lblI l[k]) rfl) hg ho
  have hstep := curT_step (a := a) hn hk
  have hb : (td.getD k false || decide (l[k].at_ = a)) = true := by rw [decide_eq_true hx.1, Bool.or_true]
  rw [hb] at hstep
  have qV : V.heap[Q]? = some (.cells (boolC (curT a l td (k + 1))) 4 (0, 0)) := by
    rw [hV, hstep, ← boolC_set]
    have hlt : Q < (wr.setCell ⟨Q, k, none⟩ (.bool true)).heap.size := by have := tQ.size; have := h.t.size; omega
    rw [Below.heap_alloc _ _ _ hlt]
    simp [World.setCell, Array.getElem?_modify, hq]
  have kV : V.heap[K]? = _ := tV.heap h.s.k h.s.ne
  have nK : v.ownBlock ≠ some K := own_blk h1V kV (by decide)
  have tw : Tch (fun j => v.ownBlock = some j) V w2 := (Tch.refl _ V).grown hg fun j hj e => e
  have tz := (h.t.trans tV fun _ _ e => e).grown hg fun j hj e => by have := (own_some h1V e).1; omega
  exact ⟨⟨tw.heap kV (fun e => nK e), tw.heap qV (fun e => n1 e), by rw [curT_len hn (k + 1) (by omega)], R0.tch tz (fun h0 x hx => h.s.c h0 x hx), h.s.c⟩, by rw [outT_step hn hk, if_pos hx]; exact i2, tz⟩
theorem TelK.skip {w wr : World} {K Q : Nat} {l : List LabelP} {td : List Bool} {C : Option Addr} {cc : Nat} {a : Int} {k : Nat} {v : Value} (h : TelK w K Q l td C cc a k v wr) (hn : td.length = l.length) (hk : k < l.length) (hx : ¬ (l[k].at_ = a ∧ td.getD k false = false)) : TelK w K Q l td C cc a (k + 1) v wr :=
  ⟨by rw [curT_skip hn hk hx]; exact h.s, by rw [outT_step hn hk, if_neg hx]; exact h.o, h.t⟩
theorem heap_new_set (w : World) (p : Addr) (v : Value) (o : Obj) : ((w.setCell p v).alloc o).heap[w.heap.size]? = some o := by
  have := heap_alloc_new (w.setCell p v) o
  have e : (w.setCell p v).heap.size = w.heap.size := by simp [World.setCell]
  rw [e] at this; exact this
theorem heapS {w : World} {Q : Nat} {cs : Array Value} {t : TypeId} (h : w.heap[Q]? = some (.cells cs t (0, 0))) : Q < w.heap.size := blk_lt h
set_option maxHeartbeats 2000000 in
set_option maxRecDepth 100000 in
theorem r15_tell (w : World) (K Q : Nat) (l : List LabelP) (td : List Bool) (C : Option Addr) (cc : Nat) (a : Int) (S : KnS w K Q l td C cc) (hr : l.length ≤ 16777216) : Calls Tryz.prog 16 #[.pointer (some ⟨K, 0, none⟩), .int .i64 a] w fun e w' => (∃ v, e = .returned v ∧ ItL w' w.heap.size v (tellI a (remT l td))) ∧ KnS w' K Q l (tellT a l td) C cc ∧ Tch (fun j => j = Q) w w' := by
  obtain ⟨i0, hi0, hz0, hz1, hz2⟩ := info_parts infoItem'
  have R0 := S.r
  have hn := S.n
  have hKw := blk_lt S.k
  have hQw := blk_lt S.q
  have I0 : TelK w K Q l td C cc a 0 (.slice none 0 0) w := ⟨by rw [curT_zero]; exact S, by simpa [outT, tellI, remT] using ItL.nil _ _, Tch.refl _ _⟩
  clear S
  go_enter Tryz.func16, Tryz.ntmps16
  go_wp2
  go_loopw [5, 6] (fun v i wr => ∃ k : Nat, i = .int .i64 k ∧ k ≤ l.length ∧ TelK w K Q l td C cc a k v wr) (fun _ i _ => l.length - (intOf i).toNat)
  case atStart => exact ⟨0, rfl, Nat.zero_le _, I0⟩
  case round =>
    clear I0
    obtain ⟨k, rfl, hk, I⟩ := hrel
    have p0 := blk_cell (i := 0) I.s.k rfl
    have p1 := blk_cell (i := 1) I.s.k rfl
    by_cases hlt : k < l.length
    · have hki : (k : Int) < l.length := by omega
      obtain ⟨g, off, rfl, hc⟩ := I.s.r (by omega)
      obtain ⟨c0, c1⟩ := hc k hlt
      have hgQ : g ≠ Q := I.s.c (by omega) _ rfl
      have hcl := curT_len (a := a) hn k hk
      have hca := curT_at (a := a) hn hlt
      have q0 : wr.cell? ⟨Q, k, none⟩ = some (.bool (td.getD k false)) := blk_cell I.s.q (by rw [boolC_at (by rw [hcl]; exact hlt)]; rw [List.getElem?_eq_getElem (by rw [hcl]; exact hlt)] at hca; injection hca with hca; rw [hca])
      have qf : wr.frozen? ⟨Q, k, none⟩ = false := blk_frozen I.s.q
      have hit := fun hx V w2 v2 xs => I.hit (V := V) (w2 := w2) (v2 := v2) (xs := xs) R0 hn hlt hx hQw
      have skip := I.skip hn hlt
      obtain ⟨xs, o1, o2⟩ := I.o
      have hol := outT_len a l td k
      have hsz := I.t.size
      have hKQ : Q ≠ K := fun e => I.s.ne e.symm
      have s0 := (World.cell?_setCell_far wr ⟨Q, k, none⟩ ⟨K, 0, none⟩ (.bool true) hKQ).trans p0
      have s1 := (World.cell?_setCell_far wr ⟨Q, k, none⟩ ⟨g, off + k * 2, none⟩ (.bool true) (fun e => hgQ e.symm)).trans c0
      have tQ : Tch (fun j => j = Q) wr (wr.setCell ⟨Q, k, none⟩ (.bool true)) := Tch.setCell (D := fun j => j = Q) (Tch.refl _ _) (fun _ => rfl) _
      have oQ := own_tch o1 tQ (fun j hj e => own_blk o1 I.s.q (by decide) (by rw [hj, e]))
      clear hc hca hcl
      generalize l[k] = x at *
      generalize td.getD k false = tb at *
      obtain ⟨xn, xa⟩ := x
      simp only at *
      have HI := Lib.hid hit
      have HS := Lib.hid skip
      clear hit skip I
      by_cases hx : xa = a
      · have hx2 : (xa == a) = true := by simpa using hx
        subst hx
        cases tb with
        | true =>
          have hS := Lib.hid (HS.out (by simp))
          clear HS HI
          go_wp2
          exact ⟨⟨k + 1, by go_num, by omega, hS.out⟩, by simp [intOf]; omega⟩
        | false =>
          go_wp2_with (first | (at_builtin; refine wpList_append_src _ rfl (.tmp 42) (.tmp 52) 29 rfl w.heap.size 52 i0 _ 6 80 Tryz.underlying29 hi0 hz0 hz1 hz2 rfl (by decide) _ _ xs rfl (oQ.alloc _) _ 1 1 _ rfl (Src.block (heap_new_set _ _ _ _) rfl) (itC_one ⟨1, xn, 0, []⟩) (by unfold maxLen; omega) (by omega) (by have := tQ.size; simp at this ⊢; omega) ?_; intro v2 w2 ho2 hg2 hv2))
          exact ⟨⟨k + 1, by go_num, by omega, HI.out (by simp) _ w2 v2 xs rfl o1 o2 hg2 ho2⟩, by simp [intOf]; omega⟩
      · have hx2 : (xa == a) = false := by simpa using hx
        have hS := Lib.hid (HS.out (fun h => hx h.1))
        clear HS HI hx
        go_wp2
        exact ⟨⟨k + 1, by go_num, by omega, hS.out⟩, by simp [intOf]; omega⟩
    · obtain rfl : k = l.length := by omega
      have ho := I.o
      have hs := I.s
      rw [outT_all hn] at ho
      rw [curT_all hn] at hs
      have ht := I.t
      have II := Lib.hid hs
      clear I hs
      go_wp2
      go_ret
      exact ⟨⟨_, rfl, ho⟩, II.out, ht⟩
end Go.Proofs.YtofhdlkocgbcgaaGreatDoor
