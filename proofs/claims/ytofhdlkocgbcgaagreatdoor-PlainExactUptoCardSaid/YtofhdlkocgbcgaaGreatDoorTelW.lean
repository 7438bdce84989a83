/- plain's telling: has, here. -/
import Derived.Test.YtofhdlkocgbcgaaGreatDoorMemW
import Derived.Test.YtofhdlkocgbcgaaGreatDoorQuiW
import Derived.Deep.RegionLaw
namespace Go.Proofs.YtofhdlkocgbcgaaGreatDoor
open Go Go.RowKit Pu
set_option linter.unusedVariables false
set_option linter.unusedSimpArgs false
def lbC (l : List LabelP) : List Value := l.flatMap fun x => [.string x.name, .int .i64 x.at_]
theorem lbC_len (l : List LabelP) : (lbC l).length = l.length * 2 := by
  induction l with
  | nil => rfl
  | cons x l ih => unfold lbC at ih ⊢; rw [List.flatMap_cons, List.length_append, ih]; simp only [List.length_cons, List.length_nil]; omega
theorem lbC_append (l m : List LabelP) : lbC (l ++ m) = lbC l ++ lbC m := List.flatMap_append
theorem lbC_at : ∀ (l : List LabelP) (i : Nat) (h : i < l.length), (lbC l)[i * 2]? = some (.string l[i].name) ∧ (lbC l)[i * 2 + 1]? = some (.int .i64 l[i].at_)
  | [], i, h => absurd h (by simp)
  | x :: l, 0, _ => ⟨rfl, rfl⟩
  | x :: l, i + 1, h => by
    have ih := lbC_at l i (by simpa using h)
    have e : lbC (x :: l) = [.string x.name, .int .i64 x.at_] ++ lbC l := rfl
    rw [e, show (i + 1) * 2 = 2 + i * 2 by omega, show 2 + i * 2 + 1 = 2 + (i * 2 + 1) by omega, List.getElem?_append_right (by simp), List.getElem?_append_right (by simp)]
    simpa using ih
theorem lbC_one (l : List LabelP) : ∀ u ∈ lbC l, u.oneCell' = true := by
  intro u hu
  unfold lbC at hu
  rw [List.mem_flatMap] at hu
  obtain ⟨x, _, hx⟩ := hu
  simp only [List.mem_cons, List.not_mem_nil, or_false] at hx
  rcases hx with rfl | rfl <;> rfl
/-- A row of labels of the call's own. -/
def LbL (w : World) (B : Nat) (s : Value) (l : List LabelP) : Prop := w.ownsRow B 57 2 s l.length (lbC l)
theorem LbL.form {w : World} {B : Nat} {s : Value} {l : List LabelP} (h : LbL w B s l) : ∃ A c, s = .slice A l.length c ∧ (0 < l.length → ∃ g, A = some ⟨g, 0, none⟩ ∧ g < w.heap.size ∧ ∀ i (hi : i < l.length), w.cell? ⟨g, i * 2, none⟩ = some (.string l[i].name) ∧ w.cell? ⟨g, i * 2 + 1, none⟩ = some (.int .i64 l[i].at_)) := by
  have h0 := h
  rcases h.2 with ⟨rfl, hn⟩ | ⟨g, cap, cur, rfl, hb, hg, hc, _⟩
  · exact ⟨none, 0, by rw [hn], fun h => by omega⟩
  · refine ⟨_, _, rfl, fun _ => ⟨g, rfl, (Array.getElem?_eq_some_iff.1 hg).1, fun i hi => ?_⟩⟩
    have hcell := World.ownsRow.cells h0 (g := g) rfl
    obtain ⟨a1, a2⟩ := lbC_at l i hi
    have b1 := hcell _ _ a1
    have b2 := hcell _ _ a2
    simp only [Addr.add] at b1 b2
    constructor
    · by_cases hz : i * 2 = 0
      · simpa [hz] using b1
      · simpa [hz] using b1
    · simpa using b2
/-- plain's telling: what was told, the labels that are left. -/
def TelS (w : World) (P B : Nat) (out : List ItemP) (rem : List LabelP) (v : Value) : Prop :=
  ∃ s, w.heap[P]? = some (.cells #[v, s] 63 (0, 0)) ∧ ItL w B v out ∧ LbL w B s rem
theorem heapB' {w w1 : World} (hb : Below w.heap.size w w1) {b : Nat} {o : Obj} (h : w.heap[b]? = some o) : w1.heap[b]? = some o := by
  rw [hb.block b (Array.getElem?_eq_some_iff.1 h).1, h]
theorem blk_cell {w : World} {g i : Nat} {t : TypeId} {cs : Array Value} {u : Value} (h : w.heap[g]? = some (.cells cs t (0, 0))) (hu : cs[i]? = some u) : w.cell? ⟨g, i, none⟩ = some u := by
  rw [cell_of_row w g i cs t (0, 0) h]; exact hu
theorem blk_lt {w : World} {g : Nat} {o : Obj} (h : w.heap[g]? = some o) : g < w.heap.size := (Array.getElem?_eq_some_iff.1 h).1
theorem blk_frozen {w : World} {g i : Nat} {t : TypeId} {cs : Array Value} (h : w.heap[g]? = some (.cells cs t (0, 0))) : w.frozen? ⟨g, i, none⟩ = false := by
  simp [World.frozen?, h]
theorem hasI_take {a : Int} {rem : List LabelP} {k : Nat} (hk : k < rem.length) : hasI a (rem.take (k + 1)) = (hasI a (rem.take k) || decide (rem[k].at_ = a)) := by
  unfold hasI; rw [List.take_succ_eq_append_getElem hk, List.any_append]; simp
theorem hasI_mem {a : Int} {rem : List LabelP} {k : Nat} (hk : k < rem.length) (h : rem[k].at_ = a) : hasI a rem = true := by
  unfold hasI; rw [List.any_eq_true]; exact ⟨rem[k], List.getElem_mem hk, by simpa using h⟩
set_option maxHeartbeats 1000000 in
set_option maxRecDepth 100000 in
theorem plain_has (w : World) (P B : Nat) (out : List ItemP) (rem : List LabelP) (v : Value) (a : Int) (T : TelS w P B out rem v) (hr : rem.length ≤ 16777216) : Calls Tryz.prog 49 #[.pointer (some ⟨P, 0, none⟩), .int .i64 a] w fun e w' => e = .returned (.bool (hasI a rem)) ∧ Below w.heap.size w w' := by
  obtain ⟨s, hP, _, hL⟩ := T
  obtain ⟨A, c, rfl, hA⟩ := hL.form
  have p1 : w.cell? ⟨P, 1, none⟩ = some (.slice A rem.length c) := blk_cell hP rfl
  clear hP hL
  go_enter Tryz.func49, Tryz.ntmps49
  go_wp2
  go_loopw [12] (fun i wr => ∃ k : Nat, i = .int .i64 k ∧ k ≤ rem.length ∧ hasI a (rem.take k) = false ∧ Below w.heap.size w wr) (fun i _ => rem.length - (intOf i).toNat)
  case atStart => exact ⟨0, rfl, Nat.zero_le _, rfl, Below.refl _ _⟩
  case round =>
    obtain ⟨k, rfl, hk, hno, hb⟩ := hrel
    by_cases hlt : k < rem.length
    · have hki : (k : Int) < rem.length := by omega
      obtain ⟨g, rfl, hg, hc⟩ := hA (by omega)
      obtain ⟨c0, c1⟩ := hc k hlt
      have e0 := cellB hb c0
      have e1 := cellB hb c1
      have ht := hasI_take (a := a) hlt
      have hm := hasI_mem (a := a) hlt
      clear hc hA c0 c1
      generalize rem[k] = x at *
      obtain ⟨xn, xa⟩ := x
      simp only at *
      by_cases hx : xa = a
      · have hT := hm hx
        have hx2 : (xa == a) = true := by simpa using hx
        clear hm ht hx
        go_wp2
        go_ret
        exact ⟨ret_bool hT.symm, hb.trans ((belowA _).mono hb.size)⟩
      · have hx2 : (xa == a) = false := by simpa using hx
        rw [hno, decide_eq_false hx] at ht
        clear hm hx
        go_wp2
        exact ⟨⟨k + 1, by go_num, by omega, ht, hb.trans ((belowA _).mono hb.size)⟩, by simp [intOf]; omega⟩
    · obtain rfl : k = rem.length := by omega
      rw [List.take_length] at hno
      go_wp2
      go_ret
      exact ⟨ret_bool hno.symm, hb⟩
theorem infoItem : (Tryz.prog.info? 52).map (fun i => (i.zero, i.size, i.bytes)) = some (some (.agg #[.int .u8 0, .string ⟨#[]⟩, .int .i64 0, .string ⟨#[]⟩, .int .u8 0, .slice none 0 0]), 6, 80) := by kernel_rfl
theorem infoLabel : (Tryz.prog.info? 57).map (fun i => (i.zero, i.size, i.bytes)) = some (some (.agg #[.string ⟨#[]⟩, .int .i64 0]), 2, 24) := by kernel_rfl
theorem LbL.tch {D : Nat → Prop} {w w' : World} {B : Nat} {s : Value} {l : List LabelP} (h : LbL w B s l) (t : Tch D w w') (hd : ∀ k, s.ownBlock = some k → ¬ D k) : LbL w' B s l := own_tch h t hd
theorem LbL.at_ne {w : World} {B P : Nat} {s : Value} {l : List LabelP} {cs : Array Value} (h : LbL w B s l) (hP : w.heap[P]? = some (.cells cs 63 (0, 0))) : s.ownBlock ≠ some P := own_blk h hP (by decide)
theorem ItL.at_ne {w : World} {B P : Nat} {v : Value} {l : List ItemP} {cs : Array Value} (h : ItL w B v l) (hP : w.heap[P]? = some (.cells cs 63 (0, 0))) : v.ownBlock ≠ some P := by
  obtain ⟨xs, h1, _⟩ := h; exact own_blk h1 hP (by decide)
theorem ItL.lb_ne {w : World} {B B' : Nat} {v s : Value} {l : List ItemP} {m : List LabelP} (h : ItL w B v l) (hs : LbL w B' s m) {k : Nat} (hk : v.ownBlock = some k) : s.ownBlock ≠ some k := by
  obtain ⟨xs, h1, _⟩ := h; exact own_ne h1 hs (by decide) hk
theorem tellI_take {a : Int} {rem : List LabelP} {k : Nat} (hk : k < rem.length) : tellI a (rem.take (k + 1)) = if rem[k].at_ = a then tellI a (rem.take k) ++ [lblI rem[k]] else tellI a (rem.take k) := by
  unfold tellI; rw [List.take_succ_eq_append_getElem hk, List.filter_append, List.map_append]
  by_cases h : rem[k].at_ = a <;> simp [h]
theorem dropI_take {a : Int} {rem : List LabelP} {k : Nat} (hk : k < rem.length) : dropI a (rem.take (k + 1)) = if rem[k].at_ = a then dropI a (rem.take k) else dropI a (rem.take k) ++ [rem[k]] := by
  unfold dropI; rw [List.take_succ_eq_append_getElem hk, List.filter_append]
  by_cases h : rem[k].at_ = a <;> simp [h]
theorem tellI_le (a : Int) (rem : List LabelP) (k : Nat) : (tellI a (rem.take k)).length ≤ k := by
  unfold tellI; rw [List.length_map]
  exact Nat.le_trans (List.length_filter_le ..) (List.length_take_le ..)
theorem dropI_le (a : Int) (rem : List LabelP) (k : Nat) : (dropI a (rem.take k)).length ≤ k := by
  unfold dropI
  exact Nat.le_trans (List.length_filter_le ..) (List.length_take_le ..)
theorem itC_one (x : ItemP) : ∀ u ∈ itC x (.slice none 0 0), u.oneCell' = true := by
  intro u hu
  simp only [itC, List.mem_cons, List.not_mem_nil, or_false] at hu
  rcases hu with rfl | rfl | rfl | rfl | rfl | rfl <;> rfl
theorem kept_blk {V V' w2 : World} {row : Option Nat} {P : Nat} {o : Obj} (hg : V'.grownBy w2 row) (h : V.heap[P]? = some o) (hV : Below V.heap.size V V') (hn : row ≠ some P) : w2.heap[P]? = some o := by
  have := heapB' hV h
  rw [hg.block P (blk_lt this) (fun e => hn e.symm)]; exact this
/-- What a telling's call touches: the struct, the row of what was told. -/
def TelD (P : Nat) (v : Value) (k : Nat) : Prop := k = P ∨ v.ownBlock = some k
def NewOr (w : World) (v v' : Value) : Prop := v'.ownBlock = v.ownBlock ∨ ∀ k, v'.ownBlock = some k → w.heap.size ≤ k
theorem NewOr.trans {w w' : World} {v v' v'' : Value} (h : NewOr w v v') (k : NewOr w' v' v'') (hz : w.heap.size ≤ w'.heap.size) : NewOr w v v'' := by
  rcases k with k | k
  · rcases h with h | h
    · exact .inl (k.trans h)
    · exact .inr fun j hj => h j (by rw [← k]; exact hj)
  · exact .inr fun j hj => Nat.le_trans hz (k j hj)
theorem NewOr.tel {w : World} {v v' : Value} {P : Nat} (h : NewOr w v v') : ∀ j, j < w.heap.size → TelD P v' j → TelD P v j := fun j hj hd => by
  rcases hd with hd | hd
  · exact .inl hd
  · rcases h with h | h
    · exact .inr (by rw [← h]; exact hd)
    · exact absurd (h j hd) (by omega)
structure HereI (w : World) (P B : Nat) (out : List ItemP) (rem : List LabelP) (v s : Value) (a : Int) (k : Nat) (left v1 : Value) (wr : World) : Prop where
  p : wr.heap[P]? = some (.cells #[v1, s] 63 (0, 0))
  o : ItL wr B v1 (out ++ tellI a (rem.take k))
  l : LbL wr w.heap.size left (dropI a (rem.take k))
  t : Tch (TelD P v) w wr
  n : NewOr w v v1
theorem own_some {w : World} {B e size n : Nat} {v : Value} {xs : List Value} (h : w.ownsRow B e size v n xs) {k : Nat} (hk : v.ownBlock = some k) : B ≤ k ∧ k < w.heap.size := h.lt k hk
/-- Behind the append of a label's item. -/
theorem HereI.hit {w wr V w2 : World} {P B : Nat} {out : List ItemP} {rem : List LabelP} {v s left v1 v2 : Value} {a : Int} {k : Nat} {xs : List Value} (h : HereI w P B out rem v s a k left v1 wr) (hk : k < rem.length) (hx : rem[k].at_ = a)
    (hV : Below wr.heap.size wr V) (hPw : P < w.heap.size)
    (h1 : V.ownsRow B 52 6 v1 (out ++ tellI a (rem.take k)).length xs) (h2 : ItR V B xs (out ++ tellI a (rem.take k))) (hg : V.grownBy w2 v1.ownBlock) (hv2 : v2.ownBlock = v1.ownBlock ∨ v2.ownBlock = some V.heap.size)
    (ho : w2.ownsRow B 52 6 v2 ((out ++ tellI a (rem.take k)).length + 1) (xs ++ itC (lblI rem[k]) (.slice none 0 0))) :
    HereI w P B out rem v s a (k + 1) left v2 (w2.setCell ⟨P, 0, none⟩ v2) := by
  have hVw : w.heap.size ≤ V.heap.size := Nat.le_trans h.t.size hV.size
  have pV : V.heap[P]? = some (.cells #[v1, s] 63 (0, 0)) := heapB' hV h.p
  have n1 : v1.ownBlock ≠ some P := own_blk h1 pV (by decide)
  have p2 : w2.heap[P]? = some (.cells #[v1, s] 63 (0, 0)) := by rw [hg.block P (by omega) (fun e => n1 e.symm)]; exact pV
  have n2 : v2.ownBlock ≠ some P := own_blk ho p2 (by decide)
  have i2 := ItL.grown (m := [lblI rem[k]]) h1 h2 (ItR.one_nil (lblI rem[k]) rfl) hg ho
  have l2 : LbL w2 w.heap.size left (dropI a (rem.take k)) := by
    have lV : LbL V w.heap.size left (dropI a (rem.take k)) := own_below h.l hV
    exact World.ownsRow.kept lV hg (by
      cases hl : left.ownBlock with
      | none => exact .inl rfl
      | some j => exact .inr fun e => own_ne lV h1 (by decide) hl e.symm)
  have tV : Tch (TelD P v) w w2 := (h.t.below hV).grown hg fun j hj e => h.n.tel (P := P) j hj (.inr e)
  refine ⟨?_, ?_, ?_, tV.setCell (fun _ => .inl rfl) v2, ?_⟩
  · simp [World.setCell, Array.getElem?_modify, p2]
  · rw [tellI_take hk, if_pos hx, ← List.append_assoc]
    exact i2.tch ((Tch.refl (fun j => j = P) w2).setCell (fun _ => rfl) v2) (fun j hj e => n2 (by rw [hj, e])) (fun j cs _ hj e => by subst e; rw [p2] at hj; simp at hj)
  · rw [dropI_take hk, if_pos hx]
    exact l2.tch ((Tch.refl (fun j => j = P) w2).setCell (fun _ => rfl) v2) (fun j hj e => LbL.at_ne l2 p2 (by rw [hj, e]))
  · refine h.n.trans (w' := V) ?_ hVw
    rcases hv2 with e | e
    · exact .inl e
    · exact .inr fun j hj => by rw [e] at hj; injection hj with hj; omega
/-- Behind the append of a label that stays. -/
theorem HereI.miss {w wr V w2 : World} {P B : Nat} {out : List ItemP} {rem : List LabelP} {v s left left' v1 : Value} {a : Int} {k : Nat} (h : HereI w P B out rem v s a k left v1 wr) (hk : k < rem.length) (hx : ¬ rem[k].at_ = a)
    (hV : Below wr.heap.size wr V) (hPw : P < w.heap.size)
    (h1 : V.ownsRow w.heap.size 57 2 left (dropI a (rem.take k)).length (lbC (dropI a (rem.take k)))) (hg : V.grownBy w2 left.ownBlock)
    (ho : w2.ownsRow w.heap.size 57 2 left' ((dropI a (rem.take k)).length + 1) (lbC (dropI a (rem.take k)) ++ [.string rem[k].name, .int .i64 rem[k].at_])) :
    HereI w P B out rem v s a (k + 1) left' v1 w2 := by
  have pV : V.heap[P]? = some (.cells #[v1, s] 63 (0, 0)) := heapB' hV h.p
  have n1 : left.ownBlock ≠ some P := own_blk h1 pV (by decide)
  obtain ⟨xs, o1, o2⟩ := h.o
  have o1V := own_below o1 hV
  have tg : Tch (fun j => left.ownBlock = some j) V w2 := (Tch.refl _ V).grown hg fun j hj e => e
  refine ⟨?_, ⟨xs, own_tch (by rw [tellI_take hk, if_neg hx]; exact o1V) tg (fun j hj e => own_ne o1V h1 (by decide) hj e), ?_⟩, ?_, (h.t.below hV).grown hg fun j hj e => absurd (own_some h1 e).1 (by omega), h.n⟩
  · rw [hg.block P (blk_lt pV) (fun e => n1 e.symm)]; exact pV
  · rw [tellI_take hk, if_neg hx]
    exact (o2.below hV).tch tg (fun j cs _ hj e => own_blk h1 hj (by decide) e)
  · rw [dropI_take hk, if_neg hx]
    unfold LbL
    rw [List.length_append, lbC_append]
    exact ho
theorem HereI.done {w wr : World} {P B : Nat} {out : List ItemP} {rem : List LabelP} {v s left v1 : Value} {a : Int} (h : HereI w P B out rem v s a rem.length left v1 wr) (hPw : P < w.heap.size) (hB : B ≤ w.heap.size) :
    TelS (wr.setCell ⟨P, 1, none⟩ left) P B (out ++ tellI a rem) (dropI a rem) v1 := by
  have hp := h.p
  have ho := h.o
  have hl := h.l
  rw [List.take_length] at ho hl
  have tc := (Tch.refl (fun j => j = P) wr).setCell (p := ⟨P, 1, none⟩) (fun _ => rfl) left
  exact ⟨left, by simp [World.setCell, Array.getElem?_modify, hp], ho.tch tc (fun j hj e => ho.at_ne hp (by rw [hj, e])) (fun j cs _ hj e => by subst e; rw [hp] at hj; simp at hj),
    (LbL.tch (own_mono hl hB) tc (fun j hj e => LbL.at_ne hl hp (by rw [hj, e])))⟩
set_option maxHeartbeats 2000000 in
set_option maxRecDepth 100000 in
theorem plain_here (w : World) (P B : Nat) (out : List ItemP) (rem : List LabelP) (v : Value) (a : Int) (T : TelS w P B out rem v) (hB : B ≤ w.heap.size) (hr : out.length + rem.length ≤ 16777216) : Calls Tryz.prog 22 #[.pointer (some ⟨P, 0, none⟩), .int .i64 a] w fun e w' => e = .returned (.tuple #[]) ∧ ∃ v', TelS w' P B (out ++ tellI a rem) (dropI a rem) v' ∧ Tch (TelD P v) w w' ∧ NewOr w v v' := by
  obtain ⟨i0, hi, hz0, hz1, hz2⟩ := info_parts infoItem
  obtain ⟨j0, hj, hy0, hy1, hy2⟩ := info_parts infoLabel
  obtain ⟨s, hP, hI, hL⟩ := T
  obtain ⟨A, c, rfl, hA⟩ := hL.form
  have hPw := blk_lt hP
  have p1 : w.cell? ⟨P, 1, none⟩ = some (.slice A rem.length c) := blk_cell hP rfl
  have hLn := fun k (e : v.ownBlock = some k) => hI.lb_ne hL e
  have hLp := hL.at_ne hP
  have H0 : HereI w P B out rem v (.slice A rem.length c) a 0 (.slice none 0 0) v w := ⟨hP, by simpa [tellI] using hI, World.ownsRow_nil _ _ _ _, Tch.refl _ _, .inl rfl⟩
  clear hP hI
  go_enter Tryz.func22, Tryz.ntmps22
  go_wp2
  go_loopw [4, 12] (fun l i wr => ∃ (k : Nat) (v1 : Value), i = .int .i64 k ∧ k ≤ rem.length ∧ HereI w P B out rem v (.slice A rem.length c) a k l v1 wr) (fun _ i _ => rem.length - (intOf i).toNat)
  case atStart => exact ⟨0, v, rfl, Nat.zero_le _, H0⟩
  case round =>
    clear H0
    obtain ⟨k, v1, rfl, hk, H⟩ := hrel
    by_cases hlt : k < rem.length
    · have hki : (k : Int) < rem.length := by omega
      obtain ⟨g, rfl, hg, hc⟩ := hA (by omega)
      obtain ⟨c0, c1⟩ := hc k hlt
      have hgd : ¬ TelD P v g := by
        rintro (e | e)
        · exact hLp (by rw [← e]; rfl)
        · exact hLn g e rfl
      have e0 := H.t.cell c0 hgd
      have e1 := H.t.cell c1 hgd
      have hit := fun (hx : rem[k].at_ = a) V w2 v2 xs => H.hit (V := V) (w2 := w2) (v2 := v2) (xs := xs) hlt hx
      have miss := fun (hx : ¬ rem[k].at_ = a) V w2 l2 => H.miss (V := V) (w2 := w2) (left' := l2) hlt hx
      have hp0 := blk_cell (i := 0) H.p rfl
      have hpf := blk_frozen (i := 0) H.p
      clear hc hA c0 c1
      generalize rem[k] = x at *
      obtain ⟨xn, xa⟩ := x
      simp only at *
      have HH := Lib.hid H
      have hit2 := Lib.hid hit
      have miss2 := Lib.hid miss
      clear hit miss H
      by_cases hx : xa = a
      · have hx2 : (xa == a) = true := by simpa using hx
        subst hx
        go_wp2
        have hV := belowA (w := wr) (.cells #[.string xn, .int .i64 xa] 57)
        have n0 : (wr.alloc (.cells #[.string xn, .int .i64 xa] 57)).cell? ⟨wr.heap.size, 0, none⟩ = some (.string xn) := by simp
        have q0 := cellB hV hp0
        have qf : (wr.alloc (.cells #[.string xn, .int .i64 xa] 57)).frozen? ⟨P, 0, none⟩ = false := by
          have := blk_frozen (i := 0) (heapB' hV HH.out.p); exact this
        have qP := blk_lt (heapB' hV HH.out.p)
        have hVs := HH.out.t.size
        obtain ⟨xs, o1, o2⟩ := HH.out.o
        have o1V := own_below o1 hV
        have pV := heapB' hV HH.out.p
        have pN := own_blk o1V pV (by decide)
        have o2V := o2.below hV
        have hBV : B ≤ wr.heap.size := by omega
        have hBV2 : B ≤ (wr.alloc (.cells #[.string xn, .int .i64 xa] 57)).heap.size := by simp; omega
        have hln := tellI_le xa rem k
        have hxl : (out ++ tellI xa (rem.take k)).length = out.length + (tellI xa (rem.take k)).length := List.length_append
        clear o1 o2
        generalize hVV : wr.alloc (.cells #[.string xn, .int .i64 xa] 57) = V at *
        generalize hlg : (out ++ tellI xa (rem.take k)).length = m at *
        have hml : m ≤ 16777216 := by omega
        clear hxl hlg hln
        go_region_law ((refine step_append_src _ (by rfl) (.tmp 24) (.tmp 28) 29 (by rfl) B 52 i0 _ 6 80 Tryz.underlying29 hi hz0 hz1 hz2 (by rfl) (by decide) v1 _ xs (by rfl) (own_drew (o1V.alloc _)) _ 1 1 _ (by rfl) (Src.block (heap_alloc_new _ _) (by rfl)) (itC_one ⟨1, xn, 0, []⟩) (by unfold maxLen; omega) (by omega) (by simp; omega) ?_; intro v2 w2 ho2 hg2 hv2; obtain ⟨g2, c2, rfl, _, _⟩ := ho2.form (by omega); have pw2 := kept_blk hg2 pV (belowA _).drew pN; have k0 := blk_cell (i := 0) pw2 rfl; have f0 := blk_frozen (i := 0) pw2))
        all_goals
          go_wp2
          exact ⟨⟨k + 1, _, by go_num, by omega, hit2.out trivial _ w2 _ xs (hV.trans ((belowA _).drew.mono hV.size)) hPw (own_drew (o1V.alloc _)) (o2V.below (belowA _).drew) hg2 hv2 ho2⟩, by simp [intOf]; omega⟩
      · have hx2 : (xa == a) = false := by simpa using hx
        have l1 := HH.out.l
        have l1V := own_below (own_below l1 (belowA (w := wr) (.cells #[.string xn, .int .i64 xa] 57))) (belowA (.cells #[.string xn, .int .i64 xa] 57))
        have hdl := dropI_le a rem k
        have hsz := HH.out.t.size
        clear l1
        go_wp2_with (first | (at_builtin; refine wpList_append_src _ rfl (.tmp 32) (.tmp 34) 24 rfl w.heap.size 57 j0 _ 2 24 Tryz.underlying24 hj hy0 hy1 hy2 rfl (by decide) _ _ _ rfl l1V _ 1 1 _ rfl (Src.block (heap_new1 _ _ _) rfl) (lbC_one [⟨xn, xa⟩]) (by unfold maxLen; omega) (by omega) (by simp; omega) ?_; intro l2 w2 ho2 hg2 hv2))
        exact ⟨⟨k + 1, _, by go_num, by omega, miss2.out hx _ w2 _ ((belowA _).trans ((belowA _).mono (by simp))) hPw l1V hg2 ho2⟩, by simp [intOf]; omega⟩
    · obtain rfl : k = rem.length := by omega
      have hfz := blk_frozen (i := 1) H.p
      have hp1 := blk_cell (i := 1) H.p rfl
      have hl := H.l
      have HH := Lib.hid H
      obtain ⟨Al, cl, rfl, _⟩ := hl.form
      clear hl H
      go_wp2
      go_end0
      exact ⟨rfl, v1, by have := HH.out.done hPw hB; rw [List.take_length] at this; exact this, HH.out.t.setCell (fun _ => .inl rfl) _, HH.out.n⟩
end Go.Proofs.YtofhdlkocgbcgaaGreatDoor
