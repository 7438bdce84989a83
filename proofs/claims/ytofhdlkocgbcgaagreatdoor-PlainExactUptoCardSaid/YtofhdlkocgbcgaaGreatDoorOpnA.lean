/- The argument opened: an object, as it lies in the memory. -/
import Derived.Test.YtofhdlkocgbcgaaGreatDoorLawG
import Derived.Test.YtofhdlkocgbcgaaGreatDoorRows
import Derived.Deep.Slices
import Derived.Deep.Fields
import Derived.ChangeSame
import Derived.Lib.SmallJoins
import Derived.OpenShut
import Derived.Carry
namespace Go.Proofs.YtofhdlkocgbcgaaGreatDoor
open Go Go.RowKit Pu Go.Joins Go.ChangeShapes Go.WideShapes Go.Deep
set_option linter.unusedVariables false
set_option linter.unusedSimpArgs false
section
variable {H : Type} {enc : TypeId × Value → H} {P : Program} {w : World} {base : Nat} {spare : Nat → Bool} {held : Bool}
theorem open_slice_fields {t e : TypeId} {fs : Array Field} {fuel : Nat} {cs : List Value} {x : DataW H × List MemPlace} (ht : P.underlying t = some (.slice e)) (he : P.underlying e = some (.struct fs))
    (hone : oneCellFields P fs = true) (hC : P.cellsOf e = fs.size) (h : DataW.trod enc P w base spare held fuel t cs = some x) :
    (cs = [.slice none 0 0] ∧ x = (.nil, [])) ∨
    ∃ (a : Addr) (len cap m : Nat) (D : Nat → DataW H) (Pl : Nat → List MemPlace), cs = [.slice (some a) len cap] ∧ base ≤ a.block ∧ len ≤ cap ∧ cap ≤ maxLen ∧ m = (if spare a.block then cap else len) ∧
      x = (.slice ((List.range len).map D) ((List.range (m - len)).map fun j => D (len + j)), MemPlace.row a (m * fs.size) ++ (List.range m).flatMap Pl) ∧
      ∀ i, i < m → ∃ (ys : List (DataW H × List MemPlace)) (n : Nat), D i = .agg (ys.map (·.1)) ∧ Pl i = ys.flatMap (·.2) ∧ ys.length = fs.size ∧
        ∀ (j : Nat) (f : Field), fs[j]? = some f → ∃ (v : Value) (y : DataW H × List MemPlace), w.cell? (a.add (i * fs.size + j)) = some v ∧ ys[j]? = some y ∧ DataW.trod enc P w base spare held n f.type [v] = some y := by
  rcases open_slice ht h with h0 | ⟨a, len, cap, m, n, D, Pl, hcs, hb, hl, hm, hmm, hx, hi⟩
  · exact .inl h0
  · refine .inr ⟨a, len, cap, m, D, Pl, hcs, hb, hl, hm, hmm, by rw [hC] at hx; exact hx, fun i him => ?_⟩
    obtain ⟨cs', hc, ht'⟩ := hi i him
    rw [hC] at hc
    obtain ⟨ys, n', hn', hy, hlen, hyl, hf⟩ := DataW.trod_struct he ht'
    obtain ⟨_, hcl, hat⟩ := World.cells?_some hc
    simp only [Prod.mk.injEq] at hy
    refine ⟨ys, n', hy.1, hy.2, hyl, fun j f hj => ?_⟩
    obtain ⟨ho, hk⟩ := hone_of hone j f hj
    have hjl : j < fs.size := (Array.getElem?_eq_some_iff.1 hj).1
    have hcell := hat j hjl
    have hv : cs'[j]? = some (cs'[j]'(by omega)) := List.getElem?_eq_getElem (by omega)
    have h1 := hf j f hj
    rw [ho, hk] at h1
    have hone' : (cs'.drop j).take 1 = [cs'[j]'(by omega)] := by
      rw [List.drop_eq_getElem_cons (by omega)]
      rfl
    rw [hone'] at h1
    have hys : ys[j]? = some (ys[j]'(by omega)) := List.getElem?_eq_getElem (by omega)
    refine ⟨_, _, ?_, hys, h1.trans hys⟩
    rw [← Go.Deep.add_add, hcell, hv]
theorem post_of_below {f : Func} {s : ChangeSpec} {apart fresh handsOn again : Bool} {W W' : World} {args : Array Value} {v : Value} {ds gs : List (DataW H)} {before pa pv : List MemPlace}
    (hW : DataW.Whole enc P f.params.toList s.vars apart W args.toList ds gs before)
    (hres : ∀ (b : Nat) (sp : Nat → Bool) (hd : Bool), DataW.TrodAll enc P W' b sp hd f.resultTypes.toList (v.resultList f.resultTypes.size) (s.fn H (ds ++ gs)).results [])
    (hargs : ∀ sp : Nat → Bool, (∀ p ∈ before, sp p.block = true) → DataW.TrodAll enc P W' 0 sp true f.params.toList args.toList (s.fn H (ds ++ gs)).args pa)
    (hvars : ∀ sp : Nat → Bool, (∀ p ∈ before, sp p.block = true) → DataW.TrodVars enc P W' sp s.vars (s.fn H (ds ++ gs)).vars pv)
    (hps : before = pa ++ pv) (hb : Below W.heap.size W W')
    (hok : ∀ (j : Nat) (t : TypeId) (r : Value), f.resultTypes[j]? = some t → (v.resultList f.resultTypes.size)[j]? = some r → Value.okWide P W' .any 0 t r) :
    s.post enc P f apart fresh handsOn again W args v W' := by
  have hlt : ∀ p ∈ before, p.block < W.heap.size := fun p hp => hW.lt p hp
  have hold : ∀ p ∈ before, (fun b => decide (b < W.heap.size)) p.block = true := fun p hp => by simpa using hlt p hp
  refine ⟨ds, gs, before, [], pa, pv, hW, hres _ _ _, hargs _ hold, hvars _ hold, World.keptBut_mono (fun p hp => ⟨hp, ?_⟩) (hb.frame (· ∈ before)), fun _ => ?_⟩
  · rw [hps, List.mem_append] at hp
    exact Or.inr hp
  · obtain ⟨_, _, _, _, _, hz, hn⟩ := hW
    refine ⟨hok, _, _, ([] ++ pa) ++ pv, ⟨[] ++ pa, pv, trodAll_append (hargs _ (fun _ _ => rfl)) (hres _ _ _), hvars _ (fun _ _ => rfl), rfl, ?_, ?_⟩, ?_⟩
    · intro b off hp
      have hin : MemPlace.cell b off ∈ before := by rw [hps]; simpa using hp
      rw [hb.frozen (hlt _ hin)]
      exact hz b off hin
    · intro ha
      have := hn ha
      rw [hps] at this
      simpa using this
    · intro p hp _
      rw [hps]
      simpa using hp
end
theorem bk_one {H : Type} (d : DataW H) : 1 ≤ Rows.uptoBulk d := by
  cases d with
  | lit l => cases l <;> simp [Rows.uptoBulk]
  | nil => simp [Rows.uptoBulk]
  | ptr d => simp [Rows.uptoBulk]
  | slice elems spare => simp [Rows.uptoBulk]
  | agg parts => simp [Rows.uptoBulk]
  | iface t d => simp [Rows.uptoBulk]
  | map entries => simp [Rows.uptoBulk]
  | held h => simp [Rows.uptoBulk]
theorem bk_len {H : Type} (l : List (DataW H)) : l.length ≤ Rows.uptoBulkAll l := by
  induction l with
  | nil => simp [Rows.uptoBulkAll]
  | cons x r ih => have := bk_one x; simp only [Rows.uptoBulkAll, List.length_cons]; omega
theorem bk_part {H : Type} {d : DataW H} {l : List (DataW H)} (h : d ∈ l) : Rows.uptoBulk d ≤ Rows.uptoBulkAll l := by
  induction l with
  | nil => cases h
  | cons x r ih =>
    simp only [Rows.uptoBulkAll]
    cases List.mem_cons.1 h with
    | inl e => subst e; omega
    | inr e => have := ih e; omega
theorem list_of {α : Type} {Q : Nat → α → Prop} : ∀ n, (∀ i, i < n → ∃ x, Q i x) → ∃ l : List α, l.length = n ∧ ∀ (i : Nat) (h : i < l.length), Q i l[i]
  | 0, _ => ⟨[], rfl, fun i h => absurd h (by simp)⟩
  | n + 1, h => by
    obtain ⟨l, hl, hq⟩ := list_of n fun i hi => h i (by omega)
    obtain ⟨x, hx⟩ := h n (by omega)
    refine ⟨l ++ [x], by simp [hl], fun i hi => ?_⟩
    by_cases he : i < l.length
    · rw [List.getElem_append_left he]; exact hq i he
    · have hin : i = l.length := by simp at hi; omega
      subst hin
      rw [List.getElem_append_right (Nat.le_refl _)]
      simp
      rw [hl]
      exact hx
theorem sum_bulk {H : Type} : ∀ (l : List BlockP) (Ds : List (DataW H)), l.length = Ds.length → (∀ (i : Nat) (h : i < l.length) (h2 : i < Ds.length), l[i].bytes.length ≤ Rows.uptoBulk Ds[i]) → sumL l ≤ Rows.uptoBulkAll Ds
  | [], _, _, _ => by simp [sumL]
  | b :: l, [], h, _ => by simp at h
  | b :: l, d :: Ds, h, hq => by
    have h0 := hq 0 (by simp) (by simp)
    have ih := sum_bulk l Ds (by simpa using h) fun i hi hi2 => hq (i + 1) (by simpa using hi) (by simpa using hi2)
    simp only [sumL, Rows.uptoBulkAll]
    simp only [List.getElem_cons_zero] at h0
    omega
theorem addr_none {w : World} {a : Addr} {v : Value} (h : w.cell? (a.add 0) = some v) : ∃ b off, a = ⟨b, off, none⟩ := by
  obtain ⟨b, off, spot⟩ := a
  cases spot with
  | none => exact ⟨b, off, rfl⟩
  | some s =>
    exfalso
    have e : (⟨b, off, some s⟩ : Addr).add 0 = ⟨b, off, some s⟩ := by simp [Addr.add]
    rw [e] at h
    unfold World.cell? at h
    split at h
    · simp at h
    · cases h
theorem addr_add (b off k : Nat) : (⟨b, off, none⟩ : Addr).add k = ⟨b, off + k, none⟩ := by unfold Addr.add; by_cases h : k = 0 <;> simp [h]
theorem wf_i64 {n : Int} (h : (Lit.int .i64 n).wf = true) : I64 n := by
  simp only [Lit.wf, Bool.and_eq_true, decide_eq_true_eq] at h
  unfold I64
  simp [IntKind.min, IntKind.max, IntKind.signed, IntKind.bits] at h
  exact h
theorem wf_u8 {n : Int} (h : (Lit.int .u8 n).wf = true) : 0 ≤ n ∧ n ≤ 255 := by
  simp only [Lit.wf, Bool.and_eq_true, decide_eq_true_eq] at h
  simp [IntKind.min, IntKind.max, IntKind.signed, IntKind.bits] at h
  exact h
/-- A row of bytes. -/
theorem open_bytes {H : Type} {enc : TypeId × Value → H} {w : World} {base n : Nat} {spare : Nat → Bool} {held : Bool} {v : Value} {y : DataW H × List MemPlace} (h : DataW.trod enc Tryz.prog w base spare held n 39 [v] = some y) :
    ∃ (A : Option Addr) (bs : List Int) (c : Nat), v = .slice A bs.length c ∧ RdB w A bs ∧ Bytes bs ∧ bs.length ≤ c ∧ bs.length + 1 ≤ Rows.uptoBulk y.1 := by
  rcases open_ints Tryz.underlying39 Tryz.underlying5 (by kernel_rfl) h with ⟨hc, hy⟩ | ⟨a, len, cap, zs, hc, hb, hl, hm, hz, hy, hcell, hwf⟩
  · simp only [List.cons.injEq, and_true] at hc
    subst hc; subst hy
    exact ⟨none, [], 0, rfl, fun h => absurd h (by simp), by intro x hx; simp at hx, Nat.le_refl _, by simp [Rows.uptoBulk]⟩
  · simp only [List.cons.injEq, and_true] at hc
    subst hc; subst hy
    have hlz : len ≤ zs.length := by rw [hz]; split <;> omega
    have htl : (zs.take len).length = len := by rw [List.length_take]; omega
    refine ⟨some a, zs.take len, cap, by rw [htl], fun h0 => ?_, fun x hx => wf_u8 (hwf x (List.mem_of_mem_take hx)), by rw [htl]; exact hl, ?_⟩
    · rw [htl] at h0
      have c0 := hcell 0 (by omega)
      obtain ⟨b, off, rfl⟩ := addr_none c0
      refine ⟨b, off, rfl, ?_, fun i hi => ?_⟩
      · rw [addr_add] at c0; exact World.block_lt_of_cell? _ _ c0
      · rw [htl] at hi
        have ci := hcell i (by omega)
        rw [addr_add] at ci
        rw [ci]
        congr 2
        rw [List.getD_eq_getElem?_getD, List.getD_eq_getElem?_getD, List.getElem?_take, if_pos hi]
    · have h1 := bk_len (lits (H := H) .u8 (zs.take len))
      have h2 : (lits (H := H) .u8 (zs.take len)).length = len := by unfold lits; rw [List.length_map, htl]
      simp only [Rows.uptoBulk]
      omega
theorem open_blocks {H : Type} {enc : TypeId × Value → H} {w : World} {base n : Nat} {spare : Nat → Bool} {held : Bool} {v : Value} {y : DataW H × List MemPlace} (h : DataW.trod enc Tryz.prog w base spare held n 22 [v] = some y) (hbk : Rows.uptoBulk y.1 ≤ 1048576) :
    ∃ (A : Option Addr) (l : List BlockP) (c : Nat), v = .slice A l.length c ∧ RdBl w A l ∧ l.length ≤ 1048576 ∧ sumL l ≤ 1048576 ∧ ∀ (i : Nat) (h : i < l.length), BlockOK l[i] := by
  rcases open_slice_fields Tryz.underlying22 Tryz.underlying41 (by kernel_rfl) (by kernel_rfl) h with ⟨hc, hy⟩ | ⟨a, len, cap, m, D, Pl, hc, hb, hl, hm, hmm, hy, hel⟩
  · simp only [List.cons.injEq, and_true] at hc
    subst hc; subst hy
    exact ⟨none, [], 0, rfl, fun h => absurd h (by simp), by simp, by simp [sumL], fun i h => absurd h (by simp)⟩
  · simp only [List.cons.injEq, and_true] at hc
    subst hc; subst hy
    have hlm : len ≤ m := by rw [hmm]; split <;> omega
    simp only [Rows.uptoBulk] at hbk
    have hlen := bk_len ((List.range len).map D)
    rw [List.length_map, List.length_range] at hlen
    have one : ∀ i, i < len → ∃ b : BlockP, w.cell? (a.add (i * 2)) = some (.int .i64 b.at_) ∧ (∃ A' c, w.cell? (a.add (i * 2 + 1)) = some (.slice A' b.bytes.length c) ∧ RdB w A' b.bytes ∧ b.bytes.length ≤ c) ∧ I64 b.at_ ∧ Bytes b.bytes ∧ b.bytes.length ≤ Rows.uptoBulk (D i) := by
      intro i hi
      obtain ⟨ys, n', hD, _, hys, hf⟩ := hel i (by omega)
      obtain ⟨v0, y0, c0, e0, t0⟩ := hf 0 _ rfl
      obtain ⟨v1, y1, c1, e1, t1⟩ := hf 1 _ rfl
      obtain ⟨z, hz, _, hwf⟩ := DataW.trod_int Tryz.underlying3 t0
      obtain ⟨A', bs, c, rfl, R, B, hbc, hbu⟩ := open_bytes t1
      simp only [List.cons.injEq, and_true] at hz
      subst hz
      refine ⟨⟨z, bs⟩, c0, ⟨A', c, c1, R, hbc⟩, wf_i64 hwf, B, ?_⟩
      rw [hD]
      simp only [Rows.uptoBulk]
      have := bk_part (List.mem_map_of_mem (f := (·.1)) (List.mem_of_getElem? e1))
      show bs.length ≤ _
      omega
    obtain ⟨l, hll, hq⟩ := list_of len one
    have hsum : sumL l ≤ Rows.uptoBulkAll ((List.range len).map D) := sum_bulk l _ (by simp [hll]) fun i hi hi2 => by
      rw [List.getElem_map, List.getElem_range]
      exact (hq i hi).2.2.2.2
    refine ⟨some a, l, cap, by rw [hll], fun h0 => ?_, by omega, by omega, fun i hi => ?_⟩
    · obtain ⟨b, off, rfl⟩ := addr_none (show w.cell? (a.add 0) = _ from by have := (hq 0 h0).1; rwa [Nat.zero_mul] at this)
      refine ⟨b, off, rfl, fun i hi => ?_⟩
      obtain ⟨c0, ⟨A', c, c1, R, hbc⟩, _⟩ := hq i hi
      rw [addr_add] at c0 c1
      exact ⟨c0, A', c, by rw [← Nat.add_assoc] at c1; exact c1, R, hbc⟩
    · obtain ⟨_, _, h1, h2, h3⟩ := hq i hi
      refine ⟨h1, h2, ?_⟩
      unfold big
      have := bk_part (List.mem_map_of_mem (f := D) (List.mem_range.2 (show i < len by omega)))
      omega
theorem open_marks {H : Type} {enc : TypeId × Value → H} {w : World} {base n : Nat} {spare : Nat → Bool} {held : Bool} {v : Value} {y : DataW H × List MemPlace} (h : DataW.trod enc Tryz.prog w base spare held n 23 [v] = some y) (hbk : Rows.uptoBulk y.1 ≤ 1048576) :
    ∃ (A : Option Addr) (l : List MarkP) (c : Nat), v = .slice A l.length c ∧ RdMk w A l ∧ l.length ≤ 1048576 ∧ ∀ (i : Nat) (h : i < l.length), MarkOK l[i] := by
  rcases open_slice_fields Tryz.underlying23 Tryz.underlying54 (by kernel_rfl) (by kernel_rfl) h with ⟨hc, hy⟩ | ⟨a, len, cap, m, D, Pl, hc, hb, hl, hm, hmm, hy, hel⟩
  · simp only [List.cons.injEq, and_true] at hc
    subst hc; subst hy
    exact ⟨none, [], 0, rfl, fun h => absurd h (by simp), by simp, fun i h => absurd h (by simp)⟩
  · simp only [List.cons.injEq, and_true] at hc
    subst hc; subst hy
    have hlm : len ≤ m := by rw [hmm]; split <;> omega
    simp only [Rows.uptoBulk] at hbk
    have hlen := bk_len ((List.range len).map D)
    rw [List.length_map, List.length_range] at hlen
    have one : ∀ i, i < len → ∃ b : MarkP, w.cell? (a.add (i * 3)) = some (.int .i64 b.at_) ∧ w.cell? (a.add (i * 3 + 1)) = some (.int .i64 b.n) ∧ w.cell? (a.add (i * 3 + 2)) = some (.bool b.code) ∧ I64 b.at_ ∧ I64 b.n := by
      intro i hi
      obtain ⟨ys, n', hD, _, hys, hf⟩ := hel i (by omega)
      obtain ⟨v0, y0, c0, e0, t0⟩ := hf 0 _ rfl
      obtain ⟨v1, y1, c1, e1, t1⟩ := hf 1 _ rfl
      obtain ⟨v2, y2, c2, e2, t2⟩ := hf 2 _ rfl
      obtain ⟨z, hz, _, hwf⟩ := DataW.trod_int Tryz.underlying3 t0
      obtain ⟨z1, hz1, _, hwf1⟩ := DataW.trod_int Tryz.underlying3 t1
      obtain ⟨z2, hz2, _⟩ := DataW.trod_bool Tryz.underlying4 t2
      simp only [List.cons.injEq, and_true] at hz hz1 hz2
      subst hz; subst hz1; subst hz2
      exact ⟨⟨z, z1, z2⟩, c0, c1, c2, wf_i64 hwf, wf_i64 hwf1⟩
    obtain ⟨l, hll, hq⟩ := list_of len one
    refine ⟨some a, l, cap, by rw [hll], fun h0 => ?_, by omega, fun i hi => ?_⟩
    · obtain ⟨b, off, rfl⟩ := addr_none (show w.cell? (a.add 0) = _ from by have := (hq 0 h0).1; rwa [Nat.zero_mul] at this)
      refine ⟨b, off, rfl, fun i hi => ?_⟩
      obtain ⟨c0, c1, c2, _⟩ := hq i hi
      rw [addr_add] at c0 c1 c2
      exact ⟨c0, by rw [← Nat.add_assoc] at c1; exact c1, by rw [← Nat.add_assoc] at c2; exact c2⟩
    · obtain ⟨_, _, _, h1, h2⟩ := hq i hi
      exact ⟨h1, h2⟩
theorem open_labels {H : Type} {enc : TypeId × Value → H} {w : World} {base n : Nat} {spare : Nat → Bool} {held : Bool} {v : Value} {y : DataW H × List MemPlace} (h : DataW.trod enc Tryz.prog w base spare held n 24 [v] = some y) (hbk : Rows.uptoBulk y.1 ≤ 1048576) :
    ∃ (A : Option Addr) (l : List LabelP) (c : Nat), v = .slice A l.length c ∧ RdLb w A l ∧ l.length ≤ 1048576 ∧ ∀ (i : Nat) (h : i < l.length), LabelOK l[i] := by
  rcases open_slice_fields Tryz.underlying24 Tryz.underlying57 (by kernel_rfl) (by kernel_rfl) h with ⟨hc, hy⟩ | ⟨a, len, cap, m, D, Pl, hc, hb, hl, hm, hmm, hy, hel⟩
  · simp only [List.cons.injEq, and_true] at hc
    subst hc; subst hy
    exact ⟨none, [], 0, rfl, fun h => absurd h (by simp), by simp, fun i h => absurd h (by simp)⟩
  · simp only [List.cons.injEq, and_true] at hc
    subst hc; subst hy
    have hlm : len ≤ m := by rw [hmm]; split <;> omega
    simp only [Rows.uptoBulk] at hbk
    have hlen := bk_len ((List.range len).map D)
    rw [List.length_map, List.length_range] at hlen
    have one : ∀ i, i < len → ∃ b : LabelP, w.cell? (a.add (i * 2)) = some (.string b.name) ∧ w.cell? (a.add (i * 2 + 1)) = some (.int .i64 b.at_) ∧ I64 b.at_ ∧ b.name.size ≤ Rows.uptoBulk (D i) := by
      intro i hi
      obtain ⟨ys, n', hD, _, hys, hf⟩ := hel i (by omega)
      obtain ⟨v0, y0, c0, e0, t0⟩ := hf 0 _ rfl
      obtain ⟨v1, y1, c1, e1, t1⟩ := hf 1 _ rfl
      obtain ⟨z, hz, _, hwf⟩ := DataW.trod_int Tryz.underlying3 t1
      obtain ⟨s, hz1, hs, _⟩ := DataW.trod_string Tryz.underlying9 t0
      simp only [List.cons.injEq, and_true] at hz hz1
      subst hz; subst hz1
      refine ⟨⟨s, z⟩, c0, c1, wf_i64 hwf, ?_⟩
      rw [hD]
      simp only [Rows.uptoBulk]
      have h1 := bk_part (List.mem_map_of_mem (f := (·.1)) (List.mem_of_getElem? e0))
      rw [hs] at h1
      simp only [Rows.uptoBulk, bl_size] at h1
      show s.size ≤ _
      omega
    obtain ⟨l, hll, hq⟩ := list_of len one
    refine ⟨some a, l, cap, by rw [hll], fun h0 => ?_, by omega, fun i hi => ?_⟩
    · obtain ⟨b, off, rfl⟩ := addr_none (show w.cell? (a.add 0) = _ from by have := (hq 0 h0).1; rwa [Nat.zero_mul] at this)
      refine ⟨b, off, rfl, fun i hi => ?_⟩
      obtain ⟨c0, c1, _⟩ := hq i hi
      rw [addr_add] at c0 c1
      exact ⟨c0, by rw [← Nat.add_assoc] at c1; exact c1⟩
    · obtain ⟨_, _, h1, h2⟩ := hq i hi
      refine ⟨h1, ?_⟩
      unfold big
      have := bk_part (List.mem_map_of_mem (f := D) (List.mem_range.2 (show i < len by omega)))
      omega
end Go.Proofs.YtofhdlkocgbcgaaGreatDoor
