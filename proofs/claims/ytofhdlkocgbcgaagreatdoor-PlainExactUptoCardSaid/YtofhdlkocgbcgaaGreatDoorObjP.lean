/- Objects, as plain data and as they lie in the memory. -/
import Derived.Test.YtofhdlkocgbcgaaGreatDoorSrcW
namespace Go.Proofs.YtofhdlkocgbcgaaGreatDoor
open Go Go.RowKit Pu
set_option linter.unusedVariables false
set_option linter.unusedSimpArgs false
structure BlockP where
  at_ : Int
  bytes : List Int
structure MarkP where
  at_ : Int
  n : Int
  code : Bool
structure LabelP where
  name : ByteArray
  at_ : Int
structure ObjP where
  blocks : List BlockP
  marks : List MarkP
  labels : List LabelP
def I64 (x : Int) : Prop := -9223372036854775808 ≤ x ∧ x ≤ 9223372036854775807
def big : Nat := 1048576
def BlockOK (b : BlockP) : Prop := I64 b.at_ ∧ Bytes b.bytes ∧ b.bytes.length ≤ big
def MarkOK (m : MarkP) : Prop := I64 m.at_ ∧ I64 m.n
def LabelOK (l : LabelP) : Prop := I64 l.at_ ∧ l.name.size ≤ big
structure ObjOK (o : ObjP) : Prop where
  nb : o.blocks.length ≤ big
  nm : o.marks.length ≤ big
  nl : o.labels.length ≤ big
  bs : ∀ (i : Nat) (h : i < o.blocks.length), BlockOK o.blocks[i]
  ms : ∀ (i : Nat) (h : i < o.marks.length), MarkOK o.marks[i]
  ls : ∀ (i : Nat) (h : i < o.labels.length), LabelOK o.labels[i]
/-- Rows that are read. -/
def RdBl (w : World) (A : Option Addr) (l : List BlockP) : Prop := 0 < l.length → ∃ b off, A = some ⟨b, off, none⟩ ∧ ∀ i (h : i < l.length), w.cell? ⟨b, off + i * 2, none⟩ = some (.int .i64 l[i].at_) ∧ ∃ A' c, w.cell? ⟨b, off + i * 2 + 1, none⟩ = some (.slice A' l[i].bytes.length c) ∧ RdB w A' l[i].bytes ∧ l[i].bytes.length ≤ c
def RdMk (w : World) (A : Option Addr) (l : List MarkP) : Prop := 0 < l.length → ∃ b off, A = some ⟨b, off, none⟩ ∧ ∀ i (h : i < l.length), w.cell? ⟨b, off + i * 3, none⟩ = some (.int .i64 l[i].at_) ∧ w.cell? ⟨b, off + i * 3 + 1, none⟩ = some (.int .i64 l[i].n) ∧ w.cell? ⟨b, off + i * 3 + 2, none⟩ = some (.bool l[i].code)
def RdLb (w : World) (A : Option Addr) (l : List LabelP) : Prop := 0 < l.length → ∃ b off, A = some ⟨b, off, none⟩ ∧ ∀ i (h : i < l.length), w.cell? ⟨b, off + i * 2, none⟩ = some (.string l[i].name) ∧ w.cell? ⟨b, off + i * 2 + 1, none⟩ = some (.int .i64 l[i].at_)
theorem cellA {w : World} {O : Obj} {a : Addr} {v : Value} (h : w.cell? a = some v) : (w.alloc O).cell? a = some v := (World.cell?_alloc_lt w O a (World.block_lt_of_cell? w a h)).trans h
theorem RdB.keep {w w' : World} (hz : w.heap.size ≤ w'.heap.size) (h : ∀ a v, w.cell? a = some v → w'.cell? a = some v) {A : Option Addr} {xs : List Int} (R : RdB w A xs) : RdB w' A xs := fun h0 => by
  obtain ⟨b, off, rfl, hb, hr⟩ := R h0
  exact ⟨b, off, rfl, Nat.lt_of_lt_of_le hb hz, fun i hi => h _ _ (hr i hi)⟩
theorem RdB.below {w w' : World} (hb : Below w.heap.size w w') {A : Option Addr} {xs : List Int} (R : RdB w A xs) : RdB w' A xs := R.keep hb.size fun a v h => cellB hb h
theorem RdB.alloc {w : World} {O : Obj} {A : Option Addr} {xs : List Int} (R : RdB w A xs) : RdB (w.alloc O) A xs := R.keep (by simp) fun a v h => cellA h
theorem RdBl.below {w w' : World} (hb : Below w.heap.size w w') {A : Option Addr} {l : List BlockP} (R : RdBl w A l) : RdBl w' A l := fun h0 => by
  obtain ⟨b, off, rfl, hr⟩ := R h0
  refine ⟨b, off, rfl, fun i hi => ?_⟩
  obtain ⟨h1, A', c, h2, h3⟩ := hr i hi
  exact ⟨cellB hb h1, A', c, cellB hb h2, h3.1.below hb, h3.2⟩
theorem RdMk.below {w w' : World} (hb : Below w.heap.size w w') {A : Option Addr} {l : List MarkP} (R : RdMk w A l) : RdMk w' A l := fun h0 => by
  obtain ⟨b, off, rfl, hr⟩ := R h0
  refine ⟨b, off, rfl, fun i hi => ?_⟩
  obtain ⟨h1, h2, h3⟩ := hr i hi
  exact ⟨cellB hb h1, cellB hb h2, cellB hb h3⟩
theorem RdLb.below {w w' : World} (hb : Below w.heap.size w w') {A : Option Addr} {l : List LabelP} (R : RdLb w A l) : RdLb w' A l := fun h0 => by
  obtain ⟨b, off, rfl, hr⟩ := R h0
  refine ⟨b, off, rfl, fun i hi => ?_⟩
  obtain ⟨h1, h2⟩ := hr i hi
  exact ⟨cellB hb h1, cellB hb h2⟩
/-- An object's three rows. -/
structure RdO (w : World) (A B C : Option Addr) (o : ObjP) : Prop where
  b : RdBl w A o.blocks
  m : RdMk w B o.marks
  l : RdLb w C o.labels
theorem RdO.below {w w' : World} (hb : Below w.heap.size w w') {A B C : Option Addr} {o : ObjP} (R : RdO w A B C o) : RdO w' A B C o := ⟨R.b.below hb, R.m.below hb, R.l.below hb⟩
theorem belowA {w : World} (O : Obj) : Below w.heap.size w (w.alloc O) := (Below.refl _ _).alloc (Nat.le_refl _) _
/-- Are blocks in order? -/
def blOk (e a : Int) (n : Nat) : Bool := decide (e < a ∧ 0 ≤ a ∧ n ≠ 0 ∧ a < 65536 ∧ (n : Int) ≤ 65536 - a)
def okBl : Int → List BlockP → Bool
  | _, [] => true
  | e, b :: r => blOk e b.at_ b.bytes.length && okBl (b.at_ + b.bytes.length) r
def BlI (l : List BlockP) (i : Nat) (e : Int) : Prop := okBl e (l.drop i) = okBl (-1) l ∧ -1 ≤ e ∧ e ≤ 65536
theorem BlI.good {l : List BlockP} {i : Nat} {e : Int} (h : BlI l i e) (hi : i < l.length) (h1 : e < l[i].at_) (h2 : l[i].bytes.length ≠ 0) (h3 : l[i].at_ < 65536) (h4 : (l[i].bytes.length : Int) ≤ 65536 - l[i].at_) : BlI l (i + 1) (l[i].at_ + l[i].bytes.length) := by
  obtain ⟨ha, hb, hc⟩ := h
  refine ⟨?_, by omega, by omega⟩
  rw [← ha, List.drop_eq_getElem_cons hi, okBl]
  have : blOk e l[i].at_ l[i].bytes.length = true := by unfold blOk; rw [decide_eq_true_iff]; exact ⟨h1, by omega, h2, h3, h4⟩
  rw [this, Bool.true_and]
theorem BlI.bad {l : List BlockP} {i : Nat} {e : Int} (h : BlI l i e) (hi : i < l.length) (h1 : ¬ (e < l[i].at_ ∧ l[i].bytes.length ≠ 0 ∧ l[i].at_ < 65536 ∧ (l[i].bytes.length : Int) ≤ 65536 - l[i].at_)) : okBl (-1) l = false := by
  obtain ⟨ha, hb, hc⟩ := h
  rw [← ha, List.drop_eq_getElem_cons hi, okBl]
  have : blOk e l[i].at_ l[i].bytes.length = false := by unfold blOk; rw [decide_eq_false_iff_not]; exact fun hh => h1 ⟨hh.1, hh.2.2⟩
  rw [this, Bool.false_and]
theorem BlI.done {l : List BlockP} {e : Int} (h : BlI l l.length e) : okBl (-1) l = true := by
  rw [← h.1, List.drop_length]; rfl
set_option maxHeartbeats 2000000 in
set_option maxRecDepth 100000 in
theorem r14_blocksMay (w : World) (A B C : Option Addr) (nm nl ca cb cc nb : Nat) (o : ObjP) (hnb : nb = o.blocks.length) (ok : ObjOK o) (R : RdO w A B C o) : Calls Tryz.prog 35 #[.agg #[.slice A nb ca, .slice B nm cb, .slice C nl cc]] w fun e w' => e = .returned (.bool (okBl (-1) o.blocks)) ∧ Below w.heap.size w w' := by
  subst hnb
  have hbd := ok.nb
  unfold big at hbd
  have R1 : ∀ O, RdBl (w.alloc O) A o.blocks := fun O => R.b.below (belowA O)
  go_enter Tryz.func35, Tryz.ntmps35
  go_wp2
  go_loopw [3, 4] (fun e i wr => ∃ (k : Nat) (en : Int), i = .int .i64 k ∧ e = .int .i64 en ∧ k ≤ o.blocks.length ∧ BlI o.blocks k en ∧ Below (w.alloc (.cells #[.slice A o.blocks.length ca, .slice B nm cb, .slice C nl cc] 26)).heap.size (w.alloc (.cells #[.slice A o.blocks.length ca, .slice B nm cb, .slice C nl cc] 26)) wr) (fun _ i _ => o.blocks.length - (intOf i).toNat)
  case atStart => exact ⟨0, -1, rfl, rfl, by omega, ⟨rfl, by omega, by omega⟩, Below.refl _ _⟩
  case round =>
    obtain ⟨k, en, rfl, rfl, hk, hI, hb⟩ := hrel
    have e1 : wr.cell? ⟨w.heap.size, 0, none⟩ = some (.slice A o.blocks.length ca) := cellB hb (by simp)
    by_cases hlt : k < o.blocks.length
    · obtain ⟨b, off, rfl, hr⟩ := (R1 _).below hb (by omega)
      obtain ⟨c0, A', c, c1, c2⟩ := hr k (by omega)
      have hk' : k < o.blocks.length := by omega
      have bo := ok.bs k hk'
      have hg := fun h1 h2 h3 h4 => hI.good hk' h1 h2 h3 h4
      have hbad := fun h1 => hI.bad hk' h1
      generalize hB : o.blocks[k] = X at *
      obtain ⟨X1, X2⟩ := X
      obtain ⟨⟨b1, b2⟩, b3, b4⟩ := bo
      unfold big at b4
      simp only at *
      generalize hn : X2.length = n at *
      have hki : (k : Int) < o.blocks.length := by omega
      clear R R1 hr c2 b3
      have hen := hI.2.1
      have HG := Lib.hid hg
      have HB := Lib.hid hbad
      clear hg hbad
      go_wp2
      all_goals first
        | (refine bodyPost_ret (v := .bool false) (by simp [results, Tryz.results35, go_sem, *]) rfl ⟨ret_bool (HB.out (by simp at *; omega)).symm, ?_⟩; exact below1 (hb.trans ((belowA _).mono hb.size)))
        | (refine bodyPost_ret (v := .bool false) (by simp [results, Tryz.results35, go_sem, *]) rfl ⟨ret_bool (HB.out (by intro hh; simp at *; omega)).symm, ?_⟩; exact below1 (hb.trans ((belowA _).mono hb.size)))
        | exact ⟨⟨k + 1, _, by go_num, rfl, by omega, HG.out (by omega) (by omega) (by omega) (by omega), hb.trans ((belowA _).mono hb.size)⟩, by simp [intOf]; omega⟩
    · obtain rfl : k = o.blocks.length := by omega
      go_wp2
      refine bodyPost_ret (v := .bool true) (by simp [results, Tryz.results35, go_sem, *]) rfl ⟨ret_bool hI.done.symm, below1 hb⟩
end Go.Proofs.YtofhdlkocgbcgaaGreatDoor
