/- law15: own. -/
import Derived.Test.YtofhdlkocgbcgaaGreatDoorLawB
import Derived.Test.YtofhdlkocgbcgaaGreatDoorInvW
namespace Go.Proofs.YtofhdlkocgbcgaaGreatDoor
open Go Go.RowKit Pu
set_option linter.unusedVariables false
set_option linter.unusedSimpArgs false
def mkC (l : List MarkP) : List Value := l.flatMap fun x => [.int .i64 x.at_, .int .i64 x.n, .bool x.code]
theorem mkC_len (l : List MarkP) : (mkC l).length = l.length * 3 := by
  induction l with
  | nil => rfl
  | cons x l ih => unfold mkC at ih ⊢; rw [List.flatMap_cons, List.length_append, ih]; simp only [List.length_cons, List.length_nil]; omega
theorem mkC_at : ∀ (l : List MarkP) (i : Nat) (h : i < l.length), (mkC l)[i * 3]? = some (.int .i64 l[i].at_) ∧ (mkC l)[i * 3 + 1]? = some (.int .i64 l[i].n) ∧ (mkC l)[i * 3 + 2]? = some (.bool l[i].code)
  | [], i, h => absurd h (by simp)
  | x :: l, 0, _ => ⟨rfl, rfl, rfl⟩
  | x :: l, i + 1, h => by
    have ih := mkC_at l i (by simpa using h)
    have e : mkC (x :: l) = [.int .i64 x.at_, .int .i64 x.n, .bool x.code] ++ mkC l := rfl
    rw [e, show (i + 1) * 3 = 3 + i * 3 by omega, show 3 + i * 3 + 1 = 3 + (i * 3 + 1) by omega, show 3 + i * 3 + 2 = 3 + (i * 3 + 2) by omega, List.getElem?_append_right (by simp), List.getElem?_append_right (by simp), List.getElem?_append_right (by simp)]
    simpa using ih
theorem mkC_one (l : List MarkP) : ∀ u ∈ mkC l, u.oneCell' = true := by
  intro u hu
  unfold mkC at hu
  rw [List.mem_flatMap] at hu
  obtain ⟨x, _, hx⟩ := hu
  simp only [List.mem_cons, List.not_mem_nil, or_false] at hx
  rcases hx with rfl | rfl | rfl <;> rfl
theorem RdMk.src {w : World} {A : Option Addr} {l : List MarkP} (R : RdMk w A l) : Src w A l.length 3 (mkC l) := by
  refine ⟨mkC_len l, fun j u hu => ?_⟩
  have hj : j < (mkC l).length := (List.getElem?_eq_some_iff.1 hu).1
  rw [mkC_len] at hj
  obtain ⟨b, off, rfl, hr⟩ := R (by omega)
  refine ⟨_, rfl, ?_⟩
  have e : ∀ i, (⟨b, off, none⟩ : Addr).add i = ⟨b, off + i, none⟩ := fun i => by unfold Addr.add; by_cases h : i = 0 <;> simp [h]
  rw [e]
  have hi : j / 3 < l.length := by omega
  obtain ⟨a1, a2, a3⟩ := mkC_at l (j / 3) hi
  obtain ⟨c1, c2, c3⟩ := hr (j / 3) hi
  have h3 : j % 3 = 0 ∨ j % 3 = 1 ∨ j % 3 = 2 := by omega
  rcases h3 with h | h | h
  · have hjj : j / 3 * 3 = j := by omega
    rw [hjj] at a1 c1
    rw [a1] at hu; injection hu with hu; subst hu; exact c1
  · have hjj : j / 3 * 3 + 1 = j := by omega
    rw [hjj] at a2
    rw [Nat.add_assoc, hjj] at c2
    rw [a2] at hu; injection hu with hu; subst hu; exact c2
  · have hjj : j / 3 * 3 + 2 = j := by omega
    rw [hjj] at a3
    rw [Nat.add_assoc, hjj] at c3
    rw [a3] at hu; injection hu with hu; subst hu; exact c3
def MkL (w : World) (B : Nat) (s : Value) (l : List MarkP) : Prop := w.ownsRow B 54 3 s l.length (mkC l)
theorem MkL.rd {w : World} {B : Nat} {s : Value} {l : List MarkP} (h : MkL w B s l) : ∃ A c, s = .slice A l.length c ∧ RdMk w A l := by
  have h0 := h
  rcases h.2 with ⟨rfl, hn⟩ | ⟨g, cap, cur, rfl, hb, hg, hc, _⟩
  · exact ⟨none, 0, by rw [hn], fun h => by omega⟩
  · refine ⟨_, _, rfl, fun _ => ⟨g, 0, rfl, fun i hi => ?_⟩⟩
    have hcell := World.ownsRow.cells h0 (g := g) rfl
    obtain ⟨a1, a2, a3⟩ := mkC_at l i hi
    have e : ∀ i, (⟨g, 0, none⟩ : Addr).add i = ⟨g, 0 + i, none⟩ := fun i => by unfold Addr.add; by_cases h : i = 0 <;> simp [h]
    have b1 := hcell _ _ a1
    have b2 := hcell _ _ a2
    have b3 := hcell _ _ a3
    rw [e] at b1 b2 b3
    exact ⟨b1, by rw [Nat.add_assoc]; exact b2, by rw [Nat.add_assoc]; exact b3⟩
theorem LbL.rd {w : World} {B : Nat} {s : Value} {l : List LabelP} (h : LbL w B s l) : ∃ A c, s = .slice A l.length c ∧ RdLb w A l := by
  obtain ⟨A, c, rfl, h2⟩ := h.form
  refine ⟨A, c, rfl, fun h0 => ?_⟩
  obtain ⟨g, rfl, _, h3⟩ := h2 h0
  exact ⟨g, 0, rfl, fun i hi => by rw [Nat.zero_add]; exact h3 i hi⟩
def blC (l : List (BlockP × Nat)) : List Value := l.flatMap fun x => [.int .i64 x.1.at_, .slice (some ⟨x.2, 0, none⟩) x.1.bytes.length (x.1.bytes.length + 5)]
theorem infoMark : (Tryz.prog.info? 54).map (fun i => (i.zero, i.size, i.bytes)) = some (some (.agg #[.int .i64 0, .int .i64 0, .bool false]), 3, 24) := by kernel_rfl
theorem infoBlock : (Tryz.prog.info? 41).map (fun i => (i.zero, i.size, i.bytes)) = some (some (.agg #[.int .i64 0, .slice none 0 0]), 2, 32) := by kernel_rfl
theorem own_empty (w : World) (B : Nat) (e : TypeId) (size : Nat) (hB : B ≤ w.heap.size) : (w.alloc (.cells #[] e)).ownsRow B e size (.slice (some ⟨w.heap.size, 0, none⟩) 0 0) 0 [] :=
  ⟨by simp, .inr ⟨w.heap.size, 0, #[], rfl, hB, heap_alloc_new w _, Nat.le_refl _, Nat.zero_le _, by simp, by simp⟩⟩
/-- Every plain block stands. -/
def Kp (w w' : World) : Prop := ∀ (k : Nat) (cs : Array Value) (t : TypeId), w.heap[k]? = some (.cells cs t (0, 0)) → w'.heap[k]? = some (.cells cs t (0, 0))
/-- .. but those of one type. -/
def KpT (e : TypeId) (w w' : World) : Prop := ∀ (k : Nat) (cs : Array Value) (t : TypeId), t ≠ e → w.heap[k]? = some (.cells cs t (0, 0)) → w'.heap[k]? = some (.cells cs t (0, 0))
theorem own_kp {w w' : World} {B size n : Nat} {e : TypeId} {v : Value} {xs : List Value} (h : w.ownsRow B e size v n xs) (hk : ∀ {k : Nat} {cs : Array Value}, w.heap[k]? = some (.cells cs e (0, 0)) → w'.heap[k]? = some (.cells cs e (0, 0))) : w'.ownsRow B e size v n xs := by
  refine ⟨h.1, ?_⟩
  rcases h.2 with h1 | ⟨g, cap, cur, h1, h2, h3, h4⟩
  · exact .inl h1
  · exact .inr ⟨g, cap, cur, h1, h2, hk h3, h4⟩
structure S1 (W : Nat) (V : World) (A B C : Option Addr) (ca cb cc : Nat) (o : ObjP) (d : Nat → Bool) (w : World) (x3 x5 x6 x7 x8 x9 x10 x11 x12 x13 : Value) : Prop where
  lo : Below V.heap.size V w
  c0 : d 0 = true → d 3 = false → w.ownsRow (W + 2) 54 3 x5 0 []
  c1 : d 1 = true → x6 = .pointer (some ⟨W, 1, none⟩)
  c2 : d 2 = true → x7 = .slice B o.marks.length cb
  c3 : d 3 = true → MkL w (W + 2) x8 o.marks
  c4 : d 4 = true → d 7 = false → w.ownsRow (W + 2) 57 2 x9 0 []
  c5 : d 5 = true → x10 = .pointer (some ⟨W, 2, none⟩)
  c6 : d 6 = true → x11 = .slice C o.labels.length cc
  c7 : d 7 = true → LbL w (W + 2) x12 o.labels
  c8 : d 8 = true → d 3 = true ∧ d 7 = true ∧ x13 = .agg #[.slice none 0 0, x8, x12]
  c9 : d 9 = true → d 10 = false → ∃ q, x3 = .pointer (some ⟨q, 0, none⟩) ∧ W + 2 ≤ q ∧ w.heap[q]? = some (.cells #[.slice none 0 0, .slice none 0 0, .slice none 0 0] 26 (0, 0))
  c10 : d 10 = true → d 3 = true ∧ d 7 = true ∧ d 9 = true ∧ ∃ q, x3 = .pointer (some ⟨q, 0, none⟩) ∧ W + 2 ≤ q ∧ w.heap[q]? = some (.cells #[.slice none 0 0, x8, x12] 26 (0, 0))
def A1 (W : Nat) (A B C : Option Addr) (ca cb cc : Nat) (o : ObjP) (x3 x5 x6 x7 x8 x9 x10 x11 x12 x13 : Value) : Act := ⟨#[(.agg #[.slice A o.blocks.length ca, .slice B o.marks.length cb, .slice C o.labels.length cc]), (.pointer (some ⟨W, 0, none⟩)), (.pointer (some ⟨W + 1, 0, none⟩)), x3, undef, x5, x6, x7, x8, x9, x10, x11, x12, x13, undef, undef, undef, undef, undef, undef, undef, undef, undef, undef, undef, undef, undef, undef, undef, undef, undef, undef, undef, undef, undef, undef, undef, undef, undef, undef, undef], []⟩
def R1 (W : Nat) (V : World) (A B C : Option Addr) (ca cb cc : Nat) (o : ObjP) (d : Nat → Bool) (a : Act) (w : World) : Prop := ∃ x3 x5 x6 x7 x8 x9 x10 x11 x12 x13, a = A1 W A B C ca cb cc o x3 x5 x6 x7 x8 x9 x10 x11 x12 x13 ∧ S1 W V A B C ca cb cc o d w x3 x5 x6 x7 x8 x9 x10 x11 x12 x13
theorem S1.s1 {W : Nat} {V : World} {A B C : Option Addr} {ca cb cc : Nat} {o : ObjP} {d : Nat → Bool} {w : World} {x3 x5 x6 x7 x8 x9 x10 x11 x12 x13 y : Value} (h : S1 W V A B C ca cb cc o d w x3 x5 x6 x7 x8 x9 x10 x11 x12 x13) (hd : d 1 = false) (hy : y = .pointer (some ⟨W, 1, none⟩)) : S1 W V A B C ca cb cc o (fun j => if j = 1 then true else d j) w x3 x5 y x7 x8 x9 x10 x11 x12 x13 := by
  refine ⟨h.lo, by simpa using h.c0, fun _ => hy, by simpa using h.c2, by simpa using h.c3, by simpa using h.c4, by simpa using h.c5, by simpa using h.c6, by simpa using h.c7, by simpa using h.c8, by simpa using h.c9, by simpa using h.c10⟩
theorem S1.s2 {W : Nat} {V : World} {A B C : Option Addr} {ca cb cc : Nat} {o : ObjP} {d : Nat → Bool} {w : World} {x3 x5 x6 x7 x8 x9 x10 x11 x12 x13 y : Value} (h : S1 W V A B C ca cb cc o d w x3 x5 x6 x7 x8 x9 x10 x11 x12 x13) (hd : d 2 = false) (hy : y = .slice B o.marks.length cb) : S1 W V A B C ca cb cc o (fun j => if j = 2 then true else d j) w x3 x5 x6 y x8 x9 x10 x11 x12 x13 := by
  refine ⟨h.lo, by simpa using h.c0, by simpa using h.c1, fun _ => hy, by simpa using h.c3, by simpa using h.c4, by simpa using h.c5, by simpa using h.c6, by simpa using h.c7, by simpa using h.c8, by simpa using h.c9, by simpa using h.c10⟩
theorem S1.s5 {W : Nat} {V : World} {A B C : Option Addr} {ca cb cc : Nat} {o : ObjP} {d : Nat → Bool} {w : World} {x3 x5 x6 x7 x8 x9 x10 x11 x12 x13 y : Value} (h : S1 W V A B C ca cb cc o d w x3 x5 x6 x7 x8 x9 x10 x11 x12 x13) (hd : d 5 = false) (hy : y = .pointer (some ⟨W, 2, none⟩)) : S1 W V A B C ca cb cc o (fun j => if j = 5 then true else d j) w x3 x5 x6 x7 x8 x9 y x11 x12 x13 := by
  refine ⟨h.lo, by simpa using h.c0, by simpa using h.c1, by simpa using h.c2, by simpa using h.c3, by simpa using h.c4, fun _ => hy, by simpa using h.c6, by simpa using h.c7, by simpa using h.c8, by simpa using h.c9, by simpa using h.c10⟩
theorem S1.s6 {W : Nat} {V : World} {A B C : Option Addr} {ca cb cc : Nat} {o : ObjP} {d : Nat → Bool} {w : World} {x3 x5 x6 x7 x8 x9 x10 x11 x12 x13 y : Value} (h : S1 W V A B C ca cb cc o d w x3 x5 x6 x7 x8 x9 x10 x11 x12 x13) (hd : d 6 = false) (hy : y = .slice C o.labels.length cc) : S1 W V A B C ca cb cc o (fun j => if j = 6 then true else d j) w x3 x5 x6 x7 x8 x9 x10 y x12 x13 := by
  refine ⟨h.lo, by simpa using h.c0, by simpa using h.c1, by simpa using h.c2, by simpa using h.c3, by simpa using h.c4, by simpa using h.c5, fun _ => hy, by simpa using h.c7, by simpa using h.c8, by simpa using h.c9, by simpa using h.c10⟩
theorem S1.s8 {W : Nat} {V : World} {A B C : Option Addr} {ca cb cc : Nat} {o : ObjP} {d : Nat → Bool} {w : World} {x3 x5 x6 x7 x8 x9 x10 x11 x12 x13 y : Value} (h : S1 W V A B C ca cb cc o d w x3 x5 x6 x7 x8 x9 x10 x11 x12 x13) (hd : d 8 = false) (h3 : d 3 = true) (h7 : d 7 = true) (hy : y = .agg #[.slice none 0 0, x8, x12]) : S1 W V A B C ca cb cc o (fun j => if j = 8 then true else d j) w x3 x5 x6 x7 x8 x9 x10 x11 x12 y := by
  refine ⟨h.lo, by simpa using h.c0, by simpa using h.c1, by simpa using h.c2, by simpa using h.c3, by simpa using h.c4, by simpa using h.c5, by simpa using h.c6, by simpa using h.c7, fun _ => ⟨by simpa using h3, by simpa using h7, hy⟩, by simpa using h.c9, by simpa using h.c10⟩
theorem S1.s0 {W : Nat} {V : World} {A B C : Option Addr} {ca cb cc : Nat} {o : ObjP} {d : Nat → Bool} {w w' : World} {x3 x5 x6 x7 x8 x9 x10 x11 x12 x13 y : Value} (h : S1 W V A B C ca cb cc o d w x3 x5 x6 x7 x8 x9 x10 x11 x12 x13) (hd : d 0 = false) (hy : w'.ownsRow (W + 2) 54 3 y 0 []) (hk : Kp w w') (hlo : Below V.heap.size V w') : S1 W V A B C ca cb cc o (fun j => if j = 0 then true else d j) w' x3 y x6 x7 x8 x9 x10 x11 x12 x13 := by
  refine ⟨hlo, fun _ _ => hy, by simpa using h.c1, by simpa using h.c2, fun a => own_kp (h.c3 (by simpa using a)) (hk _ _ _), fun a b => own_kp (h.c4 (by simpa using a) (by simpa using b)) (hk _ _ _), by simpa using h.c5, by simpa using h.c6, fun a => own_kp (h.c7 (by simpa using a)) (hk _ _ _), by simpa using h.c8, fun a b => by obtain ⟨q, e, hq, hh⟩ := h.c9 (by simpa using a) (by simpa using b); exact ⟨q, e, hq, ((hk _ _ _)) hh⟩, fun a => by obtain ⟨a1, a2, a3, q, e, hq, hh⟩ := h.c10 (by simpa using a); exact ⟨by simpa using a1, by simpa using a2, by simpa using a3, q, e, hq, ((hk _ _ _)) hh⟩⟩
theorem S1.s4 {W : Nat} {V : World} {A B C : Option Addr} {ca cb cc : Nat} {o : ObjP} {d : Nat → Bool} {w w' : World} {x3 x5 x6 x7 x8 x9 x10 x11 x12 x13 y : Value} (h : S1 W V A B C ca cb cc o d w x3 x5 x6 x7 x8 x9 x10 x11 x12 x13) (hd : d 4 = false) (hy : w'.ownsRow (W + 2) 57 2 y 0 []) (hk : Kp w w') (hlo : Below V.heap.size V w') : S1 W V A B C ca cb cc o (fun j => if j = 4 then true else d j) w' x3 x5 x6 x7 x8 y x10 x11 x12 x13 := by
  refine ⟨hlo, fun a b => own_kp (h.c0 (by simpa using a) (by simpa using b)) (hk _ _ _), by simpa using h.c1, by simpa using h.c2, fun a => own_kp (h.c3 (by simpa using a)) (hk _ _ _), fun _ _ => hy, by simpa using h.c5, by simpa using h.c6, fun a => own_kp (h.c7 (by simpa using a)) (hk _ _ _), by simpa using h.c8, fun a b => by obtain ⟨q, e, hq, hh⟩ := h.c9 (by simpa using a) (by simpa using b); exact ⟨q, e, hq, ((hk _ _ _)) hh⟩, fun a => by obtain ⟨a1, a2, a3, q, e, hq, hh⟩ := h.c10 (by simpa using a); exact ⟨by simpa using a1, by simpa using a2, by simpa using a3, q, e, hq, ((hk _ _ _)) hh⟩⟩
theorem S1.s9 {W : Nat} {V : World} {A B C : Option Addr} {ca cb cc : Nat} {o : ObjP} {d : Nat → Bool} {w w' : World} {x3 x5 x6 x7 x8 x9 x10 x11 x12 x13 y : Value} (h : S1 W V A B C ca cb cc o d w x3 x5 x6 x7 x8 x9 x10 x11 x12 x13) (hd : d 9 = false)  (h10 : d 10 = false) (hy : ∃ q, y = .pointer (some ⟨q, 0, none⟩) ∧ W + 2 ≤ q ∧ w'.heap[q]? = some (.cells #[.slice none 0 0, .slice none 0 0, .slice none 0 0] 26 (0, 0))) (hk : Kp w w') (hlo : Below V.heap.size V w') : S1 W V A B C ca cb cc o (fun j => if j = 9 then true else d j) w' y x5 x6 x7 x8 x9 x10 x11 x12 x13 := by
  refine ⟨hlo, fun a b => own_kp (h.c0 (by simpa using a) (by simpa using b)) (hk _ _ _), by simpa using h.c1, by simpa using h.c2, fun a => own_kp (h.c3 (by simpa using a)) (hk _ _ _), fun a b => own_kp (h.c4 (by simpa using a) (by simpa using b)) (hk _ _ _), by simpa using h.c5, by simpa using h.c6, fun a => own_kp (h.c7 (by simpa using a)) (hk _ _ _), by simpa using h.c8, fun _ _ => hy, fun a => absurd (by simpa using a) (by simp [h10])⟩
theorem S1.s3 {W : Nat} {V : World} {A B C : Option Addr} {ca cb cc : Nat} {o : ObjP} {d : Nat → Bool} {w w' : World} {x3 x5 x6 x7 x8 x9 x10 x11 x12 x13 y : Value} (h : S1 W V A B C ca cb cc o d w x3 x5 x6 x7 x8 x9 x10 x11 x12 x13) (hd : d 3 = false) (h8 : d 8 = false) (h10 : d 10 = false) (hy : MkL w' (W + 2) y o.marks) (hk : KpT 54 w w') (hlo : Below V.heap.size V w') : S1 W V A B C ca cb cc o (fun j => if j = 3 then true else d j) w' x3 x5 x6 x7 y x9 x10 x11 x12 x13 := by
  refine ⟨hlo, fun _ b => absurd b (by simp), by simpa using h.c1, by simpa using h.c2, fun _ => hy, fun a b => own_kp (h.c4 (by simpa using a) (by simpa using b)) (hk _ _ _ (by decide)), by simpa using h.c5, by simpa using h.c6, fun a => own_kp (h.c7 (by simpa using a)) (hk _ _ _ (by decide)), fun a => absurd (by simpa using a) (by simp [h8]), fun a b => by obtain ⟨q, e, hq, hh⟩ := h.c9 (by simpa using a) (by simpa using b); exact ⟨q, e, hq, ((hk _ _ _ (by decide))) hh⟩, fun a => absurd (by simpa using a) (by simp [h10])⟩
theorem S1.s7 {W : Nat} {V : World} {A B C : Option Addr} {ca cb cc : Nat} {o : ObjP} {d : Nat → Bool} {w w' : World} {x3 x5 x6 x7 x8 x9 x10 x11 x12 x13 y : Value} (h : S1 W V A B C ca cb cc o d w x3 x5 x6 x7 x8 x9 x10 x11 x12 x13) (hd : d 7 = false) (h8 : d 8 = false) (h10 : d 10 = false) (hy : LbL w' (W + 2) y o.labels) (hk : KpT 57 w w') (hlo : Below V.heap.size V w') : S1 W V A B C ca cb cc o (fun j => if j = 7 then true else d j) w' x3 x5 x6 x7 x8 x9 x10 x11 y x13 := by
  refine ⟨hlo, fun a b => own_kp (h.c0 (by simpa using a) (by simpa using b)) (hk _ _ _ (by decide)), by simpa using h.c1, by simpa using h.c2, fun a => own_kp (h.c3 (by simpa using a)) (hk _ _ _ (by decide)), fun _ b => absurd b (by simp), by simpa using h.c5, by simpa using h.c6, fun _ => hy, fun a => absurd (by simpa using a) (by simp [h8]), fun a b => by obtain ⟨q, e, hq, hh⟩ := h.c9 (by simpa using a) (by simpa using b); exact ⟨q, e, hq, ((hk _ _ _ (by decide))) hh⟩, fun a => absurd (by simpa using a) (by simp [h10])⟩
theorem S1.s10 {W : Nat} {V : World} {A B C : Option Addr} {ca cb cc : Nat} {o : ObjP} {d : Nat → Bool} {w w' : World} {x3 x5 x6 x7 x8 x9 x10 x11 x12 x13 : Value} (h : S1 W V A B C ca cb cc o d w x3 x5 x6 x7 x8 x9 x10 x11 x12 x13) (hd : d 10 = false) (h3 : d 3 = true) (h7 : d 7 = true) (h9 : d 9 = true) (hy : ∃ q, x3 = .pointer (some ⟨q, 0, none⟩) ∧ W + 2 ≤ q ∧ w'.heap[q]? = some (.cells #[.slice none 0 0, x8, x12] 26 (0, 0))) (hk : KpT 26 w w') (hlo : Below V.heap.size V w') : S1 W V A B C ca cb cc o (fun j => if j = 10 then true else d j) w' x3 x5 x6 x7 x8 x9 x10 x11 x12 x13 := by
  refine ⟨hlo, fun a b => own_kp (h.c0 (by simpa using a) (by simpa using b)) (hk _ _ _ (by decide)), by simpa using h.c1, by simpa using h.c2, fun a => own_kp (h.c3 (by simpa using a)) (hk _ _ _ (by decide)), fun a b => own_kp (h.c4 (by simpa using a) (by simpa using b)) (hk _ _ _ (by decide)), by simpa using h.c5, by simpa using h.c6, fun a => own_kp (h.c7 (by simpa using a)) (hk _ _ _ (by decide)), by simpa using h.c8, fun _ b => absurd b (by simp), fun _ => ⟨by simpa using h3, by simpa using h7, by simpa using h9, hy⟩⟩
structure S2 (W q b off ca k cD : Nat) (V : World) (o : ObjP) (v0 xm xl : Value) (a1 : Int) (bs : List Int) (D : Option Addr) (bl : List (BlockP × Nat)) (d : Nat → Bool) (w : World) (x21 x22 x23 x24 x25 x26 x27 x28 x29 x30 x31 x32 x33 x34 x35 x36 x37 x38 x39 : Value) : Prop where
  lo : Below V.heap.size V w
  c0 : d 0 = true → x21 = .pointer (some ⟨q, 0, none⟩)
  c1 : d 1 = true → x22 = v0
  c2 : d 2 = true → x23 = .pointer (some ⟨W, 0, none⟩)
  c3 : d 3 = true → x24 = .slice (some ⟨b, off, none⟩) o.blocks.length ca
  c4 : d 4 = true → x25 = .int .i64 k
  c5 : d 5 = true → x26 = .pointer (some ⟨b, off + k * 2, none⟩)
  c6 : d 6 = true → x27 = .pointer (some ⟨b, off + k * 2, none⟩)
  c7 : d 7 = true → x28 = .int .i64 a1
  c8 : d 8 = true → x29 = .pointer (some ⟨W, 0, none⟩)
  c9 : d 9 = true → x30 = .slice (some ⟨b, off, none⟩) o.blocks.length ca
  c10 : d 10 = true → x31 = .int .i64 k
  c11 : d 11 = true → x32 = .pointer (some ⟨b, off + k * 2, none⟩)
  c12 : d 12 = true → x33 = .pointer (some ⟨b, off + k * 2 + 1, none⟩)
  c13 : d 13 = true → x34 = .slice D bs.length cD
  c14 : d 14 = true → ∃ gr, x35 = .slice (some ⟨gr, 0, none⟩) bs.length (bs.length + 5) ∧ W + 2 ≤ gr ∧ w.heap[gr]? = some (.cells (roomC bs).toArray 5 (0, 0))
  c15 : d 15 = true → d 7 = true ∧ d 14 = true ∧ x36 = .agg #[.int .i64 a1, x35]
  c16 : d 16 = true → d 14 = true ∧ (d 17 = false → ∃ h, x37 = .slice (some ⟨h, 0, none⟩) 1 1 ∧ w.heap[h]? = some (.cells #[.int .i64 a1, x35] 41 (0, 0)))
  c17 : d 17 = true → d 1 = true ∧ d 14 = true ∧ d 16 = true ∧ w.ownsRow (W + 2) 41 2 x38 (bl.length + 1) (blC bl ++ [.int .i64 a1, x35])
  c18 : d 18 = true → x39 = .pointer (some ⟨q, 0, none⟩)
  c19 : d 19 = true → d 17 = true ∧ w.heap[q]? = some (.cells #[x38, xm, xl] 26 (0, 0))
  cbx : d 19 = false → w.heap[q]? = some (.cells #[v0, xm, xl] 26 (0, 0))
  crow : d 17 = false → w.ownsRow (W + 2) 41 2 v0 bl.length (blC bl)
  crm : ∀ x ∈ bl, W + 2 ≤ x.2 ∧ w.heap[x.2]? = some (.cells (roomC x.1.bytes).toArray 5 (0, 0))
  cm : MkL w (W + 2) xm o.marks
  cl : LbL w (W + 2) xl o.labels
theorem S2.s0 {W q b off ca k cD : Nat} {V : World} {o : ObjP} {v0 xm xl : Value} {a1 : Int} {bs : List Int} {D : Option Addr} {bl : List (BlockP × Nat)} {d : Nat → Bool} {w : World} {x21 x22 x23 x24 x25 x26 x27 x28 x29 x30 x31 x32 x33 x34 x35 x36 x37 x38 x39 y : Value} (h : S2 W q b off ca k cD V o v0 xm xl a1 bs D bl d w x21 x22 x23 x24 x25 x26 x27 x28 x29 x30 x31 x32 x33 x34 x35 x36 x37 x38 x39) (hd : d 0 = false) (hy : y = .pointer (some ⟨q, 0, none⟩)) : S2 W q b off ca k cD V o v0 xm xl a1 bs D bl (fun j => if j = 0 then true else d j) w y x22 x23 x24 x25 x26 x27 x28 x29 x30 x31 x32 x33 x34 x35 x36 x37 x38 x39 := by
  refine ⟨h.lo, fun _ => hy, by simpa using h.c1, by simpa using h.c2, by simpa using h.c3, by simpa using h.c4, by simpa using h.c5, by simpa using h.c6, by simpa using h.c7, by simpa using h.c8, by simpa using h.c9, by simpa using h.c10, by simpa using h.c11, by simpa using h.c12, by simpa using h.c13, fun e => by obtain ⟨gr, e1, hq, hh⟩ := h.c14 (by simpa using e); exact ⟨gr, e1, hq, hh⟩, fun e => by obtain ⟨e1, e2, e3⟩ := h.c15 (by simpa using e); exact ⟨by simp [e1], by simp [e2], e3⟩, fun e => by obtain ⟨e1, e2⟩ := h.c16 (by simpa using e); exact ⟨by simp [e1], fun f => by obtain ⟨g, e3, hh⟩ := e2 (by simpa using f); exact ⟨g, e3, hh⟩⟩, fun e => by obtain ⟨e1, e2, e3, e4⟩ := h.c17 (by simpa using e); exact ⟨by simp [e1], by simp [e2], by simp [e3], e4⟩, by simpa using h.c18, fun e => by obtain ⟨e1, e2⟩ := h.c19 (by simpa using e); exact ⟨by simp [e1], e2⟩, fun e => (h.cbx (by simpa using e)), fun e => h.crow (by simpa using e), h.crm, h.cm, h.cl⟩
theorem S2.s1 {W q b off ca k cD : Nat} {V : World} {o : ObjP} {v0 xm xl : Value} {a1 : Int} {bs : List Int} {D : Option Addr} {bl : List (BlockP × Nat)} {d : Nat → Bool} {w : World} {x21 x22 x23 x24 x25 x26 x27 x28 x29 x30 x31 x32 x33 x34 x35 x36 x37 x38 x39 y : Value} (h : S2 W q b off ca k cD V o v0 xm xl a1 bs D bl d w x21 x22 x23 x24 x25 x26 x27 x28 x29 x30 x31 x32 x33 x34 x35 x36 x37 x38 x39) (hd : d 1 = false) (hy : y = v0) : S2 W q b off ca k cD V o v0 xm xl a1 bs D bl (fun j => if j = 1 then true else d j) w x21 y x23 x24 x25 x26 x27 x28 x29 x30 x31 x32 x33 x34 x35 x36 x37 x38 x39 := by
  refine ⟨h.lo, by simpa using h.c0, fun _ => hy, by simpa using h.c2, by simpa using h.c3, by simpa using h.c4, by simpa using h.c5, by simpa using h.c6, by simpa using h.c7, by simpa using h.c8, by simpa using h.c9, by simpa using h.c10, by simpa using h.c11, by simpa using h.c12, by simpa using h.c13, fun e => by obtain ⟨gr, e1, hq, hh⟩ := h.c14 (by simpa using e); exact ⟨gr, e1, hq, hh⟩, fun e => by obtain ⟨e1, e2, e3⟩ := h.c15 (by simpa using e); exact ⟨by simp [e1], by simp [e2], e3⟩, fun e => by obtain ⟨e1, e2⟩ := h.c16 (by simpa using e); exact ⟨by simp [e1], fun f => by obtain ⟨g, e3, hh⟩ := e2 (by simpa using f); exact ⟨g, e3, hh⟩⟩, fun e => by obtain ⟨e1, e2, e3, e4⟩ := h.c17 (by simpa using e); exact ⟨by simp [e1], by simp [e2], by simp [e3], e4⟩, by simpa using h.c18, fun e => by obtain ⟨e1, e2⟩ := h.c19 (by simpa using e); exact ⟨by simp [e1], e2⟩, fun e => (h.cbx (by simpa using e)), fun e => h.crow (by simpa using e), h.crm, h.cm, h.cl⟩
theorem S2.s2 {W q b off ca k cD : Nat} {V : World} {o : ObjP} {v0 xm xl : Value} {a1 : Int} {bs : List Int} {D : Option Addr} {bl : List (BlockP × Nat)} {d : Nat → Bool} {w : World} {x21 x22 x23 x24 x25 x26 x27 x28 x29 x30 x31 x32 x33 x34 x35 x36 x37 x38 x39 y : Value} (h : S2 W q b off ca k cD V o v0 xm xl a1 bs D bl d w x21 x22 x23 x24 x25 x26 x27 x28 x29 x30 x31 x32 x33 x34 x35 x36 x37 x38 x39) (hd : d 2 = false) (hy : y = .pointer (some ⟨W, 0, none⟩)) : S2 W q b off ca k cD V o v0 xm xl a1 bs D bl (fun j => if j = 2 then true else d j) w x21 x22 y x24 x25 x26 x27 x28 x29 x30 x31 x32 x33 x34 x35 x36 x37 x38 x39 := by
  refine ⟨h.lo, by simpa using h.c0, by simpa using h.c1, fun _ => hy, by simpa using h.c3, by simpa using h.c4, by simpa using h.c5, by simpa using h.c6, by simpa using h.c7, by simpa using h.c8, by simpa using h.c9, by simpa using h.c10, by simpa using h.c11, by simpa using h.c12, by simpa using h.c13, fun e => by obtain ⟨gr, e1, hq, hh⟩ := h.c14 (by simpa using e); exact ⟨gr, e1, hq, hh⟩, fun e => by obtain ⟨e1, e2, e3⟩ := h.c15 (by simpa using e); exact ⟨by simp [e1], by simp [e2], e3⟩, fun e => by obtain ⟨e1, e2⟩ := h.c16 (by simpa using e); exact ⟨by simp [e1], fun f => by obtain ⟨g, e3, hh⟩ := e2 (by simpa using f); exact ⟨g, e3, hh⟩⟩, fun e => by obtain ⟨e1, e2, e3, e4⟩ := h.c17 (by simpa using e); exact ⟨by simp [e1], by simp [e2], by simp [e3], e4⟩, by simpa using h.c18, fun e => by obtain ⟨e1, e2⟩ := h.c19 (by simpa using e); exact ⟨by simp [e1], e2⟩, fun e => (h.cbx (by simpa using e)), fun e => h.crow (by simpa using e), h.crm, h.cm, h.cl⟩
theorem S2.s3 {W q b off ca k cD : Nat} {V : World} {o : ObjP} {v0 xm xl : Value} {a1 : Int} {bs : List Int} {D : Option Addr} {bl : List (BlockP × Nat)} {d : Nat → Bool} {w : World} {x21 x22 x23 x24 x25 x26 x27 x28 x29 x30 x31 x32 x33 x34 x35 x36 x37 x38 x39 y : Value} (h : S2 W q b off ca k cD V o v0 xm xl a1 bs D bl d w x21 x22 x23 x24 x25 x26 x27 x28 x29 x30 x31 x32 x33 x34 x35 x36 x37 x38 x39) (hd : d 3 = false) (hy : y = .slice (some ⟨b, off, none⟩) o.blocks.length ca) : S2 W q b off ca k cD V o v0 xm xl a1 bs D bl (fun j => if j = 3 then true else d j) w x21 x22 x23 y x25 x26 x27 x28 x29 x30 x31 x32 x33 x34 x35 x36 x37 x38 x39 := by
  refine ⟨h.lo, by simpa using h.c0, by simpa using h.c1, by simpa using h.c2, fun _ => hy, by simpa using h.c4, by simpa using h.c5, by simpa using h.c6, by simpa using h.c7, by simpa using h.c8, by simpa using h.c9, by simpa using h.c10, by simpa using h.c11, by simpa using h.c12, by simpa using h.c13, fun e => by obtain ⟨gr, e1, hq, hh⟩ := h.c14 (by simpa using e); exact ⟨gr, e1, hq, hh⟩, fun e => by obtain ⟨e1, e2, e3⟩ := h.c15 (by simpa using e); exact ⟨by simp [e1], by simp [e2], e3⟩, fun e => by obtain ⟨e1, e2⟩ := h.c16 (by simpa using e); exact ⟨by simp [e1], fun f => by obtain ⟨g, e3, hh⟩ := e2 (by simpa using f); exact ⟨g, e3, hh⟩⟩, fun e => by obtain ⟨e1, e2, e3, e4⟩ := h.c17 (by simpa using e); exact ⟨by simp [e1], by simp [e2], by simp [e3], e4⟩, by simpa using h.c18, fun e => by obtain ⟨e1, e2⟩ := h.c19 (by simpa using e); exact ⟨by simp [e1], e2⟩, fun e => (h.cbx (by simpa using e)), fun e => h.crow (by simpa using e), h.crm, h.cm, h.cl⟩
theorem S2.s4 {W q b off ca k cD : Nat} {V : World} {o : ObjP} {v0 xm xl : Value} {a1 : Int} {bs : List Int} {D : Option Addr} {bl : List (BlockP × Nat)} {d : Nat → Bool} {w : World} {x21 x22 x23 x24 x25 x26 x27 x28 x29 x30 x31 x32 x33 x34 x35 x36 x37 x38 x39 y : Value} (h : S2 W q b off ca k cD V o v0 xm xl a1 bs D bl d w x21 x22 x23 x24 x25 x26 x27 x28 x29 x30 x31 x32 x33 x34 x35 x36 x37 x38 x39) (hd : d 4 = false) (hy : y = .int .i64 k) : S2 W q b off ca k cD V o v0 xm xl a1 bs D bl (fun j => if j = 4 then true else d j) w x21 x22 x23 x24 y x26 x27 x28 x29 x30 x31 x32 x33 x34 x35 x36 x37 x38 x39 := by
  refine ⟨h.lo, by simpa using h.c0, by simpa using h.c1, by simpa using h.c2, by simpa using h.c3, fun _ => hy, by simpa using h.c5, by simpa using h.c6, by simpa using h.c7, by simpa using h.c8, by simpa using h.c9, by simpa using h.c10, by simpa using h.c11, by simpa using h.c12, by simpa using h.c13, fun e => by obtain ⟨gr, e1, hq, hh⟩ := h.c14 (by simpa using e); exact ⟨gr, e1, hq, hh⟩, fun e => by obtain ⟨e1, e2, e3⟩ := h.c15 (by simpa using e); exact ⟨by simp [e1], by simp [e2], e3⟩, fun e => by obtain ⟨e1, e2⟩ := h.c16 (by simpa using e); exact ⟨by simp [e1], fun f => by obtain ⟨g, e3, hh⟩ := e2 (by simpa using f); exact ⟨g, e3, hh⟩⟩, fun e => by obtain ⟨e1, e2, e3, e4⟩ := h.c17 (by simpa using e); exact ⟨by simp [e1], by simp [e2], by simp [e3], e4⟩, by simpa using h.c18, fun e => by obtain ⟨e1, e2⟩ := h.c19 (by simpa using e); exact ⟨by simp [e1], e2⟩, fun e => (h.cbx (by simpa using e)), fun e => h.crow (by simpa using e), h.crm, h.cm, h.cl⟩
theorem S2.s5 {W q b off ca k cD : Nat} {V : World} {o : ObjP} {v0 xm xl : Value} {a1 : Int} {bs : List Int} {D : Option Addr} {bl : List (BlockP × Nat)} {d : Nat → Bool} {w : World} {x21 x22 x23 x24 x25 x26 x27 x28 x29 x30 x31 x32 x33 x34 x35 x36 x37 x38 x39 y : Value} (h : S2 W q b off ca k cD V o v0 xm xl a1 bs D bl d w x21 x22 x23 x24 x25 x26 x27 x28 x29 x30 x31 x32 x33 x34 x35 x36 x37 x38 x39) (hd : d 5 = false) (hy : y = .pointer (some ⟨b, off + k * 2, none⟩)) : S2 W q b off ca k cD V o v0 xm xl a1 bs D bl (fun j => if j = 5 then true else d j) w x21 x22 x23 x24 x25 y x27 x28 x29 x30 x31 x32 x33 x34 x35 x36 x37 x38 x39 := by
  refine ⟨h.lo, by simpa using h.c0, by simpa using h.c1, by simpa using h.c2, by simpa using h.c3, by simpa using h.c4, fun _ => hy, by simpa using h.c6, by simpa using h.c7, by simpa using h.c8, by simpa using h.c9, by simpa using h.c10, by simpa using h.c11, by simpa using h.c12, by simpa using h.c13, fun e => by obtain ⟨gr, e1, hq, hh⟩ := h.c14 (by simpa using e); exact ⟨gr, e1, hq, hh⟩, fun e => by obtain ⟨e1, e2, e3⟩ := h.c15 (by simpa using e); exact ⟨by simp [e1], by simp [e2], e3⟩, fun e => by obtain ⟨e1, e2⟩ := h.c16 (by simpa using e); exact ⟨by simp [e1], fun f => by obtain ⟨g, e3, hh⟩ := e2 (by simpa using f); exact ⟨g, e3, hh⟩⟩, fun e => by obtain ⟨e1, e2, e3, e4⟩ := h.c17 (by simpa using e); exact ⟨by simp [e1], by simp [e2], by simp [e3], e4⟩, by simpa using h.c18, fun e => by obtain ⟨e1, e2⟩ := h.c19 (by simpa using e); exact ⟨by simp [e1], e2⟩, fun e => (h.cbx (by simpa using e)), fun e => h.crow (by simpa using e), h.crm, h.cm, h.cl⟩
theorem S2.s6 {W q b off ca k cD : Nat} {V : World} {o : ObjP} {v0 xm xl : Value} {a1 : Int} {bs : List Int} {D : Option Addr} {bl : List (BlockP × Nat)} {d : Nat → Bool} {w : World} {x21 x22 x23 x24 x25 x26 x27 x28 x29 x30 x31 x32 x33 x34 x35 x36 x37 x38 x39 y : Value} (h : S2 W q b off ca k cD V o v0 xm xl a1 bs D bl d w x21 x22 x23 x24 x25 x26 x27 x28 x29 x30 x31 x32 x33 x34 x35 x36 x37 x38 x39) (hd : d 6 = false) (hy : y = .pointer (some ⟨b, off + k * 2, none⟩)) : S2 W q b off ca k cD V o v0 xm xl a1 bs D bl (fun j => if j = 6 then true else d j) w x21 x22 x23 x24 x25 x26 y x28 x29 x30 x31 x32 x33 x34 x35 x36 x37 x38 x39 := by
  refine ⟨h.lo, by simpa using h.c0, by simpa using h.c1, by simpa using h.c2, by simpa using h.c3, by simpa using h.c4, by simpa using h.c5, fun _ => hy, by simpa using h.c7, by simpa using h.c8, by simpa using h.c9, by simpa using h.c10, by simpa using h.c11, by simpa using h.c12, by simpa using h.c13, fun e => by obtain ⟨gr, e1, hq, hh⟩ := h.c14 (by simpa using e); exact ⟨gr, e1, hq, hh⟩, fun e => by obtain ⟨e1, e2, e3⟩ := h.c15 (by simpa using e); exact ⟨by simp [e1], by simp [e2], e3⟩, fun e => by obtain ⟨e1, e2⟩ := h.c16 (by simpa using e); exact ⟨by simp [e1], fun f => by obtain ⟨g, e3, hh⟩ := e2 (by simpa using f); exact ⟨g, e3, hh⟩⟩, fun e => by obtain ⟨e1, e2, e3, e4⟩ := h.c17 (by simpa using e); exact ⟨by simp [e1], by simp [e2], by simp [e3], e4⟩, by simpa using h.c18, fun e => by obtain ⟨e1, e2⟩ := h.c19 (by simpa using e); exact ⟨by simp [e1], e2⟩, fun e => (h.cbx (by simpa using e)), fun e => h.crow (by simpa using e), h.crm, h.cm, h.cl⟩
theorem S2.s7 {W q b off ca k cD : Nat} {V : World} {o : ObjP} {v0 xm xl : Value} {a1 : Int} {bs : List Int} {D : Option Addr} {bl : List (BlockP × Nat)} {d : Nat → Bool} {w : World} {x21 x22 x23 x24 x25 x26 x27 x28 x29 x30 x31 x32 x33 x34 x35 x36 x37 x38 x39 y : Value} (h : S2 W q b off ca k cD V o v0 xm xl a1 bs D bl d w x21 x22 x23 x24 x25 x26 x27 x28 x29 x30 x31 x32 x33 x34 x35 x36 x37 x38 x39) (hd : d 7 = false) (hy : y = .int .i64 a1) : S2 W q b off ca k cD V o v0 xm xl a1 bs D bl (fun j => if j = 7 then true else d j) w x21 x22 x23 x24 x25 x26 x27 y x29 x30 x31 x32 x33 x34 x35 x36 x37 x38 x39 := by
  refine ⟨h.lo, by simpa using h.c0, by simpa using h.c1, by simpa using h.c2, by simpa using h.c3, by simpa using h.c4, by simpa using h.c5, by simpa using h.c6, fun _ => hy, by simpa using h.c8, by simpa using h.c9, by simpa using h.c10, by simpa using h.c11, by simpa using h.c12, by simpa using h.c13, fun e => by obtain ⟨gr, e1, hq, hh⟩ := h.c14 (by simpa using e); exact ⟨gr, e1, hq, hh⟩, fun e => by obtain ⟨e1, e2, e3⟩ := h.c15 (by simpa using e); exact ⟨by simp [e1], by simp [e2], e3⟩, fun e => by obtain ⟨e1, e2⟩ := h.c16 (by simpa using e); exact ⟨by simp [e1], fun f => by obtain ⟨g, e3, hh⟩ := e2 (by simpa using f); exact ⟨g, e3, hh⟩⟩, fun e => by obtain ⟨e1, e2, e3, e4⟩ := h.c17 (by simpa using e); exact ⟨by simp [e1], by simp [e2], by simp [e3], e4⟩, by simpa using h.c18, fun e => by obtain ⟨e1, e2⟩ := h.c19 (by simpa using e); exact ⟨by simp [e1], e2⟩, fun e => (h.cbx (by simpa using e)), fun e => h.crow (by simpa using e), h.crm, h.cm, h.cl⟩
theorem S2.s8 {W q b off ca k cD : Nat} {V : World} {o : ObjP} {v0 xm xl : Value} {a1 : Int} {bs : List Int} {D : Option Addr} {bl : List (BlockP × Nat)} {d : Nat → Bool} {w : World} {x21 x22 x23 x24 x25 x26 x27 x28 x29 x30 x31 x32 x33 x34 x35 x36 x37 x38 x39 y : Value} (h : S2 W q b off ca k cD V o v0 xm xl a1 bs D bl d w x21 x22 x23 x24 x25 x26 x27 x28 x29 x30 x31 x32 x33 x34 x35 x36 x37 x38 x39) (hd : d 8 = false) (hy : y = .pointer (some ⟨W, 0, none⟩)) : S2 W q b off ca k cD V o v0 xm xl a1 bs D bl (fun j => if j = 8 then true else d j) w x21 x22 x23 x24 x25 x26 x27 x28 y x30 x31 x32 x33 x34 x35 x36 x37 x38 x39 := by
  refine ⟨h.lo, by simpa using h.c0, by simpa using h.c1, by simpa using h.c2, by simpa using h.c3, by simpa using h.c4, by simpa using h.c5, by simpa using h.c6, by simpa using h.c7, fun _ => hy, by simpa using h.c9, by simpa using h.c10, by simpa using h.c11, by simpa using h.c12, by simpa using h.c13, fun e => by obtain ⟨gr, e1, hq, hh⟩ := h.c14 (by simpa using e); exact ⟨gr, e1, hq, hh⟩, fun e => by obtain ⟨e1, e2, e3⟩ := h.c15 (by simpa using e); exact ⟨by simp [e1], by simp [e2], e3⟩, fun e => by obtain ⟨e1, e2⟩ := h.c16 (by simpa using e); exact ⟨by simp [e1], fun f => by obtain ⟨g, e3, hh⟩ := e2 (by simpa using f); exact ⟨g, e3, hh⟩⟩, fun e => by obtain ⟨e1, e2, e3, e4⟩ := h.c17 (by simpa using e); exact ⟨by simp [e1], by simp [e2], by simp [e3], e4⟩, by simpa using h.c18, fun e => by obtain ⟨e1, e2⟩ := h.c19 (by simpa using e); exact ⟨by simp [e1], e2⟩, fun e => (h.cbx (by simpa using e)), fun e => h.crow (by simpa using e), h.crm, h.cm, h.cl⟩
theorem S2.s9 {W q b off ca k cD : Nat} {V : World} {o : ObjP} {v0 xm xl : Value} {a1 : Int} {bs : List Int} {D : Option Addr} {bl : List (BlockP × Nat)} {d : Nat → Bool} {w : World} {x21 x22 x23 x24 x25 x26 x27 x28 x29 x30 x31 x32 x33 x34 x35 x36 x37 x38 x39 y : Value} (h : S2 W q b off ca k cD V o v0 xm xl a1 bs D bl d w x21 x22 x23 x24 x25 x26 x27 x28 x29 x30 x31 x32 x33 x34 x35 x36 x37 x38 x39) (hd : d 9 = false) (hy : y = .slice (some ⟨b, off, none⟩) o.blocks.length ca) : S2 W q b off ca k cD V o v0 xm xl a1 bs D bl (fun j => if j = 9 then true else d j) w x21 x22 x23 x24 x25 x26 x27 x28 x29 y x31 x32 x33 x34 x35 x36 x37 x38 x39 := by
  refine ⟨h.lo, by simpa using h.c0, by simpa using h.c1, by simpa using h.c2, by simpa using h.c3, by simpa using h.c4, by simpa using h.c5, by simpa using h.c6, by simpa using h.c7, by simpa using h.c8, fun _ => hy, by simpa using h.c10, by simpa using h.c11, by simpa using h.c12, by simpa using h.c13, fun e => by obtain ⟨gr, e1, hq, hh⟩ := h.c14 (by simpa using e); exact ⟨gr, e1, hq, hh⟩, fun e => by obtain ⟨e1, e2, e3⟩ := h.c15 (by simpa using e); exact ⟨by simp [e1], by simp [e2], e3⟩, fun e => by obtain ⟨e1, e2⟩ := h.c16 (by simpa using e); exact ⟨by simp [e1], fun f => by obtain ⟨g, e3, hh⟩ := e2 (by simpa using f); exact ⟨g, e3, hh⟩⟩, fun e => by obtain ⟨e1, e2, e3, e4⟩ := h.c17 (by simpa using e); exact ⟨by simp [e1], by simp [e2], by simp [e3], e4⟩, by simpa using h.c18, fun e => by obtain ⟨e1, e2⟩ := h.c19 (by simpa using e); exact ⟨by simp [e1], e2⟩, fun e => (h.cbx (by simpa using e)), fun e => h.crow (by simpa using e), h.crm, h.cm, h.cl⟩
theorem S2.s10 {W q b off ca k cD : Nat} {V : World} {o : ObjP} {v0 xm xl : Value} {a1 : Int} {bs : List Int} {D : Option Addr} {bl : List (BlockP × Nat)} {d : Nat → Bool} {w : World} {x21 x22 x23 x24 x25 x26 x27 x28 x29 x30 x31 x32 x33 x34 x35 x36 x37 x38 x39 y : Value} (h : S2 W q b off ca k cD V o v0 xm xl a1 bs D bl d w x21 x22 x23 x24 x25 x26 x27 x28 x29 x30 x31 x32 x33 x34 x35 x36 x37 x38 x39) (hd : d 10 = false) (hy : y = .int .i64 k) : S2 W q b off ca k cD V o v0 xm xl a1 bs D bl (fun j => if j = 10 then true else d j) w x21 x22 x23 x24 x25 x26 x27 x28 x29 x30 y x32 x33 x34 x35 x36 x37 x38 x39 := by
  refine ⟨h.lo, by simpa using h.c0, by simpa using h.c1, by simpa using h.c2, by simpa using h.c3, by simpa using h.c4, by simpa using h.c5, by simpa using h.c6, by simpa using h.c7, by simpa using h.c8, by simpa using h.c9, fun _ => hy, by simpa using h.c11, by simpa using h.c12, by simpa using h.c13, fun e => by obtain ⟨gr, e1, hq, hh⟩ := h.c14 (by simpa using e); exact ⟨gr, e1, hq, hh⟩, fun e => by obtain ⟨e1, e2, e3⟩ := h.c15 (by simpa using e); exact ⟨by simp [e1], by simp [e2], e3⟩, fun e => by obtain ⟨e1, e2⟩ := h.c16 (by simpa using e); exact ⟨by simp [e1], fun f => by obtain ⟨g, e3, hh⟩ := e2 (by simpa using f); exact ⟨g, e3, hh⟩⟩, fun e => by obtain ⟨e1, e2, e3, e4⟩ := h.c17 (by simpa using e); exact ⟨by simp [e1], by simp [e2], by simp [e3], e4⟩, by simpa using h.c18, fun e => by obtain ⟨e1, e2⟩ := h.c19 (by simpa using e); exact ⟨by simp [e1], e2⟩, fun e => (h.cbx (by simpa using e)), fun e => h.crow (by simpa using e), h.crm, h.cm, h.cl⟩
theorem S2.s11 {W q b off ca k cD : Nat} {V : World} {o : ObjP} {v0 xm xl : Value} {a1 : Int} {bs : List Int} {D : Option Addr} {bl : List (BlockP × Nat)} {d : Nat → Bool} {w : World} {x21 x22 x23 x24 x25 x26 x27 x28 x29 x30 x31 x32 x33 x34 x35 x36 x37 x38 x39 y : Value} (h : S2 W q b off ca k cD V o v0 xm xl a1 bs D bl d w x21 x22 x23 x24 x25 x26 x27 x28 x29 x30 x31 x32 x33 x34 x35 x36 x37 x38 x39) (hd : d 11 = false) (hy : y = .pointer (some ⟨b, off + k * 2, none⟩)) : S2 W q b off ca k cD V o v0 xm xl a1 bs D bl (fun j => if j = 11 then true else d j) w x21 x22 x23 x24 x25 x26 x27 x28 x29 x30 x31 y x33 x34 x35 x36 x37 x38 x39 := by
  refine ⟨h.lo, by simpa using h.c0, by simpa using h.c1, by simpa using h.c2, by simpa using h.c3, by simpa using h.c4, by simpa using h.c5, by simpa using h.c6, by simpa using h.c7, by simpa using h.c8, by simpa using h.c9, by simpa using h.c10, fun _ => hy, by simpa using h.c12, by simpa using h.c13, fun e => by obtain ⟨gr, e1, hq, hh⟩ := h.c14 (by simpa using e); exact ⟨gr, e1, hq, hh⟩, fun e => by obtain ⟨e1, e2, e3⟩ := h.c15 (by simpa using e); exact ⟨by simp [e1], by simp [e2], e3⟩, fun e => by obtain ⟨e1, e2⟩ := h.c16 (by simpa using e); exact ⟨by simp [e1], fun f => by obtain ⟨g, e3, hh⟩ := e2 (by simpa using f); exact ⟨g, e3, hh⟩⟩, fun e => by obtain ⟨e1, e2, e3, e4⟩ := h.c17 (by simpa using e); exact ⟨by simp [e1], by simp [e2], by simp [e3], e4⟩, by simpa using h.c18, fun e => by obtain ⟨e1, e2⟩ := h.c19 (by simpa using e); exact ⟨by simp [e1], e2⟩, fun e => (h.cbx (by simpa using e)), fun e => h.crow (by simpa using e), h.crm, h.cm, h.cl⟩
theorem S2.s12 {W q b off ca k cD : Nat} {V : World} {o : ObjP} {v0 xm xl : Value} {a1 : Int} {bs : List Int} {D : Option Addr} {bl : List (BlockP × Nat)} {d : Nat → Bool} {w : World} {x21 x22 x23 x24 x25 x26 x27 x28 x29 x30 x31 x32 x33 x34 x35 x36 x37 x38 x39 y : Value} (h : S2 W q b off ca k cD V o v0 xm xl a1 bs D bl d w x21 x22 x23 x24 x25 x26 x27 x28 x29 x30 x31 x32 x33 x34 x35 x36 x37 x38 x39) (hd : d 12 = false) (hy : y = .pointer (some ⟨b, off + k * 2 + 1, none⟩)) : S2 W q b off ca k cD V o v0 xm xl a1 bs D bl (fun j => if j = 12 then true else d j) w x21 x22 x23 x24 x25 x26 x27 x28 x29 x30 x31 x32 y x34 x35 x36 x37 x38 x39 := by
  refine ⟨h.lo, by simpa using h.c0, by simpa using h.c1, by simpa using h.c2, by simpa using h.c3, by simpa using h.c4, by simpa using h.c5, by simpa using h.c6, by simpa using h.c7, by simpa using h.c8, by simpa using h.c9, by simpa using h.c10, by simpa using h.c11, fun _ => hy, by simpa using h.c13, fun e => by obtain ⟨gr, e1, hq, hh⟩ := h.c14 (by simpa using e); exact ⟨gr, e1, hq, hh⟩, fun e => by obtain ⟨e1, e2, e3⟩ := h.c15 (by simpa using e); exact ⟨by simp [e1], by simp [e2], e3⟩, fun e => by obtain ⟨e1, e2⟩ := h.c16 (by simpa using e); exact ⟨by simp [e1], fun f => by obtain ⟨g, e3, hh⟩ := e2 (by simpa using f); exact ⟨g, e3, hh⟩⟩, fun e => by obtain ⟨e1, e2, e3, e4⟩ := h.c17 (by simpa using e); exact ⟨by simp [e1], by simp [e2], by simp [e3], e4⟩, by simpa using h.c18, fun e => by obtain ⟨e1, e2⟩ := h.c19 (by simpa using e); exact ⟨by simp [e1], e2⟩, fun e => (h.cbx (by simpa using e)), fun e => h.crow (by simpa using e), h.crm, h.cm, h.cl⟩
theorem S2.s13 {W q b off ca k cD : Nat} {V : World} {o : ObjP} {v0 xm xl : Value} {a1 : Int} {bs : List Int} {D : Option Addr} {bl : List (BlockP × Nat)} {d : Nat → Bool} {w : World} {x21 x22 x23 x24 x25 x26 x27 x28 x29 x30 x31 x32 x33 x34 x35 x36 x37 x38 x39 y : Value} (h : S2 W q b off ca k cD V o v0 xm xl a1 bs D bl d w x21 x22 x23 x24 x25 x26 x27 x28 x29 x30 x31 x32 x33 x34 x35 x36 x37 x38 x39) (hd : d 13 = false) (hy : y = .slice D bs.length cD) : S2 W q b off ca k cD V o v0 xm xl a1 bs D bl (fun j => if j = 13 then true else d j) w x21 x22 x23 x24 x25 x26 x27 x28 x29 x30 x31 x32 x33 y x35 x36 x37 x38 x39 := by
  refine ⟨h.lo, by simpa using h.c0, by simpa using h.c1, by simpa using h.c2, by simpa using h.c3, by simpa using h.c4, by simpa using h.c5, by simpa using h.c6, by simpa using h.c7, by simpa using h.c8, by simpa using h.c9, by simpa using h.c10, by simpa using h.c11, by simpa using h.c12, fun _ => hy, fun e => by obtain ⟨gr, e1, hq, hh⟩ := h.c14 (by simpa using e); exact ⟨gr, e1, hq, hh⟩, fun e => by obtain ⟨e1, e2, e3⟩ := h.c15 (by simpa using e); exact ⟨by simp [e1], by simp [e2], e3⟩, fun e => by obtain ⟨e1, e2⟩ := h.c16 (by simpa using e); exact ⟨by simp [e1], fun f => by obtain ⟨g, e3, hh⟩ := e2 (by simpa using f); exact ⟨g, e3, hh⟩⟩, fun e => by obtain ⟨e1, e2, e3, e4⟩ := h.c17 (by simpa using e); exact ⟨by simp [e1], by simp [e2], by simp [e3], e4⟩, by simpa using h.c18, fun e => by obtain ⟨e1, e2⟩ := h.c19 (by simpa using e); exact ⟨by simp [e1], e2⟩, fun e => (h.cbx (by simpa using e)), fun e => h.crow (by simpa using e), h.crm, h.cm, h.cl⟩
theorem S2.s18 {W q b off ca k cD : Nat} {V : World} {o : ObjP} {v0 xm xl : Value} {a1 : Int} {bs : List Int} {D : Option Addr} {bl : List (BlockP × Nat)} {d : Nat → Bool} {w : World} {x21 x22 x23 x24 x25 x26 x27 x28 x29 x30 x31 x32 x33 x34 x35 x36 x37 x38 x39 y : Value} (h : S2 W q b off ca k cD V o v0 xm xl a1 bs D bl d w x21 x22 x23 x24 x25 x26 x27 x28 x29 x30 x31 x32 x33 x34 x35 x36 x37 x38 x39) (hd : d 18 = false) (hy : y = .pointer (some ⟨q, 0, none⟩)) : S2 W q b off ca k cD V o v0 xm xl a1 bs D bl (fun j => if j = 18 then true else d j) w x21 x22 x23 x24 x25 x26 x27 x28 x29 x30 x31 x32 x33 x34 x35 x36 x37 x38 y := by
  refine ⟨h.lo, by simpa using h.c0, by simpa using h.c1, by simpa using h.c2, by simpa using h.c3, by simpa using h.c4, by simpa using h.c5, by simpa using h.c6, by simpa using h.c7, by simpa using h.c8, by simpa using h.c9, by simpa using h.c10, by simpa using h.c11, by simpa using h.c12, by simpa using h.c13, fun e => by obtain ⟨gr, e1, hq, hh⟩ := h.c14 (by simpa using e); exact ⟨gr, e1, hq, hh⟩, fun e => by obtain ⟨e1, e2, e3⟩ := h.c15 (by simpa using e); exact ⟨by simp [e1], by simp [e2], e3⟩, fun e => by obtain ⟨e1, e2⟩ := h.c16 (by simpa using e); exact ⟨by simp [e1], fun f => by obtain ⟨g, e3, hh⟩ := e2 (by simpa using f); exact ⟨g, e3, hh⟩⟩, fun e => by obtain ⟨e1, e2, e3, e4⟩ := h.c17 (by simpa using e); exact ⟨by simp [e1], by simp [e2], by simp [e3], e4⟩, fun _ => hy, fun e => by obtain ⟨e1, e2⟩ := h.c19 (by simpa using e); exact ⟨by simp [e1], e2⟩, fun e => (h.cbx (by simpa using e)), fun e => h.crow (by simpa using e), h.crm, h.cm, h.cl⟩
theorem S2.s14 {W q b off ca k cD : Nat} {V : World} {o : ObjP} {v0 xm xl : Value} {a1 : Int} {bs : List Int} {D : Option Addr} {bl : List (BlockP × Nat)} {d : Nat → Bool} {w w' : World} {x21 x22 x23 x24 x25 x26 x27 x28 x29 x30 x31 x32 x33 x34 x35 x36 x37 x38 x39 y : Value} (h : S2 W q b off ca k cD V o v0 xm xl a1 bs D bl d w x21 x22 x23 x24 x25 x26 x27 x28 x29 x30 x31 x32 x33 x34 x35 x36 x37 x38 x39) (hd : d 14 = false) (h15 : d 15 = false) (h16 : d 16 = false) (h17 : d 17 = false) (hy : ∃ gr, y = .slice (some ⟨gr, 0, none⟩) bs.length (bs.length + 5) ∧ W + 2 ≤ gr ∧ w'.heap[gr]? = some (.cells (roomC bs).toArray 5 (0, 0))) (hk : Kp w w') (hlo : Below V.heap.size V w') : S2 W q b off ca k cD V o v0 xm xl a1 bs D bl (fun j => if j = 14 then true else d j) w' x21 x22 x23 x24 x25 x26 x27 x28 x29 x30 x31 x32 x33 x34 y x36 x37 x38 x39 := by
  refine ⟨hlo, by simpa using h.c0, by simpa using h.c1, by simpa using h.c2, by simpa using h.c3, by simpa using h.c4, by simpa using h.c5, by simpa using h.c6, by simpa using h.c7, by simpa using h.c8, by simpa using h.c9, by simpa using h.c10, by simpa using h.c11, by simpa using h.c12, by simpa using h.c13, fun _ => hy, fun a => absurd (by simpa using a) (by simp [h15]), fun a => absurd (by simpa using a) (by simp [h16]), fun a => absurd (by simpa using a) (by simp [h17]), by simpa using h.c18, fun e => by obtain ⟨e1, e2⟩ := h.c19 (by simpa using e); exact ⟨by simp [e1], (hk _ _ _) e2⟩, fun e => (hk _ _ _) (h.cbx (by simpa using e)), fun e => own_kp (h.crow (by simpa using e)) (hk _ _ _), fun x hx => ⟨(h.crm x hx).1, (hk _ _ _) (h.crm x hx).2⟩, own_kp h.cm (hk _ _ _), own_kp h.cl (hk _ _ _)⟩
theorem S2.s15 {W q b off ca k cD : Nat} {V : World} {o : ObjP} {v0 xm xl : Value} {a1 : Int} {bs : List Int} {D : Option Addr} {bl : List (BlockP × Nat)} {d : Nat → Bool} {w : World} {x21 x22 x23 x24 x25 x26 x27 x28 x29 x30 x31 x32 x33 x34 x35 x36 x37 x38 x39 y : Value} (h : S2 W q b off ca k cD V o v0 xm xl a1 bs D bl d w x21 x22 x23 x24 x25 x26 x27 x28 x29 x30 x31 x32 x33 x34 x35 x36 x37 x38 x39) (hd : d 15 = false) (h7 : d 7 = true) (h14 : d 14 = true) (hy : y = .agg #[.int .i64 a1, x35]) : S2 W q b off ca k cD V o v0 xm xl a1 bs D bl (fun j => if j = 15 then true else d j) w x21 x22 x23 x24 x25 x26 x27 x28 x29 x30 x31 x32 x33 x34 x35 y x37 x38 x39 := by
  refine ⟨h.lo, by simpa using h.c0, by simpa using h.c1, by simpa using h.c2, by simpa using h.c3, by simpa using h.c4, by simpa using h.c5, by simpa using h.c6, by simpa using h.c7, by simpa using h.c8, by simpa using h.c9, by simpa using h.c10, by simpa using h.c11, by simpa using h.c12, by simpa using h.c13, fun e => by obtain ⟨gr, e1, hq, hh⟩ := h.c14 (by simpa using e); exact ⟨gr, e1, hq, hh⟩, fun _ => ⟨by simpa using h7, by simpa using h14, hy⟩, fun e => by obtain ⟨e1, e2⟩ := h.c16 (by simpa using e); exact ⟨by simp [e1], fun f => by obtain ⟨g, e3, hh⟩ := e2 (by simpa using f); exact ⟨g, e3, hh⟩⟩, fun e => by obtain ⟨e1, e2, e3, e4⟩ := h.c17 (by simpa using e); exact ⟨by simp [e1], by simp [e2], by simp [e3], e4⟩, by simpa using h.c18, fun e => by obtain ⟨e1, e2⟩ := h.c19 (by simpa using e); exact ⟨by simp [e1], e2⟩, fun e => (h.cbx (by simpa using e)), fun e => h.crow (by simpa using e), h.crm, h.cm, h.cl⟩
theorem S2.s16 {W q b off ca k cD : Nat} {V : World} {o : ObjP} {v0 xm xl : Value} {a1 : Int} {bs : List Int} {D : Option Addr} {bl : List (BlockP × Nat)} {d : Nat → Bool} {w w' : World} {x21 x22 x23 x24 x25 x26 x27 x28 x29 x30 x31 x32 x33 x34 x35 x36 x37 x38 x39 y : Value} (h : S2 W q b off ca k cD V o v0 xm xl a1 bs D bl d w x21 x22 x23 x24 x25 x26 x27 x28 x29 x30 x31 x32 x33 x34 x35 x36 x37 x38 x39) (hd : d 16 = false) (h14 : d 14 = true) (hy : ∃ h, y = .slice (some ⟨h, 0, none⟩) 1 1 ∧ w'.heap[h]? = some (.cells #[.int .i64 a1, x35] 41 (0, 0))) (hk : Kp w w') (hlo : Below V.heap.size V w') : S2 W q b off ca k cD V o v0 xm xl a1 bs D bl (fun j => if j = 16 then true else d j) w' x21 x22 x23 x24 x25 x26 x27 x28 x29 x30 x31 x32 x33 x34 x35 x36 y x38 x39 := by
  refine ⟨hlo, by simpa using h.c0, by simpa using h.c1, by simpa using h.c2, by simpa using h.c3, by simpa using h.c4, by simpa using h.c5, by simpa using h.c6, by simpa using h.c7, by simpa using h.c8, by simpa using h.c9, by simpa using h.c10, by simpa using h.c11, by simpa using h.c12, by simpa using h.c13, fun e => by obtain ⟨gr, e1, hq, hh⟩ := h.c14 (by simpa using e); exact ⟨gr, e1, hq, (hk _ _ _) hh⟩, fun e => by obtain ⟨e1, e2, e3⟩ := h.c15 (by simpa using e); exact ⟨by simp [e1], by simp [e2], e3⟩, fun _ => ⟨by simpa using h14, fun _ => hy⟩, fun e => by obtain ⟨e1, e2, e3, e4⟩ := h.c17 (by simpa using e); exact ⟨by simp [e1], by simp [e2], by simp [e3], own_kp e4 (hk _ _ _)⟩, by simpa using h.c18, fun e => by obtain ⟨e1, e2⟩ := h.c19 (by simpa using e); exact ⟨by simp [e1], (hk _ _ _) e2⟩, fun e => (hk _ _ _) (h.cbx (by simpa using e)), fun e => own_kp (h.crow (by simpa using e)) (hk _ _ _), fun x hx => ⟨(h.crm x hx).1, (hk _ _ _) (h.crm x hx).2⟩, own_kp h.cm (hk _ _ _), own_kp h.cl (hk _ _ _)⟩
theorem S2.s17 {W q b off ca k cD : Nat} {V : World} {o : ObjP} {v0 xm xl : Value} {a1 : Int} {bs : List Int} {D : Option Addr} {bl : List (BlockP × Nat)} {d : Nat → Bool} {w w' : World} {x21 x22 x23 x24 x25 x26 x27 x28 x29 x30 x31 x32 x33 x34 x35 x36 x37 x38 x39 y : Value} (h : S2 W q b off ca k cD V o v0 xm xl a1 bs D bl d w x21 x22 x23 x24 x25 x26 x27 x28 x29 x30 x31 x32 x33 x34 x35 x36 x37 x38 x39) (hd : d 17 = false) (h1 : d 1 = true) (h14 : d 14 = true) (h16 : d 16 = true) (h19 : d 19 = false) (hy : w'.ownsRow (W + 2) 41 2 y (bl.length + 1) (blC bl ++ [.int .i64 a1, x35])) (hk : KpT 41 w w') (hlo : Below V.heap.size V w') : S2 W q b off ca k cD V o v0 xm xl a1 bs D bl (fun j => if j = 17 then true else d j) w' x21 x22 x23 x24 x25 x26 x27 x28 x29 x30 x31 x32 x33 x34 x35 x36 x37 y x39 := by
  refine ⟨hlo, by simpa using h.c0, by simpa using h.c1, by simpa using h.c2, by simpa using h.c3, by simpa using h.c4, by simpa using h.c5, by simpa using h.c6, by simpa using h.c7, by simpa using h.c8, by simpa using h.c9, by simpa using h.c10, by simpa using h.c11, by simpa using h.c12, by simpa using h.c13, fun e => by obtain ⟨gr, e1, hq, hh⟩ := h.c14 (by simpa using e); exact ⟨gr, e1, hq, (hk _ _ _ (by decide)) hh⟩, fun e => by obtain ⟨e1, e2, e3⟩ := h.c15 (by simpa using e); exact ⟨by simp [e1], by simp [e2], e3⟩, fun _ => ⟨by simpa using h14, fun b => absurd b (by simp)⟩, fun _ => ⟨by simpa using h1, by simpa using h14, by simpa using h16, hy⟩, by simpa using h.c18, fun a => absurd (by simpa using a) (by simp [h19]), fun e => (hk _ _ _ (by decide)) (h.cbx (by simpa using e)), fun b => absurd b (by simp), fun x hx => ⟨(h.crm x hx).1, (hk _ _ _ (by decide)) (h.crm x hx).2⟩, own_kp h.cm (hk _ _ _ (by decide)), own_kp h.cl (hk _ _ _ (by decide))⟩
theorem S2.s19 {W q b off ca k cD : Nat} {V : World} {o : ObjP} {v0 xm xl : Value} {a1 : Int} {bs : List Int} {D : Option Addr} {bl : List (BlockP × Nat)} {d : Nat → Bool} {w w' : World} {x21 x22 x23 x24 x25 x26 x27 x28 x29 x30 x31 x32 x33 x34 x35 x36 x37 x38 x39 : Value} (h : S2 W q b off ca k cD V o v0 xm xl a1 bs D bl d w x21 x22 x23 x24 x25 x26 x27 x28 x29 x30 x31 x32 x33 x34 x35 x36 x37 x38 x39) (hd : d 19 = false) (h17 : d 17 = true) (hy : w'.heap[q]? = some (.cells #[x38, xm, xl] 26 (0, 0))) (hk : KpT 26 w w') (hlo : Below V.heap.size V w') : S2 W q b off ca k cD V o v0 xm xl a1 bs D bl (fun j => if j = 19 then true else d j) w' x21 x22 x23 x24 x25 x26 x27 x28 x29 x30 x31 x32 x33 x34 x35 x36 x37 x38 x39 := by
  refine ⟨hlo, by simpa using h.c0, by simpa using h.c1, by simpa using h.c2, by simpa using h.c3, by simpa using h.c4, by simpa using h.c5, by simpa using h.c6, by simpa using h.c7, by simpa using h.c8, by simpa using h.c9, by simpa using h.c10, by simpa using h.c11, by simpa using h.c12, by simpa using h.c13, fun e => by obtain ⟨gr, e1, hq, hh⟩ := h.c14 (by simpa using e); exact ⟨gr, e1, hq, (hk _ _ _ (by decide)) hh⟩, fun e => by obtain ⟨e1, e2, e3⟩ := h.c15 (by simpa using e); exact ⟨by simp [e1], by simp [e2], e3⟩, fun e => by obtain ⟨e1, e2⟩ := h.c16 (by simpa using e); exact ⟨by simp [e1], fun f => by obtain ⟨g, e3, hh⟩ := e2 (by simpa using f); exact ⟨g, e3, (hk _ _ _ (by decide)) hh⟩⟩, fun e => by obtain ⟨e1, e2, e3, e4⟩ := h.c17 (by simpa using e); exact ⟨by simp [e1], by simp [e2], by simp [e3], own_kp e4 (hk _ _ _ (by decide))⟩, by simpa using h.c18, fun _ => ⟨by simpa using h17, hy⟩, fun b => absurd b (by simp), fun e => own_kp (h.crow (by simpa using e)) (hk _ _ _ (by decide)), fun x hx => ⟨(h.crm x hx).1, (hk _ _ _ (by decide)) (h.crm x hx).2⟩, own_kp h.cm (hk _ _ _ (by decide)), own_kp h.cl (hk _ _ _ (by decide))⟩
def A2 (W q b off ca k cb cc : Nat) (B C : Option Addr) (o : ObjP) (xm xl z5 z6 z7 z9 z10 z11 z13 y19 y20 x21 x22 x23 x24 x25 x26 x27 x28 x29 x30 x31 x32 x33 x34 x35 x36 x37 x38 x39 : Value) : Act := ⟨#[(.agg #[.slice (some ⟨b, off, none⟩) o.blocks.length ca, .slice B o.marks.length cb, .slice C o.labels.length cc]), (.pointer (some ⟨W, 0, none⟩)), (.pointer (some ⟨W + 1, 0, none⟩)), (.pointer (some ⟨q, 0, none⟩)), (.int .i64 k), z5, z6, z7, xm, z9, z10, z11, xl, z13, (.int .i64 k), (.pointer (some ⟨W, 0, none⟩)), (.slice (some ⟨b, off, none⟩) o.blocks.length ca), (.int .i64 o.blocks.length), (.bool true), y19, y20, x21, x22, x23, x24, x25, x26, x27, x28, x29, x30, x31, x32, x33, x34, x35, x36, x37, x38, x39, undef], []⟩
def R2 (cb cc : Nat) (B C : Option Addr) (z5 z6 z7 z9 z10 z11 z13 y19 y20 : Value) (W q b off ca k cD : Nat) (V : World) (o : ObjP) (v0 xm xl : Value) (a1 : Int) (bs : List Int) (D : Option Addr) (bl : List (BlockP × Nat)) (d : Nat → Bool) (a : Act) (w : World) : Prop := ∃ x21 x22 x23 x24 x25 x26 x27 x28 x29 x30 x31 x32 x33 x34 x35 x36 x37 x38 x39, a = A2 W q b off ca k cb cc B C o xm xl z5 z6 z7 z9 z10 z11 z13 y19 y20 x21 x22 x23 x24 x25 x26 x27 x28 x29 x30 x31 x32 x33 x34 x35 x36 x37 x38 x39 ∧ S2 W q b off ca k cD V o v0 xm xl a1 bs D bl d w x21 x22 x23 x24 x25 x26 x27 x28 x29 x30 x31 x32 x33 x34 x35 x36 x37 x38 x39
theorem kp_alloc (w : World) (O : Obj) : Kp w (w.alloc O) := fun k cs t h => heapB' (belowA O) h
theorem kpT_grown {w w' : World} {B size n : Nat} {e : TypeId} {v : Value} {xs : List Value} (h : w.ownsRow B e size v n xs) (hg : w.grownBy w' v.ownBlock) : KpT e w w' := fun k cs t ht hk => by
  rw [hg.block k (blk_lt hk) (fun e2 => own_blk h hk (fun e3 => ht e3.symm) e2.symm)]; exact hk
theorem kpT_set {w : World} {q : Nat} {cs : Array Value} {e : TypeId} (h : w.heap[q]? = some (.cells cs e (0, 0))) (i : Nat) (v : Value) : KpT e w (w.setCell ⟨q, i, none⟩ v) := fun k c t ht hk => by
  have hkq : k ≠ q := fun e2 => by subst e2; rw [h] at hk; injection hk with hk; injection hk with _ hk; exact ht hk.symm
  rw [Below.heap_setCell _ _ _ _ hkq]; exact hk
theorem set_shape {w : World} {g : Nat} {cs : Array Value} {t : TypeId} (h : w.heap[g]? = some (.cells cs t (0, 0))) (i : Nat) (v : Value) : (w.setCell ⟨g, i, none⟩ v).heap[g]? = some (.cells (cs.setIfInBounds i v) t (0, 0)) := by
  simp [World.setCell, Array.getElem?_modify, h]
theorem kpT_set3 {w : World} {q : Nat} {cs : Array Value} {e : TypeId} (h : w.heap[q]? = some (.cells cs e (0, 0))) (x y z : Value) : KpT e w (((w.setCell ⟨q, 0, none⟩ x).setCell ⟨q, 1, none⟩ y).setCell ⟨q, 2, none⟩ z) := fun k c t ht hk =>
  kpT_set (set_shape (set_shape h 0 x) 1 y) 2 z k c t ht (kpT_set (set_shape h 0 x) 1 y k c t ht (kpT_set h 0 x k c t ht hk))
theorem own_slice {w : World} {B size n : Nat} {e : TypeId} {v : Value} {xs : List Value} (h : w.ownsRow B e size v n xs) : ∃ A c, v = .slice A n c := by
  rcases h.2 with ⟨rfl, rfl⟩ | ⟨g, cap, cur, rfl, _⟩
  · exact ⟨_, _, rfl⟩
  · exact ⟨_, _, rfl⟩
theorem blC_at : ∀ (l : List (BlockP × Nat)) (i : Nat) (h : i < l.length), (blC l)[i * 2]? = some (.int .i64 l[i].1.at_) ∧ (blC l)[i * 2 + 1]? = some (.slice (some ⟨l[i].2, 0, none⟩) l[i].1.bytes.length (l[i].1.bytes.length + 5))
  | [], i, h => absurd h (by simp)
  | x :: l, 0, _ => ⟨rfl, rfl⟩
  | x :: l, i + 1, h => by
    have ih := blC_at l i (by simpa using h)
    have e : blC (x :: l) = [.int .i64 x.1.at_, .slice (some ⟨x.2, 0, none⟩) x.1.bytes.length (x.1.bytes.length + 5)] ++ blC l := rfl
    rw [e, show (i + 1) * 2 = 2 + i * 2 by omega, show 2 + i * 2 + 1 = 2 + (i * 2 + 1) by omega, List.getElem?_append_right (by simp), List.getElem?_append_right (by simp)]
    simpa using ih
/-- Blocks with marked room behind their bytes. -/
def RoomO (w : World) (A : Option Addr) (l : List (BlockP × Nat)) : Prop := 0 < l.length → ∃ g, A = some ⟨g, 0, none⟩ ∧ ∀ (i : Nat) (h : i < l.length), w.cell? ⟨g, i * 2, none⟩ = some (.int .i64 l[i].1.at_) ∧ w.cell? ⟨g, i * 2 + 1, none⟩ = some (.slice (some ⟨l[i].2, 0, none⟩) l[i].1.bytes.length (l[i].1.bytes.length + 5)) ∧ w.heap[l[i].2]? = some (.cells (roomC l[i].1.bytes).toArray 5 (0, 0))
def OwnPost (w : World) (o : ObjP) (e : Ending) (w' : World) : Prop := ∃ (A B C : Option Addr) (ca cb cc : Nat) (bl : List (BlockP × Nat)), e = .returned (.agg #[.slice A o.blocks.length ca, .slice B o.marks.length cb, .slice C o.labels.length cc]) ∧ bl.map Prod.fst = o.blocks ∧ RoomO w' A bl ∧ RdMk w' B o.marks ∧ RdLb w' C o.labels ∧ Below w.heap.size w w'
theorem row_room {w : World} {B : Nat} {A : Option Addr} {c : Nat} {l : List (BlockP × Nat)} (h : w.ownsRow B 41 2 (.slice A l.length c) l.length (blC l)) (hr : ∀ x ∈ l, B ≤ x.2 ∧ w.heap[x.2]? = some (.cells (roomC x.1.bytes).toArray 5 (0, 0))) : RoomO w A l := fun h0 => by
  obtain ⟨g, cap, e, _, _⟩ := h.form h0
  injection e with e1 _ e2
  subst e1; subst e2
  refine ⟨g, rfl, fun i hi => ?_⟩
  have hcell := World.ownsRow.cells h (g := g) rfl
  obtain ⟨a1, a2⟩ := blC_at l i hi
  have e : ∀ i, (⟨g, 0, none⟩ : Addr).add i = ⟨g, i, none⟩ := fun i => by unfold Addr.add; by_cases h : i = 0 <;> simp [h]
  have b1 := hcell _ _ a1
  have b2 := hcell _ _ a2
  rw [e] at b1 b2
  exact ⟨b1, b2, (hr _ (List.getElem_mem hi)).2⟩
structure OwnI (W q : Nat) (V : World) (o : ObjP) (v xm xl : Value) (bl : List (BlockP × Nat)) (w : World) : Prop where
  lo : Below V.heap.size V w
  bx : w.heap[q]? = some (.cells #[v, xm, xl] 26 (0, 0))
  row : w.ownsRow (W + 2) 41 2 v bl.length (blC bl)
  rm : ∀ x ∈ bl, W + 2 ≤ x.2 ∧ w.heap[x.2]? = some (.cells (roomC x.1.bytes).toArray 5 (0, 0))
  m : MkL w (W + 2) xm o.marks
  l : LbL w (W + 2) xl o.labels
set_option maxHeartbeats 8000000 in
set_option maxRecDepth 100000 in
theorem law_own (w : World) (A B C : Option Addr) (ca cb cc : Nat) (o : ObjP) (ok : ObjOK o) (R : RdO w A B C o) : Calls Tryz.prog 5 #[.agg #[.slice A o.blocks.length ca, .slice B o.marks.length cb, .slice C o.labels.length cc]] w (OwnPost w o) := by
  obtain ⟨m0, hm0, hm1, hm2, hm3⟩ := info_parts infoMark
  obtain ⟨l0, hl0, hl1, hl2, hl3⟩ := info_parts infoLabel
  obtain ⟨b0, hb0, hb1, hb2, hb3⟩ := info_parts infoBlock
  have nb := ok.nb
  have nm := ok.nm
  have nl := ok.nl
  unfold big at nb nm nl
  have hV0 := belowA (w := w) (.cells #[.slice A o.blocks.length ca, .slice B o.marks.length cb, .slice C o.labels.length cc] 26)
  have hV1 := belowA (w := w.alloc (.cells #[.slice A o.blocks.length ca, .slice B o.marks.length cb, .slice C o.labels.length cc] 26)) (.cells #[.slice none 0 0, .slice none 0 0, .slice none 0 0] 26)
  have hV := hV0.trans (hV1.mono hV0.size)
  have RV := R.below hV
  have k0 := heapB' hV1 (heap_alloc_new w (.cells #[.slice A o.blocks.length ca, .slice B o.marks.length cb, .slice C o.labels.length cc] 26))
  have k1 := heap_new1 w (.cells #[.slice A o.blocks.length ca, .slice B o.marks.length cb, .slice C o.labels.length cc] 26) (.cells #[.slice none 0 0, .slice none 0 0, .slice none 0 0] 26)
  go_enter Tryz.func5, Tryz.ntmps5
  go_upto_region 1 with fail
  have hVz : ((w.alloc (.cells #[.slice A o.blocks.length ca, .slice B o.marks.length cb, .slice C o.labels.length cc] 26)).alloc (.cells #[.slice none 0 0, .slice none 0 0, .slice none 0 0] 26)).heap.size = w.heap.size + 2 := by simp
  generalize (w.alloc (.cells #[.slice A o.blocks.length ca, .slice B o.marks.length cb, .slice C o.labels.length cc] 26)).alloc (.cells #[.slice none 0 0, .slice none 0 0, .slice none 0 0] 26) = V at *
  have HVZ := Lib.hid hVz
  clear hVz hV0 hV1
  refine region_inv (by kernel_rfl) (by kernel_rfl) (R1 w.heap.size V A B C ca cb cc o) ?_ ?_ ?_
  · exact ⟨undef, undef, undef, undef, undef, undef, undef, undef, undef, undef, rfl, (Below.refl _ _).drew, by simp, by simp, by simp, by simp, by simp, by simp, by simp, by simp, by simp, by simp, by simp⟩
  · rintro d i op a wr ho hd hp ⟨x3, x5, x6, x7, x8, x9, x10, x11, x12, x13, rfl, h⟩
    have hz : w.heap.size + 2 ≤ wr.heap.size := by have := h.lo.size; have := HVZ.out; omega
    obtain ⟨K, HK⟩ : ∃ K, Hid (R1 w.heap.size V A B C ca cb cc o (fun j => if j = i then true else d j) = K) := ⟨_, Lib.hid rfl⟩
    rw [HK.out]
    unfold A1
    match i, hd, ho, HK with
    | 0, hd, ho, HK =>
      have ho' := ho
      simp only [List.getElem?_cons_zero, Option.some.injEq] at ho
      subst ho
      refine wpOp_of (by rw [List.getElem?_toArray]; exact ho') rfl ?_
      clear ho'
      go_simp
      rw [← HK.out]
      exact ⟨x3, _, x6, x7, x8, x9, x10, x11, x12, x13, rfl, h.s0 hd (own_empty _ _ _ _ (by omega)) (kp_alloc _ _) (h.lo.alloc h.lo.size _)⟩
    | 1, hd, ho, HK =>
      have ho' := ho
      simp only [List.getElem?_cons_succ, List.getElem?_cons_zero, Option.some.injEq] at ho
      subst ho
      refine wpOp_of (by rw [List.getElem?_toArray]; exact ho') rfl ?_
      clear ho'
      go_simp
      rw [← HK.out]
      exact ⟨x3, x5, _, x7, x8, x9, x10, x11, x12, x13, rfl, h.s1 hd rfl⟩
    | 2, hd, ho, HK =>
      have ho' := ho
      simp only [List.getElem?_cons_succ, List.getElem?_cons_zero, Option.some.injEq] at ho
      subst ho
      refine wpOp_of (by rw [List.getElem?_toArray]; exact ho') rfl ?_
      clear ho'
      have p1 : d 1 = true := hp { on := 1, ground := .data } (by simp) rfl
      obtain rfl := h.c1 p1
      have c := cellB h.lo (blk_cell (i := 1) k0 rfl)
      go_simp
      rw [← HK.out]
      exact ⟨x3, x5, _, _, x8, x9, x10, x11, x12, x13, rfl, h.s2 hd rfl⟩
    | 3, hd, ho, HK =>
      have ho' := ho
      simp only [List.getElem?_cons_succ, List.getElem?_cons_zero, Option.some.injEq] at ho
      subst ho
      refine wpOp_of (by rw [List.getElem?_toArray]; exact ho') rfl ?_
      clear ho'
      have p0 : d 0 = true := hp { on := 0, ground := .data } (by simp) rfl
      have p2 : d 2 = true := hp { on := 2, ground := .data } (by simp) rfl
      obtain rfl := h.c2 p2
      have h8 : d 8 = false := by
        cases e : d 8 with
        | false => rfl
        | true => exact absurd (h.c8 e).1 (by rw [hd]; simp)
      have h10 : d 10 = false := by
        cases e : d 10 with
        | false => rfl
        | true => exact absurd (h.c10 e).1 (by rw [hd]; simp)
      have hown := h.c0 p0 hd
      refine wp_append_src wr (.tmp 5) (.tmp 7) 23 rfl (w.heap.size + 2) 54 m0 _ 3 24 Tryz.underlying23 hm0 hm1 hm2 hm3 rfl (by decide) x5 0 [] rfl hown B o.marks.length cb (mkC o.marks) rfl ((RV.m.below h.lo).src) (mkC_one _) (by unfold maxLen; omega) (by omega) (by omega) ?_
      intro v' w' h1 h2 _
      rw [Nat.zero_add, List.nil_append] at h1
      rw [← HK.out]
      exact ⟨x3, x5, x6, _, _, x9, x10, x11, x12, x13, rfl, h.s3 hd h8 h10 h1 (kpT_grown hown h2) (h.lo.trans ((Below.refl _ _).grown h2 h.lo.size (fun q hq => by have := (hown.lt q hq).1; have := HVZ.out; omega)))⟩
    | 4, hd, ho, HK =>
      have ho' := ho
      simp only [List.getElem?_cons_succ, List.getElem?_cons_zero, Option.some.injEq] at ho
      subst ho
      refine wpOp_of (by rw [List.getElem?_toArray]; exact ho') rfl ?_
      clear ho'
      go_simp
      rw [← HK.out]
      exact ⟨x3, x5, x6, x7, x8, _, x10, x11, x12, x13, rfl, h.s4 hd (own_empty _ _ _ _ (by omega)) (kp_alloc _ _) (h.lo.alloc h.lo.size _)⟩
    | 5, hd, ho, HK =>
      have ho' := ho
      simp only [List.getElem?_cons_succ, List.getElem?_cons_zero, Option.some.injEq] at ho
      subst ho
      refine wpOp_of (by rw [List.getElem?_toArray]; exact ho') rfl ?_
      clear ho'
      go_simp
      rw [← HK.out]
      exact ⟨x3, x5, x6, x7, x8, x9, _, x11, x12, x13, rfl, h.s5 hd rfl⟩
    | 6, hd, ho, HK =>
      have ho' := ho
      simp only [List.getElem?_cons_succ, List.getElem?_cons_zero, Option.some.injEq] at ho
      subst ho
      refine wpOp_of (by rw [List.getElem?_toArray]; exact ho') rfl ?_
      clear ho'
      have p5 : d 5 = true := hp { on := 5, ground := .data } (by simp) rfl
      obtain rfl := h.c5 p5
      have c := cellB h.lo (blk_cell (i := 2) k0 rfl)
      go_simp
      rw [← HK.out]
      exact ⟨x3, x5, x6, x7, x8, x9, _, _, x12, x13, rfl, h.s6 hd rfl⟩
    | 7, hd, ho, HK =>
      have ho' := ho
      simp only [List.getElem?_cons_succ, List.getElem?_cons_zero, Option.some.injEq] at ho
      subst ho
      refine wpOp_of (by rw [List.getElem?_toArray]; exact ho') rfl ?_
      clear ho'
      have p4 : d 4 = true := hp { on := 4, ground := .data } (by simp) rfl
      have p6 : d 6 = true := hp { on := 6, ground := .data } (by simp) rfl
      obtain rfl := h.c6 p6
      have h8 : d 8 = false := by
        cases e : d 8 with
        | false => rfl
        | true => exact absurd (h.c8 e).2.1 (by rw [hd]; simp)
      have h10 : d 10 = false := by
        cases e : d 10 with
        | false => rfl
        | true => exact absurd (h.c10 e).2.1 (by rw [hd]; simp)
      have hown := h.c4 p4 hd
      refine wp_append_src wr (.tmp 9) (.tmp 11) 24 rfl (w.heap.size + 2) 57 l0 _ 2 24 Tryz.underlying24 hl0 hl1 hl2 hl3 rfl (by decide) x9 0 [] rfl hown C o.labels.length cc (lbC o.labels) rfl ((RV.l.below h.lo).src) (lbC_one _) (by unfold maxLen; omega) (by omega) (by omega) ?_
      intro v' w' h1 h2 _
      rw [Nat.zero_add, List.nil_append] at h1
      rw [← HK.out]
      exact ⟨x3, x5, x6, x7, x8, x9, x10, _, _, x13, rfl, h.s7 hd h8 h10 h1 (kpT_grown hown h2) (h.lo.trans ((Below.refl _ _).grown h2 h.lo.size (fun q hq => by have := (hown.lt q hq).1; have := HVZ.out; omega)))⟩
    | 8, hd, ho, HK =>
      have ho' := ho
      simp only [List.getElem?_cons_succ, List.getElem?_cons_zero, Option.some.injEq] at ho
      subst ho
      refine wpOp_of (by rw [List.getElem?_toArray]; exact ho') rfl ?_
      clear ho'
      have p3 : d 3 = true := hp { on := 3, ground := .data } (by simp) rfl
      have p7 : d 7 = true := hp { on := 7, ground := .data } (by simp) rfl
      obtain ⟨A8, c8, rfl, _⟩ := (h.c3 p3).rd
      obtain ⟨A12, c12, rfl, _⟩ := (h.c7 p7).rd
      go_simp
      rw [← HK.out]
      exact ⟨x3, x5, x6, x7, _, x9, x10, x11, _, _, rfl, h.s8 hd p3 p7 rfl⟩
    | 9, hd, ho, HK =>
      have ho' := ho
      simp only [List.getElem?_cons_succ, List.getElem?_cons_zero, Option.some.injEq] at ho
      subst ho
      refine wpOp_of (by rw [List.getElem?_toArray]; exact ho') rfl ?_
      clear ho'
      have h10 : d 10 = false := by
        cases e : d 10 with
        | false => rfl
        | true => exact absurd (h.c10 e).2.2.1 (by rw [hd]; simp)
      go_simp
      rw [← HK.out]
      exact ⟨_, x5, x6, x7, x8, x9, x10, x11, x12, x13, rfl, h.s9 hd h10 ⟨wr.heap.size, rfl, hz, heap_alloc_new _ _⟩ (kp_alloc _ _) (h.lo.alloc h.lo.size _)⟩
    | 10, hd, ho, HK =>
      have ho' := ho
      simp only [List.getElem?_cons_succ, List.getElem?_cons_zero, Option.some.injEq] at ho
      subst ho
      refine wpOp_of (by rw [List.getElem?_toArray]; exact ho') rfl ?_
      clear ho'
      have p8 : d 8 = true := hp { on := 8, ground := .data } (by simp) rfl
      have p9 : d 9 = true := hp { on := 9, ground := .data } (by simp) rfl
      obtain ⟨p3, p7, rfl⟩ := h.c8 p8
      obtain ⟨q, rfl, hq, hh⟩ := h.c9 p9 hd
      obtain ⟨A8, c8, rfl, _⟩ := (h.c3 p3).rd
      obtain ⟨A12, c12, rfl, _⟩ := (h.c7 p7).rd
      have y0 := blk_cell (i := 0) hh rfl
      have y1 := blk_cell (i := 1) hh rfl
      have y2 := blk_cell (i := 2) hh rfl
      have f0 := blk_frozen (i := 0) hh
      have f1 := blk_frozen (i := 1) hh
      have f2 := blk_frozen (i := 2) hh
      have hql := blk_lt hh
      have HH := Lib.hid hh
      clear hh
      go_simp
      rw [← HK.out]
      have hqV : V.heap.size ≤ q := by have := HVZ.out; omega
      exact ⟨_, x5, x6, x7, _, x9, x10, x11, _, _, rfl, h.s10 hd p3 p7 p9 ⟨q, rfl, hq, set_shape (set_shape (set_shape HH.out 0 _) 1 _) 2 _⟩ (kpT_set3 HH.out _ _ _) (((h.lo.setCell hqV _).setCell hqV _).setCell hqV _)⟩
    | i + 11, hd, ho, HK => simp at ho
  · rintro d a wr hall ⟨x3, x5, x6, x7, x8, x9, x10, x11, x12, x13, rfl, h⟩
    obtain ⟨p3, p7, p9, q, rfl, hq, hh⟩ := h.c10 (hall 10 (by decide))
    have hm := h.c3 p3
    have hl := h.c7 p7
    have lo := h.lo
    clear h hall
    unfold A1
    go_wp2
    have I0 : OwnI w.heap.size q V o (.slice none 0 0) x8 x12 [] wr := ⟨lo, hh, World.ownsRow_nil _ _ _ _, by simp, hm, hl⟩
    clear lo hh hm hl p3 p7 p9 R
    have hqV : V.heap.size ≤ q := by have := HVZ.out; omega
    go_loopw [4, 19, 20] (fun i t19 t20 wr => ∃ (k : Nat) (bl : List (BlockP × Nat)) (v y19 y20 : Value), i = .int .i64 k ∧ y19 = t19 ∧ y20 = t20 ∧ k ≤ o.blocks.length ∧ bl.length = k ∧ bl.map Prod.fst = o.blocks.take k ∧ OwnI w.heap.size q V o v x8 x12 bl wr) (fun i _ _ _ => o.blocks.length - (intOf i).toNat)
    case atStart => exact ⟨0, [], _, _, _, rfl, rfl, rfl, Nat.zero_le _, rfl, rfl, I0⟩
    case round =>
      clear I0
      obtain ⟨k, bl, v, y19, y20, rfl, rfl, rfl, hk, hbl, hmap, I⟩ := hrel
      have y0 := cellB I.lo (blk_cell (i := 0) k0 rfl)
      by_cases hlt : k < o.blocks.length
      · have hki : (k : Int) < o.blocks.length := by omega
        have hk0 : (0 : Int) ≤ k := by omega
        obtain ⟨b, off, hA, hr⟩ := RV.b (by omega)
        subst hA
        obtain ⟨c0, D, cD, c1, RD, hcD⟩ := hr k hlt
        obtain ⟨_, bo, bn⟩ := ok.bs k hlt
        unfold big at bn
        have HX := Lib.hid (show o.blocks[k] = ⟨o.blocks[k].at_, o.blocks[k].bytes⟩ from rfl)
        generalize o.blocks[k].at_ = a1 at *
        generalize o.blocks[k].bytes = bs at *
        have HM := Lib.hid hmap
        have HBL := Lib.hid hbl
        have II := Lib.hid I
        clear hr hmap hbl I
        go_wp2_with fail
        clear y0
        refine region_inv (by kernel_rfl) (by kernel_rfl) (R2 cb cc B C x5 x6 x7 x9 x10 x11 x13 y19 y20 w.heap.size q b off ca k cD V o v x8 x12 a1 bs D bl) ?_ ?_ ?_
        · exact ⟨_, _, _, _, _, _, _, _, _, _, _, _, _, _, _, _, _, _, _, rfl, II.out.lo.drew, by simp, by simp, by simp, by simp, by simp, by simp, by simp, by simp, by simp, by simp, by simp, by simp, by simp, by simp, by simp, by simp, by simp, by simp, by simp, by simp, fun _ => II.out.bx, fun _ => II.out.row, II.out.rm, II.out.m, II.out.l⟩
        rintro d i op a wq ho hd hp ⟨x21, x22, x23, x24, x25, x26, x27, x28, x29, x30, x31, x32, x33, x34, x35, x36, x37, x38, x39, rfl, h⟩
        obtain ⟨K, HK⟩ : ∃ K, Hid (R2 cb cc B C x5 x6 x7 x9 x10 x11 x13 y19 y20 w.heap.size q b off ca k cD V o v x8 x12 a1 bs D bl (fun j => if j = i then true else d j) = K) := ⟨_, Lib.hid rfl⟩
        rw [HK.out]
        unfold A2
        match i, hd, ho, HK with
        | 0, hd, ho, HK =>
          have ho' := ho
          simp only [List.getElem?_cons_zero, Option.some.injEq] at ho
          subst ho
          refine wpOp_of (by rw [List.getElem?_toArray]; exact ho') rfl ?_
          clear ho'
          go_simp
          rw [← HK.out]
          exact ⟨_, x22, x23, x24, x25, x26, x27, x28, x29, x30, x31, x32, x33, x34, x35, x36, x37, x38, x39, rfl, h.s0 hd rfl⟩
        | 1, hd, ho, HK =>
          have ho' := ho
          simp only [List.getElem?_cons_succ, List.getElem?_cons_zero, Option.some.injEq] at ho
          subst ho
          refine wpOp_of (by rw [List.getElem?_toArray]; exact ho') rfl ?_
          clear ho'
          have p0 : d 0 = true := hp { on := 0, ground := .data } (by simp) rfl
          obtain rfl := h.c0 p0
          have h17 : d 17 = false := by
            cases e : d 17 with
            | false => rfl
            | true => exact absurd (h.c17 e).1 (by rw [hd]; simp)
          have h19 : d 19 = false := by
            cases e : d 19 with
            | false => rfl
            | true => exact absurd (h.c17 (h.c19 e).1).1 (by rw [hd]; simp)
          have c := blk_cell (i := 0) (h.cbx h19) rfl
          go_simp
          rw [← HK.out]
          exact ⟨_, _, x23, x24, x25, x26, x27, x28, x29, x30, x31, x32, x33, x34, x35, x36, x37, x38, x39, rfl, h.s1 hd rfl⟩
        | 2, hd, ho, HK =>
          have ho' := ho
          simp only [List.getElem?_cons_succ, List.getElem?_cons_zero, Option.some.injEq] at ho
          subst ho
          refine wpOp_of (by rw [List.getElem?_toArray]; exact ho') rfl ?_
          clear ho'
          go_simp
          rw [← HK.out]
          exact ⟨x21, x22, _, x24, x25, x26, x27, x28, x29, x30, x31, x32, x33, x34, x35, x36, x37, x38, x39, rfl, h.s2 hd rfl⟩
        | 3, hd, ho, HK =>
          have ho' := ho
          simp only [List.getElem?_cons_succ, List.getElem?_cons_zero, Option.some.injEq] at ho
          subst ho
          refine wpOp_of (by rw [List.getElem?_toArray]; exact ho') rfl ?_
          clear ho'
          have p2 : d 2 = true := hp { on := 2, ground := .data } (by simp) rfl
          obtain rfl := h.c2 p2
          have c := cellB h.lo (blk_cell (i := 0) k0 rfl)
          go_simp
          rw [← HK.out]
          exact ⟨x21, x22, _, _, x25, x26, x27, x28, x29, x30, x31, x32, x33, x34, x35, x36, x37, x38, x39, rfl, h.s3 hd rfl⟩
        | 4, hd, ho, HK =>
          have ho' := ho
          simp only [List.getElem?_cons_succ, List.getElem?_cons_zero, Option.some.injEq] at ho
          subst ho
          refine wpOp_of (by rw [List.getElem?_toArray]; exact ho') rfl ?_
          clear ho'
          go_simp
          rw [← HK.out]
          exact ⟨x21, x22, x23, x24, _, x26, x27, x28, x29, x30, x31, x32, x33, x34, x35, x36, x37, x38, x39, rfl, h.s4 hd rfl⟩
        | 5, hd, ho, HK =>
          have ho' := ho
          simp only [List.getElem?_cons_succ, List.getElem?_cons_zero, Option.some.injEq] at ho
          subst ho
          refine wpOp_of (by rw [List.getElem?_toArray]; exact ho') rfl ?_
          clear ho'
          have p3 : d 3 = true := hp { on := 3, ground := .data } (by simp) rfl
          have p4 : d 4 = true := hp { on := 4, ground := .data } (by simp) rfl
          obtain rfl := h.c3 p3
          obtain rfl := h.c4 p4
          go_simp
          rw [← HK.out]
          exact ⟨x21, x22, x23, _, _, _, x27, x28, x29, x30, x31, x32, x33, x34, x35, x36, x37, x38, x39, rfl, h.s5 hd rfl⟩
        | 6, hd, ho, HK =>
          have ho' := ho
          simp only [List.getElem?_cons_succ, List.getElem?_cons_zero, Option.some.injEq] at ho
          subst ho
          refine wpOp_of (by rw [List.getElem?_toArray]; exact ho') rfl ?_
          clear ho'
          have p5 : d 5 = true := hp { on := 5, ground := .data } (by simp) rfl
          obtain rfl := h.c5 p5
          go_simp
          rw [← HK.out]
          exact ⟨x21, x22, x23, x24, x25, _, _, x28, x29, x30, x31, x32, x33, x34, x35, x36, x37, x38, x39, rfl, h.s6 hd rfl⟩
        | 7, hd, ho, HK =>
          have ho' := ho
          simp only [List.getElem?_cons_succ, List.getElem?_cons_zero, Option.some.injEq] at ho
          subst ho
          refine wpOp_of (by rw [List.getElem?_toArray]; exact ho') rfl ?_
          clear ho'
          have p6 : d 6 = true := hp { on := 6, ground := .data } (by simp) rfl
          obtain rfl := h.c6 p6
          have c := cellB h.lo c0
          go_simp
          rw [← HK.out]
          exact ⟨x21, x22, x23, x24, x25, x26, _, _, x29, x30, x31, x32, x33, x34, x35, x36, x37, x38, x39, rfl, h.s7 hd rfl⟩
        | 8, hd, ho, HK =>
          have ho' := ho
          simp only [List.getElem?_cons_succ, List.getElem?_cons_zero, Option.some.injEq] at ho
          subst ho
          refine wpOp_of (by rw [List.getElem?_toArray]; exact ho') rfl ?_
          clear ho'
          go_simp
          rw [← HK.out]
          exact ⟨x21, x22, x23, x24, x25, x26, x27, x28, _, x30, x31, x32, x33, x34, x35, x36, x37, x38, x39, rfl, h.s8 hd rfl⟩
        | 9, hd, ho, HK =>
          have ho' := ho
          simp only [List.getElem?_cons_succ, List.getElem?_cons_zero, Option.some.injEq] at ho
          subst ho
          refine wpOp_of (by rw [List.getElem?_toArray]; exact ho') rfl ?_
          clear ho'
          have p8 : d 8 = true := hp { on := 8, ground := .data } (by simp) rfl
          obtain rfl := h.c8 p8
          have c := cellB h.lo (blk_cell (i := 0) k0 rfl)
          go_simp
          rw [← HK.out]
          exact ⟨x21, x22, x23, x24, x25, x26, x27, x28, _, _, x31, x32, x33, x34, x35, x36, x37, x38, x39, rfl, h.s9 hd rfl⟩
        | 10, hd, ho, HK =>
          have ho' := ho
          simp only [List.getElem?_cons_succ, List.getElem?_cons_zero, Option.some.injEq] at ho
          subst ho
          refine wpOp_of (by rw [List.getElem?_toArray]; exact ho') rfl ?_
          clear ho'
          go_simp
          rw [← HK.out]
          exact ⟨x21, x22, x23, x24, x25, x26, x27, x28, x29, x30, _, x32, x33, x34, x35, x36, x37, x38, x39, rfl, h.s10 hd rfl⟩
        | 11, hd, ho, HK =>
          have ho' := ho
          simp only [List.getElem?_cons_succ, List.getElem?_cons_zero, Option.some.injEq] at ho
          subst ho
          refine wpOp_of (by rw [List.getElem?_toArray]; exact ho') rfl ?_
          clear ho'
          have p9 : d 9 = true := hp { on := 9, ground := .data } (by simp) rfl
          have p10 : d 10 = true := hp { on := 10, ground := .data } (by simp) rfl
          obtain rfl := h.c9 p9
          obtain rfl := h.c10 p10
          go_simp
          rw [← HK.out]
          exact ⟨x21, x22, x23, x24, x25, x26, x27, x28, x29, _, _, _, x33, x34, x35, x36, x37, x38, x39, rfl, h.s11 hd rfl⟩
        | 12, hd, ho, HK =>
          have ho' := ho
          simp only [List.getElem?_cons_succ, List.getElem?_cons_zero, Option.some.injEq] at ho
          subst ho
          refine wpOp_of (by rw [List.getElem?_toArray]; exact ho') rfl ?_
          clear ho'
          have p11 : d 11 = true := hp { on := 11, ground := .data } (by simp) rfl
          obtain rfl := h.c11 p11
          go_simp
          rw [← HK.out]
          exact ⟨x21, x22, x23, x24, x25, x26, x27, x28, x29, x30, x31, _, _, x34, x35, x36, x37, x38, x39, rfl, h.s12 hd rfl⟩
        | 13, hd, ho, HK =>
          have ho' := ho
          simp only [List.getElem?_cons_succ, List.getElem?_cons_zero, Option.some.injEq] at ho
          subst ho
          refine wpOp_of (by rw [List.getElem?_toArray]; exact ho') rfl ?_
          clear ho'
          have p12 : d 12 = true := hp { on := 12, ground := .data } (by simp) rfl
          obtain rfl := h.c12 p12
          have c := cellB h.lo c1
          go_simp
          rw [← HK.out]
          exact ⟨x21, x22, x23, x24, x25, x26, x27, x28, x29, x30, x31, x32, _, _, x35, x36, x37, x38, x39, rfl, h.s13 hd rfl⟩
        | 14, hd, ho, HK =>
          have ho' := ho
          simp only [List.getElem?_cons_succ, List.getElem?_cons_zero, Option.some.injEq] at ho
          subst ho
          refine wpOp_of (by rw [List.getElem?_toArray]; exact ho') rfl ?_
          clear ho'
          have p13 : d 13 = true := hp { on := 13, ground := .data } (by simp) rfl
          obtain rfl := h.c13 p13
          have h15 : d 15 = false := by
            cases e : d 15 with
            | false => rfl
            | true => exact absurd (h.c15 e).2.1 (by rw [hd]; simp)
          have h16 : d 16 = false := by
            cases e : d 16 with
            | false => rfl
            | true => exact absurd (h.c16 e).1 (by rw [hd]; simp)
          have h17 : d 17 = false := by
            cases e : d 17 with
            | false => rfl
            | true => exact absurd (h.c17 e).2.1 (by rw [hd]; simp)
          have hz := h.lo.size
          go_simp
          refine (law_room _ D cD bs (RD.below h.lo) bo bn _ rfl).mono ?_
          rintro e w1 ⟨rfl, hg, hb1⟩
          show K _ _
          rw [← HK.out]
          exact ⟨x21, x22, x23, x24, x25, x26, x27, x28, x29, x30, x31, x32, x33, _, _, x36, x37, x38, x39, rfl, h.s14 hd h15 h16 h17 ⟨wq.heap.size, rfl, by have := HVZ.out; omega, hg⟩ (fun _ _ _ hh => heapB' hb1 hh) (h.lo.trans (hb1.mono hz))⟩
        | 15, hd, ho, HK =>
          have ho' := ho
          simp only [List.getElem?_cons_succ, List.getElem?_cons_zero, Option.some.injEq] at ho
          subst ho
          refine wpOp_of (by rw [List.getElem?_toArray]; exact ho') rfl ?_
          clear ho'
          have p7 : d 7 = true := hp { on := 7, ground := .data } (by simp) rfl
          have p14 : d 14 = true := hp { on := 14, ground := .data } (by simp) rfl
          obtain rfl := h.c7 p7
          obtain ⟨gr, rfl, hgr, hgh⟩ := h.c14 p14
          go_simp
          rw [← HK.out]
          exact ⟨x21, x22, x23, x24, x25, x26, x27, _, x29, x30, x31, x32, x33, x34, _, _, x37, x38, x39, rfl, h.s15 hd p7 p14 rfl⟩
        | 16, hd, ho, HK =>
          have ho' := ho
          simp only [List.getElem?_cons_succ, List.getElem?_cons_zero, Option.some.injEq] at ho
          subst ho
          refine wpOp_of (by rw [List.getElem?_toArray]; exact ho') rfl ?_
          clear ho'
          have p15 : d 15 = true := hp { on := 15, ground := .data } (by simp) rfl
          obtain ⟨p7, p14, rfl⟩ := h.c15 p15
          obtain ⟨gr, rfl, hgr, hgh⟩ := h.c14 p14
          go_simp
          rw [← HK.out]
          exact ⟨x21, x22, x23, x24, x25, x26, x27, x28, x29, x30, x31, x32, x33, x34, _, _, _, x38, x39, rfl, h.s16 hd p14 ⟨wq.heap.size, rfl, heap_alloc_new _ _⟩ (kp_alloc _ _) (h.lo.alloc h.lo.size _)⟩
        | 17, hd, ho, HK =>
          have ho' := ho
          simp only [List.getElem?_cons_succ, List.getElem?_cons_zero, Option.some.injEq] at ho
          subst ho
          refine wpOp_of (by rw [List.getElem?_toArray]; exact ho') rfl ?_
          clear ho'
          have p1 : d 1 = true := hp { on := 1, ground := .data } (by simp) rfl
          have p16 : d 16 = true := hp { on := 16, ground := .data } (by simp) rfl
          obtain rfl := (h.c1 p1).symm
          have h19 : d 19 = false := by
            cases e : d 19 with
            | false => rfl
            | true => exact absurd (h.c19 e).1 (by rw [hd]; simp)
          obtain ⟨p14, hx⟩ := h.c16 p16
          obtain ⟨hh, rfl, hgh⟩ := hx hd
          have hown := h.crow hd
          obtain ⟨gr, rfl, hgr, _⟩ := h.c14 p14
          have hz := h.lo.size
          refine wp_append_src wq (.tmp 22) (.tmp 37) 22 rfl (w.heap.size + 2) 41 b0 _ 2 32 Tryz.underlying22 hb0 hb1 hb2 hb3 rfl (by decide) v bl.length (blC bl) rfl hown _ 1 1 _ rfl (Src.block hgh rfl) (by simp [Value.oneCell']) (by have := HBL.out; unfold maxLen; omega) (by have := HBL.out; omega) (by have := HVZ.out; omega) ?_
          intro v' w' g1 g2 _
          rw [← HK.out]
          exact ⟨x21, _, x23, x24, x25, x26, x27, x28, x29, x30, x31, x32, x33, x34, _, x36, _, _, x39, rfl, h.s17 hd p1 p14 p16 h19 g1 (kpT_grown hown g2) (h.lo.trans ((Below.refl _ _).grown g2 hz (fun q hq => by have := (hown.lt q hq).1; have := HVZ.out; omega)))⟩
        | 18, hd, ho, HK =>
          have ho' := ho
          simp only [List.getElem?_cons_succ, List.getElem?_cons_zero, Option.some.injEq] at ho
          subst ho
          refine wpOp_of (by rw [List.getElem?_toArray]; exact ho') rfl ?_
          clear ho'
          go_simp
          rw [← HK.out]
          exact ⟨x21, x22, x23, x24, x25, x26, x27, x28, x29, x30, x31, x32, x33, x34, x35, x36, x37, x38, _, rfl, h.s18 hd rfl⟩
        | 19, hd, ho, HK =>
          have ho' := ho
          simp only [List.getElem?_cons_succ, List.getElem?_cons_zero, Option.some.injEq] at ho
          subst ho
          refine wpOp_of (by rw [List.getElem?_toArray]; exact ho') rfl ?_
          clear ho'
          have p17 : d 17 = true := hp { on := 17, ground := .data } (by simp) rfl
          have p18 : d 18 = true := hp { on := 18, ground := .data } (by simp) rfl
          obtain rfl := h.c18 p18
          have hh := h.cbx hd
          obtain ⟨_, _, _, hrow⟩ := h.c17 p17
          obtain ⟨g9, c9, rfl, _, _⟩ := hrow.form (by omega)
          have y0 := blk_cell (i := 0) hh rfl
          have f0 := blk_frozen (i := 0) hh
          have hql := blk_lt hh
          have HH := Lib.hid hh
          clear hh
          go_simp
          rw [← HK.out]
          exact ⟨x21, x22, x23, x24, x25, x26, x27, x28, x29, x30, x31, x32, x33, x34, x35, x36, x37, _, _, rfl, h.s19 hd p17 (set_shape HH.out 0 _) (kpT_set HH.out _ _) (h.lo.setCell hqV _)⟩
        | i + 20, hd, ho, HK => simp at ho
        rintro d a wq hall ⟨x21, x22, x23, x24, x25, x26, x27, x28, x29, x30, x31, x32, x33, x34, x35, x36, x37, x38, x39, rfl, h⟩
        obtain ⟨p17, hbx⟩ := h.c19 (hall 19 (by decide))
        obtain ⟨_, p14, _, hrow⟩ := h.c17 p17
        obtain ⟨gr, rfl, hgr, hgh⟩ := h.c14 p14
        have lo := h.lo
        have hrm := h.crm
        have hm := h.cm
        have hl := h.cl
        clear h hall II
        have I2 : OwnI w.heap.size q V o x38 x8 x12 (bl ++ [(⟨a1, bs⟩, gr)]) wq := by
          refine ⟨lo, hbx, ?_, fun x hx => ?_, hm, hl⟩
          · rw [List.length_append]
            unfold blC at hrow ⊢
            rw [List.flatMap_append]
            exact hrow
          · rcases List.mem_append.1 hx with h | h
            · exact hrm x h
            · rw [List.mem_singleton] at h
              subst h
              exact ⟨hgr, hgh⟩
        have IH := Lib.hid I2
        clear I2 lo hrm hm hl hbx hrow hgh
        unfold A2
        go_wp2
        exact ⟨⟨k + 1, _, x38, _, _, by go_num, rfl, rfl, by omega, by rw [List.length_append, HBL.out]; rfl, by rw [List.map_append, HM.out, List.take_succ_eq_append_getElem hlt, HX.out]; rfl, IH.out⟩, by simp [intOf]; omega⟩
      · obtain rfl : k = o.blocks.length := by omega
        rw [List.take_length] at hmap
        have hb9 := heapB' I.lo k1
        obtain ⟨A5, c5, e5⟩ := own_slice I.row
        rw [hbl] at e5
        subst e5
        obtain ⟨A6, c6, rfl⟩ := own_slice I.m
        obtain ⟨A7, c7, rfl⟩ := own_slice I.l
        have y1 := blk_cell (i := 0) I.bx rfl
        have y2 := blk_cell (i := 1) I.bx rfl
        have y3 := blk_cell (i := 2) I.bx rfl
        have r1 := blk_cell (i := 0) (u := .slice none 0 0) hb9 rfl
        have r2 := blk_cell (i := 1) (u := .slice none 0 0) hb9 rfl
        have r3 := blk_cell (i := 2) (u := .slice none 0 0) hb9 rfl
        have f1 := blk_frozen (i := 0) hb9
        have f2 := blk_frozen (i := 1) hb9
        have f3 := blk_frozen (i := 2) hb9
        have hql := blk_lt hb9
        have HM := Lib.hid hmap
        have HH := Lib.hid hb9
        have II := Lib.hid I
        have HBL := Lib.hid hbl
        clear hmap hbl I hb9
        go_wp2_with fail
        refine bodyPost_ret (v := .agg #[.slice A5 o.blocks.length c5, .slice A6 o.marks.length c6, .slice A7 o.labels.length c7]) (by simp [results, Tryz.results5, go_sem, *]) rfl ⟨A5, A6, A7, c5, c6, c7, bl, rfl, HM.out, ?_, ?_, ?_, ?_⟩
        · have KT := kpT_set3 HH.out (.slice A5 o.blocks.length c5) (.slice A6 o.marks.length c6) (.slice A7 o.labels.length c7)
          have hrow := own_kp II.out.row (KT _ _ _ (by decide))
          rw [← HBL.out] at hrow
          rw [← HBL.out] at KT
          rw [← HBL.out]
          exact row_room hrow fun x hx => ⟨(II.out.rm x hx).1, KT _ _ _ (by decide) (II.out.rm x hx).2⟩
        · have KT := kpT_set3 HH.out (.slice A5 o.blocks.length c5) (.slice A6 o.marks.length c6) (.slice A7 o.labels.length c7)
          obtain ⟨A9, c9, e, hr⟩ := MkL.rd (own_kp II.out.m (KT _ _ _ (by decide)))
          injection e with e
          subst e
          exact hr
        · have KT := kpT_set3 HH.out (.slice A5 o.blocks.length c5) (.slice A6 o.marks.length c6) (.slice A7 o.labels.length c7)
          obtain ⟨A9, c9, e, hr⟩ := LbL.rd (own_kp II.out.l (KT _ _ _ (by decide)))
          injection e with e
          subst e
          exact hr
        · have lo := hV.trans (II.out.lo.mono hV.size)
          exact ((lo.setCell (Nat.le_succ _) _).setCell (Nat.le_succ _) _).setCell (Nat.le_succ _) _
end Go.Proofs.YtofhdlkocgbcgaaGreatDoor
