/- Plain lists: an object as items. No program in sight but what it is imported over. -/
import Derived.Test.YtofhdlkocgbcgaaGreatDoorLabW
import Derived.Test.YtofhdlkocgbcgaaGreatDoorMrkW
namespace Go.Proofs.YtofhdlkocgbcgaaGreatDoor
open Go Go.RowKit Pu
set_option linter.unusedVariables false
set_option linter.unusedSimpArgs false
structure ItemP where
  kind : Int
  name : ByteArray
  arg : Int
  bytes : List Int
def lblI (l : LabelP) : ItemP := ⟨1, l.name, 0, []⟩
def codeI (b : List Int) : ItemP := ⟨2, (decI b).1, (decI b).2.1, []⟩
def dataI (b : List Int) : ItemP := ⟨3, ⟨#[]⟩, 0, b⟩
def atI (a : Int) : ItemP := ⟨4, ⟨#[]⟩, a, []⟩
def tellI (a : Int) (rem : List LabelP) : List ItemP := (rem.filter fun l => decide (l.at_ = a)).map lblI
def dropI (a : Int) (rem : List LabelP) : List LabelP := rem.filter fun l => !decide (l.at_ = a)
def hasI (a : Int) (rem : List LabelP) : Bool := rem.any fun l => decide (l.at_ = a)
theorem decN_pos {b : List Int} (h : b ≠ []) (h2 : (decI b).2.2.2 = 0) : 1 ≤ decN b ∧ decN b ≤ b.length := by
  have := decI_cases b h
  unfold decN; omega
def codeP (rem : List LabelP) (b : List Int) (at_ : Int) : List ItemP × List LabelP :=
  if h : b = [] then ([], rem) else
  if h2 : (decI b).2.2.2 = 0 then
    let r := codeP (dropI at_ rem) (b.drop (decN b)) (at_ + decN b)
    (tellI at_ rem ++ codeI b :: r.1, r.2)
  else ([], rem)
termination_by b.length
decreasing_by
  have := decN_pos h h2
  have hl : 0 < b.length := List.length_pos_iff.2 h
  simp only [List.length_drop]; omega
theorem codeP_nil (rem : List LabelP) (at_ : Int) : codeP rem [] at_ = ([], rem) := by rw [codeP]; simp
theorem codeP_step (rem : List LabelP) {b : List Int} (at_ : Int) (h : b ≠ []) (h2 : (decI b).2.2.2 = 0) :
    codeP rem b at_ = (tellI at_ rem ++ codeI b :: (codeP (dropI at_ rem) (b.drop (decN b)) (at_ + decN b)).1, (codeP (dropI at_ rem) (b.drop (decN b)) (at_ + decN b)).2) := by
  rw [codeP, dif_neg h, dif_pos h2]
/-- How long a row of data is: the rest as fuel. -/
def rowN (h : Nat → Bool) (m : Nat) : Nat → Nat → Nat
  | 0, n => n
  | f + 1, n => if n < m ∧ n ≠ 256 ∧ h n = false then rowN h m f (n + 1) else n
theorem rowN_bd (h : Nat → Bool) (m : Nat) : ∀ f n, n ≤ rowN h m f n ∧ (n ≤ m → rowN h m f n ≤ m) ∧ (n ≤ 256 → rowN h m f n ≤ 256)
  | 0, n => ⟨Nat.le_refl _, id, id⟩
  | f + 1, n => by
    rw [rowN]
    split
    · next hh => have := rowN_bd h m f (n + 1); omega
    · exact ⟨Nat.le_refl _, id, id⟩
def rowL (h : Nat → Bool) (m : Nat) : Nat := rowN h m m 1
theorem rowL_bd (h : Nat → Bool) {m : Nat} (hm : 0 < m) : 1 ≤ rowL h m ∧ rowL h m ≤ m ∧ rowL h m ≤ 256 := by
  have := rowN_bd h m m 1; unfold rowL; omega
/-- Where the search stands. -/
def RowI (h : Nat → Bool) (m n : Nat) : Prop := 1 ≤ n ∧ n ≤ m ∧ n ≤ 256 ∧ rowN h m (m + 1 - n) n = rowL h m
theorem RowI.start (h : Nat → Bool) {m : Nat} (hm : 0 < m) : RowI h m 1 := ⟨Nat.le_refl _, hm, by omega, rfl⟩
theorem RowI.step {h : Nat → Bool} {m n : Nat} (H : RowI h m n) (h1 : n < m) (h2 : n ≠ 256) (h3 : h n = false) : RowI h m (n + 1) := by
  obtain ⟨a, b, c, d⟩ := H
  refine ⟨by omega, by omega, by omega, ?_⟩
  rw [← d, show m + 1 - n = (m + 1 - (n + 1)) + 1 by omega, rowN, if_pos ⟨h1, h2, h3⟩]
theorem RowI.stop {h : Nat → Bool} {m n : Nat} (H : RowI h m n) (hh : ¬ (n < m ∧ n ≠ 256 ∧ h n = false)) : n = rowL h m := by
  obtain ⟨a, b, c, d⟩ := H
  rw [← d, show m + 1 - n = (m - n) + 1 by omega, rowN, if_neg hh]
theorem rowN_congr {h h' : Nat → Bool} {m : Nat} (hh : ∀ k, 1 ≤ k → h k = h' k) : ∀ f n, 1 ≤ n → rowN h m f n = rowN h' m f n
  | 0, n, _ => rfl
  | f + 1, n, hn => by rw [rowN, rowN, hh n hn, rowN_congr hh f (n + 1) (by omega)]
theorem rowL_congr {h h' : Nat → Bool} {m : Nat} (hh : ∀ k, 1 ≤ k → h k = h' k) : rowL h m = rowL h' m := rowN_congr hh m 1 (Nat.le_refl _)
def datN (rem : List LabelP) (b : List Int) (at_ : Int) : Nat := rowL (fun k => hasI (at_ + k) (dropI at_ rem)) b.length
def dataP (rem : List LabelP) (b : List Int) (at_ : Int) : List ItemP × List LabelP :=
  if h : b = [] then ([], rem) else
    let r := dataP (dropI at_ rem) (b.drop (datN rem b at_)) (at_ + datN rem b at_)
    (tellI at_ rem ++ dataI (b.take (datN rem b at_)) :: r.1, r.2)
termination_by b.length
decreasing_by
  have hl : 0 < b.length := List.length_pos_iff.2 h
  have := rowL_bd (fun k => hasI (at_ + k) (dropI at_ rem)) hl
  unfold datN
  simp only [List.length_drop]; omega
theorem datN_bd (rem : List LabelP) {b : List Int} (at_ : Int) (h : b ≠ []) : 1 ≤ datN rem b at_ ∧ datN rem b at_ ≤ b.length ∧ datN rem b at_ ≤ 256 := rowL_bd _ (List.length_pos_iff.2 h)
theorem dataP_nil (rem : List LabelP) (at_ : Int) : dataP rem [] at_ = ([], rem) := by rw [dataP]; simp
theorem dataP_step (rem : List LabelP) {b : List Int} (at_ : Int) (h : b ≠ []) :
    dataP rem b at_ = (tellI at_ rem ++ dataI (b.take (datN rem b at_)) :: (dataP (dropI at_ rem) (b.drop (datN rem b at_)) (at_ + datN rem b at_)).1, (dataP (dropI at_ rem) (b.drop (datN rem b at_)) (at_ + datN rem b at_)).2) := by
  rw [dataP, dif_neg h]
def markP (rem : List LabelP) (bs : List Int) (off : Nat) (m : MarkP) : List ItemP × List LabelP :=
  if m.code then codeP rem ((bs.drop off).take m.n.toNat) m.at_ else dataP rem ((bs.drop off).take m.n.toNat) m.at_
/-- The rows of a block: its items, the marks behind, the labels that are left. -/
def rowsP (bs : List Int) : List MarkP → Nat → List LabelP → List ItemP × List MarkP × List LabelP
  | [], _, rem => ([], [], rem)
  | m :: ms, off, rem => if bs.length ≤ off then ([], m :: ms, rem) else
      let r := rowsP bs ms (off + m.n.toNat) (markP rem bs off m).2
      ((markP rem bs off m).1 ++ r.1, r.2)
def blksP : Bool → List BlockP → List MarkP → List LabelP → List ItemP × List LabelP
  | _, [], _, rem => ([], rem)
  | first, b :: r, ms, rem =>
    let x := rowsP b.bytes ms 0 rem
    let y := blksP false r x.2.1 (dropI (b.at_ + b.bytes.length) x.2.2)
    ((if first && decide (b.at_ = 0) then [] else [atI b.at_]) ++ x.1 ++ tellI (b.at_ + b.bytes.length) x.2.2 ++ y.1, y.2)
theorem dropI_lt (a : Int) (l : LabelP) (r : List LabelP) (h : l.at_ = a) : (dropI a (l :: r)).length < (l :: r).length := by
  unfold dropI; rw [List.filter_cons, if_neg (by simp [h])]
  have := List.length_filter_le (fun l : LabelP => !decide (l.at_ = a)) r
  simp only [List.length_cons]; omega
def restP : List LabelP → List ItemP
  | [] => []
  | l :: r => atI l.at_ :: tellI l.at_ (l :: r) ++ restP (dropI l.at_ (l :: r))
termination_by l => l.length
decreasing_by exact dropI_lt _ _ _ rfl
def beginP (o : ObjP) : Bool := match o.blocks with | [] => true | b :: _ => !decide (b.at_ = 0)
def listP (o : ObjP) : List ItemP :=
  let r0 := if beginP o then dropI 0 o.labels else o.labels
  let x := blksP true o.blocks o.marks r0
  (if beginP o then tellI 0 o.labels else []) ++ x.1 ++ restP x.2
/-- Labels of which some were told. -/
def remT : List LabelP → List Bool → List LabelP
  | x :: l, t :: td => if t then remT l td else x :: remT l td
  | _, _ => []
def tellT (a : Int) : List LabelP → List Bool → List Bool
  | x :: l, t :: td => (t || decide (x.at_ = a)) :: tellT a l td
  | _, _ => []
theorem tellT_length (a : Int) : ∀ (l : List LabelP) (td : List Bool), td.length = l.length → (tellT a l td).length = l.length
  | [], [], _ => rfl
  | [], _ :: _, h => by simp at h
  | x :: l, [], h => by simp at h
  | x :: l, t :: td, h => by simp [tellT, tellT_length a l td (by simpa using h)]
theorem remT_tell (a : Int) : ∀ (l : List LabelP) (td : List Bool), remT l (tellT a l td) = dropI a (remT l td)
  | [], [] => rfl
  | [], _ :: _ => rfl
  | x :: l, [] => by simp [tellT, remT, dropI]
  | x :: l, t :: td => by
    have ih := remT_tell a l td
    by_cases hx : x.at_ = a <;> cases t <;> simp [tellT, remT, hx, ih, dropI]
theorem remT_none : ∀ l : List LabelP, remT l (List.replicate l.length false) = l
  | [] => rfl
  | x :: l => by simp [List.replicate_succ, remT, remT_none l]
/-- All that was told lies at or before an address. -/
def TB : List LabelP → List Bool → Int → Prop
  | x :: l, t :: td, c => (t = true → x.at_ ≤ c) ∧ TB l td c
  | _, _, _ => True
theorem TB.mono : ∀ {l : List LabelP} {td : List Bool} {c d : Int}, TB l td c → c ≤ d → TB l td d
  | [], _, _, _, _, _ => by simp [TB]
  | _ :: _, [], _, _, _, _ => by simp [TB]
  | x :: l, t :: td, c, d, h, hc => ⟨fun h2 => by have := h.1 h2; omega, TB.mono h.2 hc⟩
theorem TB.tell : ∀ {l : List LabelP} {td : List Bool} {c : Int}, TB l td c → TB l (tellT c l td) c
  | [], [], _, _ => by simp [TB]
  | [], _ :: _, _, _ => by simp [TB]
  | _ :: _, [], _, _ => by simp [TB, tellT]
  | x :: l, t :: td, c, h => ⟨fun h2 => by
      simp only [Bool.or_eq_true, decide_eq_true_iff] at h2
      rcases h2 with h2 | h2
      · exact h.1 h2
      · omega, TB.tell h.2⟩
theorem TB.none : ∀ (l : List LabelP) (c : Int), TB l (List.replicate l.length false) c
  | [], _ => by simp [TB]
  | x :: l, c => ⟨fun h => by simp at h, TB.none l c⟩
/-- An address above all that was told: whether it has labels is seen by those that are left. -/
theorem TB.has : ∀ {l : List LabelP} {td : List Bool} {c a : Int}, TB l td c → c < a → td.length = l.length → hasI a (remT l td) = hasI a l
  | [], _, _, _, _, _, _ => by simp [remT]
  | _ :: _, [], _, _, _, _, h => by simp at h
  | x :: l, t :: td, c, a, h, hc, hl => by
    have ih := TB.has h.2 hc (by simpa using hl)
    have h1 := h.1
    unfold hasI at ih ⊢
    cases t
    · simp [remT, ih]
    · have := h1 rfl
      have hn : ¬ x.at_ = a := by omega
      simp [remT, ih, hn]
theorem TB.dat_eq {l : List LabelP} {td : List Bool} {a : Int} (b : List Int) (h : TB l td a) (hl : td.length = l.length) :
    datN (remT l td) b a = rowL (fun k => hasI (a + k) l) b.length := by
  unfold datN
  rw [← remT_tell]
  exact rowL_congr fun k hk => h.tell.has (by omega) (tellT_length _ _ _ hl)
/-! How many items there are at most. -/
theorem tell_len (a : Int) : ∀ rem : List LabelP, (tellI a rem).length + (dropI a rem).length = rem.length
  | [] => rfl
  | x :: r => by
    have ih := tell_len a r
    unfold tellI dropI at ih ⊢
    by_cases hx : x.at_ = a <;> simp [hx, List.filter_cons] at ih ⊢ <;> omega
theorem codeP_len (n : Nat) : ∀ (rem : List LabelP) (b : List Int) (at_ : Int), b.length ≤ n → (codeP rem b at_).1.length + (codeP rem b at_).2.length ≤ rem.length + b.length := by
  induction n with
  | zero =>
    intro rem b at_ h
    have : b = [] := List.eq_nil_of_length_eq_zero (by omega)
    subst this; rw [codeP_nil]; simp
  | succ n ih =>
    intro rem b at_ h
    by_cases hb : b = []
    · subst hb; rw [codeP_nil]; simp
    · by_cases h2 : (decI b).2.2.2 = 0
      · have hp := decN_pos hb h2
        have := ih (dropI at_ rem) (b.drop (decN b)) (at_ + decN b) (by rw [List.length_drop]; omega)
        have ht := tell_len at_ rem
        rw [codeP_step rem at_ hb h2]
        rw [List.length_drop] at this
        simp only [List.length_append, List.length_cons]; omega
      · rw [codeP, dif_neg hb, dif_neg h2]; simp
theorem dataP_len (n : Nat) : ∀ (rem : List LabelP) (b : List Int) (at_ : Int), b.length ≤ n → (dataP rem b at_).1.length + (dataP rem b at_).2.length ≤ rem.length + b.length := by
  induction n with
  | zero =>
    intro rem b at_ h
    have : b = [] := List.eq_nil_of_length_eq_zero (by omega)
    subst this; rw [dataP_nil]; simp
  | succ n ih =>
    intro rem b at_ h
    by_cases hb : b = []
    · subst hb; rw [dataP_nil]; simp
    · have hp := datN_bd rem at_ hb
      have := ih (dropI at_ rem) (b.drop (datN rem b at_)) (at_ + datN rem b at_) (by rw [List.length_drop]; omega)
      have ht := tell_len at_ rem
      rw [dataP_step rem at_ hb]
      rw [List.length_drop] at this
      simp only [List.length_append, List.length_cons]; omega
theorem markP_len (rem : List LabelP) (bs : List Int) (off : Nat) (m : MarkP) : (markP rem bs off m).1.length + (markP rem bs off m).2.length + (bs.length - (off + m.n.toNat)) ≤ rem.length + (bs.length - off) := by
  have h1 : ((bs.drop off).take m.n.toNat).length + (bs.length - (off + m.n.toNat)) ≤ bs.length - off := by rw [List.length_take, List.length_drop]; omega
  unfold markP
  split
  · have := codeP_len _ rem ((bs.drop off).take m.n.toNat) m.at_ (Nat.le_refl _); omega
  · have := dataP_len _ rem ((bs.drop off).take m.n.toNat) m.at_ (Nat.le_refl _); omega
theorem rowsP_len (bs : List Int) : ∀ (ms : List MarkP) (off : Nat) (rem : List LabelP), (rowsP bs ms off rem).1.length + (rowsP bs ms off rem).2.2.length ≤ rem.length + (bs.length - off)
  | [], off, rem => by simp [rowsP]
  | m :: ms, off, rem => by
    rw [rowsP]
    split
    · simp
    · have h1 := rowsP_len bs ms (off + m.n.toNat) (markP rem bs off m).2
      have h2 := markP_len rem bs off m
      simp only [List.length_append]; omega
def sumB : List BlockP → Nat
  | [] => 0
  | b :: r => b.bytes.length + 1 + sumB r
theorem sumB_ok : ∀ (l : List BlockP) (e : Int), -1 ≤ e → e ≤ 65536 → okBl e l = true → (sumB l : Int) ≤ 65536 - e
  | [], e, _, _, _ => by simp [sumB]; omega
  | b :: r, e, h0, h1, h => by
    rw [okBl, Bool.and_eq_true] at h
    have hb := h.1
    unfold blOk at hb
    rw [decide_eq_true_iff] at hb
    have := sumB_ok r _ (by omega) (by omega) h.2
    simp only [sumB]; omega
theorem blksP_len : ∀ (first : Bool) (l : List BlockP) (ms : List MarkP) (rem : List LabelP), (blksP first l ms rem).1.length + (blksP first l ms rem).2.length ≤ rem.length + sumB l
  | _, [], _, _ => by simp [blksP, sumB]
  | first, b :: r, ms, rem => by
    have h1 := rowsP_len b.bytes ms 0 rem
    have h2 := tell_len (b.at_ + b.bytes.length) (rowsP b.bytes ms 0 rem).2.2
    have h3 := blksP_len false r (rowsP b.bytes ms 0 rem).2.1 (dropI (b.at_ + b.bytes.length) (rowsP b.bytes ms 0 rem).2.2)
    have h4 : (if first && decide (b.at_ = 0) then [] else [atI b.at_]).length ≤ 1 := by split <;> simp
    rw [blksP]
    simp only [List.length_append, sumB]; omega
theorem restP_len (n : Nat) : ∀ l : List LabelP, l.length ≤ n → (restP l).length ≤ 2 * l.length := by
  induction n with
  | zero => intro l h; have : l = [] := List.eq_nil_of_length_eq_zero (by omega); subst this; simp [restP]
  | succ n ih =>
    intro l h
    cases l with
    | nil => simp [restP]
    | cons x r =>
      have h1 := dropI_lt x.at_ x r rfl
      have h2 := tell_len x.at_ (x :: r)
      have h3 := ih (dropI x.at_ (x :: r)) (by simp only [List.length_cons] at h h1 ⊢; omega)
      rw [restP]
      simp only [List.length_append, List.length_cons] at *; omega
theorem listP_len (o : ObjP) (h : okBl (-1) o.blocks = true) : (listP o).length ≤ 2 * o.labels.length + 131074 := by
  have h0 := sumB_ok _ _ (by omega) (by omega) h
  unfold listP
  have h1 := tell_len 0 o.labels
  have h2 := blksP_len true o.blocks o.marks (if beginP o then dropI 0 o.labels else o.labels)
  have h3 := restP_len _ (blksP true o.blocks o.marks (if beginP o then dropI 0 o.labels else o.labels)).2 (Nat.le_refl _)
  simp only [List.length_append]
  split <;> rename_i hc <;> simp only [hc, if_true, if_false, Bool.false_eq_true] at h2 h3 ⊢ <;> simp <;> omega
end Go.Proofs.YtofhdlkocgbcgaaGreatDoor
