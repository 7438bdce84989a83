/- Plain lines: items as text; which lists of items come of an object that may be. -/
import Derived.Test.YtofhdlkocgbcgaaGreatDoorPlnP
import Derived.Test.YtofhdlkocgbcgaaGreatDoorDecZ
import Derived.Lib.Join
namespace Go.Proofs.YtofhdlkocgbcgaaGreatDoor
open Go Go.RowKit Pu
set_option linter.unusedVariables false
set_option linter.unusedSimpArgs false
def canon (o : Nat) : Nat := if formF o = 2 then (if o < 16 then 1 else o / 16 * 16) else if formF o = 3 then o / 8 * 8 + 1 else o
theorem canon_all : ∀ o : Nat, o < 256 → firstI (nameB o) = (canon o : Int) ∧ formF (canon o) = formF o ∧ (nameB o).size ≤ 4 ∧ (nameB o).size ≠ 0 := by decide +kernel
theorem arg_byte {r : List Int} (h : Bytes r) (i : Nat) : 0 ≤ r.getD i 0 ∧ r.getD i 0 ≤ 255 := bytes_at h i
/-- What is known of an instruction that was read. -/
structure DecOK (s : ByteArray) (arg : Int) (n : Nat) : Prop where
  enc : (encI s arg).1 = 0
  len : (encI s arg).2.length = n
  bts : Bytes (encI s arg).2
  f0 : 0 ≤ firstI s
  f1 : firstI s ≤ 255
  may : mayI (firstI s) arg = true
  lenF : lenF (formF (firstI s).toNat) = n
  n1 : 1 ≤ n
  n3 : n ≤ 3
  a0 : 0 ≤ arg
  a1 : arg ≤ 65535
  sz : s.size ≤ 4
  ne : s.size ≠ 0
theorem dec_core (k : Nat) (hk : k < 256) (r : List Int) (hr : Bytes r) (a : Int)
    (ha : a = if formF k = 2 then (k : Int) % 16 else if formF k = 3 then (k : Int) % 8 else if formF k = 4 ∨ formF k = 5 then r.getD 0 0 else if formF k = 6 then 256 * r.getD 0 0 + r.getD 1 0 else 0) : DecOK (nameB k) a (lenF (formF k)) := by
  obtain ⟨c1, c2, c3, c4⟩ := canon_all k hk
  have g0 := arg_byte hr 0
  have g1 := arg_byte hr 1
  have hp := formF_pos k
  have hc : (canon k : Int) ≤ 255 := by have := firstI_bd (nameB k); rw [c1] at this; omega
  have mk : ∀ bs : List Int, encI (nameB k) a = (0, bs) → bs.length = lenF (formF k) → Bytes bs → mayI (canon k) a = true → 0 ≤ a → a ≤ 65535 → DecOK (nameB k) a (lenF (formF k)) := by
    intro bs e1 e2 e3 e4 e5 e6
    have hl : 1 ≤ lenF (formF k) ∧ lenF (formF k) ≤ 3 := by
      unfold lenF
      constructor <;> (repeat' split) <;> omega
    exact ⟨by rw [e1], by rw [e1]; exact e2, by rw [e1]; exact e3, by rw [c1]; omega, by rw [c1]; omega, by rw [c1]; exact e4, by rw [c1, Int.toNat_natCast, c2], hl.1, hl.2, e5, e6, c3, c4⟩
  obtain hf | hf | hf | hf | hf | hf : formF k = 1 ∨ formF k = 2 ∨ formF k = 3 ∨ formF k = 4 ∨ formF k = 5 ∨ formF k = 6 := by omega
  · have hck : canon k = k := by unfold canon; simp [hf]
    simp [hf] at ha
    subst ha
    exact mk [(k : Int)] (by simp [encI, c1, hck, hf]) (by simp [lenF, hf]) (by simp [Bytes]; omega) (by simp [mayI, hck, hf]) (by omega) (by omega)
  · have h239 := formF_2 hf (by omega)
    have hk0 : k ≠ 0 := by rintro rfl; simp [formF] at hf
    have hcv : (k < 16 ∧ canon k = 1) ∨ (16 ≤ k ∧ canon k = k / 16 * 16) := by unfold canon; rw [if_pos hf]; split <;> omega
    simp [hf] at ha
    subst ha
    refine mk [(if (canon k : Int) < 16 then 0 else (canon k : Int)) + (k % 16 : Int)] ?_ (by simp [lenF, hf]) ?_ ?_ (by omega) (by omega)
    · have hm : ¬ ((k % 16 : Int) < (if (canon k : Int) < 16 then 1 else 0) ∨ 15 < (k % 16 : Int)) := by split <;> omega
      simp only [encI, c1, Int.toNat_natCast, c2, hf, if_true]
      rw [if_neg (by omega), if_neg hm]
    · simp only [Bytes, List.mem_singleton, forall_eq]; split <;> omega
    · simp only [mayI, Int.toNat_natCast, c2, hf, if_true]
      simp only [show ((2 : Nat) = 1) = False by simp, if_false, decide_eq_true_iff]
      split <;> omega
  · have h3 := formF_3 hf
    have hm8 : k % 8 ≠ 0 := by
      intro h8
      unfold formF at hf
      rw [if_neg (by omega), if_neg (by omega), if_pos (by omega), if_pos h8] at hf
      exact absurd hf (by decide)
    have hck : canon k = k / 8 * 8 + 1 := by unfold canon; rw [if_neg (by omega), if_pos hf]
    simp [hf] at ha
    subst ha
    refine mk [(canon k : Int) - 1 + (k % 8 : Int)] ?_ (by simp [lenF, hf]) (by simp [Bytes]; omega) (by simp [mayI, c2, hf]; omega) (by omega) (by omega)
    have hm : ¬ ((k % 8 : Int) < 1 ∨ 7 < (k % 8 : Int)) := by omega
    simp only [encI, c1, Int.toNat_natCast, c2, hf]
    rw [if_neg (by omega)]
    simp [hm]
  · have hck : canon k = k := by unfold canon; simp [hf]
    rw [hf] at ha
    generalize hx : r.getD 0 0 = x at *
    simp at ha
    subst ha
    refine mk [(k : Int), a] ?_ (by simp [lenF, hf]) (by simp [Bytes]; omega) (by simp [mayI, hck, hf]; omega) (by omega) (by omega)
    have hm : ¬ (a < 0 ∨ 255 < a) := by omega
    simp only [encI, c1, Int.toNat_natCast, hck, hf]
    rw [if_neg (by omega)]
    simp at hm ⊢; omega
  · have hck : canon k = k := by unfold canon; simp [hf]
    rw [hf] at ha
    generalize hx : r.getD 0 0 = x at *
    simp at ha
    subst ha
    refine mk [(k : Int), a] ?_ (by simp [lenF, hf]) (by simp [Bytes]; omega) (by simp [mayI, hck, hf]; omega) (by omega) (by omega)
    have hm : ¬ (a < 0 ∨ 255 < a) := by omega
    simp only [encI, c1, Int.toNat_natCast, hck, hf]
    rw [if_neg (by omega)]
    simp at hm ⊢; omega
  · have hck : canon k = k := by unfold canon; simp [hf]
    rw [hf] at ha
    generalize hx : r.getD 0 0 = x at *
    generalize hy : r.getD 1 0 = y at *
    simp at ha
    subst ha
    refine mk [(k : Int), (256 * x + y) / 256, (256 * x + y) % 256] ?_ (by simp [lenF, hf]) (by simp [Bytes]; omega) (by simp [mayI, hck, hf]; omega) (by omega) (by omega)
    have hm : ¬ (256 * x + y < 0 ∨ 65535 < 256 * x + y) := by omega
    simp only [encI, c1, Int.toNat_natCast, hck, hf]
    rw [if_neg (by omega)]
    simp [hm]
theorem dec_ok {b : List Int} (hb : Bytes b) (h : (decI b).2.2.2 = 0) : DecOK (decI b).1 (decI b).2.1 (decN b) := by
  cases b with
  | nil => simp [decI] at h
  | cons o r =>
    have ho := hb o (by simp)
    have hr : Bytes r := fun x hx => hb x (by simp [hx])
    obtain ⟨k, rfl⟩ : ∃ k : Nat, o = k := ⟨o.toNat, by omega⟩
    by_cases hl : (((k : Int)) :: r).length < lenF (formF ((k : Int)).toNat)
    · simp only [decI, if_pos hl] at h; exact absurd h (by decide)
    · have := dec_core k (by omega) r hr _ rfl
      unfold decN
      simp only [decI, if_neg hl, Int.toNat_natCast]
      rw [if_neg (by simpa using hl)]
      exact this
/-! Text. -/
def hx (n : Int) (k : Nat) : List UInt8 := (hexS n k).data.toList
theorem hx_len (n : Int) (k : Nat) (hk : k = 2 ∨ k = 4) (h0 : 0 ≤ n) (h1 : n < (16 : Int) ^ k) : (hx n k).length = k := by
  unfold hx hexS strOfNums
  rw [if_neg (by omega)]
  rcases hk with rfl | rfl <;> simp
theorem hx_le (n : Int) (k : Nat) (hk : k = 2 ∨ k = 4) : (hx n k).length ≤ k := by
  by_cases h : n < 0 ∨ (16 : Int) ^ k ≤ n
  · unfold hx hexS; rw [if_pos h]; exact Nat.zero_le _
  · rw [hx_len n k hk (by omega) (by omega)]; exact Nat.le_refl _
def sepL (b : List Int) : List UInt8 := Lib.join (b.map fun x => hx x 2) [32]
theorem sepL_snoc (b : List Int) (x : Int) : sepL (b ++ [x]) = if b = [] then hx x 2 else sepL b ++ 32 :: hx x 2 := by
  unfold sepL
  cases b with
  | nil => simp [Lib.join_one]
  | cons y r =>
    rw [if_neg (by simp), List.map_append, List.map_cons, List.cons_append, Lib.join_cons, Lib.join_cons]
    simp [Lib.joinTail]
theorem sepL_take (b : List Int) (i : Nat) (hi : i < b.length) : sepL (b.take (i + 1)) = if i = 0 then hx (b.getD i 0) 2 else sepL (b.take i) ++ 32 :: hx (b.getD i 0) 2 := by
  rw [List.take_succ_eq_append_getElem hi, sepL_snoc]
  have e : b.getD i 0 = b[i] := by simp [List.getD_eq_getElem?_getD, List.getElem?_eq_getElem hi]
  rw [e]
  by_cases h : i = 0
  · subst h; rw [if_pos (by simp), if_pos rfl]
  · rw [if_neg h, if_neg (by intro hn; have := congrArg List.length hn; rw [List.length_take, List.length_nil] at this; omega)]
theorem sepL_len : ∀ b : List Int, Bytes b → (sepL b).length = b.length * 3 - 1
  | [], _ => by simp [sepL, Lib.join_nil]
  | x :: r, h => by
    have hx0 : ∀ y ∈ (x :: r), (hx y 2).length = 2 := fun y hy => hx_len y 2 (.inl rfl) (h y hy).1 (by have := (h y hy).2; omega)
    unfold sepL
    rw [List.map_cons, Lib.join_cons, List.length_append, hx0 x (by simp)]
    have : ∀ l : List Int, (∀ y ∈ l, (hx y 2).length = 2) → (Lib.joinTail [32] (l.map fun x => hx x 2)).length = 3 * l.length := by
      intro l
      induction l with
      | nil => intro _; rfl
      | cons z l ih =>
        intro hl
        have := ih fun y hy => hl y (by simp [hy])
        unfold Lib.joinTail at this ⊢
        simp only [List.map_cons, List.flatten_cons, List.length_append, this, hl z (by simp), List.length_cons, List.length_nil]; omega
    rw [this r fun y hy => hx0 y (by simp [hy])]
    simp only [List.length_cons]; omega
theorem sepL_le (b : List Int) : (sepL b).length ≤ b.length * 3 := by
  cases b with
  | nil => simp [sepL, Lib.join_nil]
  | cons x r =>
    unfold sepL
    rw [List.map_cons, Lib.join_cons, List.length_append]
    have h0 := hx_le x 2 (.inl rfl)
    have : ∀ l : List Int, (Lib.joinTail [32] (l.map fun x => hx x 2)).length ≤ 3 * l.length := by
      intro l
      induction l with
      | nil => exact Nat.le_refl _
      | cons z l ih =>
        have h1 := hx_le z 2 (.inl rfl)
        unfold Lib.joinTail at ih ⊢
        simp only [List.map_cons, List.flatten_cons, List.length_append, List.length_cons, List.length_nil]; omega
    have := this r
    simp only [List.length_cons]; omega
def digL (at_ : Int) (b : List Int) : List UInt8 := hx at_ 4 ++ [32, 32] ++ sepL b
def padL (l : List UInt8) : List UInt8 := l ++ List.replicate (16 - l.length) 32
/-- Rows of eight bytes. -/
def rowsL8 (at_ : Int) (b : List Int) : List UInt8 :=
  if h : b = [] then [] else digL at_ (b.take 8) ++ 10 :: rowsL8 (at_ + (b.take 8).length) (b.drop 8)
termination_by b.length
decreasing_by
  have hl : 0 < b.length := List.length_pos_iff.2 h
  simp only [List.length_drop]; omega
theorem rowsL8_nil (at_ : Int) : rowsL8 at_ [] = [] := by rw [rowsL8]; simp
theorem rowsL8_step (at_ : Int) {b : List Int} (h : b ≠ []) : rowsL8 at_ b = digL at_ (b.take 8) ++ 10 :: rowsL8 (at_ + (b.take 8).length) (b.drop 8) := by
  rw [rowsL8, dif_neg h]
theorem rowsL8_le (n : Nat) : ∀ (at_ : Int) (b : List Int), b.length ≤ n → (rowsL8 at_ b).length ≤ 40 * b.length := by
  induction n with
  | zero => intro at_ b h; have : b = [] := List.eq_nil_of_length_eq_zero (by omega); subst this; rw [rowsL8_nil]; simp
  | succ n ih =>
    intro at_ b h
    by_cases hb : b = []
    · subst hb; rw [rowsL8_nil]; simp
    · have hp := List.length_pos_iff.2 hb
      rw [rowsL8_step at_ hb]
      have h1 := ih (at_ + (b.take 8).length) (b.drop 8) (by rw [List.length_drop]; omega)
      have h2 := sepL_le (b.take 8)
      have h3 := hx_le at_ 4 (.inr rfl)
      rw [List.length_drop] at h1
      rw [List.length_take] at h2
      simp only [digL, List.length_append, List.length_cons, List.length_nil]
      omega
def lineL (x : ItemP) (at_ : Int) : List UInt8 :=
  if x.kind = 1 then x.name.data.toList ++ [58, 10] else
  if x.kind = 2 then padL (digL at_ (encI x.name x.arg).2) ++ (printI x.name x.arg).1.data.toList ++ [10] else
  if x.kind = 3 then rowsL8 at_ x.bytes else []
def sizeI (x : ItemP) : Nat := if x.kind = 2 then (encI x.name x.arg).2.length else if x.kind = 3 then x.bytes.length else 0
def nextI (at_ : Int) (x : ItemP) : Int := (if x.kind = 4 then x.arg else at_) + sizeI x
def linesL : Int → List ItemP → List UInt8
  | _, [] => []
  | at_, x :: l => lineL x (if x.kind = 4 then x.arg else at_) ++ linesL (nextI at_ x) l
/-- Items that come of an object: what stands where. -/
inductive WfI : Int → ItemP → Int → Prop
  | lbl (at_ : Int) (l : LabelP) (h : l.name.size ≤ 16) : WfI at_ (lblI l) at_
  | code (at_ : Int) (b : List Int) (hb : Bytes b) (hne : b ≠ []) (hok : (decI b).2.2.2 = 0) (h0 : 0 ≤ at_) (h1 : at_ + decN b ≤ 65536) : WfI at_ (codeI b) (at_ + decN b)
  | data (at_ : Int) (b : List Int) (hb : Bytes b) (h1 : 1 ≤ b.length) (h2 : b.length ≤ 256) (h0 : 0 ≤ at_) (h3 : at_ + b.length ≤ 65536) : WfI at_ (dataI b) (at_ + b.length)
  | at_ (at_ a : Int) (h0 : 0 ≤ a) (h1 : a ≤ 65535) : WfI at_ (atI a) a
inductive WfL : Int → List ItemP → Int → Prop
  | nil (a : Int) : WfL a [] a
  | cons {a b c : Int} {x : ItemP} {l : List ItemP} (h : WfI a x b) (t : WfL b l c) : WfL a (x :: l) c
theorem WfL.append {a b c : Int} {l m : List ItemP} (h : WfL a l b) (k : WfL b m c) : WfL a (l ++ m) c := by
  induction h with
  | nil => exact k
  | cons h t ih => exact .cons h (ih k)
theorem WfL.inv {a c : Int} {x : ItemP} {l : List ItemP} (h : WfL a (x :: l) c) : ∃ b, WfI a x b ∧ WfL b l c := by
  cases h with
  | cons h t => exact ⟨_, h, t⟩
theorem WfI.next {a b : Int} {x : ItemP} (h : WfI a x b) : nextI a x = b := by
  cases h with
  | lbl => simp [nextI, sizeI, lblI]
  | code b hb hne hok => simp [nextI, sizeI, codeI, (dec_ok hb hok).len]
  | data => simp [nextI, sizeI, dataI]
  | at_ => simp [nextI, sizeI, atI]
theorem tell_wf (a at_ : Int) : ∀ rem : List LabelP, (∀ l ∈ rem, l.name.size ≤ 16) → WfL at_ (tellI a rem) at_
  | [], _ => .nil _
  | x :: r, h => by
    have ih := tell_wf a at_ r fun l hl => h l (by simp [hl])
    unfold tellI at ih ⊢
    by_cases hx : x.at_ = a
    · simp only [List.filter_cons, hx, decide_true, if_true, List.map_cons]; exact .cons (.lbl _ _ (h x (by simp))) ih
    · simpa [List.filter_cons, hx] using ih
theorem drop_sub {a : Int} {rem : List LabelP} {P : LabelP → Prop} (h : ∀ l ∈ rem, P l) : ∀ l ∈ dropI a rem, P l := fun l hl => h l (List.mem_filter.1 hl).1
theorem codeP_wf (P : LabelP → Prop) (hP : ∀ l, P l → l.name.size ≤ 16) (n : Nat) : ∀ (rem : List LabelP) (b : List Int) (at_ : Int), b.length ≤ n → (∀ l ∈ rem, P l) → Bytes b → wholeP b = true → 0 ≤ at_ → at_ + b.length ≤ 65536 →
    WfL at_ (codeP rem b at_).1 (at_ + b.length) ∧ (∀ l ∈ (codeP rem b at_).2, P l) := by
  induction n with
  | zero =>
    intro rem b at_ h hr _ _ _ _
    have : b = [] := List.eq_nil_of_length_eq_zero (by omega)
    subst this; rw [codeP_nil]; exact ⟨by simpa using WfL.nil at_, hr⟩
  | succ n ih =>
    intro rem b at_ h hr hb hw h0 h1
    by_cases hn : b = []
    · subst hn; rw [codeP_nil]; exact ⟨by simpa using WfL.nil at_, hr⟩
    · rw [wholeP, dif_neg hn] at hw
      by_cases h2 : (decI b).2.2.2 = 0
      · rw [dif_pos h2] at hw
        have hp := decN_pos hn h2
        obtain ⟨i1, i2⟩ := ih (dropI at_ rem) (b.drop (decN b)) (at_ + decN b) (by rw [List.length_drop]; omega) (drop_sub hr) (hb.drop _) hw (by omega) (by rw [List.length_drop]; omega)
        rw [codeP_step rem at_ hn h2]
        refine ⟨(tell_wf at_ at_ rem fun l hl => hP l (hr l hl)).append (.cons (.code at_ b hb hn h2 h0 (by omega)) ?_), i2⟩
        rw [List.length_drop] at i1
        rw [show at_ + (b.length : Int) = at_ + decN b + ((b.length - decN b : Nat) : Int) by omega]
        exact i1
      · rw [dif_neg h2] at hw; exact absurd hw (by simp)
theorem dataP_wf (P : LabelP → Prop) (hP : ∀ l, P l → l.name.size ≤ 16) (n : Nat) : ∀ (rem : List LabelP) (b : List Int) (at_ : Int), b.length ≤ n → (∀ l ∈ rem, P l) → Bytes b → 0 ≤ at_ → at_ + b.length ≤ 65536 →
    WfL at_ (dataP rem b at_).1 (at_ + b.length) ∧ (∀ l ∈ (dataP rem b at_).2, P l) := by
  induction n with
  | zero =>
    intro rem b at_ h hr _ _ _
    have : b = [] := List.eq_nil_of_length_eq_zero (by omega)
    subst this; rw [dataP_nil]; exact ⟨by simpa using WfL.nil at_, hr⟩
  | succ n ih =>
    intro rem b at_ h hr hb h0 h1
    by_cases hn : b = []
    · subst hn; rw [dataP_nil]; exact ⟨by simpa using WfL.nil at_, hr⟩
    · have hp := datN_bd rem at_ hn
      obtain ⟨i1, i2⟩ := ih (dropI at_ rem) (b.drop (datN rem b at_)) (at_ + datN rem b at_) (by rw [List.length_drop]; omega) (drop_sub hr) (hb.drop _) (by omega) (by rw [List.length_drop]; omega)
      rw [dataP_step rem at_ hn]
      have hlt : (b.take (datN rem b at_)).length = datN rem b at_ := by rw [List.length_take]; omega
      have hd := WfI.data at_ (b.take (datN rem b at_)) (hb.take _) (by omega) (by omega) h0 (by omega)
      rw [hlt] at hd
      refine ⟨(tell_wf at_ at_ rem fun l hl => hP l (hr l hl)).append (.cons hd ?_), i2⟩
      rw [List.length_drop] at i1
      rw [show at_ + (b.length : Int) = at_ + datN rem b at_ + ((b.length - datN rem b at_ : Nat) : Int) by omega]
      exact i1
/-- Labels whose names are short and whose addresses may be. -/
def LabQ (l : LabelP) : Prop := l.name.size ≤ 16 ∧ 0 ≤ l.at_ ∧ l.at_ ≤ 65535
theorem okLbN_mem (l : List LabelP) : ∀ n, n ≤ l.length → okLbN l n = true → ∀ i (h : i < n) (h2 : i < l.length), LabQ l[i]
  | 0, _, _, i, h, _ => absurd h (by omega)
  | n + 1, hn, hk, i, h, h2 => by
    rw [okLbN, Bool.and_eq_true] at hk
    by_cases hi : i = n
    · subst hi
      have := hk.2
      rw [lbOk, lb_at l i h2] at this
      simp only [Bool.and_eq_true, decide_eq_true_iff, isN] at this
      exact ⟨this.1.1.1.1.1.1.2, this.1.1.1.2, by omega⟩
    · exact okLbN_mem l n (by omega) hk.1 i (by omega) h2
theorem okLb_mem {l : List LabelP} (h : okLb l = true) : ∀ x ∈ l, LabQ x := fun x hx => by
  obtain ⟨i, hi, rfl⟩ := List.getElem_of_mem hx
  exact okLbN_mem l _ (Nat.le_refl _) h i hi hi
theorem mkOk_parts {A : Int} {bs : List Int} {off : Nat} {prev : Option Bool} {m : MarkP} (h : mkOk A bs off prev m = true) : m.at_ = A + off ∧ 1 ≤ m.n ∧ m.n ≤ bs.length - off ∧ (m.code = true → wholeP ((bs.drop off).take m.n.toNat) = true) := by
  unfold mkOk at h
  simp only [Bool.and_eq_true, decide_eq_true_iff, Bool.or_eq_true, Bool.not_eq_true'] at h
  exact ⟨h.1.1.1.1, h.1.1.1.2, h.1.1.2, fun hc => by rcases h.2 with h2 | h2; · rw [hc] at h2; exact absurd h2 (by simp)
                                                     · exact h2⟩
theorem rowsP_wf (A : Int) (bs : List Int) (hb : Bytes bs) (h0 : 0 ≤ A) (h1 : A + bs.length ≤ 65536) : ∀ (ms : List MarkP) (off : Nat) (prev : Option Bool) (rem : List LabelP) (ms' : List MarkP), eatMk A bs ms off prev = some ms' → off ≤ bs.length → (∀ l ∈ rem, LabQ l) →
    (rowsP bs ms off rem).2.1 = ms' ∧ WfL (A + off) (rowsP bs ms off rem).1 (A + bs.length) ∧ (∀ l ∈ (rowsP bs ms off rem).2.2, LabQ l)
  | [], off, prev, rem, ms', he, ho, hr => by
    rw [eatMk] at he
    split at he
    · cases he
      refine ⟨rfl, ?_, hr⟩
      rw [show (off : Int) = bs.length by omega]; exact .nil _
    · exact absurd he (by simp)
  | m :: ms, off, prev, rem, ms', he, ho, hr => by
    rw [eatMk] at he
    rw [rowsP]
    split at he
    · next hc =>
      cases he
      rw [if_pos hc]
      refine ⟨rfl, ?_, hr⟩
      rw [show (off : Int) = bs.length by omega]; exact .nil _
    · next hc =>
      rw [if_neg hc]
      split at he
      · next hm =>
        obtain ⟨m1, m2, m3, m4⟩ := mkOk_parts hm
        have hlen : ((bs.drop off).take m.n.toNat).length = m.n.toNat := by rw [List.length_take, List.length_drop]; omega
        have key : WfL (A + off) (markP rem bs off m).1 (A + off + m.n.toNat) ∧ (∀ l ∈ (markP rem bs off m).2, LabQ l) := by
          unfold markP
          split
          · next hcode =>
            have := codeP_wf LabQ (fun l h => h.1) _ rem ((bs.drop off).take m.n.toNat) m.at_ (Nat.le_refl _) hr ((hb.drop _).take _) (m4 hcode) (by omega) (by rw [hlen]; omega)
            rw [hlen, m1] at this; rw [m1]; exact this
          · have := dataP_wf LabQ (fun l h => h.1) _ rem ((bs.drop off).take m.n.toNat) m.at_ (Nat.le_refl _) hr ((hb.drop _).take _) (by omega) (by rw [hlen]; omega)
            rw [hlen, m1] at this; rw [m1]; exact this
        obtain ⟨i1, i2, i3⟩ := rowsP_wf A bs hb h0 h1 ms (off + m.n.toNat) _ (markP rem bs off m).2 ms' he (by omega) key.2
        refine ⟨i1, key.1.append ?_, i3⟩
        rw [show A + (off : Int) + m.n.toNat = A + ((off + m.n.toNat : Nat) : Int) by omega]
        exact i2
      · exact absurd he (by simp)
theorem blksP_wf : ∀ (first : Bool) (l : List BlockP) (ms : List MarkP) (rem : List LabelP) (e : Int), -1 ≤ e → okBl e l = true → okMk l ms = true → (∀ b ∈ l, Bytes b.bytes) → (∀ x ∈ rem, LabQ x) →
    ∃ c, WfL 0 (blksP true l ms rem).1 c ∧ (∀ x ∈ (blksP true l ms rem).2, LabQ x) ∧ ∀ a, ∃ c, WfL a (blksP false l ms rem).1 c ∧ (∀ x ∈ (blksP false l ms rem).2, LabQ x)
  | _, [], ms, rem, e, _, _, _, _, hr => ⟨0, .nil _, hr, fun a => ⟨a, .nil _, hr⟩⟩
  | first, b :: r, ms, rem, e, he, hb, hm, hbs, hr => by
    rw [okBl, Bool.and_eq_true] at hb
    have hk := hb.1
    unfold blOk at hk
    rw [decide_eq_true_iff] at hk
    rw [okMk] at hm
    cases hq : eatMk b.at_ b.bytes ms 0 none with
    | none => rw [hq] at hm; exact absurd hm (by simp)
    | some ms' =>
      rw [hq] at hm
      simp only at hm
      obtain ⟨r1, r2, r3⟩ := rowsP_wf b.at_ b.bytes (hbs b (by simp)) hk.2.1 (by omega) ms 0 none rem ms' hq (Nat.zero_le _) hr
      have r2' : WfL b.at_ (rowsP b.bytes ms 0 rem).1 (b.at_ + b.bytes.length) := by simpa using r2
      obtain ⟨c0, i0, i1, i2⟩ := blksP_wf false r ms' (dropI (b.at_ + b.bytes.length) (rowsP b.bytes ms 0 rem).2.2) _ (by omega) hb.2 hm (fun x hx => hbs x (by simp [hx])) (drop_sub r3)
      obtain ⟨c, j1, j2⟩ := i2 (b.at_ + b.bytes.length)
      have ht := tell_wf (b.at_ + b.bytes.length) (b.at_ + b.bytes.length) _ fun l hl => (r3 l hl).1
      have tail := (r2'.append ht).append j1
      have ha : ∀ a, WfL a ([atI b.at_] ++ ((rowsP b.bytes ms 0 rem).1 ++ tellI (b.at_ + b.bytes.length) (rowsP b.bytes ms 0 rem).2.2 ++ (blksP false r ms' (dropI (b.at_ + b.bytes.length) (rowsP b.bytes ms 0 rem).2.2)).1)) c := fun a => .cons (.at_ a b.at_ hk.2.1 (by omega)) tail
      refine ⟨c, ?_, ?_, fun a => ⟨c, ?_, ?_⟩⟩
      · rw [blksP]
        simp only [Bool.true_and, r1]
        by_cases h0 : b.at_ = 0
        · rw [decide_eq_true h0, if_pos rfl]
          rw [h0] at tail ⊢
          simpa using tail
        · rw [decide_eq_false h0]
          simpa using ha 0
      · rw [blksP]; simp only [r1]; exact j2
      · rw [blksP]; simp only [r1, Bool.false_and]; simpa using ha a
      · rw [blksP]; simp only [r1]; exact j2
theorem restP_wf (n : Nat) : ∀ (l : List LabelP) (a : Int), l.length ≤ n → (∀ x ∈ l, LabQ x) → ∃ c, WfL a (restP l) c := by
  induction n with
  | zero => intro l a h _; have : l = [] := List.eq_nil_of_length_eq_zero (by omega); subst this; exact ⟨a, by rw [restP]; exact .nil _⟩
  | succ n ih =>
    intro l a h hr
    cases l with
    | nil => exact ⟨a, by rw [restP]; exact .nil _⟩
    | cons x r =>
      have h1 := dropI_lt x.at_ x r rfl
      have hx := hr x (by simp)
      obtain ⟨c, hc⟩ := ih (dropI x.at_ (x :: r)) x.at_ (by simp only [List.length_cons] at h h1 ⊢; omega) (drop_sub hr)
      refine ⟨c, ?_⟩
      rw [restP, List.cons_append]
      exact .cons (.at_ a x.at_ hx.2.1 hx.2.2) ((tell_wf x.at_ x.at_ (x :: r) fun l hl => (hr l hl).1).append hc)
def okO (o : ObjP) : Bool := okBl (-1) o.blocks && okMk o.blocks o.marks && okLb o.labels
theorem listP_wf (o : ObjP) (h : okO o = true) (hb : ∀ b ∈ o.blocks, Bytes b.bytes) : ∃ c, WfL 0 (listP o) c := by
  unfold okO at h
  rw [Bool.and_eq_true, Bool.and_eq_true] at h
  have hq := okLb_mem h.2
  unfold listP
  have hr : ∀ x ∈ (if beginP o then dropI 0 o.labels else o.labels), LabQ x := by split; exact drop_sub hq; exact hq
  obtain ⟨c, i1, i2, _⟩ := blksP_wf true o.blocks o.marks _ (-1) (by omega) h.1.1 h.1.2 hb hr
  obtain ⟨d, k1⟩ := restP_wf _ (blksP true o.blocks o.marks (if beginP o then dropI 0 o.labels else o.labels)).2 c (Nat.le_refl _) i2
  refine ⟨d, ?_⟩
  have h0 : WfL 0 (if beginP o then tellI 0 o.labels else []) 0 := by
    split
    · exact tell_wf 0 0 _ fun l hl => (hq l hl).1
    · exact .nil _
  exact (h0.append i1).append k1
theorem bl_size (s : ByteArray) : s.data.toList.length = s.size := by rw [Array.length_toList]; rfl
theorem print_size {s : ByteArray} {a : Int} {n : Nat} (d : DecOK s a n) : (printI s a).1.size ≤ 13 ∧ (printI s a).1.size ≠ 0 := by
  unfold printI
  rw [if_pos d.enc]
  have hz := d.sz
  have hn := d.ne
  split
  · simp only; omega
  · next h =>
    have := hexS_size a (wideF (formF (firstI s).toNat)) (by rcases wideF_cases (formF (firstI s).toNat) with h0 | h0 | h0 | h0
                                                             · exact absurd h0 h
                                                             · exact .inl h0
                                                             · exact .inr (.inl h0)
                                                             · exact .inr (.inr h0))
    have h1 : (bstr [32]).size = 1 := rfl
    simp only [ByteArray.size_append, h1]
    omega
theorem WfI.line_len {a b : Int} {x : ItemP} (h : WfI a x b) (p : Int) : (lineL x p).length ≤ 11000 := by
  cases h with
  | lbl l hl =>
    have e : lineL (lblI l) p = l.name.data.toList ++ [58, 10] := rfl
    rw [e, List.length_append, bl_size]; simp only [List.length_cons, List.length_nil]; omega
  | code bs hb hne hok =>
    have d := dec_ok hb hok
    have h1 := sepL_le (encI (decI bs).1 (decI bs).2.1).2
    have h2 := hx_le p 4 (.inr rfl)
    have h3 := (print_size d).1
    have h4 := d.len
    have h5 := d.n3
    have e : lineL (codeI bs) p = padL (digL p (encI (decI bs).1 (decI bs).2.1).2) ++ (printI (decI bs).1 (decI bs).2.1).1.data.toList ++ [10] := rfl
    rw [e]
    simp only [List.length_append, bl_size, padL, digL, List.length_replicate, List.length_cons, List.length_nil]
    omega
  | data bs hb h1 h2 =>
    have := rowsL8_le _ p bs (Nat.le_refl _)
    have e : lineL (dataI bs) p = rowsL8 p bs := rfl
    rw [e]; omega
  | at_ => exact Nat.zero_le _
theorem linesL_len {c : Int} : ∀ {l : List ItemP} {a : Int}, WfL a l c → (linesL a l).length ≤ 11000 * l.length
  | [], _, _ => by rw [linesL]; exact Nat.zero_le _
  | x :: l, a, h => by
    obtain ⟨b, h1, h2⟩ := h.inv
    have e1 := linesL_len h2
    rw [linesL, h1.next]
    have e2 := h1.line_len (if x.kind = 4 then x.arg else a)
    simp only [List.length_append, List.length_cons]; omega
/-- The listing: the text, the error's number. -/
def linesV (l : List ItemP) : ByteArray × Int := if 65536 < (linesL 0 l).length then (⟨#[]⟩, 2) else (⟨(linesL 0 l).toArray⟩, 0)
end Go.Proofs.YtofhdlkocgbcgaaGreatDoor
