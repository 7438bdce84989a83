/- The walk of package source's name and Check at a label's item; asm's named. -/
import Derived.Test.YtofhdlkocgbcgaaGreatDoorNamW
import Derived.Test.YtofhdlkocgbcgaaGreatDoorShelf
namespace Go.Proofs.YtofhdlkocgbcgaaGreatDoor
open Go Go.RowKit Pu
set_option linter.unusedVariables false
set_option linter.unusedSimpArgs false
theorem below1 {w w1 : World} {O : Obj} (hb : Below (w.alloc O).heap.size (w.alloc O) w1) : Below w.heap.size w w1 := ((Below.refl _ _).alloc (Nat.le_refl _) _).trans (hb.mono (by simp))
theorem below2 {w w1 : World} {O O2 : Obj} (hb : Below ((w.alloc O).alloc O2).heap.size ((w.alloc O).alloc O2) w1) : Below w.heap.size w w1 := below1 (below1 hb)
def smallL : List UInt8 := [97, 98, 99, 100, 101, 102, 103, 104, 105, 106, 107, 108, 109, 110, 111, 112, 113, 114, 115, 116, 117, 118, 119, 120, 121, 122]
def othersL : List UInt8 := smallL ++ [48, 49, 50, 51, 52, 53, 54, 55, 56, 57, 45]
set_option maxRecDepth 100000 in
theorem small_all : ∀ n : Fin 256, decide ((0 : Int) ≤ Lib.indexByte smallL (UInt8.ofNat n.val)) = decide (97 ≤ n.val ∧ n.val ≤ 122) := by decide +kernel
set_option maxRecDepth 100000 in
theorem others_all : ∀ n : Fin 256, othersL.contains (UInt8.ofNat n.val) = okC (n.val : Int) := by decide +kernel
theorem small_at (c : UInt8) : decide ((0 : Int) ≤ Lib.indexByte smallL c) = decide (97 ≤ (c.toNat : Int) ∧ (c.toNat : Int) ≤ 122) := by
  have h := small_all ⟨c.toNat, c.toNat_lt⟩
  simp only [UInt8.ofNat_toNat] at h
  rw [h, Bool.eq_iff_iff]; simp; omega
theorem others_at (c : UInt8) : othersL.contains c = okC (c.toNat : Int) := by
  have h := others_all ⟨c.toNat, c.toNat_lt⟩
  simpa only [UInt8.ofNat_toNat] using h
theorem trim_nil (l cs : List UInt8) : (Lib.trimS l cs = []) ↔ l.all (fun b => cs.contains b) = true := by
  have drop_nil : ∀ l : List UInt8, l.dropWhile (cs.contains ·) = [] ↔ l.all (fun b => cs.contains b) = true := by
    intro l
    induction l with
    | nil => simp
    | cons b r ih =>
      rw [List.dropWhile_cons, List.all_cons]
      cases hb : cs.contains b with
      | true => simpa using ih
      | false => simp
  unfold Lib.trimS Lib.trimLeftS
  rw [drop_nil]
  constructor
  · intro h
    have hr : (Lib.trimRightS l cs) = [] := by
      unfold Lib.trimRightS at h ⊢
      generalize hd : l.reverse.dropWhile (cs.contains ·) = d at *
      cases d with
      | nil => rfl
      | cons b r =>
        exfalso
        have h1 : cs.contains b = false := by
          have := List.head?_dropWhile_not (cs.contains ·) l.reverse
          rw [hd] at this
          simpa using this
        rw [List.all_reverse] at h
        rw [List.all_cons, h1] at h
        exact absurd h (by simp)
    unfold Lib.trimRightS at hr
    have := (drop_nil _).1 (List.reverse_eq_nil_iff.1 hr)
    simpa using this
  · intro h
    have hr : (Lib.trimRightS l cs) = [] := by
      unfold Lib.trimRightS
      rw [List.reverse_eq_nil_iff, drop_nil]
      simpa using h
    rw [hr]; rfl
theorem allC_take (s : ByteArray) : ∀ n, n ≤ s.size → allC s n = (s.data.toList.take n).all (fun b => okC (b.toNat : Int))
  | 0, _ => by simp [allC]
  | n + 1, h => by
    have h' : n < s.data.toList.length := by rw [Array.length_toList]; exact h
    rw [allC, allC_take s n (by omega), List.take_succ_eq_append_getElem h', List.all_append]
    unfold btI
    rw [List.getD_eq_getElem?_getD, List.getElem?_eq_getElem h', Option.getD_some]
    simp
theorem isN_lib (s : ByteArray) (h : ¬ s.size = 0) : isN s = (decide (s.size ≤ 16) && decide ((0 : Int) ≤ Lib.indexByte smallL (s.data.toList.getD 0 0)) && decide (Lib.trimS s.data.toList othersL = [])) := by
  have e1 : decide (97 ≤ btI s 0 ∧ btI s 0 ≤ 122) = decide ((0 : Int) ≤ Lib.indexByte smallL (s.data.toList.getD 0 0)) := (small_at _).symm
  have e2 : allC s s.size = decide (Lib.trimS s.data.toList othersL = []) := by
    rw [allC_take s s.size (Nat.le_refl _), Bool.eq_iff_iff, decide_eq_true_iff, trim_nil]
    have : s.data.toList.take s.size = s.data.toList := List.take_of_length_le (by rw [Array.length_toList]; exact Nat.le_refl _)
    rw [this]
    simp only [others_at]
  unfold isN
  rw [e1, e2]; simp [h]
theorem src_contains (s : ByteArray) (h : ¬ s.size = 0) (b : Bool) (hb : decide ((0 : Int) ≤ Lib.indexByte smallL (s.data.toList.getD 0 0)) = b) (w : World) : Calls Tryz.prog 99 #[.string ⟨#[97, 98, 99, 100, 101, 102, 103, 104, 105, 106, 107, 108, 109, 110, 111, 112, 113, 114, 115, 116, 117, 118, 119, 120, 121, 122]⟩, .string (s.extract 0 1)] w fun e w' => e = .returned (.bool b) ∧ w = w' := by
  have e : s.extract 0 1 = ⟨#[s.data.toList.getD 0 0]⟩ := by
    rcases s with ⟨⟨l⟩⟩
    cases l with
    | nil => exact absurd rfl h
    | cons a r => simp [ByteArray.extract, ByteArray.copySlice]
  rw [e]
  refine (Tryz.strings_Contains_one _ _ w).mono ?_
  rintro e w' ⟨rfl, rfl⟩
  exact ⟨ret_bool hb, rfl⟩
theorem src_trim (s : ByteArray) (h : s.size ≤ 16) (t : ByteArray) (ht : (⟨(Lib.trimS s.data.toList othersL).toArray⟩ : ByteArray) = t) (w : World) : Calls Tryz.prog 100 #[.string s, .string ⟨#[97, 98, 99, 100, 101, 102, 103, 104, 105, 106, 107, 108, 109, 110, 111, 112, 113, 114, 115, 116, 117, 118, 119, 120, 121, 122, 48, 49, 50, 51, 52, 53, 54, 55, 56, 57, 45]⟩] w fun e w' => e = .returned (.string t) ∧ Below w.heap.size w w' := by
  refine (Tryz.strings_Trim _ _ w (by omega) (by decide) (ascii_of_all (by decide))).mono ?_
  rintro e w' ⟨rfl, hb⟩
  exact ⟨ret_str ht, hb⟩
set_option maxHeartbeats 1000000 in
set_option maxRecDepth 100000 in
theorem src_name_0 (w : World) : Calls Tryz.prog 97 #[.string ⟨#[]⟩] w fun e w' => e = .returned (.bool false) ∧ w = w' := by
  go_enter Tryz.func97, Tryz.ntmps97
  go_wp2
  go_ret
  exact ⟨rfl, rfl⟩
set_option maxHeartbeats 1000000 in
set_option maxRecDepth 100000 in
theorem src_name_2 (s : ByteArray) (w : World) (h : 16 < s.size) : Calls Tryz.prog 97 #[.string s] w fun e w' => e = .returned (.bool false) ∧ w = w' := by
  have hne := beq_nil s (by omega)
  have hi : (16 : Int) < (s.size : Int) := by omega
  go_enter Tryz.func97, Tryz.ntmps97
  go_wp2
  go_ret
  exact ⟨rfl, rfl⟩
set_option maxHeartbeats 1000000 in
set_option maxRecDepth 100000 in
theorem src_name_1 (s : ByteArray) (w : World) (h : ¬ s.size = 0) (h1 : s.size ≤ 16) (b : Bool) (hb : decide ((0 : Int) ≤ Lib.indexByte smallL (s.data.toList.getD 0 0)) = b) (t : ByteArray) (ht : (⟨(Lib.trimS s.data.toList othersL).toArray⟩ : ByteArray) = t) (q : Bool) (hq : (t.toList == ([] : List UInt8)) = q) : Calls Tryz.prog 97 #[.string s] w fun e w' => e = .returned (.bool (b && q)) ∧ Below w.heap.size w w' := by
  have hne := beq_nil s h
  have hi : (1 : Int) ≤ (s.size : Int) := by omega
  have hi2 : (s.size : Int) ≤ 16 := by omega
  have HB := Lib.hid hb
  have HT := Lib.hid ht
  clear hb ht
  cases b with
  | false =>
    go_enter Tryz.func97, Tryz.ntmps97
    go_wp2_with (first | (go_at_call 99; refine (src_contains _ h _ HB.out _).mono ?_; rintro e w' ⟨rfl, rfl⟩))
    go_ret
    exact ⟨rfl, Below.refl _ _⟩
  | true =>
    go_enter Tryz.func97, Tryz.ntmps97
    go_wp2_with (first | (go_at_call 99; refine (src_contains _ h _ HB.out _).mono ?_; rintro e w' ⟨rfl, rfl⟩) | (go_at_call 100; refine (src_trim _ h1 _ HT.out _).mono ?_; rintro e w' ⟨rfl, hb⟩))
    go_ret
    exact ⟨by simp, hb⟩
theorem src_name (s : ByteArray) (w : World) : Calls Tryz.prog 97 #[.string s] w fun e w' => e = .returned (.bool (isN s)) ∧ Below w.heap.size w w' := by
  by_cases h : s.size = 0
  · have e : s = ⟨#[]⟩ := by
      rcases s with ⟨⟨l⟩⟩
      simp [ByteArray.size] at h; subst h; rfl
    subst e
    refine (src_name_0 w).mono ?_
    rintro e w' ⟨rfl, rfl⟩
    exact ⟨rfl, Below.refl _ _⟩
  · by_cases h1 : s.size ≤ 16
    · refine (src_name_1 s w h h1 _ rfl _ rfl _ rfl).mono ?_
      rintro e w' ⟨rfl, hb⟩
      refine ⟨ret_bool ?_, hb⟩
      rw [isN_lib s h, show decide (s.size ≤ 16) = true by simpa using h1, Bool.true_and, Lib.toList_data]
      congr 1
      rw [Bool.eq_iff_iff]; simp
    · refine (src_name_2 s w (by omega)).mono ?_
      rintro e w' ⟨rfl, rfl⟩
      refine ⟨ret_bool ?_, Below.refl _ _⟩
      unfold isN; rw [show decide (s.size ≤ 16) = false by simp; omega]; simp
def labelItem (s : ByteArray) : Value := .agg #[.int .u8 1, .string s, .int .i64 0, .string ⟨#[]⟩, .int .u8 0, .slice none 0 0]
set_option maxHeartbeats 1000000 in
set_option maxRecDepth 100000 in
theorem src_may_label (s : ByteArray) (w : World) : Calls Tryz.prog 91 #[.agg #[.int .u8 1, .string s, .int .i64 0, .string ⟨#[]⟩, .int .u8 0, .slice none 0 0]] w fun e w' => e = .returned (.bool (isN s)) ∧ Below w.heap.size w w' := by
  go_enter Tryz.func91, Tryz.ntmps91
  go_wp2_with (first | (go_at_call 97; refine (src_name _ _).mono ?_; rintro e w1 ⟨rfl, hb⟩; obtain ⟨hc, hfz⟩ := bcell hb; have hz := hb.size; simp at hz; have hz2 : w.heap.size < w1.heap.size := (by omega); have hz3 : w.heap.size < w1.heap.size + 1 := (by omega); have e1 := (hc w.heap.size 0 (by simp)); have e2 := (hc w.heap.size 1 (by simp)); have f1 := (hfz w.heap.size 0 (by simp)); have f2 := (hfz w.heap.size 1 (by simp)); (try simp at e1); (try simp at e2); (try simp at f1); (try simp at f2)))
  go_ret
  refine ⟨rfl, ?_⟩
  (repeat first | exact Below.refl _ _ | assumption | refine Below.trans ?_ (hb.mono (by first | omega | (simp; done) | (simp; omega))) | refine Below.drew ?_ | refine Below.alloc ?_ (by first | omega | (simp; done) | (simp; omega)) _ | refine Below.setCell ?_ (by first | omega | (simp; done) | (simp; omega)) _)
set_option maxHeartbeats 1000000 in
set_option maxRecDepth 100000 in
theorem src_Check_label (s : ByteArray) (w : World) (b : Bool) (hb : isN s = b) (w0 : World) (hw : w = w0.alloc (.cells #[.int .u8 1, .string s, .int .i64 0, .string ⟨#[]⟩, .int .u8 0, .slice none 0 0] 52)) : Calls Tryz.prog 74 #[.slice (some ⟨w0.heap.size, 0, none⟩) 1 1] w fun e w' => (∃ n, e = .returned (.tuple #[.int .i64 (if b then 0 else 130), .int .i64 n])) ∧ Below w.heap.size w w' := by
  subst hw
  have T1 : ∀ v, v = Value.agg #[.int .u8 1, .string s, .int .i64 0, .string ⟨#[]⟩, .int .u8 0, .slice none 0 0] → True := fun _ _ => trivial
  cases b with
  | false =>
    go_enter Tryz.func74, Tryz.ntmps74
    go_wp2
    refine wp_loop_rounds 2 ?_
    repeat any_goals (rw [rounds_succ]; go_wp2_with (go_at_call 91; refine (src_may_label _ _).mono ?_; rw [hb]; rintro e w1 ⟨rfl, hb2⟩))
    have HB := Lib.hid hb
    clear hb
    have hb := hb2
    refine bodyPost_ret (v := .tuple #[.int .i64 130, .int .i64 0]) (by simp [results, Tryz.results74, go_sem, *]) rfl ⟨⟨_, rfl⟩, ?_⟩
    (repeat first | exact Below.refl _ _ | assumption | refine Below.trans ?_ (hb.mono (by first | omega | (simp; done) | (simp; omega))) | refine Below.drew ?_ | refine Below.alloc ?_ (by first | omega | (simp; done) | (simp; omega)) _ | refine Below.setCell ?_ (by first | omega | (simp; done) | (simp; omega)) _)
  | true =>
    go_enter Tryz.func74, Tryz.ntmps74
    go_wp2
    refine wp_loop_rounds 2 ?_
    repeat any_goals (rw [rounds_succ]; go_wp2_with (go_at_call 91; refine (src_may_label _ _).mono ?_; rw [hb]; rintro e w1 ⟨rfl, hb2⟩))
    have HB := Lib.hid hb
    clear hb
    have hb := hb2
    refine bodyPost_ret (v := .tuple #[.int .i64 0, .int .i64 0]) (by simp [results, Tryz.results74, go_sem, *]) rfl ⟨⟨_, rfl⟩, ?_⟩
    (repeat first | exact Below.refl _ _ | assumption | refine Below.trans ?_ (hb.mono (by first | omega | (simp; done) | (simp; omega))) | refine Below.drew ?_ | refine Below.alloc ?_ (by first | omega | (simp; done) | (simp; omega)) _ | refine Below.setCell ?_ (by first | omega | (simp; done) | (simp; omega)) _)
set_option maxHeartbeats 1000000 in
set_option maxRecDepth 100000 in
theorem asm_named (s : ByteArray) (w : World) : Calls Tryz.prog 46 #[.string s] w fun e w' => e = .returned (.bool (isN s)) ∧ Below w.heap.size w w' := by
  generalize hb : isN s = b
  cases b with
  | false =>
    go_enter Tryz.func46, Tryz.ntmps46
    go_wp2_with (first | (go_at_call 74; refine (src_Check_label _ _ _ hb _ rfl).mono ?_; rintro e w1 ⟨⟨n, rfl⟩, hb1⟩))
    go_ret
    exact ⟨rfl, below1 hb1⟩
  | true =>
    go_enter Tryz.func46, Tryz.ntmps46
    go_wp2_with (first | (go_at_call 74; refine (src_Check_label _ _ _ hb _ rfl).mono ?_; rintro e w1 ⟨⟨n, rfl⟩, hb1⟩))
    go_ret
    exact ⟨rfl, below1 hb1⟩
end Go.Proofs.YtofhdlkocgbcgaaGreatDoor
