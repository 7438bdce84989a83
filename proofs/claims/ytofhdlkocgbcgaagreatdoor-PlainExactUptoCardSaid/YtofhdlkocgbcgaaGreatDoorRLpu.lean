/- Plain lemmas for the reference's List. -/
import Derived.Test.YtofhdlkocgbcgaaGreatDoorRefD
import Derived.Test.YtofhdlkocgbcgaaGreatDoorPLst
namespace Go.Proofs.YtofhdlkocgbcgaaGreatDoor
open Go Go.RowKit Pu
set_option linter.unusedVariables false
set_option linter.unusedSimpArgs false
theorem okBl_next : ∀ (l : List BlockP) (e : Int), okBl e l = true → ∀ (i : Nat) (h : i + 1 < l.length), l[i].at_ + l[i].bytes.length < l[i + 1].at_
  | [], _, _, i, h => absurd h (by simp)
  | [_], _, _, i, h => absurd h (by simp)
  | b :: b2 :: r, e, hk, i, h => by
    rw [okBl, Bool.and_eq_true] at hk
    cases i with
    | zero =>
      have h2 := hk.2
      rw [okBl, Bool.and_eq_true] at h2
      have h1 := h2.1
      unfold blOk at h1
      rw [decide_eq_true_iff] at h1
      exact h1.1
    | succ j => exact okBl_next (b2 :: r) _ hk.2 j (by simpa using h)
theorem mark_after {o : ObjP} {i k : Nat} (hi : i < o.blocks.length) (h1 : okBl (-1) o.blocks = true) (h2 : okMk o.blocks o.marks = true) (hm : MkI o.blocks o.marks i k o.blocks[i].bytes.length o.blocks[i]) (hk : k < o.marks.length) : o.blocks[i].at_ + o.blocks[i].bytes.length < o.marks[k].at_ := by
  have hO := hm.leave
  by_cases hn : i + 1 < o.blocks.length
  · have hE := hO.enter hn
    have ba := okBl_at _ _ (by omega) h1 (i + 1) hn
    have hx := okBl_next _ _ h1 i hn
    cases hq : mkOk o.blocks[i + 1].at_ o.blocks[i + 1].bytes 0 (prevOf o.marks k 0) o.marks[k] with
    | true => have := (mkOk_parts hq).1; omega
    | false => have := hE.bad (by omega) hk hq; rw [h2] at this; exact absurd this (by simp)
  · have e : i + 1 = o.blocks.length := by omega
    have := hO.1
    rw [e, List.drop_length, h2, okMk, List.isEmpty_iff, List.drop_eq_nil_iff] at this
    omega
theorem first_pos {o : ObjP} {i : Nat} (hi : i < o.blocks.length) (h1 : okBl (-1) o.blocks = true) (h0 : o.blocks[i].at_ = 0) : i = 0 := by
  cases i with
  | zero => rfl
  | succ j =>
    have a := okBl_next _ _ h1 j hi
    have b := okBl_at _ _ (by omega) h1 j (by omega)
    omega
theorem TB_next {o : ObjP} {l : List LabelP} {td : List Bool} {i : Nat} (hi : i < o.blocks.length) (h1 : okBl (-1) o.blocks = true) (h : TB l td (o.blocks[i].at_ + o.blocks[i].bytes.length)) : ∀ hn : i + 1 < o.blocks.length, TB l td o.blocks[i + 1].at_ := fun hn => h.mono (by have := okBl_next _ _ h1 i hn; omega)
/-- All labels before i are told. -/
def Told (td : List Bool) (i : Nat) : Prop := ∀ j, j < i → td.getD j false = true
theorem remT_told : ∀ (l : List LabelP) (td : List Bool) (i : Nat), td.length = l.length → Told td i → remT l td = remT (l.drop i) (td.drop i)
  | l, td, 0, _, _ => by simp
  | [], td, i + 1, h, _ => by have : td = [] := List.eq_nil_of_length_eq_zero (by simpa using h); subst this; simp [remT]
  | x :: l, [], _, h, _ => by simp at h
  | x :: l, t :: td, i + 1, h, ht => by
    have h0 : t = true := by simpa using ht 0 (by omega)
    subst h0
    have := remT_told l td i (by simpa using h) (fun j hj => by simpa using ht (j + 1) (by omega))
    simpa [remT] using this
theorem remT_head {l : List LabelP} {td : List Bool} {i : Nat} (h : td.length = l.length) (hi : i < l.length) (ht : Told td i) (hf : td.getD i false = false) : ∃ r, remT l td = l[i] :: r := by
  rw [remT_told l td i h ht, List.drop_eq_getElem_cons hi, List.drop_eq_getElem_cons (by omega : i < td.length)]
  have e : td[i] = false := by rw [List.getD_eq_getElem?_getD, List.getElem?_eq_getElem (by omega)] at hf; exact hf
  rw [e]
  exact ⟨_, rfl⟩
theorem remT_end {l : List LabelP} {td : List Bool} (h : td.length = l.length) (ht : Told td l.length) : remT l td = [] := by
  rw [remT_told l td l.length h ht, List.drop_length]; simp [remT]
theorem Told.skip {td : List Bool} {i : Nat} (h : Told td i) (hi : td.getD i false = true) : Told td (i + 1) := fun j hj => by
  by_cases e : j = i
  · subst e; exact hi
  · exact h j (by omega)
theorem Told.tell {l : List LabelP} {td : List Bool} {i : Nat} (h : Told td i) (hn : td.length = l.length) (hi : i < l.length) : Told (tellT l[i].at_ l td) (i + 1) := fun j hj => by
  rw [List.getD_eq_getElem?_getD, tellT_at _ _ _ j (by omega) hn, Option.getD_some]
  by_cases e : j = i
  · subst e; simp
  · rw [h j (by omega)]; rfl
theorem restP_head {rem r : List LabelP} {x : LabelP} (h : rem = x :: r) : restP rem = atI x.at_ :: (tellI x.at_ rem ++ restP (dropI x.at_ rem)) := by
  subst h; rw [restP]; rfl
theorem restP_len' (l : List LabelP) : (restP l).length ≤ 2 * l.length := restP_len _ l (Nat.le_refl _)
end Go.Proofs.YtofhdlkocgbcgaaGreatDoor
