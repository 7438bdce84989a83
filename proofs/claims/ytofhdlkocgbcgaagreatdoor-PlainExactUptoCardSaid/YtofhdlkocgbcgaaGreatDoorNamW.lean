/- The walk of the reference's IsName. -/
import Derived.Test.YtofhdlkocgbcgaaGreatDoorDecZ
namespace Go.Proofs.YtofhdlkocgbcgaaGreatDoor
open Go Go.RowKit Pu
set_option linter.unusedVariables false
set_option linter.unusedSimpArgs false
/-- May a byte stand in a label's name? -/
def okC (c : Int) : Bool := decide (97 ≤ c ∧ c ≤ 122) || decide (48 ≤ c ∧ c ≤ 57) || decide (c = 45)
def btI (s : ByteArray) (i : Nat) : Int := ((s.data.toList.getD i 0).toNat : Int)
def allC (s : ByteArray) : Nat → Bool
  | 0 => true
  | i + 1 => allC s i && okC (btI s i)
/-- Is it a label's name? -/
def isN (s : ByteArray) : Bool := decide (s.size ≠ 0) && decide (s.size ≤ 16) && decide (97 ≤ btI s 0 ∧ btI s 0 ≤ 122) && allC s s.size
set_option maxRecDepth 100000 in
theorem bt_at (s : ByteArray) (i : Nat) (h : i < s.size) : ((s[i]'h).toNat : Int) = btI s i := by
  unfold btI
  have h' : i < s.data.toList.length := by rw [Array.length_toList]; exact h
  rw [List.getD_eq_getElem?_getD, List.getElem?_eq_getElem h', Option.getD_some, ByteArray.getElem_eq_getElem_data, Array.getElem_toList]
theorem bt_bd (s : ByteArray) (i : Nat) : 0 ≤ btI s i ∧ btI s i ≤ 255 := by
  unfold btI
  have := (s.data.toList.getD i 0).toNat_lt
  omega
theorem allC_false (s : ByteArray) : ∀ n i, i < n → okC (btI s i) = false → allC s n = false
  | 0, i, h, _ => absurd h (by omega)
  | n + 1, i, h, hf => by
    rw [allC]
    by_cases hi : i = n
    · subst hi; simp [hf]
    · rw [allC_false s n i (by omega) hf]; rfl
theorem beq_nil (s : ByteArray) (h : ¬ s.size = 0) : (s.toList == ([] : List UInt8)) = false := by
  have e : ([] : List UInt8) = (ByteArray.toList ⟨#[]⟩) := by rw [Lib.toList_data]
  rw [e]
  apply beqS_false
  rintro rfl
  exact h rfl
set_option maxHeartbeats 1000000 in
set_option maxRecDepth 100000 in
theorem r13_IsName_0 (s : ByteArray) (w : World) (h : s.size = 0) : Calls Tryz.prog 61 #[.string s] w fun e w' => e = .returned (.bool (isN s)) ∧ w = w' := by
  have hr : isN s = false := by simp [isN, h]
  rw [hr]; clear hr
  have e : s = ⟨#[]⟩ := by
    rcases s with ⟨⟨l⟩⟩
    simp [ByteArray.size] at h; subst h; rfl
  subst e
  go_enter Tryz.func61, Tryz.ntmps61
  go_wp2
  go_ret
  exact ⟨rfl, rfl⟩
set_option maxHeartbeats 1000000 in
set_option maxRecDepth 100000 in
theorem r13_IsName_2 (s : ByteArray) (w : World) (h : 16 < s.size) : Calls Tryz.prog 61 #[.string s] w fun e w' => e = .returned (.bool (isN s)) ∧ w = w' := by
  have hr : isN s = false := by unfold isN; rw [show decide (s.size ≤ 16) = false by simp; omega]; simp
  rw [hr]; clear hr
  have hne := beq_nil s (by omega)
  have hi : (16 : Int) < (s.size : Int) := by omega
  go_enter Tryz.func61, Tryz.ntmps61
  go_wp2
  all_goals go_ret
  all_goals exact ⟨rfl, rfl⟩
set_option maxHeartbeats 1000000 in
set_option maxRecDepth 100000 in
theorem r13_IsName_3 (s : ByteArray) (w : World) (h : ¬ s.size = 0) (h1 : s.size ≤ 16) (h2 : btI s 0 < 97 ∨ 122 < btI s 0) : Calls Tryz.prog 61 #[.string s] w fun e w' => e = .returned (.bool (isN s)) ∧ w = w' := by
  have hr : isN s = false := by
    have : decide (97 ≤ btI s 0 ∧ btI s 0 ≤ 122) = false := by simp; omega
    simp [isN, this]
  rw [hr]; clear hr
  have hne := beq_nil s h
  have hi : (0 : Int) < (s.size : Int) := by omega
  have hb0 := bt_at s 0 (by omega)
  rcases h2 with h2 | h2
  · have h3 : ¬ 122 < btI s 0 := by omega
    go_enter Tryz.func61, Tryz.ntmps61
    go_wp2
    go_ret
    exact ⟨rfl, rfl⟩
  · have h3 : ¬ btI s 0 < 97 := by omega
    go_enter Tryz.func61, Tryz.ntmps61
    go_wp2
    go_ret
    exact ⟨rfl, rfl⟩
theorem okC_split (c : Int) (h : okC c = true) : (97 ≤ c ∧ c ≤ 122) ∨ (48 ≤ c ∧ c ≤ 57) ∨ c = 45 := by
  simpa [okC, or_assoc] using h
theorem okC_bad (c : Int) (h : okC c = false) : (c < 97 ∨ 122 < c) ∧ (c < 48 ∨ 57 < c) ∧ c ≠ 45 := by
  simp [okC] at h; omega
set_option maxHeartbeats 1000000 in
set_option maxRecDepth 100000 in
theorem r13_IsName_1 (s : ByteArray) (w : World) (h : ¬ s.size = 0) (h1 : s.size ≤ 16) (h2 : 97 ≤ btI s 0) (h3 : btI s 0 ≤ 122) : Calls Tryz.prog 61 #[.string s] w fun e w' => e = .returned (.bool (isN s)) ∧ w = w' := by
  have hr : isN s = allC s s.size := by simp [isN, h, h1, h2, h3]
  rw [hr]; clear hr
  have hne := beq_nil s h
  have hi : (0 : Int) < (s.size : Int) := by omega
  have hb0 := bt_at s 0 (by omega)
  go_enter Tryz.func61, Tryz.ntmps61
  go_wp2
  go_loop [3] (fun i => ∃ k : Nat, k ≤ s.size ∧ i = .int .i64 k ∧ allC s k = true) (fun i => s.size - (intOf i).toNat)
  case atStart => exact ⟨0, by omega, rfl, rfl⟩
  case round =>
    obtain ⟨k, hk, rfl, ha⟩ := hrel
    by_cases hlt : k < s.size
    · have hbk := bt_at s k hlt
      have hbd := bt_bd s k
      have hki : (k : Int) < (s.size : Int) := by omega
      have hk0 : (0 : Int) ≤ (k : Int) := by omega
      cases hok : okC (btI s k) with
      | true =>
        have Hok := Lib.hid hok
        clear hok
        rcases okC_split _ Hok.out with hc | hc | hc
        · go_wp2
          all_goals exact ⟨⟨k + 1, by omega, by go_num, by simp [allC, ha, Hok.out]⟩, by simp [intOf]; omega⟩
        · go_wp2
          all_goals exact ⟨⟨k + 1, by omega, by go_num, by simp [allC, ha, Hok.out]⟩, by simp [intOf]; omega⟩
        · go_wp2
          all_goals exact ⟨⟨k + 1, by omega, by go_num, by simp [allC, ha, Hok.out]⟩, by simp [intOf]; omega⟩
      | false =>
        have hc := okC_bad _ hok
        have Hok := Lib.hid hok
        clear hok
        go_wp2
        all_goals first
          | (go_ret; exact ⟨ret_bool (allC_false s _ k hlt Hok.out).symm, rfl⟩)
          | (exfalso; clear Hok; simp at *; omega)
    · go_wp2
      go_ret
      obtain rfl : k = s.size := by omega
      exact ⟨ret_bool ha.symm, rfl⟩
theorem r13_IsName (s : ByteArray) (w : World) : Calls Tryz.prog 61 #[.string s] w fun e w' => e = .returned (.bool (isN s)) ∧ w = w' := by
  by_cases h : s.size = 0
  · exact r13_IsName_0 s w h
  · by_cases h1 : s.size ≤ 16
    · by_cases h2 : 97 ≤ btI s 0
      · by_cases h3 : btI s 0 ≤ 122
        · exact r13_IsName_1 s w h h1 h2 h3
        · exact r13_IsName_3 s w h h1 (by omega)
      · exact r13_IsName_3 s w h h1 (by omega)
    · exact r13_IsName_2 s w (by omega)
end Go.Proofs.YtofhdlkocgbcgaaGreatDoor
