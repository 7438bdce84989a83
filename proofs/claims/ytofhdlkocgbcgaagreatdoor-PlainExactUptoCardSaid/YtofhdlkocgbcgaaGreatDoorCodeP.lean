/- Plain tables of the 1802's instructions: names, forms, lengths. No program in sight. -/
import Derived.WalkKit
namespace Go.Proofs.YtofhdlkocgbcgaaGreatDoor.Pu
def rowsL : List (List UInt8) := [[], [73, 78, 67], [68, 69, 67], [], [76, 68, 65], [83, 84, 82], [], [], [71, 76, 79], [71, 72, 73], [80, 76, 79], [80, 72, 73], [], [83, 69, 80], [83, 69, 88], []]
def threesL : List (List UInt8) := [[66, 82], [66, 81], [66, 90], [66, 68, 70], [66, 49], [66, 50], [66, 51], [66, 52], [83, 75, 80], [66, 78, 81], [66, 78, 90], [66, 78, 70], [66, 78, 49], [66, 78, 50], [66, 78, 51], [66, 78, 52]]
def sevensL : List (List UInt8) := [[82, 69, 84], [68, 73, 83], [76, 68, 88, 65], [83, 84, 88, 68], [65, 68, 67], [83, 68, 66], [83, 72, 82, 67], [83, 77, 66], [83, 65, 86], [77, 65, 82, 75], [82, 69, 81], [83, 69, 81], [65, 68, 67, 73], [83, 68, 66, 73], [83, 72, 76, 67], [83, 77, 66, 73]]
def twelvesL : List (List UInt8) := [[76, 66, 82], [76, 66, 81], [76, 66, 90], [76, 66, 68, 70], [78, 79, 80], [76, 83, 78, 81], [76, 83, 78, 90], [76, 83, 78, 70], [76, 83, 75, 80], [76, 66, 78, 81], [76, 66, 78, 90], [76, 66, 78, 70], [76, 83, 73, 69], [76, 83, 81], [76, 83, 90], [76, 83, 68, 70]]
def fifteensL : List (List UInt8) := [[76, 68, 88], [79, 82], [65, 78, 68], [88, 79, 82], [65, 68, 68], [83, 68], [83, 72, 82], [83, 77], [76, 68, 73], [79, 82, 73], [65, 78, 73], [88, 82, 73], [65, 68, 73], [83, 68, 73], [83, 72, 76], [83, 77, 73]]
def nameL (op : Nat) : List UInt8 :=
  if op / 16 = 0 then (if op % 16 = 0 then [73, 68, 76] else [76, 68, 78]) else
  if op / 16 = 3 then threesL.getD (op % 16) [] else
  if op / 16 = 6 then (if op % 16 = 0 then [73, 82, 88] else if op % 16 = 8 then [78, 85, 76] else if op % 16 < 8 then [79, 85, 84] else [73, 78, 80]) else
  if op / 16 = 7 then sevensL.getD (op % 16) [] else
  if op / 16 = 12 then twelvesL.getD (op % 16) [] else
  if op / 16 = 15 then fifteensL.getD (op % 16) [] else
  rowsL.getD (op / 16) []
def nameB (op : Nat) : ByteArray := ⟨(nameL op).toArray⟩
def bstr (l : List UInt8) : ByteArray := ⟨l.toArray⟩
/-- The form of an op: 1 none, 2 a register, 3 a port, 4 a byte, 5 a short address, 6 a long one. -/
def formF (op : Nat) : Nat :=
  if op = 0 then 1 else
  if op / 16 = 3 then (if op % 16 = 8 then 1 else 5) else
  if op / 16 = 6 then (if op % 8 = 0 then 1 else 3) else
  if op / 16 = 7 then (if op % 16 = 12 ∨ op % 16 = 13 ∨ op % 16 = 15 then 4 else 1) else
  if op / 16 = 12 then (if op % 16 ≤ 3 ∨ (9 ≤ op % 16 ∧ op % 16 ≤ 11) then 6 else 1) else
  if op / 16 = 15 then (if 8 ≤ op % 16 ∧ op % 16 ≠ 14 then 4 else 1) else 2
def lenF (f : Nat) : Nat := if f = 4 then 2 else if f = 5 then 2 else if f = 6 then 3 else 1
def cycF (op : Nat) : Nat := if op / 16 = 12 then 3 else 2
def wideF (f : Nat) : Nat := if f = 2 then 1 else if f = 3 then 1 else if f = 4 then 2 else if f = 5 then 2 else if f = 6 then 4 else 0
theorem formF_pos (op : Nat) : 1 ≤ formF op ∧ formF op ≤ 6 := by
  unfold formF
  constructor <;> (repeat' split) <;> omega
theorem formF_2 {n : Nat} (h : formF n = 2) (hn : n ≤ 255) : n ≤ 239 := by
  unfold formF at h
  repeat' split at h
  all_goals omega
theorem formF_3 {n : Nat} (h : formF n = 3) : 96 ≤ n ∧ n ≤ 111 := by
  unfold formF at h
  repeat' split at h
  all_goals omega
/-- The least op of a name, from one on; -1: there is none. -/
def firstFrom (s : ByteArray) : Nat → Nat → Int
  | 0, _ => -1
  | f + 1, op => if nameB op = s then (op : Int) else firstFrom s f (op + 1)
def firstI (s : ByteArray) : Int := firstFrom s 256 0
theorem firstFrom_lt (s : ByteArray) : ∀ f op, -1 ≤ firstFrom s f op ∧ firstFrom s f op < (op + f : Nat) + (if f = 0 then 1 else 0) := by
  intro f
  induction f with
  | zero => intro op; simp [firstFrom]; omega
  | succ f ih =>
    intro op
    unfold firstFrom
    have := ih (op + 1)
    split
    · simp; omega
    · by_cases hf : f = 0
      · subst hf; simp [firstFrom]; omega
      · simp [hf] at this ⊢; omega
theorem firstI_bd (s : ByteArray) : -1 ≤ firstI s ∧ firstI s ≤ 255 := by
  have := firstFrom_lt s 256 0
  simp at this
  unfold firstI
  omega
theorem firstFrom_name (s : ByteArray) : ∀ f op, 0 ≤ firstFrom s f op → nameB (firstFrom s f op).toNat = s := by
  intro f
  induction f with
  | zero => intro op h; simp [firstFrom] at h
  | succ f ih =>
    intro op h
    unfold firstFrom at h ⊢
    split
    · next hn => simpa using hn
    · next hn => rw [if_neg hn] at h; exact ih _ h
theorem firstI_name (s : ByteArray) (h : 0 ≤ firstI s) : nameB (firstI s).toNat = s := firstFrom_name s 256 0 h
theorem firstFrom_le (s : ByteArray) : ∀ f op j, op ≤ j → j < op + f → nameB j = s → firstFrom s f op ≤ (j : Int) := by
  intro f
  induction f with
  | zero => intro op j h1 h2; omega
  | succ f ih =>
    intro op j h1 h2 h3
    unfold firstFrom
    split
    · omega
    · next hn =>
      have hne : op ≠ j := fun e => hn (e ▸ h3)
      exact ih (op + 1) j (by omega) (by omega) h3
theorem row_names : ∀ n : Nat, n < 256 → formF n = 2 → 16 ≤ n → nameL (n - n % 16) = nameL n := by decide +kernel
theorem first_row {s : ByteArray} (h0 : 16 ≤ firstI s) (hf : formF (firstI s).toNat = 2) : firstI s / 16 * 16 = firstI s := by
  have hb := firstI_bd s
  have hn := firstI_name s (by omega)
  have hr := row_names (firstI s).toNat (by omega) hf (by omega)
  have hm : nameB ((firstI s).toNat - (firstI s).toNat % 16) = s := by
    have h1 : nameB ((firstI s).toNat - (firstI s).toNat % 16) = nameB (firstI s).toNat := by unfold nameB; rw [hr]
    exact h1.trans hn
  have := firstFrom_le s 256 0 _ (Nat.zero_le _) (by omega) hm
  have e : firstFrom s 256 0 = firstI s := rfl
  rw [e] at this
  omega
/-- An instruction as bytes: the error's number, the bytes. -/
def encI (s : ByteArray) (arg : Int) : Int × List Int :=
  if firstI s < 0 then (20, []) else
  let op := firstI s
  let f := formF op.toNat
  if f = 2 then (if arg < (if op < 16 then 1 else 0) ∨ 15 < arg then (21, []) else (0, [(if op < 16 then 0 else op) + arg])) else
  if f = 3 then (if arg < 1 ∨ 7 < arg then (21, []) else (0, [op - 1 + arg])) else
  if f = 4 ∨ f = 5 then (if arg < 0 ∨ 255 < arg then (21, []) else (0, [op, arg])) else
  if f = 6 then (if arg < 0 ∨ 65535 < arg then (21, []) else (0, [op, arg / 256, arg % 256])) else
  if arg < 0 ∨ 0 < arg then (21, []) else (0, [op])
/-- The instruction at the front of bytes: name, operand, length, the error's number. -/
def decI (b : List Int) : ByteArray × Int × Int × Int :=
  match b with
  | [] => (⟨#[]⟩, 0, 0, 22)
  | o :: r =>
    let f := formF o.toNat
    if b.length < lenF f then (⟨#[]⟩, 0, 0, 22) else
    (nameB o.toNat, if f = 2 then o % 16 else if f = 3 then o % 8 else if f = 4 ∨ f = 5 then r.getD 0 0 else if f = 6 then 256 * r.getD 0 0 + r.getD 1 0 else 0, lenF f, 0)
/-- The reference's rows of names. -/
def namesL (h : Nat) : List (List UInt8) :=
  if h = 0 then [[76, 68, 78]] else if h = 3 then threesL else if h = 6 then [[73, 82, 88], [79, 85, 84], [79, 85, 84], [79, 85, 84], [79, 85, 84], [79, 85, 84], [79, 85, 84], [79, 85, 84], [78, 85, 76], [73, 78, 80], [73, 78, 80], [73, 78, 80], [73, 78, 80], [73, 78, 80], [73, 78, 80], [73, 78, 80]] else
  if h = 7 then sevensL else if h = 12 then twelvesL else if h = 15 then fifteensL else [rowsL.getD h []]
theorem names_name : ∀ op : Nat, op < 256 → 0 < op → (if (namesL (op / 16)).length = 1 then (namesL (op / 16)).getD 0 [] else (namesL (op / 16)).getD (op % 16) []) = nameL op := by decide +kernel
theorem namesL_len : ∀ h : Nat, h < 16 → ((namesL h).length = 1 ∨ (namesL h).length = 16) := by decide
end Go.Proofs.YtofhdlkocgbcgaaGreatDoor.Pu
