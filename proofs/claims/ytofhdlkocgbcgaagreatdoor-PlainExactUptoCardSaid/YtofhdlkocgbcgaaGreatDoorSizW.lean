/- The reference's Size of items that come of an object. -/
import Derived.Test.YtofhdlkocgbcgaaGreatDoorLinP
import Derived.Test.YtofhdlkocgbcgaaGreatDoorTelW
namespace Go.Proofs.YtofhdlkocgbcgaaGreatDoor
open Go Go.RowKit Pu
set_option linter.unusedVariables false
set_option linter.unusedSimpArgs false
def ldn : ByteArray := ⟨#[76, 68, 78]⟩
theorem ldn_first : firstI ldn = 1 := by decide +kernel
def mostL (nm : ByteArray) (f : Nat) : Int := if f = 2 then (if nm = ldn then 1 else 0) else if f = 3 then 1 else 0
def mostH (f : Nat) : Int := if f = 2 then 15 else if f = 3 then 7 else if f = 4 then 255 else if f = 5 then 255 else if f = 6 then 65535 else 0
theorem most_ok {nm : ByteArray} {ar : Int} (h : mayI (firstI nm) ar = true) (h0 : 0 ≤ firstI nm) : mostL nm (formF (firstI nm).toNat) ≤ ar ∧ ar ≤ mostH (formF (firstI nm).toNat) := by
  obtain ⟨f0, f1⟩ := formF_pos (firstI nm).toNat
  have hl : nm = ldn → firstI nm / 16 = 0 := fun e => by rw [e, ldn_first]; decide
  unfold mayI at h
  unfold mostL mostH
  generalize formF (firstI nm).toNat = f at *
  obtain rfl | rfl | rfl | rfl | rfl | rfl : f = 1 ∨ f = 2 ∨ f = 3 ∨ f = 4 ∨ f = 5 ∨ f = 6 := by omega
  · simp at h; simp; omega
  · simp at h
    by_cases e : nm = ldn
    · have := hl e; simp [this] at h; simp [e]; omega
    · simp [e]; split at h <;> omega
  all_goals (simp at h; simp; omega)
theorem ldn_true {nm : ByteArray} (e : nm = ldn) : (nm.toList == ([76, 68, 78] : List UInt8)) = true := by have h := beqS_true e; rw [Lib.toList_data ldn] at h; exact h
theorem ldn_false {nm : ByteArray} (e : ¬ nm = ldn) : (nm.toList == ([76, 68, 78] : List UInt8)) = false := by have h := beqS_false e; rw [Lib.toList_data ldn] at h; exact h
theorem r13_most (nm : ByteArray) (f : Nat) (f0 : 1 ≤ f) (f1 : f ≤ 6) (w : World) : Calls Tryz.prog 89 #[.string nm, .int .u8 f] w fun e w' => e = .returned (.tuple #[.int .i64 (mostL nm f), .int .i64 (mostH f), .bool true]) ∧ w = w' := by
  obtain rfl | rfl | rfl | rfl | rfl | rfl : f = 1 ∨ f = 2 ∨ f = 3 ∨ f = 4 ∨ f = 5 ∨ f = 6 := by omega
  · go_enter Tryz.func89, Tryz.ntmps89
    go_wp2
    go_ret3
    exact ⟨rfl, rfl⟩
  · by_cases e : nm = ldn
    · have h := ldn_true e
      have h2 : mostL nm 2 = 1 := by simp [mostL, e]
      have H2 := Lib.hid h2
      clear h2 e
      go_enter Tryz.func89, Tryz.ntmps89
      go_wp2
      go_ret3
      rw [H2.out]
      exact ⟨rfl, rfl⟩
    · have h := ldn_false e
      have h2 : mostL nm 2 = 0 := by simp [mostL, e]
      have H2 := Lib.hid h2
      clear h2 e
      go_enter Tryz.func89, Tryz.ntmps89
      go_wp2
      go_ret3
      rw [H2.out]
      exact ⟨rfl, rfl⟩
  all_goals
    go_enter Tryz.func89, Tryz.ntmps89
    go_wp2
    go_ret3
    exact ⟨rfl, rfl⟩
theorem r2_Find' (s : ByteArray) (w : World) (F : Value) (hF : FindV s = F) : Calls Tryz.prog 44 #[.string s] w fun e w' => e = .returned F ∧ Below w.heap.size w w' := hF ▸ r2_Find s w
theorem find_ok {nm : ByteArray} (h : 0 ≤ firstI nm) : FindV nm = .tuple #[.agg #[.string (nameB (firstI nm).toNat), .int .u8 (formF (firstI nm).toNat), .int .i64 (lenF (formF (firstI nm).toNat)), .int .i64 (cycF (firstI nm).toNat)], .bool true] := by unfold FindV; rw [if_neg (by omega)]
set_option maxHeartbeats 1000000 in
set_option maxRecDepth 100000 in
theorem r13_code (nm : ByteArray) (ar : Int) (n : Nat) (hd : DecOK nm ar n) (A : Option Addr) (c : Nat) (w : World) : Calls Tryz.prog 71 #[.agg #[.int .u8 2, .string nm, .int .i64 ar, .string ⟨#[]⟩, .int .u8 0, .slice A 0 c]] w fun e w' => e = .returned (.bool true) ∧ Below w.heap.size w w' := by
  obtain ⟨m1, m2⟩ := most_ok hd.may hd.f0
  obtain ⟨f0, f1⟩ := formF_pos (firstI nm).toNat
  have HF := Lib.hid (find_ok hd.f0)
  have a0 := hd.a0
  have a1 := hd.a1
  clear hd
  generalize formF (firstI nm).toNat = f at *
  generalize nameB (firstI nm).toNat = nb at *
  generalize lenF f = lf at *
  generalize cycF (firstI nm).toNat = cf at *
  generalize hml : mostL nm f = ml at *
  generalize hmh : mostH f = mh at *
  have HML := Lib.hid hml
  have HMH := Lib.hid hmh
  clear hml hmh
  go_enter Tryz.func71, Tryz.ntmps71
  go_wp2_with (first | (go_at_call 44; refine (r2_Find' nm _ _ HF.out).mono ?_; rintro e w1 ⟨rfl, hb1⟩; have z0 := blk_lt (heapB' hb1 (heap_alloc_new _ _)); have z1 := cellB hb1 (a := ⟨w.heap.size, 1, none⟩) (v := .string nm) (by simp); have z2 := cellB hb1 (a := ⟨w.heap.size, 2, none⟩) (v := .int .i64 ar) (by simp); have z3 := cellB hb1 (a := ⟨w.heap.size, 3, none⟩) (v := .string ⟨#[]⟩) (by simp); have z4 := cellB hb1 (a := ⟨w.heap.size, 4, none⟩) (v := .int .u8 0) (by simp); have z5 := cellB hb1 (a := ⟨w.heap.size, 5, none⟩) (v := .slice A 0 c) (by simp)) | (go_at_call 89; refine (r13_most nm f f0 f1 _).mono ?_; rw [HML.out, HMH.out]; rintro e w2 ⟨rfl, rfl⟩))
  go_ret
  exact ⟨rfl, (below1 hb1).alloc (by have := hb1.size; simp at this; omega) _⟩
set_option maxRecDepth 100000 in
theorem r13_May_code (nm : ByteArray) (ar : Int) (n : Nat) (hd : DecOK nm ar n) (A : Option Addr) (c : Nat) (w : World) : Calls Tryz.prog 43 #[.agg #[.int .u8 2, .string nm, .int .i64 ar, .string ⟨#[]⟩, .int .u8 0, .slice A 0 c]] w fun e w' => e = .returned (.bool true) ∧ Below w.heap.size w w' := by
  go_enter Tryz.func43, Tryz.ntmps43
  go_wp2_with (first | (go_at_call 71; refine (r13_code nm ar n hd A c _).mono ?_; rintro e w1 ⟨rfl, hb1⟩))
  go_ret
  exact ⟨rfl, below1 hb1⟩
set_option maxRecDepth 100000 in
theorem r13_May_lbl (nm : ByteArray) (A : Option Addr) (c : Nat) (w : World) (b : Bool) (hb : isN nm = b) : Calls Tryz.prog 43 #[.agg #[.int .u8 1, .string nm, .int .i64 0, .string ⟨#[]⟩, .int .u8 0, .slice A 0 c]] w fun e w' => e = .returned (.bool b) ∧ Below w.heap.size w w' := by
  have HB := Lib.hid hb
  clear hb
  cases b
  all_goals
    go_enter Tryz.func43, Tryz.ntmps43
    go_wp2_with (first | (go_at_call 61; refine (r13_IsName _ _).mono ?_; rw [HB.out]; rintro e w1 ⟨rfl, rfl⟩))
    go_ret
    exact ⟨rfl, belowA _⟩
set_option maxRecDepth 100000 in
theorem r13_May_data (A : Option Addr) (n c : Nat) (h1 : 1 ≤ n) (h2 : n ≤ 256) (w : World) : Calls Tryz.prog 43 #[.agg #[.int .u8 3, .string ⟨#[]⟩, .int .i64 0, .string ⟨#[]⟩, .int .u8 0, .slice A n c]] w fun e w' => e = .returned (.bool true) ∧ Below w.heap.size w w' := by
  have h1i : (1 : Int) ≤ n := by omega
  have h2i : (n : Int) ≤ 256 := by omega
  go_enter Tryz.func43, Tryz.ntmps43
  go_wp2
  go_ret
  exact ⟨rfl, belowA _⟩
set_option maxRecDepth 100000 in
theorem r13_May_at (a : Int) (A : Option Addr) (c : Nat) (h1 : 0 ≤ a) (h2 : a ≤ 65535) (w : World) : Calls Tryz.prog 43 #[.agg #[.int .u8 4, .string ⟨#[]⟩, .int .i64 a, .string ⟨#[]⟩, .int .u8 0, .slice A 0 c]] w fun e w' => e = .returned (.bool true) ∧ Below w.heap.size w w' := by
  go_enter Tryz.func43, Tryz.ntmps43
  go_wp2
  go_ret
  exact ⟨rfl, belowA _⟩
set_option maxHeartbeats 1000000 in
set_option maxRecDepth 100000 in
theorem r13_Size_code (nm : ByteArray) (ar : Int) (n : Nat) (hd : DecOK nm ar n) (A : Option Addr) (c : Nat) (w : World) : Calls Tryz.prog 20 #[.agg #[.int .u8 2, .string nm, .int .i64 ar, .string ⟨#[]⟩, .int .u8 0, .slice A 0 c]] w fun e w' => e = .returned (.tuple #[.int .i64 n, .int .i64 0]) ∧ Below w.heap.size w w' := by
  have HM := r13_May_code nm ar n hd A c
  have HF := Lib.hid (find_ok hd.f0)
  rw [hd.lenF] at HF
  clear hd
  generalize formF (firstI nm).toNat = f at *
  generalize nameB (firstI nm).toNat = nb at *
  generalize cycF (firstI nm).toNat = cf at *
  go_enter Tryz.func20, Tryz.ntmps20
  go_wp2_with (first | (go_at_call 43; refine (HM _).mono ?_; rintro e w1 ⟨rfl, hb1⟩; have z0 := cellB hb1 (a := ⟨w.heap.size, 0, none⟩) (v := .int .u8 2) (by simp); have z1 := cellB hb1 (a := ⟨w.heap.size, 1, none⟩) (v := .string nm) (by simp)) | (go_at_call 44; refine (r2_Find' nm _ _ HF.out).mono ?_; rintro e w2 ⟨rfl, hb2⟩))
  go_ret2
  exact ⟨rfl, ((below1 hb1).trans (hb2.mono (below1 hb1).size)).alloc (Nat.le_trans (below1 hb1).size hb2.size) _⟩
set_option maxRecDepth 100000 in
theorem r13_Size_lbl (nm : ByteArray) (A : Option Addr) (c : Nat) (w : World) : Calls Tryz.prog 20 #[.agg #[.int .u8 1, .string nm, .int .i64 0, .string ⟨#[]⟩, .int .u8 0, .slice A 0 c]] w fun e w' => (∃ er, e = .returned (.tuple #[.int .i64 0, .int .i64 er])) ∧ Below w.heap.size w w' := by
  cases hb : isN nm
  all_goals
    have HM := fun w => r13_May_lbl nm A c w _ hb
    clear hb
    go_enter Tryz.func20, Tryz.ntmps20
    go_wp2_with (first | (go_at_call 43; refine (HM _).mono ?_; rintro e w1 ⟨rfl, hb1⟩; have z0 := cellB hb1 (a := ⟨w.heap.size, 0, none⟩) (v := .int .u8 1) (by simp)))
    go_ret2
    exact ⟨⟨_, rfl⟩, below1 hb1⟩
set_option maxRecDepth 100000 in
theorem r13_Size_data (A : Option Addr) (n c : Nat) (h1 : 1 ≤ n) (h2 : n ≤ 256) (w : World) : Calls Tryz.prog 20 #[.agg #[.int .u8 3, .string ⟨#[]⟩, .int .i64 0, .string ⟨#[]⟩, .int .u8 0, .slice A n c]] w fun e w' => e = .returned (.tuple #[.int .i64 n, .int .i64 0]) ∧ Below w.heap.size w w' := by
  have HM := r13_May_data A n c h1 h2
  go_enter Tryz.func20, Tryz.ntmps20
  go_wp2_with (first | (go_at_call 43; refine (HM _).mono ?_; rintro e w1 ⟨rfl, hb1⟩; have z0 := cellB hb1 (a := ⟨w.heap.size, 0, none⟩) (v := .int .u8 3) (by simp); have z5 := cellB hb1 (a := ⟨w.heap.size, 5, none⟩) (v := .slice A n c) (by simp)))
  go_ret2
  exact ⟨rfl, below1 hb1⟩
set_option maxRecDepth 100000 in
theorem r13_Size_at (a : Int) (A : Option Addr) (c : Nat) (h1 : 0 ≤ a) (h2 : a ≤ 65535) (w : World) : Calls Tryz.prog 20 #[.agg #[.int .u8 4, .string ⟨#[]⟩, .int .i64 a, .string ⟨#[]⟩, .int .u8 0, .slice A 0 c]] w fun e w' => e = .returned (.tuple #[.int .i64 0, .int .i64 0]) ∧ Below w.heap.size w w' := by
  have HM := r13_May_at a A c h1 h2
  go_enter Tryz.func20, Tryz.ntmps20
  go_wp2_with (first | (go_at_call 43; refine (HM _).mono ?_; rintro e w1 ⟨rfl, hb1⟩; have z0 := cellB hb1 (a := ⟨w.heap.size, 0, none⟩) (v := .int .u8 4) (by simp)))
  go_ret2
  exact ⟨rfl, below1 hb1⟩
end Go.Proofs.YtofhdlkocgbcgaaGreatDoor
