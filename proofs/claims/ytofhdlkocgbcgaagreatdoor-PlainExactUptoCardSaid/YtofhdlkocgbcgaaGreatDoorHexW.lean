/- Numbers in digits to the base sixteen: bits.Hex, the references' Hex and digits. -/
import Derived.Test.YtofhdlkocgbcgaaGreatDoorRefB
import Derived.Handy
import Derived.Laws.BitsAllLaws
import Derived.Laws.BitsLemmas
import Derived.Laws.BytesArg
namespace Go.Proofs.YtofhdlkocgbcgaaGreatDoor
open Go Go.RowKit Pu
set_option linter.unusedVariables false
set_option linter.unusedSimpArgs false
theorem ofInt_i64 (a : Nat) (ha : a < 9223372036854775808) : (BitVec.ofInt 64 (a : Int)).toNat = a := by
  rw [BitVec.ofInt_natCast, BitVec.toNat_ofNat]; exact Nat.mod_eq_of_lt (by omega)
theorem i64_and_nat (a b : Nat) (ha : a < 9223372036854775808) (hb : b < 9223372036854775808) : bits .and .i64 (a : Int) (b : Int) = ((a &&& b : Nat) : Int) := by
  have hx : a &&& b < 2 ^ 63 := Nat.and_lt_two_pow _ (by omega)
  show IntKind.i64.wrap ((BitVec.ofInt 64 (a : Int) &&& BitVec.ofInt 64 (b : Int)).toNat : Int) = _
  rw [BitVec.toNat_and, ofInt_i64 a ha, ofInt_i64 b hb, IntKind.wrap_i64]
  omega
theorem and15 (n : Int) (h0 : 0 ≤ n) (h1 : n ≤ 2147483647) : bits .and .i64 n 15 = n % 16 := by
  obtain ⟨a, rfl⟩ := Int.eq_ofNat_of_zero_le h0
  have := i64_and_nat a 15 (by omega) (by omega)
  rw [show ((15 : Nat) : Int) = 15 from rfl] at this
  rw [this, show (15 : Nat) = 2 ^ 4 - 1 from rfl, Nat.and_two_pow_sub_one_eq_mod]
  omega
/-- A digit to the base sixteen. -/
def digN (k : Nat) : Int := if k < 10 then 48 + k else 87 + k
theorem dig_eq : ∀ k : Fin 16, (((⟨#[48, 49, 50, 51, 52, 53, 54, 55, 56, 57, 97, 98, 99, 100, 101, 102]⟩ : ByteArray)[k.val]'(by have := k.2; simp [ByteArray.size])).toNat : Int) = digN k.val := by decide
theorem dig_at {k : Nat} (hk : k < 16) {h : k < (⟨#[48, 49, 50, 51, 52, 53, 54, 55, 56, 57, 97, 98, 99, 100, 101, 102]⟩ : ByteArray).size} : (((⟨#[48, 49, 50, 51, 52, 53, 54, 55, 56, 57, 97, 98, 99, 100, 101, 102]⟩ : ByteArray)[k]'h).toNat : Int) = digN k := dig_eq ⟨k, hk⟩
/-- A number in one, two or four digits; empty where it does not fit. -/
def hexS (n : Int) (many : Nat) : ByteArray :=
  if n < 0 ∨ (16 : Int) ^ many ≤ n then ByteArray.empty else
  if many = 1 then strOfNums [digN (n % 16).toNat] else
  if many = 2 then strOfNums [digN (n / 16 % 16).toNat, digN (n % 16).toNat] else
  strOfNums [digN (n / 16 / 16 / 16 % 16).toNat, digN (n / 16 / 16 % 16).toNat, digN (n / 16 % 16).toNat, digN (n % 16).toNat]
set_option maxRecDepth 100000 in
theorem bits_Hex2 (n : Int) (w : World) (h0 : 0 ≤ n) (h1 : n < 256) : Calls Tryz.prog 29 #[.int .i64 n, .int .i64 2] w fun e w' => e = .returned (.string (hexS n 2)) ∧ Below w.heap.size w w' := by
  have b0 := and15 (n) (by omega) (by omega)
  have b1 := and15 (n / 16) (by omega) (by omega)
  have hmk : ∀ w, (Instr.makeSlice 39 (.int .i64 2) (.int .i64 2)).run Tryz.prog w = .ok (.slice (some ⟨w.heap.size, 0, none⟩) 2 2) (w.alloc (.cells #[.int .u8 0, .int .u8 0] 5)) := fun _ => by kernel_rfl
  have hcv : ∀ (x0 x1 : Int), (convert 39 9 (.slice (some ⟨w.heap.size, 0, none⟩) 2 2)).run Tryz.prog (w.alloc (.cells #[.int .u8 x0, .int .u8 x1] 5)) = .ok (.string (strOfNums [x0, x1])) (w.alloc (.cells #[.int .u8 x0, .int .u8 x1] 5)) := fun x0 x1 =>
    run_convert_bytes_arg _ 39 5 Tryz.underlying39 Tryz.underlying5 _ 0 2 2 [x0, x1] rfl (fun i hi => by
      rw [World.cell?, heap_alloc_new]
      match i, hi with
      | 0, _ => rfl | 1, _ => rfl) 9 Tryz.underlying9
  go_enter Tryz.func29, Tryz.ntmps29
  go_wp2
  go_rounds 3
  go_ret
  refine ⟨ret_str ?_, by (repeat first | exact Below.refl _ _ | assumption | refine Below.trans ?_ (hb.mono (by first | omega | (simp; done) | (simp; omega))) | refine Below.drew ?_ | refine Below.alloc ?_ (by first | omega | (simp; done) | (simp; omega)) _ | refine Below.setCell ?_ (by first | omega | (simp; done) | (simp; omega)) _)⟩
  unfold hexS
  rw [if_neg (by omega)]
  rw [if_neg (by omega), if_pos rfl]
  congr 1
  rw [dig_at (by omega), dig_at (by omega)]
theorem bits_Hex2_bad (n : Int) (w : World) (h : n < 0 ∨ 256 ≤ n) : Calls Tryz.prog 29 #[.int .i64 n, .int .i64 2] w fun e w' => e = .returned (.string (hexS n 2)) ∧ w = w' := by
  have H : Hid (hexS n 2 = ByteArray.empty) := Lib.hid (by unfold hexS; rw [if_pos (by omega)])
  generalize hexS n 2 = r at *
  by_cases hn : n < 0
  · clear h
    go_enter Tryz.func29, Tryz.ntmps29
    go_wp2
    go_ret
    exact ⟨ret_str H.out.symm, rfl⟩
  · have h2 : 256 ≤ n := by omega
    clear h
    go_enter Tryz.func29, Tryz.ntmps29
    go_wp2
    go_ret
    exact ⟨ret_str H.out.symm, rfl⟩
set_option maxRecDepth 100000 in
theorem bits_Hex1 (n : Int) (w : World) (h0 : 0 ≤ n) (h1 : n < 16) : Calls Tryz.prog 29 #[.int .i64 n, .int .i64 1] w fun e w' => e = .returned (.string (hexS n 1)) ∧ Below w.heap.size w w' := by
  have b0 := and15 (n) (by omega) (by omega)
  have hmk : ∀ w, (Instr.makeSlice 39 (.int .i64 1) (.int .i64 1)).run Tryz.prog w = .ok (.slice (some ⟨w.heap.size, 0, none⟩) 1 1) (w.alloc (.cells #[.int .u8 0] 5)) := fun _ => by kernel_rfl
  have hcv : ∀ (x0 : Int), (convert 39 9 (.slice (some ⟨w.heap.size, 0, none⟩) 1 1)).run Tryz.prog (w.alloc (.cells #[.int .u8 x0] 5)) = .ok (.string (strOfNums [x0])) (w.alloc (.cells #[.int .u8 x0] 5)) := fun x0 =>
    run_convert_bytes_arg _ 39 5 Tryz.underlying39 Tryz.underlying5 _ 0 1 1 [x0] rfl (fun i hi => by
      rw [World.cell?, heap_alloc_new]
      match i, hi with
      | 0, _ => rfl) 9 Tryz.underlying9
  go_enter Tryz.func29, Tryz.ntmps29
  go_wp2
  go_rounds 2
  go_ret
  refine ⟨ret_str ?_, by (repeat first | exact Below.refl _ _ | assumption | refine Below.trans ?_ (hb.mono (by first | omega | (simp; done) | (simp; omega))) | refine Below.drew ?_ | refine Below.alloc ?_ (by first | omega | (simp; done) | (simp; omega)) _ | refine Below.setCell ?_ (by first | omega | (simp; done) | (simp; omega)) _)⟩
  unfold hexS
  rw [if_neg (by omega)]
  rw [if_pos rfl]
  congr 1
  rw [dig_at (by omega)]
theorem bits_Hex1_bad (n : Int) (w : World) (h : n < 0 ∨ 16 ≤ n) : Calls Tryz.prog 29 #[.int .i64 n, .int .i64 1] w fun e w' => e = .returned (.string (hexS n 1)) ∧ w = w' := by
  have H : Hid (hexS n 1 = ByteArray.empty) := Lib.hid (by unfold hexS; rw [if_pos (by omega)])
  generalize hexS n 1 = r at *
  by_cases hn : n < 0
  · clear h
    go_enter Tryz.func29, Tryz.ntmps29
    go_wp2
    go_ret
    exact ⟨ret_str H.out.symm, rfl⟩
  · have h2 : 16 ≤ n := by omega
    clear h
    go_enter Tryz.func29, Tryz.ntmps29
    go_wp2
    go_ret
    exact ⟨ret_str H.out.symm, rfl⟩
set_option maxRecDepth 100000 in
theorem bits_Hex4 (n : Int) (w : World) (h0 : 0 ≤ n) (h1 : n < 65536) : Calls Tryz.prog 29 #[.int .i64 n, .int .i64 4] w fun e w' => e = .returned (.string (hexS n 4)) ∧ Below w.heap.size w w' := by
  have b0 := and15 (n) (by omega) (by omega)
  have b1 := and15 (n / 16) (by omega) (by omega)
  have b2 := and15 (n / 16 / 16) (by omega) (by omega)
  have b3 := and15 (n / 16 / 16 / 16) (by omega) (by omega)
  have hmk : ∀ w, (Instr.makeSlice 39 (.int .i64 4) (.int .i64 4)).run Tryz.prog w = .ok (.slice (some ⟨w.heap.size, 0, none⟩) 4 4) (w.alloc (.cells #[.int .u8 0, .int .u8 0, .int .u8 0, .int .u8 0] 5)) := fun _ => by kernel_rfl
  have hcv : ∀ (x0 x1 x2 x3 : Int), (convert 39 9 (.slice (some ⟨w.heap.size, 0, none⟩) 4 4)).run Tryz.prog (w.alloc (.cells #[.int .u8 x0, .int .u8 x1, .int .u8 x2, .int .u8 x3] 5)) = .ok (.string (strOfNums [x0, x1, x2, x3])) (w.alloc (.cells #[.int .u8 x0, .int .u8 x1, .int .u8 x2, .int .u8 x3] 5)) := fun x0 x1 x2 x3 =>
    run_convert_bytes_arg _ 39 5 Tryz.underlying39 Tryz.underlying5 _ 0 4 4 [x0, x1, x2, x3] rfl (fun i hi => by
      rw [World.cell?, heap_alloc_new]
      match i, hi with
      | 0, _ => rfl | 1, _ => rfl | 2, _ => rfl | 3, _ => rfl) 9 Tryz.underlying9
  go_enter Tryz.func29, Tryz.ntmps29
  go_wp2
  go_rounds 5
  go_ret
  refine ⟨ret_str ?_, by (repeat first | exact Below.refl _ _ | assumption | refine Below.trans ?_ (hb.mono (by first | omega | (simp; done) | (simp; omega))) | refine Below.drew ?_ | refine Below.alloc ?_ (by first | omega | (simp; done) | (simp; omega)) _ | refine Below.setCell ?_ (by first | omega | (simp; done) | (simp; omega)) _)⟩
  unfold hexS
  rw [if_neg (by omega)]
  rw [if_neg (by omega), if_neg (by omega)]
  congr 1
  rw [dig_at (by omega), dig_at (by omega), dig_at (by omega), dig_at (by omega)]
theorem bits_Hex4_bad (n : Int) (w : World) (h : n < 0 ∨ 65536 ≤ n) : Calls Tryz.prog 29 #[.int .i64 n, .int .i64 4] w fun e w' => e = .returned (.string (hexS n 4)) ∧ w = w' := by
  have H : Hid (hexS n 4 = ByteArray.empty) := Lib.hid (by unfold hexS; rw [if_pos (by omega)])
  generalize hexS n 4 = r at *
  by_cases hn : n < 0
  · clear h
    go_enter Tryz.func29, Tryz.ntmps29
    go_wp2
    go_ret
    exact ⟨ret_str H.out.symm, rfl⟩
  · have h2 : 65536 ≤ n := by omega
    clear h
    go_enter Tryz.func29, Tryz.ntmps29
    go_wp2
    go_ret
    exact ⟨ret_str H.out.symm, rfl⟩
theorem bits_Hex (n : Int) (many : Nat) (hm : many = 1 ∨ many = 2 ∨ many = 4) (w : World) (k : Int) (hk : k = many) : Calls Tryz.prog 29 #[.int .i64 n, .int .i64 k] w fun e w' => e = .returned (.string (hexS n many)) ∧ Below w.heap.size w w' := by
  subst hk
  have weak : ∀ {e : Ending} {w' : World} {r : Value}, e = .returned r ∧ w = w' → e = .returned r ∧ Below w.heap.size w w' := fun h => ⟨h.1, h.2 ▸ Below.refl _ _⟩
  rcases hm with rfl | rfl | rfl
  · by_cases h : 0 ≤ n ∧ n < 16
    · exact bits_Hex1 n w h.1 h.2
    · exact (bits_Hex1_bad n w (by omega)).mono fun _ _ => weak
  · by_cases h : 0 ≤ n ∧ n < 256
    · exact bits_Hex2 n w h.1 h.2
    · exact (bits_Hex2_bad n w (by omega)).mono fun _ _ => weak
  · by_cases h : 0 ≤ n ∧ n < 65536
    · exact bits_Hex4 n w h.1 h.2
    · exact (bits_Hex4_bad n w (by omega)).mono fun _ _ => weak
theorem r1_digit (n : Int) (w : World) (h0 : 0 ≤ n) (h1 : n < 16) : Calls Tryz.prog 88 #[.int .i64 n] w fun e w' => e = .returned (.int .u8 (digN n.toNat)) ∧ w = w' := by
  go_enter Tryz.func88, Tryz.ntmps88
  go_wp2
  all_goals
    go_ret
    refine ⟨ret_int ?_, rfl⟩
    unfold digN
    split <;> omega
set_option maxHeartbeats 1000000 in
set_option maxRecDepth 100000 in
theorem r1_Hex2 (n : Int) (w : World) (h0 : 0 ≤ n) (h1 : n < 256) (hi : n ≤ 2147483647) : Calls Tryz.prog 68 #[.int .i64 n, .int .i64 2] w fun e w' => e = .returned (.string (hexS n 2)) ∧ Below w.heap.size w w' := by
  have hmk : ∀ w, (Instr.makeSlice 39 (.int .i64 2) (.int .i64 2)).run Tryz.prog w = .ok (.slice (some ⟨w.heap.size, 0, none⟩) 2 2) (w.alloc (.cells #[.int .u8 0, .int .u8 0] 5)) := fun _ => by kernel_rfl
  have hcv : ∀ (x0 x1 : Int), (convert 39 9 (.slice (some ⟨w.heap.size, 0, none⟩) 2 2)).run Tryz.prog (w.alloc (.cells #[.int .u8 x0, .int .u8 x1] 5)) = .ok (.string (strOfNums [x0, x1])) (w.alloc (.cells #[.int .u8 x0, .int .u8 x1] 5)) := fun x0 x1 =>
    run_convert_bytes_arg _ 39 5 Tryz.underlying39 Tryz.underlying5 _ 0 2 2 [x0, x1] rfl (fun i hi => by
      rw [World.cell?, heap_alloc_new]
      match i, hi with
      | 0, _ => rfl | 1, _ => rfl) 9 Tryz.underlying9
  go_enter Tryz.func68, Tryz.ntmps68
  go_wp2
  refine wp_loop_rounds 3 ?_
  repeat any_goals (rw [rounds_succ]; go_wp2_with (go_at_call 88; refine (r1_digit _ _ (by omega) (by omega)).mono ?_; rintro e w' ⟨rfl, rfl⟩))
  go_ret
  refine ⟨ret_str ?_, by (repeat first | exact Below.refl _ _ | assumption | refine Below.trans ?_ (hb.mono (by first | omega | (simp; done) | (simp; omega))) | refine Below.drew ?_ | refine Below.alloc ?_ (by first | omega | (simp; done) | (simp; omega)) _ | refine Below.setCell ?_ (by first | omega | (simp; done) | (simp; omega)) _)⟩
  unfold hexS
  rw [if_neg (by omega)]
  rw [if_neg (by omega), if_pos rfl]
set_option maxHeartbeats 1000000 in
set_option maxRecDepth 100000 in
theorem r1_Hex4 (n : Int) (w : World) (h0 : 0 ≤ n) (h1 : n < 65536) (hi : n ≤ 2147483647) : Calls Tryz.prog 68 #[.int .i64 n, .int .i64 4] w fun e w' => e = .returned (.string (hexS n 4)) ∧ Below w.heap.size w w' := by
  have hmk : ∀ w, (Instr.makeSlice 39 (.int .i64 4) (.int .i64 4)).run Tryz.prog w = .ok (.slice (some ⟨w.heap.size, 0, none⟩) 4 4) (w.alloc (.cells #[.int .u8 0, .int .u8 0, .int .u8 0, .int .u8 0] 5)) := fun _ => by kernel_rfl
  have hcv : ∀ (x0 x1 x2 x3 : Int), (convert 39 9 (.slice (some ⟨w.heap.size, 0, none⟩) 4 4)).run Tryz.prog (w.alloc (.cells #[.int .u8 x0, .int .u8 x1, .int .u8 x2, .int .u8 x3] 5)) = .ok (.string (strOfNums [x0, x1, x2, x3])) (w.alloc (.cells #[.int .u8 x0, .int .u8 x1, .int .u8 x2, .int .u8 x3] 5)) := fun x0 x1 x2 x3 =>
    run_convert_bytes_arg _ 39 5 Tryz.underlying39 Tryz.underlying5 _ 0 4 4 [x0, x1, x2, x3] rfl (fun i hi => by
      rw [World.cell?, heap_alloc_new]
      match i, hi with
      | 0, _ => rfl | 1, _ => rfl | 2, _ => rfl | 3, _ => rfl) 9 Tryz.underlying9
  go_enter Tryz.func68, Tryz.ntmps68
  go_wp2
  refine wp_loop_rounds 5 ?_
  repeat any_goals (rw [rounds_succ]; go_wp2_with (go_at_call 88; refine (r1_digit _ _ (by omega) (by omega)).mono ?_; rintro e w' ⟨rfl, rfl⟩))
  go_ret
  refine ⟨ret_str ?_, by (repeat first | exact Below.refl _ _ | assumption | refine Below.trans ?_ (hb.mono (by first | omega | (simp; done) | (simp; omega))) | refine Below.drew ?_ | refine Below.alloc ?_ (by first | omega | (simp; done) | (simp; omega)) _ | refine Below.setCell ?_ (by first | omega | (simp; done) | (simp; omega)) _)⟩
  unfold hexS
  rw [if_neg (by omega)]
  rw [if_neg (by omega), if_neg (by omega)]
set_option maxHeartbeats 1000000 in
set_option maxRecDepth 100000 in
theorem r1_Hex2_bad (n : Int) (w : World) (h0 : n < 0 ∨ 256 ≤ n) (hi : n ≤ 2147483647) : Calls Tryz.prog 68 #[.int .i64 n, .int .i64 2] w fun e w' => e = .returned (.string (hexS n 2)) ∧ Below w.heap.size w w' := by
  have hmk : ∀ w, (Instr.makeSlice 39 (.int .i64 2) (.int .i64 2)).run Tryz.prog w = .ok (.slice (some ⟨w.heap.size, 0, none⟩) 2 2) (w.alloc (.cells #[.int .u8 0, .int .u8 0] 5)) := fun _ => by kernel_rfl
  have hcv : ∀ (x0 x1 : Int), (convert 39 9 (.slice (some ⟨w.heap.size, 0, none⟩) 2 2)).run Tryz.prog (w.alloc (.cells #[.int .u8 x0, .int .u8 x1] 5)) = .ok (.string (strOfNums [x0, x1])) (w.alloc (.cells #[.int .u8 x0, .int .u8 x1] 5)) := fun x0 x1 =>
    run_convert_bytes_arg _ 39 5 Tryz.underlying39 Tryz.underlying5 _ 0 2 2 [x0, x1] rfl (fun i hi => by
      rw [World.cell?, heap_alloc_new]
      match i, hi with
      | 0, _ => rfl | 1, _ => rfl) 9 Tryz.underlying9
  have H : Hid (hexS n 2 = ByteArray.empty) := Lib.hid (by unfold hexS; rw [if_pos (by omega)])
  generalize hexS n 2 = r at *
  rcases h0 with h0 | h0
  · go_enter Tryz.func68, Tryz.ntmps68
    go_wp2
    go_ret
    exact ⟨ret_str H.out.symm, by (repeat first | exact Below.refl _ _ | assumption | refine Below.trans ?_ (hb.mono (by first | omega | (simp; done) | (simp; omega))) | refine Below.drew ?_ | refine Below.alloc ?_ (by first | omega | (simp; done) | (simp; omega)) _ | refine Below.setCell ?_ (by first | omega | (simp; done) | (simp; omega)) _)⟩
  · go_enter Tryz.func68, Tryz.ntmps68
    go_wp2
    refine wp_loop_rounds 3 ?_
    repeat any_goals (rw [rounds_succ]; go_wp2_with (go_at_call 88; refine (r1_digit _ _ (by omega) (by omega)).mono ?_; rintro e w' ⟨rfl, rfl⟩))
    go_ret
    exact ⟨ret_str H.out.symm, by (repeat first | exact Below.refl _ _ | assumption | refine Below.trans ?_ (hb.mono (by first | omega | (simp; done) | (simp; omega))) | refine Below.drew ?_ | refine Below.alloc ?_ (by first | omega | (simp; done) | (simp; omega)) _ | refine Below.setCell ?_ (by first | omega | (simp; done) | (simp; omega)) _)⟩
set_option maxHeartbeats 1000000 in
set_option maxRecDepth 100000 in
theorem r1_Hex4_bad (n : Int) (w : World) (h0 : n < 0 ∨ 65536 ≤ n) (hi : n ≤ 2147483647) : Calls Tryz.prog 68 #[.int .i64 n, .int .i64 4] w fun e w' => e = .returned (.string (hexS n 4)) ∧ Below w.heap.size w w' := by
  have hmk : ∀ w, (Instr.makeSlice 39 (.int .i64 4) (.int .i64 4)).run Tryz.prog w = .ok (.slice (some ⟨w.heap.size, 0, none⟩) 4 4) (w.alloc (.cells #[.int .u8 0, .int .u8 0, .int .u8 0, .int .u8 0] 5)) := fun _ => by kernel_rfl
  have hcv : ∀ (x0 x1 x2 x3 : Int), (convert 39 9 (.slice (some ⟨w.heap.size, 0, none⟩) 4 4)).run Tryz.prog (w.alloc (.cells #[.int .u8 x0, .int .u8 x1, .int .u8 x2, .int .u8 x3] 5)) = .ok (.string (strOfNums [x0, x1, x2, x3])) (w.alloc (.cells #[.int .u8 x0, .int .u8 x1, .int .u8 x2, .int .u8 x3] 5)) := fun x0 x1 x2 x3 =>
    run_convert_bytes_arg _ 39 5 Tryz.underlying39 Tryz.underlying5 _ 0 4 4 [x0, x1, x2, x3] rfl (fun i hi => by
      rw [World.cell?, heap_alloc_new]
      match i, hi with
      | 0, _ => rfl | 1, _ => rfl | 2, _ => rfl | 3, _ => rfl) 9 Tryz.underlying9
  have H : Hid (hexS n 4 = ByteArray.empty) := Lib.hid (by unfold hexS; rw [if_pos (by omega)])
  generalize hexS n 4 = r at *
  rcases h0 with h0 | h0
  · go_enter Tryz.func68, Tryz.ntmps68
    go_wp2
    go_ret
    exact ⟨ret_str H.out.symm, by (repeat first | exact Below.refl _ _ | assumption | refine Below.trans ?_ (hb.mono (by first | omega | (simp; done) | (simp; omega))) | refine Below.drew ?_ | refine Below.alloc ?_ (by first | omega | (simp; done) | (simp; omega)) _ | refine Below.setCell ?_ (by first | omega | (simp; done) | (simp; omega)) _)⟩
  · go_enter Tryz.func68, Tryz.ntmps68
    go_wp2
    refine wp_loop_rounds 5 ?_
    repeat any_goals (rw [rounds_succ]; go_wp2_with (go_at_call 88; refine (r1_digit _ _ (by omega) (by omega)).mono ?_; rintro e w' ⟨rfl, rfl⟩))
    go_ret
    exact ⟨ret_str H.out.symm, by (repeat first | exact Below.refl _ _ | assumption | refine Below.trans ?_ (hb.mono (by first | omega | (simp; done) | (simp; omega))) | refine Below.drew ?_ | refine Below.alloc ?_ (by first | omega | (simp; done) | (simp; omega)) _ | refine Below.setCell ?_ (by first | omega | (simp; done) | (simp; omega)) _)⟩
theorem r1_Hex (n : Int) (many : Nat) (hm : many = 2 ∨ many = 4) (hi : n ≤ 2147483647) (w : World) (k : Int) (hk : k = many) : Calls Tryz.prog 68 #[.int .i64 n, .int .i64 k] w fun e w' => e = .returned (.string (hexS n many)) ∧ Below w.heap.size w w' := by
  subst hk
  rcases hm with rfl | rfl
  · by_cases h : 0 ≤ n ∧ n < 256
    · exact r1_Hex2 n w h.1 h.2 hi
    · exact r1_Hex2_bad n w (by omega) hi
  · by_cases h : 0 ≤ n ∧ n < 65536
    · exact r1_Hex4 n w h.1 h.2 hi
    · exact r1_Hex4_bad n w (by omega) hi
end Go.Proofs.YtofhdlkocgbcgaaGreatDoor
