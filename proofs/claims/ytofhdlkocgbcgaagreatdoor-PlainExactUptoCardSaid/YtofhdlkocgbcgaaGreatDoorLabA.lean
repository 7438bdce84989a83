/- Labels that may be: the program; the two Checks. -/
import Derived.Test.YtofhdlkocgbcgaaGreatDoorLabW
import Derived.Test.YtofhdlkocgbcgaaGreatDoorMrkW
import Derived.Maps.OwnOps
import Derived.Maps.OwnSet
namespace Go.Proofs.YtofhdlkocgbcgaaGreatDoor
open Go Go.RowKit Pu
set_option linter.unusedVariables false
set_option linter.unusedSimpArgs false
theorem cellNew {W : World} {cs : Array Value} {t : TypeId} {i n : Nat} {v : Value} (hn : n = W.heap.size) (h : cs[i]? = some v) : (W.alloc (.cells cs t)).cell? ⟨n, i, none⟩ = some v := by
  subst hn; simp [h]
set_option maxHeartbeats 1000000 in
set_option maxRecDepth 100000 in
theorem cmp_Or2 (b : Nat) (x y : Int) (w : World) (h0 : w.cell? ⟨b, 0, none⟩ = some (.int .i64 x)) (h1 : w.cell? ⟨b, 1, none⟩ = some (.int .i64 y)) : Calls Tryz.prog 75 #[.slice (some ⟨b, 0, none⟩) 2 2] w fun e w' => e = .returned (.int .i64 (if x = 0 then y else x)) ∧ w = w' := by
  by_cases hx : x = 0
  · have hx' : (x != 0) = false := by simpa using hx
    by_cases hy : y = 0
    · have hy' : (y != 0) = false := by simpa using hy
      go_enter Tryz.func75, Tryz.ntmps75
      go_wp2
      refine wp_loop_rounds 3 ?_
      repeat any_goals (rw [rounds_succ]; go_wp2)
      go_ret
      exact ⟨by simp [hx, hy], rfl⟩
    · have hy' : (y != 0) = true := by simpa using hy
      go_enter Tryz.func75, Tryz.ntmps75
      go_wp2
      refine wp_loop_rounds 3 ?_
      repeat any_goals (rw [rounds_succ]; go_wp2)
      go_ret
      exact ⟨by simp [hx], rfl⟩
  · have hx' : (x != 0) = true := by simpa using hx
    go_enter Tryz.func75, Tryz.ntmps75
    go_wp2
    refine wp_loop_rounds 3 ?_
    repeat any_goals (rw [rounds_succ]; go_wp2)
    go_ret
    exact ⟨by simp [hx], rfl⟩
theorem cmp_Or2' (b : Nat) (x y r : Int) (hr : (if x = 0 then y else x) = r) (w : World) (h0 : w.cell? ⟨b, 0, none⟩ = some (.int .i64 x)) (h1 : w.cell? ⟨b, 1, none⟩ = some (.int .i64 y)) : Calls Tryz.prog 75 #[.slice (some ⟨b, 0, none⟩) 2 2] w fun e w' => e = .returned (.int .i64 r) ∧ w = w' := hr ▸ cmp_Or2 b x y w h0 h1
set_option maxHeartbeats 1000000 in
set_option maxRecDepth 100000 in
theorem asm_ordered (a b : LabelP) (w : World) (c1 c2 : Int) (h1 : Lib.compareInt a.at_ b.at_ = c1) (h2 : Lib.compareBytes a.name.data.toList b.name.data.toList = c2) (r : Int) (hr : (if c1 = 0 then c2 else c1) = r) : Calls Tryz.prog 47 #[.agg #[.string a.name, .int .i64 a.at_], .agg #[.string b.name, .int .i64 b.at_]] w fun e w' => e = .returned (.int .i64 r) ∧ Below w.heap.size w w' := by
  obtain ⟨an, aa⟩ := a
  obtain ⟨bn, ba⟩ := b
  simp only at *
  go_enter Tryz.func47, Tryz.ntmps47
  go_wp2
  have hB0 : ((w.alloc (.cells #[.string an, .int .i64 aa] 57)).alloc (.cells #[.string bn, .int .i64 ba] 57)).drew.cell? ⟨w.heap.size, 0, none⟩ = some (.string an) := by simp
  have hB1 : ((w.alloc (.cells #[.string an, .int .i64 aa] 57)).alloc (.cells #[.string bn, .int .i64 ba] 57)).drew.cell? ⟨w.heap.size, 1, none⟩ = some (.int .i64 aa) := by simp
  have hB2 : ((w.alloc (.cells #[.string an, .int .i64 aa] 57)).alloc (.cells #[.string bn, .int .i64 ba] 57)).drew.cell? ⟨w.heap.size + 1, 0, none⟩ = some (.string bn) := cellNew (by simp) rfl
  have hB3 : ((w.alloc (.cells #[.string an, .int .i64 aa] 57)).alloc (.cells #[.string bn, .int .i64 ba] 57)).drew.cell? ⟨w.heap.size + 1, 1, none⟩ = some (.int .i64 ba) := cellNew (by simp) rfl
  have hB4 : w.heap.size + 2 ≤ ((w.alloc (.cells #[.string an, .int .i64 aa] 57)).alloc (.cells #[.string bn, .int .i64 ba] 57)).drew.heap.size := by simp
  have hB5 : Below w.heap.size w ((w.alloc (.cells #[.string an, .int .i64 aa] 57)).alloc (.cells #[.string bn, .int .i64 ba] 57)).drew := (below1 (belowA _)).drew
  go_region_held3 (fun w' => (w'.cell? ⟨w.heap.size, 0, none⟩ = some (.string an) ∧ w'.cell? ⟨w.heap.size, 1, none⟩ = some (.int .i64 aa) ∧ w'.cell? ⟨w.heap.size + 1, 0, none⟩ = some (.string bn) ∧ w'.cell? ⟨w.heap.size + 1, 1, none⟩ = some (.int .i64 ba)) ∧ w.heap.size + 2 ≤ w'.heap.size ∧ Below w.heap.size w w')
    (first | assumption | (exact ⟨⟨hB0, hB1, hB2, hB3⟩, hB4, hB5⟩) | (obtain ⟨⟨j0, j1, j2, j3⟩, j8, j9⟩ := ‹(_ ∧ _ ∧ _ ∧ _) ∧ _ ∧ Below _ _ _›; exact ⟨⟨cellA j0, cellA j1, cellA j2, cellA j3⟩, Nat.le_trans j8 (belowA _).size, j9.trans ((belowA _).mono (Nat.le_trans (Nat.le_add_right _ 2) j8))⟩))
    (first | (go_at_call 76; refine (Tryz.cmp_Compare_int _ _ _).mono ?_; rw [h1]; rintro e w' ⟨rfl, rfl⟩) | (go_at_call 77; refine (Tryz.strings_Compare _ _ _).mono ?_; rw [h2]; rintro e w' ⟨rfl, rfl⟩) | (go_at_call 75; refine (cmp_Or2' _ c1 c2 r hr _ ?_ ?_).mono ?_; exact cellNew (by simp) rfl; exact cellNew (by simp) rfl; rintro e w' ⟨rfl, rfl⟩))
  all_goals
    have hbE := ‹(_ ∧ _ ∧ _ ∧ _) ∧ _ ∧ Below _ _ _›.2.2
    go_wp2
    go_ret
    exact ⟨rfl, hbE⟩
end Go.Proofs.YtofhdlkocgbcgaaGreatDoor
