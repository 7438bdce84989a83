/- law15: room, roomy. -/
import Derived.Test.YtofhdlkocgbcgaaGreatDoorLawA
import Derived.Laws.CopyOwn
namespace Go.Proofs.YtofhdlkocgbcgaaGreatDoor
open Go Go.RowKit Pu
set_option linter.unusedVariables false
set_option linter.unusedSimpArgs false
def roomP (xs : List Int) (k : Nat) : List Value := xs.map (Value.int .u8) ++ (List.replicate (k - xs.length) (.int .u8 90) ++ List.replicate (xs.length + 5 - k) (.int .u8 0))
def roomC (xs : List Int) : List Value := xs.map (Value.int .u8) ++ List.replicate 5 (.int .u8 90)
theorem roomP_end (xs : List Int) : roomP xs (xs.length + 5) = roomC xs := by unfold roomP roomC; simp
theorem roomP_set (xs : List Int) (k : Nat) (h1 : xs.length ≤ k) (h2 : k < xs.length + 5) : (roomP xs k).set k (.int .u8 90) = roomP xs (k + 1) := by
  unfold roomP
  rw [List.set_append_right _ _ (by simpa using h1), List.set_append_right _ _ (by simp)]
  obtain ⟨j, rfl⟩ : ∃ j, k = xs.length + j := ⟨k - xs.length, by omega⟩
  have e1 : xs.length + 5 - (xs.length + j) = (xs.length + 5 - (xs.length + j + 1)) + 1 := by omega
  rw [e1, List.replicate_succ]
  simp only [List.length_map, List.length_replicate, Nat.add_sub_cancel_left, Nat.sub_self, List.set_cons_zero]
  rw [show xs.length + j + 1 - xs.length = j + 1 by omega, List.replicate_succ']
  simp
theorem roomP_len (xs : List Int) (k : Nat) (h1 : xs.length ≤ k) (h2 : k ≤ xs.length + 5) : (roomP xs k).length = xs.length + 5 := by unfold roomP; simp; omega
set_option maxHeartbeats 2000000 in
set_option maxRecDepth 100000 in
theorem law_room (w : World) (A : Option Addr) (c : Nat) (xs : List Int) (R : RdB w A xs) (hx : Bytes xs) (h1 : xs.length ≤ 1048576) (n : Nat) (hn : n = xs.length) : Calls Tryz.prog 14 #[.slice A n c] w fun e w' => e = .returned (.slice (some ⟨w.heap.size, 0, none⟩) xs.length (xs.length + 5)) ∧ w'.heap[w.heap.size]? = some (.cells (roomC xs).toArray 5 (0, 0)) ∧ Below w.heap.size w w' := by
  subst hn
  have hmk : ∀ w, (Instr.makeSlice 39 (.int .i64 ((xs.length : Int) + 5)) (.int .i64 ((xs.length : Int) + 5))).run Tryz.prog w = .ok (.slice (some ⟨w.heap.size, 0, none⟩) (xs.length + 5) (xs.length + 5)) (w.alloc (.cells (madeCells #[.int .u8 0] (xs.length + 5)) 5)) := fun w => by
    have h := run_make_row' (P := Tryz.prog) 39 5 (.int .u8 0) 1 Tryz.underlying39 info5u rfl .i64 .i64 (xs.length + 5) (by omega) (by omega) w
    rw [show ((xs.length + 5 : Nat) : Int) = (xs.length : Int) + 5 by omega] at h
    exact h
  have hsrc := R.src
  have hA := heap_alloc_new w (.cells (madeCells #[.int .u8 0] (xs.length + 5)) 5)
  have hcur : (Obj.cells (madeCells #[Value.int .u8 0] (xs.length + 5)) 5 (0, 0)) = .cells (List.replicate (xs.length + 5) (Value.int .u8 0)).toArray 5 (0, 0) := by
    congr 1
    apply Array.ext'
    rw [toList_madeCells_one]
  have HC := Lib.hid (hA.trans (congrArg some hcur))
  have hsp : splice (List.replicate (xs.length + 5) (Value.int .u8 0)) 0 (xs.map (Value.int .u8)) = roomP xs xs.length := by
    unfold splice roomP; simp
  have HSP := Lib.hid hsp
  have hpos : 0 < (xs.map (Value.int .u8)).length → (some (⟨w.heap.size, 0, none⟩ : Addr)) = some ⟨w.heap.size, 0, none⟩ ∧ ∃ ad, A = some ad ∧ ∀ j v, (xs.map (Value.int .u8))[j]? = some v → (w.alloc (.cells (madeCells #[.int .u8 0] (xs.length + 5)) 5)).cell? (ad.add j) = some v := fun h0 => by
    refine ⟨rfl, ?_⟩
    obtain ⟨ad, e, _⟩ := hsrc.2 0 _ (List.getElem?_eq_getElem h0)
    refine ⟨ad, e, fun j v hv => ?_⟩
    obtain ⟨ad2, e2, hc⟩ := hsrc.2 j v hv
    rw [e] at e2; injection e2 with e2; subst e2
    exact cellA hc
  clear hsp hA hcur
  go_enter Tryz.func14, Tryz.ntmps14
  go_wp2_with (refine wpList_copy_splice rfl (.tmp 9) (.tmp 10) 39 39 rfl 5 Tryz.underlying39 (by kernel_rfl) _ _ _ _ _ _ rfl rfl w.heap.size 0 _ _ HC.out (xs.map (Value.int .u8)) (by simp) hpos (by simp) (bytes_one xs) w.heap.size w (belowA _) (Nat.le_refl _) ?_; intro w1 h1 b1)
  rw [HSP.out] at h1
  clear hmk hsrc hpos HC HSP
  go_loopw [4] (fun i wr => ∃ k : Nat, i = .int .i64 k ∧ xs.length ≤ k ∧ k ≤ xs.length + 5 ∧ wr.heap[w.heap.size]? = some (.cells (roomP xs k).toArray 5 (0, 0)) ∧ Below w.heap.size w wr) (fun i _ => xs.length + 5 - (intOf i).toNat)
  case atStart => exact ⟨xs.length, rfl, Nat.le_refl _, by omega, h1.out, b1⟩
  case round =>
    clear h1 b1
    obtain ⟨k, rfl, hk1, hk2, hg, hbw⟩ := hrel
    by_cases hlt : k < xs.length + 5
    · have hki : (k : Int) < xs.length + 5 := by omega
      have hk0 : (0 : Int) ≤ k := by omega
      have hll := roomP_len xs k hk1 hk2
      have hc : wr.cell? ⟨w.heap.size, k, none⟩ = some ((roomP xs k)[k]'(by omega)) := blk_cell hg (by simp [hll, hlt])
      have hf : wr.frozen? ⟨w.heap.size, k, none⟩ = false := blk_frozen hg
      have hs := roomP_set xs k hk1 hlt
      have hn2 : (wr.setCell ⟨w.heap.size, k, none⟩ (.int .u8 90)).heap[w.heap.size]? = some (.cells (roomP xs (k + 1)).toArray 5 (0, 0)) := by
        rw [← hs]
        simp [World.setCell, Array.getElem?_modify, hg]
      have HN := Lib.hid hn2
      clear hs hn2
      generalize (roomP xs k)[k] = y at *
      clear hll
      go_wp2
      exact ⟨⟨k + 1, by go_num, by omega, by omega, HN.out, hbw.setCell (Nat.le_refl _) _⟩, by simp [intOf]; omega⟩
    · obtain rfl : k = xs.length + 5 := by omega
      rw [roomP_end] at hg
      have HG := Lib.hid hg
      clear hg
      go_wp2
      go_ret
      exact ⟨rfl, HG.out, hbw⟩
theorem roomC_len (xs : List Int) : (roomC xs).length = xs.length + 5 := by unfold roomC; simp
theorem roomC_at (xs : List Int) (k : Nat) (h1 : xs.length ≤ k) (h2 : k < xs.length + 5) : (roomC xs)[k]'(by rw [roomC_len]; exact h2) = .int .u8 90 := by
  unfold roomC
  rw [List.getElem_append_right (by simpa using h1)]
  exact List.getElem_replicate ..
set_option maxHeartbeats 2000000 in
set_option maxRecDepth 100000 in
theorem law_roomy (w : World) (g : Nat) (xs : List Int) (h : w.heap[g]? = some (.cells (roomC xs).toArray 5 (0, 0))) (h1 : xs.length ≤ 1048576) (n m : Nat) (hn : n = xs.length) (hm : m = xs.length) : Calls Tryz.prog 13 #[.slice (some ⟨g, 0, none⟩) n (xs.length + 5), .int .i64 m] w fun e w' => e = .returned (.bool true) ∧ w = w' := by
  subst hn
  obtain rfl := hm
  have HH := Lib.hid h
  clear h
  go_enter Tryz.func13, Tryz.ntmps13
  go_wp2
  go_loop [6] (fun i => ∃ k : Nat, i = .int .i64 k ∧ xs.length ≤ k ∧ k ≤ xs.length + 5) (fun i => xs.length + 5 - (intOf i).toNat)
  case atStart => exact ⟨xs.length, rfl, Nat.le_refl _, by omega⟩
  case round =>
    obtain ⟨k, rfl, hk1, hk2⟩ := hrel
    by_cases hlt : k < xs.length + 5
    · have hki : (k : Int) < xs.length + 5 := by omega
      have hk0 : (0 : Int) ≤ k := by omega
      have hc : w.cell? ⟨g, k, none⟩ = some (.int .u8 90) := by
        have := blk_cell HH.out (i := k) (u := (roomC xs)[k]'(by rw [roomC_len]; exact hlt)) (by simp [roomC_len, hlt])
        rw [roomC_at xs k hk1 hlt] at this
        exact this
      go_wp2
      exact ⟨⟨k + 1, by go_num, by omega, by omega⟩, by simp [intOf]; omega⟩
    · obtain rfl : k = xs.length + 5 := by omega
      go_wp2
      go_ret
      exact ⟨rfl, rfl⟩
end Go.Proofs.YtofhdlkocgbcgaaGreatDoor
