/- law15: equal. -/
import Derived.Test.YtofhdlkocgbcgaaGreatDoorLawC
namespace Go.Proofs.YtofhdlkocgbcgaaGreatDoor
open Go Go.RowKit Pu
set_option linter.unusedVariables false
set_option linter.unusedSimpArgs false
set_option maxHeartbeats 8000000 in
set_option maxRecDepth 100000 in
theorem law_equal (w : World) (A B C A' B' C' : Option Addr) (ca cb cc ca' cb' cc' : Nat) (o : ObjP) (ok : ObjOK o) (R : RdO w A B C o) (S : RdO w A' B' C' o) : Calls Tryz.prog 11 #[.agg #[.slice A o.blocks.length ca, .slice B o.marks.length cb, .slice C o.labels.length cc], .agg #[.slice A' o.blocks.length ca', .slice B' o.marks.length cb', .slice C' o.labels.length cc']] w fun e w' => e = .returned (.bool true) ∧ Below w.heap.size w w' := by
  have h1 := ok.nb
  have h2 := ok.nm
  have h3 := ok.nl
  unfold big at h1 h2 h3
  have n1 : ((o.blocks.length : Int) != o.blocks.length) = false := by simp
  have n2 : ((o.marks.length : Int) != o.marks.length) = false := by simp
  have n3 : ((o.labels.length : Int) != o.labels.length) = false := by simp
  have hV0 := belowA (w := w) (.cells #[.slice A o.blocks.length ca, .slice B o.marks.length cb, .slice C o.labels.length cc] 26)
  have hV1 := belowA (w := w.alloc (.cells #[.slice A o.blocks.length ca, .slice B o.marks.length cb, .slice C o.labels.length cc] 26)) (.cells #[.slice A' o.blocks.length ca', .slice B' o.marks.length cb', .slice C' o.labels.length cc'] 26)
  have hV := hV0.trans (hV1.mono hV0.size)
  have k0 := heapB' hV1 (heap_alloc_new w (.cells #[.slice A o.blocks.length ca, .slice B o.marks.length cb, .slice C o.labels.length cc] 26))
  have k1 := heap_new1 w (.cells #[.slice A o.blocks.length ca, .slice B o.marks.length cb, .slice C o.labels.length cc] 26) (.cells #[.slice A' o.blocks.length ca', .slice B' o.marks.length cb', .slice C' o.labels.length cc'] 26)
  have RV := R.below hV
  have SV := S.below hV
  go_enter Tryz.func11, Tryz.ntmps11
  go_wp2
  generalize (w.alloc (.cells #[.slice A o.blocks.length ca, .slice B o.marks.length cb, .slice C o.labels.length cc] 26)).alloc (.cells #[.slice A' o.blocks.length ca', .slice B' o.marks.length cb', .slice C' o.labels.length cc'] 26) = V at *
  clear hV0 hV1 R S
  go_loopw [5] (fun i wr => ∃ k : Nat, i = .int .i64 k ∧ k ≤ o.blocks.length ∧ Below V.heap.size V wr) (fun i _ => o.blocks.length - (intOf i).toNat)
  case atStart => exact ⟨0, rfl, Nat.zero_le _, Below.refl _ _⟩
  case round =>
    obtain ⟨k, rfl, hk, hbw⟩ := hrel
    have a0 := cellB hbw (blk_cell (i := 0) k0 rfl)
    have a0' := cellB hbw (blk_cell (i := 0) k1 rfl)
    by_cases hlt : k < o.blocks.length
    · have hki : (k : Int) < o.blocks.length := by omega
      have hk0 : (0 : Int) ≤ k := by omega
      obtain ⟨b, off, rfl, r1⟩ := RV.b (by omega)
      obtain ⟨b', off', rfl, s1⟩ := SV.b (by omega)
      obtain ⟨c0, D1, d1, c1, Q1, _⟩ := r1 k hlt
      obtain ⟨c0', D2, d2, c1', Q2, _⟩ := s1 k hlt
      have S1 := Q1.below hbw
      have S2 := Q2.below hbw
      obtain ⟨_, bo, bn⟩ := ok.bs k hlt
      unfold big at bn
      have z0 := fun z : Up wr => z.cell (cellB hbw c0)
      have z1 := fun z : Up wr => z.cell (cellB hbw c1)
      have y0 := fun z : Up wr => z.cell (cellB hbw c0')
      have y1 := fun z : Up wr => z.cell (cellB hbw c1')
      have x0 := fun z : Up wr => z.cell a0
      have x1 := fun z : Up wr => z.cell a0'
      clear r1 s1 c0 c1 c0' c1' Q1 Q2
      generalize o.blocks[k] = X at *
      obtain ⟨at1, bs⟩ := X
      simp only at *
      have e1 : (at1 != at1) = false := by simp
      go_wp2_with fail
      refine region_up (by kernel_rfl) (by kernel_rfl) ?_
      repeat (go_big_quiet_step ((go_at_call 34; refine Calls.up (v := .bool true) ?_; exact law_same _ _ _ _ _ bs bs (S1.below (‹Up wr›).up) (S2.below (‹Up wr›).up) bo bo bn bn true (by simp) _ _ rfl rfl)))
      refine wpQuiet_nil ?_
      rintro w9 ⟨⟨_, hb9⟩, rfl⟩
      clear z0 z1 y0 y1 x0 x1
      go_wp2
      exact ⟨⟨k + 1, by go_num, by omega, hbw.trans (hb9.mono hbw.size)⟩, by simp [intOf]; omega⟩
    · obtain rfl : k = o.blocks.length := by omega
      go_wp2
      go_loopw [6] (fun i wq => ∃ k : Nat, i = .int .i64 k ∧ k ≤ o.marks.length ∧ Below V.heap.size V wq) (fun i _ => o.marks.length - (intOf i).toNat)
      case atStart => exact ⟨0, rfl, Nat.zero_le _, hbw⟩
      case round =>
        clear hbw a0 a0'
        obtain ⟨k, rfl, hk, hbw⟩ := hrel
        have a0 := cellB hbw (blk_cell (i := 1) k0 rfl)
        have a0' := cellB hbw (blk_cell (i := 1) k1 rfl)
        by_cases hlt : k < o.marks.length
        · have hki : (k : Int) < o.marks.length := by omega
          have hk0 : (0 : Int) ≤ k := by omega
          obtain ⟨b, off, rfl, r1⟩ := RV.m (by omega)
          obtain ⟨b', off', rfl, s1⟩ := SV.m (by omega)
          obtain ⟨c0, c1, c2⟩ := r1 k hlt
          obtain ⟨c0', c1', c2'⟩ := s1 k hlt
          have z0 := cellB hbw c0
          have z1 := cellB hbw c1
          have z2 := cellB hbw c2
          have y0 := cellB hbw c0'
          have y1 := cellB hbw c1'
          have y2 := cellB hbw c2'
          clear r1 s1 c0 c1 c0' c1' c2 c2'
          generalize o.marks[k] = X at *
          obtain ⟨m1, m2, m3⟩ := X
          simp only at *
          go_wp2_with fail
          go_quiet (fail)
          go_wp2
          exact ⟨⟨k + 1, by go_num, by omega, below_drewN hbw⟩, by simp [intOf]; omega⟩
        · obtain rfl : k = o.marks.length := by omega
          go_wp2
          go_loopw [7] (fun i wx => ∃ k : Nat, i = .int .i64 k ∧ k ≤ o.labels.length ∧ Below V.heap.size V wx) (fun i _ => o.labels.length - (intOf i).toNat)
          case atStart => exact ⟨0, rfl, Nat.zero_le _, hbw⟩
          case round =>
            clear hbw a0 a0'
            obtain ⟨k, rfl, hk, hbw⟩ := hrel
            have a0 := cellB hbw (blk_cell (i := 2) k0 rfl)
            have a0' := cellB hbw (blk_cell (i := 2) k1 rfl)
            by_cases hlt : k < o.labels.length
            · have hki : (k : Int) < o.labels.length := by omega
              have hk0 : (0 : Int) ≤ k := by omega
              obtain ⟨b, off, rfl, r1⟩ := RV.l (by omega)
              obtain ⟨b', off', rfl, s1⟩ := SV.l (by omega)
              obtain ⟨c0, c1⟩ := r1 k hlt
              obtain ⟨c0', c1'⟩ := s1 k hlt
              have z0 := cellB hbw c0
              have z1 := cellB hbw c1
              have y0 := cellB hbw c0'
              have y1 := cellB hbw c1'
              clear r1 s1 c0 c1 c0' c1'
              generalize o.labels[k] = X at *
              obtain ⟨m1, m2⟩ := X
              simp only at *
              go_wp2_with fail
              go_quiet (fail)
              go_wp2
              exact ⟨⟨k + 1, by go_num, by omega, below_drewN hbw⟩, by simp [intOf]; omega⟩
            · obtain rfl : k = o.labels.length := by omega
              go_wp2
              go_ret
              exact ⟨rfl, hV.trans (hbw.mono hV.size)⟩
end Go.Proofs.YtofhdlkocgbcgaaGreatDoor
