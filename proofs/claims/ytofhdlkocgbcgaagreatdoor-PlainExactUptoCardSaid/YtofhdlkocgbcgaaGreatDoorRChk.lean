/- the reference's Check. -/
import Derived.Test.YtofhdlkocgbcgaaGreatDoorMrkR
import Derived.Test.YtofhdlkocgbcgaaGreatDoorChkA
import Derived.Test.YtofhdlkocgbcgaaGreatDoorTelW
namespace Go.Proofs.YtofhdlkocgbcgaaGreatDoor
open Go Go.RowKit Pu
set_option linter.unusedVariables false
set_option linter.unusedSimpArgs false
set_option maxHeartbeats 1000000 in
set_option maxRecDepth 100000 in
theorem r14_Check (w : World) (A B C : Option Addr) (ca cb cc : Nat) (o : ObjP) (ok : ObjOK o) (R : RdO w A B C o) : Calls Tryz.prog 15 #[.agg #[.slice A o.blocks.length ca, .slice B o.marks.length cb, .slice C o.labels.length cc]] w fun e w' => e = .returned (.int .i64 (okN o)) ∧ Below w.heap.size w w' := by
  have hW := belowA (w := w) (.cells #[.slice A o.blocks.length ca, .slice B o.marks.length cb, .slice C o.labels.length cc] 26)
  have hWn := heap_alloc_new w (.cells #[.slice A o.blocks.length ca, .slice B o.marks.length cb, .slice C o.labels.length cc] 26)
  have RW := R.below hW
  have hbl := ok.nl
  cases h1 : okBl (-1) o.blocks with
  | false =>
    have HN := Lib.hid (okN_bl h1)
    go_enter Tryz.func15, Tryz.ntmps15
    go_wp2_with (first | (go_at_call 35; refine (r14_blocksMay _ _ _ _ _ _ _ _ _ _ o rfl ok RW).mono ?_; rw [h1]; rintro e w1 ⟨rfl, hb1⟩))
    go_ret
    exact ⟨ret_int HN.out.symm, below1 hb1⟩
  | true =>
    cases h2 : okMk o.blocks o.marks with
    | false =>
      have HN := Lib.hid (okN_mk h2)
      go_enter Tryz.func15, Tryz.ntmps15
      go_wp2_with (first | (go_at_call 35; refine (r14_blocksMay _ _ _ _ _ _ _ _ _ _ o rfl ok RW).mono ?_; rw [h1]; rintro e w1 ⟨rfl, hb1⟩; have hN1 := heapB' hb1 hWn; have x0 := blk_cell (i := 0) hN1 rfl; have x1 := blk_cell (i := 1) hN1 rfl; have x2 := blk_cell (i := 2) hN1 rfl) | (go_at_call 36; refine (r14_marksMay _ _ _ _ _ _ _ _ o ok (RW.below hb1) h1).mono ?_; rw [h2]; rintro e w2 ⟨rfl, hb2⟩))
      go_ret
      exact ⟨ret_int HN.out.symm, below1 (hb1.trans (hb2.mono hb1.size))⟩
    | true =>
      have HN : Hid (okN o = if okLb o.labels then 0 else 1) := Lib.hid (by
        cases h3 : okLb o.labels with
        | false => exact okN_lb h3
        | true => exact okN_ok h1 h2 h3)
      cases h3 : okLb o.labels with
      | _ =>
        rw [h3] at HN
        go_enter Tryz.func15, Tryz.ntmps15
        go_wp2_with (first | (go_at_call 35; refine (r14_blocksMay _ _ _ _ _ _ _ _ _ _ o rfl ok RW).mono ?_; rw [h1]; rintro e w1 ⟨rfl, hb1⟩; have hN1 := heapB' hb1 hWn; have x0 := blk_cell (i := 0) hN1 rfl; have x1 := blk_cell (i := 1) hN1 rfl; have x2 := blk_cell (i := 2) hN1 rfl) | (go_at_call 36; refine (r14_marksMay _ _ _ _ _ _ _ _ o ok (RW.below hb1) h1).mono ?_; rw [h2]; rintro e w2 ⟨rfl, hb2⟩; have hN2 := heapB' hb2 hN1; have z2 := blk_cell (i := 2) hN2 rfl) | (go_at_call 37; refine (r14_labelsMay _ _ _ _ hbl ok.ls (RW.below (hb1.trans (hb2.mono hb1.size))).l).mono ?_; rw [h3]; rintro e w3 ⟨rfl, hb3⟩))
        go_ret
        exact ⟨ret_int HN.out.symm, below1 ((hb1.trans (hb2.mono hb1.size)).trans (hb3.mono (hb1.trans (hb2.mono hb1.size)).size))⟩
end Go.Proofs.YtofhdlkocgbcgaaGreatDoor
