/- More walks of the reference 02, and of 01. -/
import Derived.Test.YtofhdlkocgbcgaaGreatDoorRefA
namespace Go.Proofs.YtofhdlkocgbcgaaGreatDoor
open Go Go.RowKit Pu
set_option linter.unusedVariables false
set_option linter.unusedSimpArgs false
/-- May a number be the operand of an op? -/
def mayI (op arg : Int) : Bool :=
  if formF op.toNat = 1 then decide (arg = 0) else
  if formF op.toNat = 2 then decide ((if op / 16 = 0 then 1 else 0) ≤ arg ∧ arg ≤ 15) else
  if formF op.toNat = 3 then decide (1 ≤ arg ∧ arg ≤ 7) else
  if formF op.toNat = 4 ∨ formF op.toNat = 5 then decide (0 ≤ arg ∧ arg ≤ 255) else decide (0 ≤ arg ∧ arg ≤ 65535)
theorem r2_may (op arg : Int) (w : World) (h0 : 0 ≤ op) (h1 : op ≤ 255) : Calls Tryz.prog 67 #[.int .u8 op, .int .i64 arg] w fun e w' => e = .returned (.bool (mayI op arg)) ∧ w = w' := by
  obtain ⟨hf1, hf2⟩ := formF_pos op.toNat
  have hcase : formF op.toNat = 1 ∨ formF op.toNat = 2 ∨ formF op.toNat = 3 ∨ formF op.toNat = 4 ∨ formF op.toNat = 5 ∨ formF op.toNat = 6 := by omega
  clear hf1 hf2
  generalize hv : mayI op arg = v
  have Hv := Lib.hid hv; clear hv
  rcases hcase with hf | hf | hf | hf | hf | hf
  all_goals
    go_enter Tryz.func67, Tryz.ntmps67
    go_wp2_with (go_at_call 63; refine (r2_FormOf _ _ (by omega) (by omega)).mono ?_; rintro e w' ⟨rfl, rfl⟩)
    all_goals
      go_ret
      refine ⟨ret_bool ?_, rfl⟩
      rw [← Hv.out, Bool.eq_iff_iff]
      try simp only [beq_iff_eq, beq_eq_false_iff_ne, ne_eq] at *
      unfold mayI
      simp [hf]
      try (first | omega | (split <;> omega) | (constructor <;> intro <;> (try split) <;> omega))

set_option maxHeartbeats 2000000 in
theorem r2_Info (op : Int) (w : World) (h0 : 0 ≤ op) (h1 : op ≤ 255) :
    Calls Tryz.prog 72 #[.int .u8 op] w fun e w' => e = .returned (.agg #[.string (nameB op.toNat), .int .u8 (formF op.toNat), .int .i64 (lenF (formF op.toNat)), .int .i64 (cycF op.toNat)]) ∧ Below w.heap.size w w' := by
  obtain ⟨hf1, hf2⟩ := formF_pos op.toNat
  have hcy : (cycF op.toNat : Int) = if op / 16 = 12 then 3 else 2 := by unfold cycF; split <;> split <;> omega
  have Hcy := Lib.hid hcy; clear hcy
  go_enter Tryz.func72, Tryz.ntmps72
  go_wp2_with (first | (go_at_call 63; refine (r2_FormOf _ _ (by omega) (by omega)).mono ?_; rintro e w' ⟨rfl, rfl⟩) | (go_at_call 90; refine (r2_Long _ _ (by omega) (by omega)).mono ?_; rintro e w' ⟨rfl, rfl⟩) | (go_at_call 65; refine (r2_Name _ _ (by omega) (by omega)).mono ?_; rintro e w1 ⟨rfl, hb⟩; obtain ⟨hc, hfz⟩ := bcell hb; have hz := hb.size; simp at hz; have hz2 : w.heap.size < w1.heap.size := (by omega); have hz3 : w.heap.size < w1.heap.size + 1 := (by omega); have e1 := (hc w.heap.size 0 (by simp)); have e2 := (hc w.heap.size 1 (by simp)); have f1 := (hfz w.heap.size 0 (by simp)); have f2 := (hfz w.heap.size 1 (by simp)); (try simp at e1); (try simp at e2); (try simp at f1); (try simp at f2); have e3 := (hc w.heap.size 2 (by simp)); have e4 := (hc w.heap.size 3 (by simp)); (try simp at e3); (try simp at e4); have f3 := (hfz w.heap.size 2 (by simp)); have f4 := (hfz w.heap.size 3 (by simp)); (try simp at f3); (try simp at f4)) | (go_at_call 64; refine (r2_Bytes _ _ (by omega) (by omega)).mono ?_; rintro e w' ⟨rfl, rfl⟩))
  all_goals
    try simp only [beq_iff_eq, beq_eq_false_iff_ne, ne_eq] at *
    refine bodyPost_ret (v := .agg #[.string (nameB op.toNat), .int .u8 (formF op.toNat), .int .i64 (lenF (formF op.toNat)), .int .i64 (cycF op.toNat)]) (by rw [Hcy.out]; simp [results, Tryz.results72, go_sem, *]) rfl ⟨rfl, ?_⟩
    (repeat first | exact Below.refl _ _ | assumption | refine Below.trans ?_ (hb.mono (by first | omega | (simp; done) | (simp; omega))) | refine Below.drew ?_ | refine Below.alloc ?_ (by first | omega | (simp; done) | (simp; omega)) _ | refine Below.setCell ?_ (by first | omega | (simp; done) | (simp; omega)) _)
theorem r2_Find (s : ByteArray) (w : World) : Calls Tryz.prog 44 #[.string s] w fun e w' => e = .returned (FindV s) ∧ Below w.heap.size w w' := by
  obtain ⟨hb1, hb2⟩ := firstI_bd s
  by_cases hn : firstI s < 0
  · go_enter Tryz.func44, Tryz.ntmps44
    go_wp2_with (first | ((go_at_call 66; refine (r2_First _ _).mono ?_; rintro e w1 ⟨rfl, hb⟩; obtain ⟨hc, hfz⟩ := bcell hb; have hz := hb.size; simp at hz; have hz2 : w.heap.size < w1.heap.size := (by omega); have hz3 : w.heap.size < w1.heap.size + 1 := (by omega); have e1 := (hc w.heap.size 0 (by simp)); have e2 := (hc w.heap.size 1 (by simp)); have f1 := (hfz w.heap.size 0 (by simp)); have f2 := (hfz w.heap.size 1 (by simp)); (try simp at e1); (try simp at e2); (try simp at f1); (try simp at f2)); have e3 := (hc w.heap.size 2 (by simp)); have e4 := (hc w.heap.size 3 (by simp)); (try simp at e3); (try simp at e4); have f3 := (hfz w.heap.size 2 (by simp)); have f4 := (hfz w.heap.size 3 (by simp)); (try simp at f3); (try simp at f4)))
    refine bodyPost_ret (v := FindV s) (by unfold FindV; rw [if_pos hn]; simp [results, Tryz.results44, go_sem, *]) rfl ⟨rfl, ?_⟩
    (repeat first | exact Below.refl _ _ | assumption | refine Below.trans ?_ (hb.mono (by first | omega | (simp; done) | (simp; omega))) | refine Below.drew ?_ | refine Below.alloc ?_ (by first | omega | (simp; done) | (simp; omega)) _ | refine Below.setCell ?_ (by first | omega | (simp; done) | (simp; omega)) _)
  · have h0 : 0 ≤ firstI s := by omega
    go_enter Tryz.func44, Tryz.ntmps44
    go_wp2_with (first | ((go_at_call 66; refine (r2_First _ _).mono ?_; rintro e w1 ⟨rfl, hb⟩; obtain ⟨hc, hfz⟩ := bcell hb; have hz := hb.size; simp at hz; have hz2 : w.heap.size < w1.heap.size := (by omega); have hz3 : w.heap.size < w1.heap.size + 1 := (by omega); have e1 := (hc w.heap.size 0 (by simp)); have e2 := (hc w.heap.size 1 (by simp)); have f1 := (hfz w.heap.size 0 (by simp)); have f2 := (hfz w.heap.size 1 (by simp)); (try simp at e1); (try simp at e2); (try simp at f1); (try simp at f2)); have e3 := (hc w.heap.size 2 (by simp)); have e4 := (hc w.heap.size 3 (by simp)); (try simp at e3); (try simp at e4); have f3 := (hfz w.heap.size 2 (by simp)); have f4 := (hfz w.heap.size 3 (by simp)); (try simp at f3); (try simp at f4)) | (go_at_call 72; refine (r2_Info _ _ h0 hb2).mono ?_; rintro e w2 ⟨rfl, hb'⟩; obtain ⟨hc2, hfz2⟩ := bcell hb'; have hz4 := hb'.size; have g1 := hc2 w.heap.size 0 (by omega); have g2 := hc2 w.heap.size 1 (by omega); have g3 := hc2 w.heap.size 2 (by omega); have g4 := hc2 w.heap.size 3 (by omega); have k1 := hfz2 w.heap.size 0 (by omega); have k2 := hfz2 w.heap.size 1 (by omega); have k3 := hfz2 w.heap.size 2 (by omega); have k4 := hfz2 w.heap.size 3 (by omega); simp only [e1, e2, e3, e4] at g1 g2 g3 g4; simp only [f1, f2, f3, f4] at k1 k2 k3 k4; clear hc2 hfz2))
    refine bodyPost_ret (v := FindV s) (by unfold FindV; rw [if_neg (by omega)]; simp [results, Tryz.results44, go_sem, *]) rfl ⟨rfl, ?_⟩
    refine Below.setCell (Below.setCell (Below.setCell (Below.setCell ?_ (by simp) _) (by simp) _) (by simp) _) (by simp) _
    exact ((Below.refl _ _).alloc (Nat.le_refl _) _).trans ((hb.mono (by simp)).trans (hb'.mono (by omega)))
def RefArm : Prop := True
theorem r2_Encode_none (s : ByteArray) (arg : Int) (w : World) (hn : firstI s < 0) : Calls Tryz.prog 40 #[.agg #[.string s, .int .i64 arg]] w (EncPost w.heap.size w (20, [])) := by
  go_enter Tryz.func40, Tryz.ntmps40
  go_wp2_with (first | (go_at_call 66; refine (r2_First _ _).mono ?_; rintro e w1 ⟨rfl, hb⟩; obtain ⟨hc, hfz⟩ := bcell hb; have hz := hb.size; simp at hz; have hz2 : w.heap.size < w1.heap.size := (by omega); have hz3 : w.heap.size < w1.heap.size + 1 := (by omega); have e1 := (hc w.heap.size 0 (by simp)); have e2 := (hc w.heap.size 1 (by simp)); have f1 := (hfz w.heap.size 0 (by simp)); have f2 := (hfz w.heap.size 1 (by simp)); (try simp at e1); (try simp at e2); (try simp at f1); (try simp at f2)))
  go_ret2
  exact EncPost.bad rfl (by (repeat first | exact Below.refl _ _ | assumption | refine Below.trans ?_ (hb.mono (by first | omega | (simp; done) | (simp; omega))) | refine Below.drew ?_ | refine Below.alloc ?_ (by first | omega | (simp; done) | (simp; omega)) _ | refine Below.setCell ?_ (by first | omega | (simp; done) | (simp; omega)) _))
theorem r2_Encode_bad (s : ByteArray) (arg : Int) (w : World) (hn : 0 ≤ firstI s) (hm : mayI (firstI s) arg = false) : Calls Tryz.prog 40 #[.agg #[.string s, .int .i64 arg]] w (EncPost w.heap.size w (21, [])) := by
  obtain ⟨hb1, hb2⟩ := firstI_bd s
  go_enter Tryz.func40, Tryz.ntmps40
  go_wp2_with (first | (go_at_call 66; refine (r2_First _ _).mono ?_; rintro e w1 ⟨rfl, hb⟩; obtain ⟨hc, hfz⟩ := bcell hb; have hz := hb.size; simp at hz; have hz2 : w.heap.size < w1.heap.size := (by omega); have hz3 : w.heap.size < w1.heap.size + 1 := (by omega); have e1 := (hc w.heap.size 0 (by simp)); have e2 := (hc w.heap.size 1 (by simp)); have f1 := (hfz w.heap.size 0 (by simp)); have f2 := (hfz w.heap.size 1 (by simp)); (try simp at e1); (try simp at e2); (try simp at f1); (try simp at f2)) | (go_at_call 67; refine (r2_may _ _ _ (by omega) (by omega)).mono ?_; rintro e w' ⟨rfl, rfl⟩))
  go_ret2
  exact EncPost.bad rfl (by (repeat first | exact Below.refl _ _ | assumption | refine Below.trans ?_ (hb.mono (by first | omega | (simp; done) | (simp; omega))) | refine Below.drew ?_ | refine Below.alloc ?_ (by first | omega | (simp; done) | (simp; omega)) _ | refine Below.setCell ?_ (by first | omega | (simp; done) | (simp; omega)) _))
set_option maxRecDepth 100000 in
theorem r2_Encode_1 (s : ByteArray) (arg : Int) (w : World) (hn : 0 ≤ firstI s) (hf : formF (firstI s).toNat = 1) (hm : mayI (firstI s) arg = true)  : Calls Tryz.prog 40 #[.agg #[.string s, .int .i64 arg]] w (EncPost w.heap.size w (0, [firstI s])) := by
  obtain ⟨hb1, hb2⟩ := firstI_bd s
  go_enter Tryz.func40, Tryz.ntmps40
  go_wp2_with (first | (go_at_call 66; refine (r2_First _ _).mono ?_; rintro e w1 ⟨rfl, hb⟩; obtain ⟨hc, hfz⟩ := bcell hb; have hz := hb.size; simp at hz; have hz2 : w.heap.size < w1.heap.size := (by omega); have hz3 : w.heap.size < w1.heap.size + 1 := (by omega); have e1 := (hc w.heap.size 0 (by simp)); have e2 := (hc w.heap.size 1 (by simp)); have f1 := (hfz w.heap.size 0 (by simp)); have f2 := (hfz w.heap.size 1 (by simp)); (try simp at e1); (try simp at e2); (try simp at f1); (try simp at f2)) | (go_at_call 67; refine (r2_may _ _ _ (by omega) (by omega)).mono ?_; rintro e w' ⟨rfl, rfl⟩) | (go_at_call 63; refine (r2_FormOf _ _ (by omega) (by omega)).mono ?_; rintro e w' ⟨rfl, rfl⟩))
  all_goals (go_ret2; exact EncPost.good rfl rfl (by omega) (heap_alloc_new _ _) (by (repeat first | exact Below.refl _ _ | assumption | refine Below.trans ?_ (hb.mono (by first | omega | (simp; done) | (simp; omega))) | refine Below.drew ?_ | refine Below.alloc ?_ (by first | omega | (simp; done) | (simp; omega)) _ | refine Below.setCell ?_ (by first | omega | (simp; done) | (simp; omega)) _)))
set_option maxRecDepth 100000 in
theorem r2_Encode_2 (s : ByteArray) (arg : Int) (w : World) (hn : 0 ≤ firstI s) (hf : formF (firstI s).toNat = 2) (hm : mayI (firstI s) arg = true) (a0 : 0 ≤ arg) (a1 : arg ≤ 15) : Calls Tryz.prog 40 #[.agg #[.string s, .int .i64 arg]] w (EncPost w.heap.size w (0, [firstI s / 16 * 16 + arg])) := by
  obtain ⟨hb1, hb2⟩ := firstI_bd s
  have hq := formF_2 hf (by omega)
  have hq2 : firstI s ≤ 239 := by omega
  clear hq
  go_enter Tryz.func40, Tryz.ntmps40
  go_wp2_with (first | (go_at_call 66; refine (r2_First _ _).mono ?_; rintro e w1 ⟨rfl, hb⟩; obtain ⟨hc, hfz⟩ := bcell hb; have hz := hb.size; simp at hz; have hz2 : w.heap.size < w1.heap.size := (by omega); have hz3 : w.heap.size < w1.heap.size + 1 := (by omega); have e1 := (hc w.heap.size 0 (by simp)); have e2 := (hc w.heap.size 1 (by simp)); have f1 := (hfz w.heap.size 0 (by simp)); have f2 := (hfz w.heap.size 1 (by simp)); (try simp at e1); (try simp at e2); (try simp at f1); (try simp at f2)) | (go_at_call 67; refine (r2_may _ _ _ (by omega) (by omega)).mono ?_; rintro e w' ⟨rfl, rfl⟩) | (go_at_call 63; refine (r2_FormOf _ _ (by omega) (by omega)).mono ?_; rintro e w' ⟨rfl, rfl⟩))
  all_goals (go_ret2; exact EncPost.good rfl rfl (by omega) (heap_alloc_new _ _) (by (repeat first | exact Below.refl _ _ | assumption | refine Below.trans ?_ (hb.mono (by first | omega | (simp; done) | (simp; omega))) | refine Below.drew ?_ | refine Below.alloc ?_ (by first | omega | (simp; done) | (simp; omega)) _ | refine Below.setCell ?_ (by first | omega | (simp; done) | (simp; omega)) _)))
set_option maxRecDepth 100000 in
theorem r2_Encode_3 (s : ByteArray) (arg : Int) (w : World) (hn : 0 ≤ firstI s) (hf : formF (firstI s).toNat = 3) (hm : mayI (firstI s) arg = true) (a0 : 1 ≤ arg) (a1 : arg ≤ 7) : Calls Tryz.prog 40 #[.agg #[.string s, .int .i64 arg]] w (EncPost w.heap.size w (0, [firstI s - 1 + arg])) := by
  obtain ⟨hb1, hb2⟩ := firstI_bd s
  have hq := formF_3 hf
  have hq2 : firstI s ≤ 111 := by omega
  have hq3 : 1 ≤ firstI s := by omega
  clear hq
  go_enter Tryz.func40, Tryz.ntmps40
  go_wp2_with (first | (go_at_call 66; refine (r2_First _ _).mono ?_; rintro e w1 ⟨rfl, hb⟩; obtain ⟨hc, hfz⟩ := bcell hb; have hz := hb.size; simp at hz; have hz2 : w.heap.size < w1.heap.size := (by omega); have hz3 : w.heap.size < w1.heap.size + 1 := (by omega); have e1 := (hc w.heap.size 0 (by simp)); have e2 := (hc w.heap.size 1 (by simp)); have f1 := (hfz w.heap.size 0 (by simp)); have f2 := (hfz w.heap.size 1 (by simp)); (try simp at e1); (try simp at e2); (try simp at f1); (try simp at f2)) | (go_at_call 67; refine (r2_may _ _ _ (by omega) (by omega)).mono ?_; rintro e w' ⟨rfl, rfl⟩) | (go_at_call 63; refine (r2_FormOf _ _ (by omega) (by omega)).mono ?_; rintro e w' ⟨rfl, rfl⟩))
  all_goals (go_ret2; exact EncPost.good rfl rfl (by omega) (heap_alloc_new _ _) (by (repeat first | exact Below.refl _ _ | assumption | refine Below.trans ?_ (hb.mono (by first | omega | (simp; done) | (simp; omega))) | refine Below.drew ?_ | refine Below.alloc ?_ (by first | omega | (simp; done) | (simp; omega)) _ | refine Below.setCell ?_ (by first | omega | (simp; done) | (simp; omega)) _)))
set_option maxRecDepth 100000 in
theorem r2_Encode_4 (s : ByteArray) (arg : Int) (w : World) (hn : 0 ≤ firstI s) (hf : formF (firstI s).toNat = 4) (hm : mayI (firstI s) arg = true) (a0 : 0 ≤ arg) (a1 : arg ≤ 255) : Calls Tryz.prog 40 #[.agg #[.string s, .int .i64 arg]] w (EncPost w.heap.size w (0, [firstI s, arg])) := by
  obtain ⟨hb1, hb2⟩ := firstI_bd s
  go_enter Tryz.func40, Tryz.ntmps40
  go_wp2_with (first | (go_at_call 66; refine (r2_First _ _).mono ?_; rintro e w1 ⟨rfl, hb⟩; obtain ⟨hc, hfz⟩ := bcell hb; have hz := hb.size; simp at hz; have hz2 : w.heap.size < w1.heap.size := (by omega); have hz3 : w.heap.size < w1.heap.size + 1 := (by omega); have e1 := (hc w.heap.size 0 (by simp)); have e2 := (hc w.heap.size 1 (by simp)); have f1 := (hfz w.heap.size 0 (by simp)); have f2 := (hfz w.heap.size 1 (by simp)); (try simp at e1); (try simp at e2); (try simp at f1); (try simp at f2)) | (go_at_call 67; refine (r2_may _ _ _ (by omega) (by omega)).mono ?_; rintro e w' ⟨rfl, rfl⟩) | (go_at_call 63; refine (r2_FormOf _ _ (by omega) (by omega)).mono ?_; rintro e w' ⟨rfl, rfl⟩))
  all_goals (go_ret2; exact EncPost.good rfl rfl (by omega) (heap_alloc_new _ _) (by (repeat first | exact Below.refl _ _ | assumption | refine Below.trans ?_ (hb.mono (by first | omega | (simp; done) | (simp; omega))) | refine Below.drew ?_ | refine Below.alloc ?_ (by first | omega | (simp; done) | (simp; omega)) _ | refine Below.setCell ?_ (by first | omega | (simp; done) | (simp; omega)) _)))
set_option maxRecDepth 100000 in
theorem r2_Encode_5 (s : ByteArray) (arg : Int) (w : World) (hn : 0 ≤ firstI s) (hf : formF (firstI s).toNat = 5) (hm : mayI (firstI s) arg = true) (a0 : 0 ≤ arg) (a1 : arg ≤ 255) : Calls Tryz.prog 40 #[.agg #[.string s, .int .i64 arg]] w (EncPost w.heap.size w (0, [firstI s, arg])) := by
  obtain ⟨hb1, hb2⟩ := firstI_bd s
  go_enter Tryz.func40, Tryz.ntmps40
  go_wp2_with (first | (go_at_call 66; refine (r2_First _ _).mono ?_; rintro e w1 ⟨rfl, hb⟩; obtain ⟨hc, hfz⟩ := bcell hb; have hz := hb.size; simp at hz; have hz2 : w.heap.size < w1.heap.size := (by omega); have hz3 : w.heap.size < w1.heap.size + 1 := (by omega); have e1 := (hc w.heap.size 0 (by simp)); have e2 := (hc w.heap.size 1 (by simp)); have f1 := (hfz w.heap.size 0 (by simp)); have f2 := (hfz w.heap.size 1 (by simp)); (try simp at e1); (try simp at e2); (try simp at f1); (try simp at f2)) | (go_at_call 67; refine (r2_may _ _ _ (by omega) (by omega)).mono ?_; rintro e w' ⟨rfl, rfl⟩) | (go_at_call 63; refine (r2_FormOf _ _ (by omega) (by omega)).mono ?_; rintro e w' ⟨rfl, rfl⟩))
  all_goals (go_ret2; exact EncPost.good rfl rfl (by omega) (heap_alloc_new _ _) (by (repeat first | exact Below.refl _ _ | assumption | refine Below.trans ?_ (hb.mono (by first | omega | (simp; done) | (simp; omega))) | refine Below.drew ?_ | refine Below.alloc ?_ (by first | omega | (simp; done) | (simp; omega)) _ | refine Below.setCell ?_ (by first | omega | (simp; done) | (simp; omega)) _)))
set_option maxRecDepth 100000 in
theorem r2_Encode_6 (s : ByteArray) (arg : Int) (w : World) (hn : 0 ≤ firstI s) (hf : formF (firstI s).toNat = 6) (hm : mayI (firstI s) arg = true) (a0 : 0 ≤ arg) (a1 : arg ≤ 65535) : Calls Tryz.prog 40 #[.agg #[.string s, .int .i64 arg]] w (EncPost w.heap.size w (0, [firstI s, arg / 256, arg % 256])) := by
  obtain ⟨hb1, hb2⟩ := firstI_bd s
  go_enter Tryz.func40, Tryz.ntmps40
  go_wp2_with (first | (go_at_call 66; refine (r2_First _ _).mono ?_; rintro e w1 ⟨rfl, hb⟩; obtain ⟨hc, hfz⟩ := bcell hb; have hz := hb.size; simp at hz; have hz2 : w.heap.size < w1.heap.size := (by omega); have hz3 : w.heap.size < w1.heap.size + 1 := (by omega); have e1 := (hc w.heap.size 0 (by simp)); have e2 := (hc w.heap.size 1 (by simp)); have f1 := (hfz w.heap.size 0 (by simp)); have f2 := (hfz w.heap.size 1 (by simp)); (try simp at e1); (try simp at e2); (try simp at f1); (try simp at f2)) | (go_at_call 67; refine (r2_may _ _ _ (by omega) (by omega)).mono ?_; rintro e w' ⟨rfl, rfl⟩) | (go_at_call 63; refine (r2_FormOf _ _ (by omega) (by omega)).mono ?_; rintro e w' ⟨rfl, rfl⟩))
  all_goals (go_ret2; exact EncPost.good rfl rfl (by omega) (heap_alloc_new _ _) (by (repeat first | exact Below.refl _ _ | assumption | refine Below.trans ?_ (hb.mono (by first | omega | (simp; done) | (simp; omega))) | refine Below.drew ?_ | refine Below.alloc ?_ (by first | omega | (simp; done) | (simp; omega)) _ | refine Below.setCell ?_ (by first | omega | (simp; done) | (simp; omega)) _)))
theorem r2_Encode (s : ByteArray) (arg : Int) (w : World) : Calls Tryz.prog 40 #[.agg #[.string s, .int .i64 arg]] w (EncPost w.heap.size w (encI s arg)) := by
  obtain ⟨hb1, hb2⟩ := firstI_bd s
  by_cases hn : firstI s < 0
  · have e : encI s arg = (20, []) := by unfold encI; rw [if_pos hn]
    rw [e]; exact r2_Encode_none s arg w hn
  · have hn' : 0 ≤ firstI s := by omega
    obtain ⟨hf1, hf2⟩ := formF_pos (firstI s).toNat
    have hcase : formF (firstI s).toNat = 1 ∨ formF (firstI s).toNat = 2 ∨ formF (firstI s).toNat = 3 ∨ formF (firstI s).toNat = 4 ∨ formF (firstI s).toNat = 5 ∨ formF (firstI s).toNat = 6 := by omega
    cases hm : mayI (firstI s) arg with
    | false =>
      have e : encI s arg = (21, []) := by
        unfold encI; rw [if_neg hn]
        unfold mayI at hm
        rcases hcase with hf | hf | hf | hf | hf | hf
        · simp [hf] at hm ⊢; omega
        · simp [hf] at hm ⊢; split at hm <;> split <;> omega
        · simp [hf] at hm ⊢; omega
        · simp [hf] at hm ⊢; omega
        · simp [hf] at hm ⊢; omega
        · simp [hf] at hm ⊢; omega
      rw [e]; exact r2_Encode_bad s arg w hn' hm
    | true =>
      have hm' := hm
      unfold mayI at hm
      rcases hcase with hf | hf | hf | hf | hf | hf
      · simp [hf] at hm
        have e : encI s arg = (0, [firstI s]) := by unfold encI; rw [if_neg hn]; simp [hf, hm]
        rw [e]; exact r2_Encode_1 s arg w hn' hf hm'
      · simp [hf] at hm
        have e : encI s arg = (0, [firstI s / 16 * 16 + arg]) := by
          unfold encI; rw [if_neg hn]; simp only [hf]
          by_cases hl : firstI s < 16
          · have : firstI s / 16 = 0 := by omega
            simp [hl, this] at hm ⊢; omega
          · have := first_row (by omega) hf
            have h2 : ¬ firstI s / 16 = 0 := by omega
            simp [hl, h2] at hm ⊢; rw [if_neg (by omega), this]
        rw [e]; exact r2_Encode_2 s arg w hn' hf hm' (by split at hm <;> omega) hm.2
      · simp [hf] at hm
        have e : encI s arg = (0, [firstI s - 1 + arg]) := by unfold encI; rw [if_neg hn]; simp [hf]; omega
        rw [e]; exact r2_Encode_3 s arg w hn' hf hm' hm.1 hm.2
      · simp [hf] at hm
        have e : encI s arg = (0, [firstI s, arg]) := by unfold encI; rw [if_neg hn]; simp [hf]; omega
        rw [e]; exact r2_Encode_4 s arg w hn' hf hm' hm.1 hm.2
      · simp [hf] at hm
        have e : encI s arg = (0, [firstI s, arg]) := by unfold encI; rw [if_neg hn]; simp [hf]; omega
        rw [e]; exact r2_Encode_5 s arg w hn' hf hm' hm.1 hm.2
      · simp [hf] at hm
        have e : encI s arg = (0, [firstI s, arg / 256, arg % 256]) := by unfold encI; rw [if_neg hn]; simp [hf]; omega
        rw [e]; exact r2_Encode_6 s arg w hn' hf hm' hm.1 hm.2
end Go.Proofs.YtofhdlkocgbcgaaGreatDoor
