/- 'vesperlaw15.PlainExact', for what is of bulk at most 1048576: the contract, the row's statement and its card. -/
import Derived.Test.YtofhdlkocgbcgaaGreatDoorOpnB
import Derived.WalkKit
import Derived.Lay
namespace Go.Proofs.YtofhdlkocgbcgaaGreatDoor.plainExact
open Go Go.RowKit Pu Go.Joins Go.ChangeShapes Go.WideShapes Go.ChangeAt Go.Deep
set_option linter.unusedVariables false
set_option linter.unusedSimpArgs false
set_option maxRecDepth 100000
theorem own : ownKnob Tryz.prog.godebug = none := by kernel_rfl
theorem laidOut : laidOutB Tryz.prog = true := by kernel_rfl
theorem funcIs : Tryz.prog.funcs[3]? = some Tryz.f3 := Tryz.func3
/-- What the walk gives, for every argument and every world that holds the tables. -/
theorem contract (H : Type) (enc : TypeId × Value → H) (W : World) (base : Nat) (args : Array Value) (ds gs : List (DataW H)) (before : List MemPlace)
    (hval : ∀ (j : Nat) t v, Tryz.f3.params[j]? = some t → args[j]? = some v → Value.okWide Tryz.prog W .any base t v)
    (hW : DataW.Whole enc Tryz.prog Tryz.f3.params.toList Rows.plainExactSpec.vars false W args.toList ds gs before) (hcond : Rows.uptoBulkAll (ds ++ gs) ≤ 1048576) (hL : laidMetH Tryz.prog Rows.plainExactUptoRow.laid W) :
    Calls Tryz.prog 3 args W fun e W' => ∃ v, e = .returned v ∧ Rows.plainExactSpec.post enc Tryz.prog Tryz.f3 false true false false W args v W' := by
  have T := tabs_of_laid hL
  have hW' := hW
  obtain ⟨p, q, hA0, hV, rfl, hfz, hnd⟩ := hW
  have hA : DataW.TrodAll enc Tryz.prog W 0 (fun _ => true) true Tryz.f3.params.toList args.toList ds p := hA0
  rw [Tryz.params3] at hA hval
  obtain ⟨v0, vs0, d0, ds0, p0, q0, hargs, rfl, rfl, h0, r0⟩ := trodAll_cons hA
  obtain ⟨rfl, rfl, rfl⟩ := trodAll_nil r0
  obtain rfl : args = #[v0] := by cases args; simp_all
  obtain ⟨rfl, rfl⟩ := trodVars_none hV
  have h0k := h0
  obtain ⟨x0, x1, x2, y0, y1, y2, n, rfl, rfl, rfl, t0, t1, t2⟩ := open_agg3 Tryz.underlying26 (by kernel_rfl) (by kernel_rfl) (hval 0 26 v0 rfl rfl) h0
  simp only [List.append_nil] at hW' hcond
  have hbk : Rows.uptoBulk y0.1 + Rows.uptoBulk y1.1 + Rows.uptoBulk y2.1 ≤ 1048576 := by
    simp only [Rows.uptoBulkAll, Rows.uptoBulk] at hcond
    omega
  obtain ⟨A, bl, ca, rfl, RA, lbl, hs, kA⟩ := open_blocks t0 (by omega)
  obtain ⟨B, ml, cb, rfl, RB, lml, kB⟩ := open_marks t1 (by omega)
  obtain ⟨C, ll, cc, rfl, RC, lll, kC⟩ := open_labels t2 (by omega)
  have walk := law_PlainExact W T A B C ca cb cc ⟨bl, ml, ll⟩ ⟨lbl, lml, lll, kA, kB, kC⟩ ⟨RA, RB, RC⟩ hs
  refine walk.mono fun e W' ⟨he, hb⟩ => ?_
  subst he
  have hlt := fun (x : MemPlace) hx => hW'.lt x hx
  exact ⟨_, rfl, post_of_below hW' (fun _ _ _ => trodAll_cons_mk (shut_bool Tryz.underlying4 _) trodAll_mk0)
    (fun sp hsp => trodAll_mk1 (WideElems.Trod_stays laidOut (by kernel_rfl) (of_decide_eq_true (by kernel_rfl)) h0k (fun x hx => hb.same (hlt x (by simpa using hx))) (fun x hx => hsp x (by simpa using hx)))) (fun _ _ => rfl) (by simp)
    hb (ok_one (by kernel_rfl) rfl (okWide_bool_mk Tryz.underlying4 _))⟩
/-- A world for the witness: every listed variable laid by its datum. -/
noncomputable def laidWorld (os : Os) : World := World.laidAll Tryz.prog os Rows.plainExactUptoRow.laid
/-- The witness's argument: an empty object. -/
def arg : Value := .agg #[.slice none 0 0, .slice none 0 0, .slice none 0 0]
theorem laid_met (os : Os) : laidMetH Tryz.prog Rows.plainExactUptoRow.laid ((laidWorld os).forCall (fun _ _ => 0) ⟨#[], #[arg], []⟩).memory := by
  rw [MakeChecks.laidMetH_plain _ _ _ (by kernel_rfl)]
  exact laidMet_laidAll _ (by kernel_rfl) (by kernel_rfl)
theorem reads (os : Os) {H : Type} (enc : TypeId × Value → H) : ∃ places, DataW.whole enc Tryz.prog ((laidWorld os).forCall (fun _ _ => 0) ⟨#[], #[arg], []⟩).memory Tryz.f3.params.toList Rows.plainExactSpec.vars false #[arg].toList 8 = some ([.agg [.nil, .nil, .nil]], [], places) :=
  ⟨[], by kernel_rfl⟩
theorem lifted (os : Os) (started : os.Started) (H : Type) (enc : TypeId × Value → H) (F : Stop.Interp) :
    ReturnsInHanded {} Tryz.checked os 3 .any ((Rows.OpenSpec.upto Rows.plainExactSpec).preRow enc Tryz.prog Tryz.f3 Rows.plainExactUptoRow.domain false Rows.plainExactUptoRow.laid) (((Rows.OpenSpec.upto Rows.plainExactSpec).at F).post enc Tryz.prog Tryz.f3 false true false false) := by
  obtain ⟨places, hx⟩ := reads os enc
  refine returnsInHanded_of_row (C := Tryz.checked) (s := Rows.OpenSpec.upto Rows.plainExactSpec) own started (by kernel_rfl) funcIs
    (witness_row_at (enc := enc) (C := Tryz.checked) false (laidWorld os) #[arg] (World.laidAll_os _ _ _) (by kernel_rfl) (by kernel_rfl) (by kernel_rfl)
      (OpenSpec.preRow_of_cond 8 hx (by kernel_rfl) (fun k hk => by cases hk; kernel_rfl) (by kernel_rfl) (laid_met os))) ?_
  intro W base args ds gs before hval hW _ hcond _ hL _ _
  have hc := hcond _ rfl
  exact contract H enc W base args ds gs before hval hW (of_decide_eq_true hc) hL
theorem saidUpto : Rows.PlainExactUptoSaid :=
  OpenClaim.holds_of_cond 3 Tryz.f3 rfl rfl rfl rfl rfl rfl rfl ⟨rfl, rfl, rfl, rfl, rfl⟩ rfl rfl rfl rfl rfl (by kernel_rfl) funcIs (by kernel_rfl)
    (of_decide_eq_true (by kernel_rfl)) (by unfold Func.isWrapper; first | (rw [if_pos (by decide +kernel)]; kernel_rfl) | (rw [if_neg (by decide +kernel)]; exact ⟨rfl, rfl⟩))
    (fun os started H enc _ F => by rw [OpenClaim.pre_eq_preRow]; exact lifted os started H enc F)
/-- No parameter wants a stand-in; the program's own looks are off. -/
theorem plain (f : FuncId) (fn : Func) (hf : Tryz.pinned.checked.prog.funcNamed "vesper/vesperlaw15.PlainExact" = some f) (hfn : Tryz.pinned.checked.prog.funcs[f]? = some fn) :
    false = Tryz.pinned.checked.prog.looks [] ∧ ∀ (j : Nat) t, fn.params[j]? = some t → Tryz.pinned.checked.prog.wantsStandIn t = false := by
  obtain rfl : f = 3 := Option.some.inj ((show Tryz.prog.funcNamed "vesper/vesperlaw15.PlainExact" = some 3 by kernel_rfl).symm.trans hf) |>.symm
  obtain rfl : fn = Tryz.f3 := (Option.some.inj (funcIs.symm.trans hfn)).symm
  refine ⟨by kernel_rfl, fun j t ht => ?_⟩
  rw [Tryz.params3] at ht
  obtain rfl : t = 26 := by simpa using Array.mem_of_getElem? ht
  exact (show Tryz.prog.wantsStandIn 26 = false by kernel_rfl)
/-- The second form's card. -/
theorem cardUpto : Rows.PlainExactUptoCardSaid :=
  Claim7.holds_tied_plain_at .later [] _ _ _ _ saidUpto (fun _ h => by cases h) (by kernel_rfl) (fun _ h => by cases h) plainExactUpto_row_tie rfl ⟨rfl, rfl⟩ (by kernel_rfl) rfl plain (by kernel_rfl)
end Go.Proofs.YtofhdlkocgbcgaaGreatDoor.plainExact
