/- The tables out of the row's condition. -/
import Derived.Test.YtofhdlkocgbcgaaGreatDoorOpnA
import Derived.Test.YtofhdlkocgbcgaaGreatDoorCards
import Derived.Test.YtofhdlkocgbcgaaGreatDoorTie
import Derived.ProofKit
import Derived.Deep.DeepHandedRow
import Derived.Lib.LaidTab
namespace Go.Proofs.YtofhdlkocgbcgaaGreatDoor
open Go Go.RowKit Pu Go.ChangeShapes Go.WideShapes Go.ChangeAt
set_option linter.unusedVariables false
set_option linter.unusedSimpArgs false
theorem laid_at {P : Program} {w : World} {name : String} {d : DataW Unit} : ∀ {laid : List (String × DataW Unit)} {ps : List MemPlace}, DataW.LaidVars P w laid ps → (name, d) ∈ laid →
    ∃ (g : Nat) (t : TypeId) (cs : Array Value) (fuel : Nat) (p : List MemPlace), P.globalNamed name = some g ∧ (P.globals[g]?).map (·.type) = some t ∧ w.var? P name = some cs ∧ DataW.trod (fun _ => ()) P w 0 (fun _ => true) false fuel t cs.toList = some (d, p)
  | [], _, _, h => by simp at h
  | x :: laid, ps, ⟨g, t, cs, fuel, p, q, h1, h2, h3, h4, h5, _⟩, h => by
    rcases List.mem_cons.1 h with e | e
    · subst e
      exact ⟨g, t, cs, fuel, p, h1, h2, h3, h4⟩
    · exact laid_at h5 e
theorem cells_of_strs {H : Type} {enc : TypeId × Value → H} {P : Program} {w : World} {base : Nat} {sp : Nat → Bool} {held : Bool} {fuel : Nat} {t e : TypeId} {n : Nat} {cs : List Value} {ss : List (List UInt8)} {p : List MemPlace}
    (ht : P.underlying t = some (.array n e)) (he : P.underlying e = some .string) (hce : P.cellsOf e = 1) (hct : P.cellsOf t = n)
    (h : DataW.trod enc P w base sp held fuel t cs = some (.agg (ss.map fun s => .lit (.string s)), p)) : ∀ i, i < ss.length → cs[i]? = some (.string (bstr (ss.getD i []))) := by
  cases fuel with
  | zero => simp [DataW.trod] at h
  | succ fuel =>
    simp only [DataW.trod, ht, hce, hct, Nat.mul_one] at h
    split at h
    · rename_i hl
      obtain ⟨xs, hm, hx⟩ := Option.map_eq_some_iff.1 h
      have hxs : xs.map (·.1) = ss.map fun s => (DataW.lit (.string s) : DataW H) := by
        have := congrArg Prod.fst hx
        simpa using this
      have hxl : xs.length = n := by simpa using Lib.mapM_length hm
      have hzl : ss.length = n := by
        have := congrArg List.length hxs
        simp at this
        omega
      intro i hi
      have hin : i < n := by omega
      obtain ⟨b, hb, hf⟩ := Lib.mapM_at hm i i (by simp [hin])
      obtain ⟨s, hc, rfl, _⟩ := DataW.trod_string he hf
      have h1 : cs[i]? = some (.string s) := by
        have := congrArg (·[0]?) hc
        simpa [List.getElem?_take, List.getElem?_drop] using this
      have h2 : (xs.map (·.1))[i]? = some (DataW.lit (.string s.data.toList) : DataW H) := by simp [hb]
      rw [hxs] at h2
      simp only [List.getElem?_map, Option.map_eq_some_iff, DataW.lit.injEq, Lit.string.injEq] at h2
      obtain ⟨z, hz, e2⟩ := h2
      rw [h1, List.getD_eq_getElem?_getD, hz]
      simp only [Option.getD_some]
      rw [e2]
      unfold bstr
      simp
    · cases h
/-- What the row's list gives. -/
theorem tabs_of_laid {W : World} (h : laidMetH Tryz.prog Rows.plainExactUptoRow.laid W) : Tabs W := by
  rw [MakeChecks.laidMetH_plain _ _ _ (by kernel_rfl)] at h
  obtain ⟨ps, hL, _⟩ := h
  have strs : ∀ (name : String) (g : Nat) (xs : List (List UInt8)) (d : DataW Unit), d = .agg (xs.map fun s => .lit (.string s)) → (name, d) ∈ Rows.plainExactUptoRow.laid → Tryz.prog.globalNamed name = some g → (Tryz.prog.globals[g]?).map (·.type) = some 138 →
      ∀ i, i < xs.length → W.cell? ⟨g, i, none⟩ = some (.string (bstr (xs.getD i []))) := by
    intro name g xs d hd hm hg ht i hi
    subst hd
    obtain ⟨g', t', cs, fuel, p, e1, e2, e3, e4⟩ := laid_at hL hm
    obtain rfl := Option.some.inj (hg.symm.trans e1)
    obtain rfl := Option.some.inj (ht.symm.trans e2)
    have hc := cells_of_strs Tryz.underlying138 Tryz.underlying9 (by kernel_rfl) (by kernel_rfl) e4 i hi
    rw [World.var?_cell hg e3 i]
    simpa using hc
  have ints : ∀ (name : String) (g t : Nat) (zs : List Int) (d : DataW Unit), d = Lib.tabData .i64 zs → (name, d) ∈ Rows.plainExactUptoRow.laid → Tryz.prog.globalNamed name = some g → (Tryz.prog.globals[g]?).map (·.type) = some t → Tryz.prog.underlying t = some (.array 7 3) → Tryz.prog.cellsOf t = 7 →
      ∀ i, W.cell? ⟨g, i, none⟩ = (zs.map fun z => Value.int .i64 z)[i]? := by
    intro name g t zs d hd hm hg ht hu hcs i
    subst hd
    obtain ⟨g', t', cs, fuel, p, e1, e2, e3, e4⟩ := laid_at hL hm
    obtain rfl := Option.some.inj (hg.symm.trans e1)
    obtain rfl := Option.some.inj (ht.symm.trans e2)
    have hc := Lib.cells_of_tab hu Tryz.underlying3 (by kernel_rfl) hcs e4
    rw [World.var?_cell hg e3 i, ← hc]
    simp
  have c3 := strs "vesper/code.threes" 2 threesL _ (by rfl) (by simp [Rows.plainExactUptoRow]; rfl) (by kernel_rfl) (by kernel_rfl)
  have c7 := strs "vesper/code.sevens" 3 sevensL _ (by rfl) (by simp [Rows.plainExactUptoRow]; rfl) (by kernel_rfl) (by kernel_rfl)
  have c12 := strs "vesper/code.twelves" 4 twelvesL _ (by rfl) (by simp [Rows.plainExactUptoRow]; rfl) (by kernel_rfl) (by kernel_rfl)
  have c15 := strs "vesper/code.fifteens" 5 fifteensL _ (by rfl) (by simp [Rows.plainExactUptoRow]; rfl) (by kernel_rfl) (by kernel_rfl)
  have cr := strs "vesper/code.rows" 6 rowsL _ (by rfl) (by simp [Rows.plainExactUptoRow]; rfl) (by kernel_rfl) (by kernel_rfl)
  have cl := ints "vesper/code.lengths" 1 109 [0, 1, 1, 1, 2, 2, 3] _ (by rfl) (by simp [Rows.plainExactUptoRow]; rfl) (by kernel_rfl) (by kernel_rfl) Tryz.underlying109 (by kernel_rfl)
  have cd := ints "vesper/code.digits" 0 109 [0, 0, 1, 1, 2, 2, 4] _ (by rfl) (by simp [Rows.plainExactUptoRow]; rfl) (by kernel_rfl) (by kernel_rfl) Tryz.underlying109 (by kernel_rfl)
  obtain ⟨g', t', cs, fuel, p, e1, e2, e3, e4⟩ := laid_at hL (show ("unicode/utf8.acceptRanges", Rows.laid_unicode_utf8_acceptRanges) ∈ _ by simp [Rows.plainExactUptoRow])
  obtain rfl := Option.some.inj ((show Tryz.prog.globalNamed "unicode/utf8.acceptRanges" = some 9 by kernel_rfl).symm.trans e1)
  refine ⟨?_, c3, c7, c12, c15, cr, fun i h1 h2 => ?_, fun i h => ?_⟩
  · simp only [World.var?, e1, Option.bind_some] at e3
    rcases Nat.lt_or_ge 9 W.heap.size with h | h
    · exact h
    · rw [Array.getElem?_eq_none h] at e3
      simp at e3
  · rw [cl i]
    have : i = 1 ∨ i = 2 ∨ i = 3 ∨ i = 4 ∨ i = 5 ∨ i = 6 := by omega
    rcases this with rfl | rfl | rfl | rfl | rfl | rfl <;> rfl
  · rw [cd i]
    have : i = 0 ∨ i = 1 ∨ i = 2 ∨ i = 3 ∨ i = 4 ∨ i = 5 ∨ i = 6 := by omega
    rcases this with rfl | rfl | rfl | rfl | rfl | rfl | rfl <;> rfl
end Go.Proofs.YtofhdlkocgbcgaaGreatDoor
