/- A region that draws its order, by an invariant over what has been done. -/
import Derived.Orders
import Derived.Calls
namespace Go.Proofs.YtofhdlkocgbcgaaGreatDoor
open Go
theorem cnt_set : ∀ (l : List Bool) (i : Nat), l[i]? = some false → ((l.set i true).filter (fun b => !b)).length + 1 = (l.filter (fun b => !b)).length
  | [], i, h => by simp at h
  | b :: l, 0, h => by
    simp at h
    subst h
    simp
  | b :: l, i + 1, h => by
    have ih := cnt_set l i (by simpa using h)
    rw [List.set_cons_succ]
    cases b <;> simp only [List.filter_cons, Bool.not_false, Bool.not_true, if_true, List.length_cons] <;> simp_all
theorem cnt_zero : ∀ (l : List Bool), (l.filter (fun b => !b)).length = 0 → ∀ i, i < l.length → l.getD i false = true := by
  intro l h i hi
  have h2 : l.filter (fun b => !b) = [] := List.eq_nil_of_length_eq_zero h
  have h3 := List.filter_eq_nil_iff.1 h2 (l[i]) (List.getElem_mem hi)
  rw [List.getD_eq_getElem?_getD, List.getElem?_eq_getElem hi]
  simpa using h3
def preOk (l : List Oper) : Bool := (List.range l.length).all fun i => ((l[i]?).map fun o => o.after.all fun e => !Region.binds .any e || decide (e.on < i)).getD true
theorem preOk_spec {l : List Oper} (h : preOk l = true) (i : Nat) (o : Oper) (ho : l[i]? = some o) (e : Edge) (he : e ∈ o.after) (hb : Region.binds .any e = true) : e.on < i := by
  unfold preOk at h
  have hi : i < l.length := (List.getElem?_eq_some_iff.1 ho).1
  have h1 := List.all_eq_true.1 h i (List.mem_range.2 hi)
  rw [ho] at h1
  simp only [Option.map_some, Option.getD_some] at h1
  have h2 := Array.all_eq_true_iff_forall_mem.1 h1 e he
  rw [hb] at h2
  simpa using h2
theorem region_inv {P : Program} {id : Nat} {Q : Exit → Act → World → Prop} {a : Act} {w : World} {l : List Oper} (hm : P.follows .mixedOrders = true)
    (hp : preOk l = true)
    (S : (Nat → Bool) → Act → World → Prop) (h0 : S (fun _ => false) a { w with drawn := w.drawn + 1 })
    (hs : ∀ (d : Nat → Bool) (i : Nat) (o : Oper) (a : Act) (w : World), l[i]? = some o → d i = false → (∀ e ∈ o.after, Region.binds .any e = true → d e.on = true) → S d a w → wpOp P l.toArray Q i (S (fun j => if j = i then true else d j)) a w)
    (he : ∀ (d : Nat → Bool) (a : Act) (w : World), (∀ i, i < l.length → d i = true) → S d a w → Q .normal a w) : (Code.region id l.toArray true).wp P Q a w := by
  have hpre := fun i o ho e he hb => preOk_spec hp i o ho e he hb
  refine wp_region_any hm ?_
  have all : ∀ (listed : Array Bool), listed.size = l.length → Region.ready .any l.toArray listed = [] → ∀ i, i < l.length → listed.getD i false = true := by
    intro listed hz hr i
    induction i using Nat.strongRecOn with
    | _ i ih =>
      intro hi
      cases hc : listed.getD i false with
      | true => rfl
      | false =>
        exfalso
        have hmem : i ∈ Region.ready .any l.toArray listed := by
          unfold Region.ready
          refine List.mem_filter.2 ⟨List.mem_range.2 (by simpa using hi), ?_⟩
          have h1 : listed.getD i true = false := by
            have hi2 : i < listed.size := by omega
            simp [Array.getD, hi2] at hc ⊢
            exact hc
          rw [h1]
          simp only [Bool.not_false, Bool.true_and, List.getElem?_toArray, List.getElem?_eq_getElem hi, Option.map_some, Option.getD_some]
          refine Array.all_eq_true_iff_forall_mem.2 fun e he => ?_
          cases hb : Region.binds .any e with
          | false => rfl
          | true =>
            have := hpre i l[i] (List.getElem?_eq_getElem hi) e he hb
            rw [ih e.on this (by omega)]
            rfl
        rw [hr] at hmem
        exact absurd hmem (by simp)
  have key : ∀ (fuel : Nat) (listed : Array Bool) (a : Act) (w : World), listed.size = l.length → (listed.toList.filter (fun b => !b)).length ≤ fuel → S (fun j => listed.getD j false) a w → wpAny P .any l.toArray Q fuel listed a w := by
    intro fuel
    induction fuel with
    | zero =>
      intro listed a w hz hc hS
      have hal : ∀ i, i < l.length → listed.getD i false = true := fun i hi => by
        have := cnt_zero listed.toList (by omega) i (by simpa [hz] using hi)
        have hi2 : i < listed.size := by omega
        simp [Array.getD, hi2, List.getD_eq_getElem?_getD] at this ⊢
        exact this
      refine ⟨?_, he _ a w hal hS⟩
      unfold Region.ready
      refine List.filter_eq_nil_iff.2 fun i hi => ?_
      have hi' : i < l.length := by simpa using List.mem_range.1 hi
      have h1 := hal i hi'
      have hi2 : i < listed.size := by omega
      simp [Array.getD, hi2] at h1 ⊢
      simp [h1]
    | succ fuel ih =>
      intro listed a w hz hc hS
      refine ⟨fun hr => he _ a w (all listed hz hr) hS, fun i hi => ?_⟩
      unfold Region.ready at hi
      obtain ⟨h1, h2⟩ := List.mem_filter.1 hi
      have hi' : i < l.length := by simpa using List.mem_range.1 h1
      have hi2 : i < listed.size := by omega
      simp only [List.getElem?_toArray, List.getElem?_eq_getElem hi', Option.map_some, Option.getD_some, Bool.and_eq_true] at h2
      obtain ⟨h3, h4⟩ := h2
      have hf : listed[i] = false := by simpa [Array.getD, hi2] using h3
      refine wpOp_mono ?_ (hs (fun j => listed.getD j false) i l[i] a w (List.getElem?_eq_getElem hi') (by simp [Array.getD, hi2, hf]) (fun e he hb => ?_) hS)
      · intro a' w' hS'
        refine ih _ a' w' (by rw [Array.size_setIfInBounds]; exact hz) ?_ ?_
        · have := cnt_set listed.toList i (by simp [hi2, hf])
          rw [Array.toList_setIfInBounds]
          omega
        · have e : (fun j => (listed.setIfInBounds i true).getD j false) = (fun j => if j = i then true else listed.getD j false) := by
            funext j
            by_cases hj : j = i
            · subst hj; simp [Array.getD, hi2]
            · rw [if_neg hj, Array.getD_eq_getD_getElem?, Array.getD_eq_getD_getElem?, Array.getElem?_setIfInBounds_ne (Ne.symm hj)]
          rw [e]
          exact hS'
      · have h5 := Array.all_eq_true_iff_forall_mem.1 h4 e he
        rw [hb] at h5
        simpa using h5
  refine key _ _ a _ (by simp) ?_ ?_
  · rw [show (Array.replicate l.toArray.size false).toList = List.replicate l.length false by simp]
    simp
  · have e : (fun j => (Array.replicate l.toArray.size false).getD j false) = fun _ => false := by
      funext j
      simp only [Array.getD]
      split <;> simp
    rw [e]; exact h0
theorem wpOp_of {P : Program} {ops : Array Oper} {Q : Exit → Act → World → Prop} {i : Nat} {o : Oper} {K : Act → World → Prop} {a : Act} {w : World} (ho : ops[i]? = some o) (hg : o.guard = none) (h : o.wp P a w K Q) : wpOp P ops Q i K a w := by
  unfold wpOp
  rw [ho]
  simp only [Region.wanted, hg, if_true]
  exact .inl h
end Go.Proofs.YtofhdlkocgbcgaaGreatDoor
