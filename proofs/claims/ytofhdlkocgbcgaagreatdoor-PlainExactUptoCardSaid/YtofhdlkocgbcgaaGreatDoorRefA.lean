/- The walks of the references 01 and 02. -/
import Derived.Test.YtofhdlkocgbcgaaGreatDoorCodeY
namespace Go.Proofs.YtofhdlkocgbcgaaGreatDoor
open Go Go.RowKit Pu
set_option linter.unusedVariables false
set_option linter.unusedSimpArgs false
theorem r2_FormOf (op : Int) (w : World) (h0 : 0 ≤ op) (h1 : op ≤ 255) :
    Calls Tryz.prog 63 #[.int .u8 op] w fun e w' => e = .returned (.int .u8 (formF op.toNat)) ∧ w = w' := by
  obtain ⟨n, rfl⟩ := Int.eq_ofNat_of_zero_le h0
  go_enter Tryz.func63, Tryz.ntmps63
  go_wp2
  all_goals
    go_ret
    refine ⟨ret_int ?_, rfl⟩
    simp only [beq_iff_eq, bne_iff_ne, beq_eq_false_iff_ne, bne_eq_false_iff_eq, ne_eq, Int.toNat_natCast] at *
    unfold formF
    repeat first | rw [if_pos (by omega)] | rw [if_neg (by omega)]
    all_goals first | rfl | omega
theorem r2_Bytes (f : Int) (w : World) (h0 : 1 ≤ f) (h1 : f ≤ 6) :
    Calls Tryz.prog 64 #[.int .u8 f] w fun e w' => e = .returned (.int .i64 (lenF f.toNat)) ∧ w = w' := by
  obtain ⟨n, rfl⟩ := Int.eq_ofNat_of_zero_le (show 0 ≤ f by omega)
  go_enter Tryz.func64, Tryz.ntmps64
  go_wp2
  all_goals
    go_ret
    refine ⟨ret_int ?_, rfl⟩
    simp only [beq_iff_eq, bne_iff_ne, beq_eq_false_iff_ne, bne_eq_false_iff_eq, ne_eq, Int.toNat_natCast] at *
    unfold lenF
    repeat first | rw [if_pos (by omega)] | rw [if_neg (by omega)]
    all_goals first | rfl | omega
theorem r2_wide (f : Int) (w : World) (h0 : 1 ≤ f) (h1 : f ≤ 6) :
    Calls Tryz.prog 69 #[.int .u8 f] w fun e w' => e = .returned (.int .i64 (wideF f.toNat)) ∧ w = w' := by
  obtain ⟨n, rfl⟩ := Int.eq_ofNat_of_zero_le (show 0 ≤ f by omega)
  go_enter Tryz.func69, Tryz.ntmps69
  go_wp2
  all_goals
    go_ret
    refine ⟨ret_int ?_, rfl⟩
    simp only [beq_iff_eq, bne_iff_ne, beq_eq_false_iff_ne, bne_eq_false_iff_eq, ne_eq, Int.toNat_natCast] at *
    unfold wideF
    repeat first | rw [if_pos (by omega)] | rw [if_neg (by omega)]
    all_goals first | rfl | omega
theorem r2_Long (op : Int) (w : World) (h0 : 0 ≤ op) (h1 : op ≤ 255) :
    Calls Tryz.prog 90 #[.int .u8 op] w fun e w' => e = .returned (.bool (op / 16 == 12)) ∧ w = w' := by
  go_enter Tryz.func90, Tryz.ntmps90
  go_wp2
  go_ret
  exact ⟨rfl, rfl⟩
/-- A slice of strings of the call's own. -/
def OwnS (B : Nat) (w' : World) (v : Value) (ss : List (List UInt8)) : Prop :=
  ∃ g, B ≤ g ∧ g < w'.heap.size ∧ v = .slice (some ⟨g, 0, none⟩) ss.length ss.length ∧ ∀ i, i < ss.length → w'.cell? ⟨g, i, none⟩ = some (.string (bstr (ss.getD i [])))
def NamesPost (w : World) (h : Int) (e : Ending) (w' : World) : Prop := (∃ v, e = .returned v ∧ OwnS w.heap.size w' v (namesL h.toNat)) ∧ Below w.heap.size w w'
theorem own_lit {w w' : World} {ss : List (List UInt8)} {cs : Array Value} {n : Nat} (hcs : cs = (ss.map fun s => Value.string (bstr s)).toArray) (hn : n = ss.length) (hw : w' = w.alloc (.cells cs 9)) : OwnS w.heap.size w' (.slice (some ⟨w.heap.size, 0, none⟩) n n) ss := by
  subst hcs; subst hn; subst hw
  refine ⟨_, Nat.le_refl _, by simp, rfl, fun i hi => ?_⟩
  rw [World.cell?, heap_alloc_new]
  simp [hi]
set_option maxHeartbeats 2000000 in
theorem r2_names (h : Int) (w : World) (h0 : 0 ≤ h) (h1 : h ≤ 15) : Calls Tryz.prog 87 #[.int .i64 h] w (NamesPost w h) := by
  have hc : h = 0 ∨ h = 1 ∨ h = 2 ∨ h = 3 ∨ h = 4 ∨ h = 5 ∨ h = 6 ∨ h = 7 ∨ h = 8 ∨ h = 9 ∨ h = 10 ∨ h = 11 ∨ h = 12 ∨ h = 13 ∨ h = 14 ∨ h = 15 := by omega
  rcases hc with rfl | rfl | rfl | rfl | rfl | rfl | rfl | rfl | rfl | rfl | rfl | rfl | rfl | rfl | rfl | rfl
  all_goals
    go_enter Tryz.func87, Tryz.ntmps87
    go_wp2
    go_ret
    exact ⟨⟨_, rfl, own_lit rfl rfl rfl⟩, by (repeat first | exact Below.refl _ _ | assumption | refine Below.trans ?_ (hb.mono (by first | omega | (simp; done) | (simp; omega))) | refine Below.drew ?_ | refine Below.alloc ?_ (by first | omega | (simp; done) | (simp; omega)) _ | refine Below.setCell ?_ (by first | omega | (simp; done) | (simp; omega)) _)⟩
theorem r2_names' (h : Int) (L : List (List UInt8)) (HL : Hid (namesL h.toNat = L)) (w : World) (h0 : 0 ≤ h) (h1 : h ≤ 15) : Calls Tryz.prog 87 #[.int .i64 h] w fun e w' => (∃ v, e = .returned v ∧ OwnS w.heap.size w' v L) ∧ Below w.heap.size w w' := by
  have := r2_names h w h0 h1
  unfold NamesPost at this
  rwa [HL.out] at this
theorem r2_Name (op : Int) (w : World) (h0 : 0 ≤ op) (h1 : op ≤ 255) :
    Calls Tryz.prog 65 #[.int .u8 op] w fun e w' => e = .returned (.string (nameB op.toNat)) ∧ Below w.heap.size w w' := by
  obtain ⟨n, rfl⟩ := Int.eq_ofNat_of_zero_le h0
  by_cases hz : n = 0
  · subst hz
    go_enter Tryz.func65, Tryz.ntmps65
    go_wp2
    go_ret
    exact ⟨ret_str rfl, by (repeat first | exact Below.refl _ _ | assumption | refine Below.trans ?_ (hb.mono (by first | omega | (simp; done) | (simp; omega))) | refine Below.drew ?_ | refine Below.alloc ?_ (by first | omega | (simp; done) | (simp; omega)) _ | refine Below.setCell ?_ (by first | omega | (simp; done) | (simp; omega)) _)⟩
  · have hne : ((n : Int) == 0) = false := by simpa using hz
    have hl := namesL_len (n / 16) (by omega)
    have hnm := names_name n (by omega) (by omega)
    have HL : Hid (namesL ((n : Int) / 16).toNat = namesL (n / 16)) := Lib.hid (by congr 1)
    generalize namesL (n / 16) = L at *
    have c0 : ∀ (w1 : World) (g : Nat), (∀ i, i < L.length → w1.cell? ⟨g, i, none⟩ = some (.string (bstr (L.getD i [])))) → w1.cell? ⟨g, 0, none⟩ = some (.string (bstr (L.getD 0 []))) := fun w1 g h => h 0 (by omega)
    have cl : ∀ (w1 : World) (g : Nat), L.length = 16 → (∀ i, i < L.length → w1.cell? ⟨g, i, none⟩ = some (.string (bstr (L.getD i [])))) → w1.cell? ⟨g, n % 16, none⟩ = some (.string (bstr (L.getD (n % 16) []))) := fun w1 g hl h => h (n % 16) (by omega)
    have C0 := Lib.hid c0; have CL := Lib.hid cl; clear c0 cl
    have Hnm := Lib.hid hnm; clear hnm
    rcases hl with hl | hl
    · have hl1 : ((L.length : Int) == 1) = true := by simp [hl]
      have hl2 : 0 < L.length := by omega
      have Hl := Lib.hid hl; clear hl
      go_enter Tryz.func65, Tryz.ntmps65
      go_wp2_with (go_at_call 87; refine (r2_names' _ L HL _ (by omega) (by omega)).mono ?_; rintro e w1 ⟨⟨v, rfl, g, hg1, hg2, rfl, hcc⟩, hb⟩; have hcc0 := C0.out _ _ hcc; clear hcc)
      go_ret
      have e := Hnm.out
      rw [if_pos Hl.out] at e
      exact ⟨ret_str (by unfold nameB; rw [Int.toNat_natCast, ← e]; simp [bstr, List.getElem?_eq_getElem, hl2]), by (repeat first | exact Below.refl _ _ | assumption | refine Below.trans ?_ (hb.mono (by first | omega | (simp; done) | (simp; omega))) | refine Below.drew ?_ | refine Below.alloc ?_ (by first | omega | (simp; done) | (simp; omega)) _ | refine Below.setCell ?_ (by first | omega | (simp; done) | (simp; omega)) _)⟩
    · have hl1 : ((L.length : Int) == 1) = false := by simp [hl]
      have hl2 : n % 16 < L.length := by omega
      have hl3 : (0 : Int) ≤ (n : Int) % 16 := by omega
      have hl4 : (n : Int) % 16 < (L.length : Int) := by omega
      have Hl := Lib.hid hl; clear hl
      go_enter Tryz.func65, Tryz.ntmps65
      go_wp2_with (go_at_call 87; refine (r2_names' _ L HL _ (by omega) (by omega)).mono ?_; rintro e w1 ⟨⟨v, rfl, g, hg1, hg2, rfl, hcc⟩, hb⟩; have hcc0 := CL.out _ _ Hl.out hcc; clear hcc)
      go_ret
      have e := Hnm.out
      rw [if_neg (by have := Hl.out; omega)] at e
      exact ⟨ret_str (by unfold nameB; rw [Int.toNat_natCast, ← e]; simp [bstr, List.getElem?_eq_getElem, hl2]), by (repeat first | exact Below.refl _ _ | assumption | refine Below.trans ?_ (hb.mono (by first | omega | (simp; done) | (simp; omega))) | refine Below.drew ?_ | refine Below.alloc ?_ (by first | omega | (simp; done) | (simp; omega)) _ | refine Below.setCell ?_ (by first | omega | (simp; done) | (simp; omega)) _)⟩
set_option maxRecDepth 100000 in
theorem r2_First (s : ByteArray) (w : World) : Calls Tryz.prog 66 #[.string s] w fun e w' => e = .returned (.int .i64 (firstI s)) ∧ Below w.heap.size w w' := by
  generalize hq : firstI s = q
  have Hq := Lib.hid hq; clear hq
  go_enter Tryz.func66, Tryz.ntmps66
  go_wp2
  go_loopw [3] (fun i wr => ∃ k : Nat, i = .int .i64 k ∧ FirstInv s k ∧ Below w.heap.size w wr) (fun i _ => 256 - (intOf i).toNat)
  case atStart => exact ⟨0, rfl, ⟨by omega, rfl⟩, Below.refl _ _⟩
  case round =>
    obtain ⟨k, rfl, H, hbw⟩ := hrel
    have hk := H.1
    by_cases hlt : k < 256
    · by_cases hn : nameB k = s
      · have hn' := beqS_true hn
        have Hn := Lib.hid hn; clear hn
        go_wp2_with (go_at_call 65; refine (r2_Name _ _ (by omega) (by omega)).mono ?_; rintro e w1 ⟨rfl, hb⟩)
        go_ret
        exact ⟨ret_int ((H.hit hlt Hn.out).trans Hq.out), hbw.trans (hb.mono hbw.size)⟩
      · have hn' := beqS_false hn
        have Hn := Lib.hid hn; clear hn
        go_wp2_with (go_at_call 65; refine (r2_Name _ _ (by omega) (by omega)).mono ?_; rintro e w1 ⟨rfl, hb⟩)
        go_roundw
        case rel => exact ⟨k + 1, by go_num, H.step hlt Hn.out, hbw.trans (hb.mono hbw.size)⟩
        case measure => simp [intOf]; omega
    · go_wp2
      go_ret
      exact ⟨ret_int ((H.none hlt).trans Hq.out), hbw⟩
end Go.Proofs.YtofhdlkocgbcgaaGreatDoor
