/- The walks of package code's small functions: each returns what the plain tables say. -/
import Derived.Test.YtofhdlkocgbcgaaGreatDoorProg
import Derived.Test.YtofhdlkocgbcgaaGreatDoorCodeP
import Derived.WalkLawsBesides
import Derived.WalkSpells
import Derived.KernelRfl
import Derived.Outline
import Derived.LoopTactic
import Derived.Below
import Derived.Deep.RegionHeld3
import Derived.Lib.Hide
import Derived.Lib.Strings
import Derived.Deep.RegionWith
import Derived.Deep.Draws
namespace Go.Proofs.YtofhdlkocgbcgaaGreatDoor
open Go Go.RowKit Pu
set_option linter.unusedVariables false
set_option linter.unusedSimpArgs false
/-- What package code's tables hold. -/
structure Tabs (w : World) : Prop where
  sz : 10 ≤ w.heap.size
  t3 : ∀ i, i < 16 → w.cell? ⟨2, i, none⟩ = some (.string (bstr (threesL.getD i [])))
  t7 : ∀ i, i < 16 → w.cell? ⟨3, i, none⟩ = some (.string (bstr (sevensL.getD i [])))
  t12 : ∀ i, i < 16 → w.cell? ⟨4, i, none⟩ = some (.string (bstr (twelvesL.getD i [])))
  t15 : ∀ i, i < 16 → w.cell? ⟨5, i, none⟩ = some (.string (bstr (fifteensL.getD i [])))
  tr : ∀ i, i < 16 → w.cell? ⟨6, i, none⟩ = some (.string (bstr (rowsL.getD i [])))
  tl : ∀ i, 1 ≤ i → i < 7 → w.cell? ⟨1, i, none⟩ = some (.int .i64 (lenF i))
  td : ∀ i, i < 7 → w.cell? ⟨0, i, none⟩ = some (.int .i64 (wideF i))

theorem Tabs.keep {w w' : World} (T : Tabs w) (hz : w.heap.size ≤ w'.heap.size) (h : ∀ b o, b < 10 → w'.cell? ⟨b, o, none⟩ = w.cell? ⟨b, o, none⟩) : Tabs w' :=
  ⟨Nat.le_trans T.sz hz, fun i hi => (h _ _ (by decide)).trans (T.t3 i hi), fun i hi => (h _ _ (by decide)).trans (T.t7 i hi), fun i hi => (h _ _ (by decide)).trans (T.t12 i hi), fun i hi => (h _ _ (by decide)).trans (T.t15 i hi), fun i hi => (h _ _ (by decide)).trans (T.tr i hi), fun i h1 hi => (h _ _ (by decide)).trans (T.tl i h1 hi), fun i hi => (h _ _ (by decide)).trans (T.td i hi)⟩
theorem Tabs.below {w w' : World} {B : Nat} (T : Tabs w) (h : Below B w w') (hB : 10 ≤ B) : Tabs w' := T.keep h.size fun b _ hb => h.cell (p := ⟨b, _, none⟩) (by show b < B; omega)
theorem Tabs.alloc {w : World} (T : Tabs w) (O : Obj) : Tabs (w.alloc O) := T.below ((Below.refl _ _).alloc T.sz O) (Nat.le_refl _)
theorem Tabs.set {w : World} (T : Tabs w) {a : Addr} (h : 10 ≤ a.block) (v : Value) : Tabs (w.setCell a v) := T.below ((Below.refl _ _).setCell h v) (Nat.le_refl _)
theorem Tabs.drew {w : World} (T : Tabs w) : Tabs w.drew := ⟨T.sz, T.t3, T.t7, T.t12, T.t15, T.tr, T.tl, T.td⟩
theorem bcell {W w1 : World} (hb : Below W.heap.size W w1) : (∀ b o, b < W.heap.size → w1.cell? ⟨b, o, none⟩ = W.cell? ⟨b, o, none⟩) ∧ (∀ b o, b < W.heap.size → w1.frozen? ⟨b, o, none⟩ = W.frozen? ⟨b, o, none⟩) :=
  ⟨fun b o h => hb.cell (p := ⟨b, o, none⟩) h, fun b o h => hb.frozen (p := ⟨b, o, none⟩) h⟩
theorem beqS (a b : ByteArray) : (a.toList == b.toList) = decide (a = b) := by
  rw [Lib.toList_data, Lib.toList_data, Bool.eq_iff_iff, beq_iff_eq, decide_eq_true_eq]
  exact ⟨fun h => by cases a; cases b; simpa using Array.toList_inj.1 h, fun h => by rw [h]⟩
theorem beqS_true {a b : ByteArray} (h : a = b) : (a.toList == b.toList) = true := by rw [beqS]; simpa using h
theorem beqS_false {a b : ByteArray} (h : ¬ a = b) : (a.toList == b.toList) = false := by rw [beqS]; simpa using h
theorem heap_new1 (w : World) (O o : Obj) : ((w.alloc O).alloc o).heap[w.heap.size + 1]? = some o := by
  have h := heap_alloc_new (w.alloc O) o
  rwa [show (w.alloc O).heap.size = w.heap.size + 1 from by simp] at h
theorem ret_str {a b : ByteArray} (h : a = b) : Ending.returned (.string a) = .returned (.string b) := by rw [h]
theorem ret_int {k : IntKind} {a b : Int} (h : a = b) : Ending.returned (.int k a) = .returned (.int k b) := by rw [h]
theorem ret_bool {a b : Bool} (h : a = b) : Ending.returned (.bool a) = .returned (.bool b) := by rw [h]

theorem code_name (op : Int) (w : World) (T : Tabs w) (h0 : 0 ≤ op) (h1 : op ≤ 255) :
    Calls Tryz.prog 85 #[.int .u8 op] w fun e w' => e = .returned (.string (nameB op.toNat)) ∧ w = w' := by
  obtain ⟨n, rfl⟩ := Int.eq_ofNat_of_zero_le h0
  have a3 := T.t3 (n % 16) (by omega)
  have a7 := T.t7 (n % 16) (by omega)
  have a12 := T.t12 (n % 16) (by omega)
  have a15 := T.t15 (n % 16) (by omega)
  have ar := T.tr (n / 16) (by omega)
  clear T
  go_enter Tryz.func85, Tryz.ntmps85
  go_wp2
  all_goals
    go_ret
    refine ⟨ret_str ?_, rfl⟩
    simp only [beq_iff_eq, beq_eq_false_iff_ne, ne_eq] at *
    rw [Int.toNat_natCast]
    unfold nameB nameL
    repeat first | rw [if_pos (by omega)] | rw [if_neg (by omega)]
    all_goals first | rfl | (simp [bstr]; done)

theorem code_immediate (op : Int) (w : World) (h0 : 0 ≤ op) (h1 : op ≤ 255) :
    Calls Tryz.prog 86 #[.int .u8 op] w fun e w' => e = .returned (.bool (decide (formF op.toNat = 4))) ∧ w = w' := by
  obtain ⟨n, rfl⟩ := Int.eq_ofNat_of_zero_le h0
  go_enter Tryz.func86, Tryz.ntmps86
  go_wp2
  all_goals
    go_ret
    refine ⟨ret_bool ?_, rfl⟩
    rw [Bool.eq_iff_iff]
    simp only [bne_iff_ne, ne_eq, Int.toNat_natCast, decide_eq_true_eq, Bool.false_eq_true, false_iff, true_iff] at *
    unfold formF
    repeat first | rw [if_pos (by omega)] | rw [if_neg (by omega)]
    all_goals first | omega | (repeat' split) <;> omega

theorem code_form (op : Int) (w : World) (h0 : 0 ≤ op) (h1 : op ≤ 255) :
    Calls Tryz.prog 56 #[.int .u8 op] w fun e w' => e = .returned (.int .u8 (formF op.toNat)) ∧ w = w' := by
  obtain ⟨n, rfl⟩ := Int.eq_ofNat_of_zero_le h0
  go_enter Tryz.func56, Tryz.ntmps56
  go_wp2
  all_goals
    go_ret
    refine ⟨ret_int ?_, rfl⟩
    simp only [beq_iff_eq, bne_iff_ne, beq_eq_false_iff_ne, bne_eq_false_iff_eq, ne_eq, Int.toNat_natCast] at *
    unfold formF
    repeat first | rw [if_pos (by omega)] | rw [if_neg (by omega)]
    all_goals first | rfl | omega

theorem code_long (op : Int) (w : World) :
    Calls Tryz.prog 94 #[.int .u8 op] w fun e w' => e = .returned (.bool (op / 16 == 12)) ∧ w = w' := by
  go_enter Tryz.func94, Tryz.ntmps94
  go_wp2
  go_ret
  exact ⟨rfl, rfl⟩

theorem code_Info (op : Int) (w : World) (T : Tabs w) (h0 : 0 ≤ op) (h1 : op ≤ 255) :
    Calls Tryz.prog 78 #[.int .u8 op] w fun e w' => e = .returned (.agg #[.string (nameB op.toNat), .int .u8 (formF op.toNat), .int .i64 (lenF (formF op.toNat)), .int .i64 (cycF op.toNat)]) ∧ Below w.heap.size w w' := by
  obtain ⟨hf1, hf2⟩ := formF_pos op.toNat
  have hf3 : (0 : Int) ≤ (formF op.toNat : Int) := by omega
  have hf4 : (formF op.toNat : Int) < 7 := by omega
  have hk : ∀ w', Tabs w' → w'.cell? ⟨1, formF op.toNat, none⟩ = some (.int .i64 (lenF (formF op.toNat))) ∧ Tabs w' := fun w' T' => ⟨T'.tl _ (by omega) (by omega), T'⟩
  have hcy : (cycF op.toNat : Int) = if op / 16 = 12 then 3 else 2 := by unfold cycF; split <;> split <;> omega
  have Hcy := Lib.hid hcy; clear hcy
  go_enter Tryz.func78, Tryz.ntmps78
  go_wp2_with (go_at_call 56; refine (code_form _ _ (by omega) (by omega)).mono ?_; rintro e w' ⟨rfl, rfl⟩)
  go_region_held3 (fun w' => w'.cell? ⟨1, formF op.toNat, none⟩ = some (.int .i64 (lenF (formF op.toNat))) ∧ Tabs w') (first | exact hk _ (T.alloc _).drew | exact hk _ ((T.alloc _).alloc _).drew | go_keep)
    (first | (go_at_call 85; refine (code_name _ _ ?_ h0 h1).mono ?_; exact ‹_ ∧ Tabs _›.2; rintro e w' ⟨rfl, rfl⟩))
  all_goals go_wp2_with (go_at_call 94; refine (code_long _ _).mono ?_; rintro e w' ⟨rfl, rfl⟩)
  all_goals
    simp only [beq_iff_eq, beq_eq_false_iff_ne, ne_eq] at *
    refine bodyPost_ret (v := .agg #[.string (nameB op.toNat), .int .u8 (formF op.toNat), .int .i64 (lenF (formF op.toNat)), .int .i64 (cycF op.toNat)]) (by rw [Hcy.out]; simp [results, Tryz.results78, go_sem, *]) rfl ⟨rfl, ?_⟩
    (repeat first | exact Below.refl _ _ | assumption | refine Below.trans ?_ (hb.mono (by first | omega | (simp; done) | (simp; omega))) | refine Below.drew ?_ | refine Below.alloc ?_ (by first | omega | (simp; done) | (simp; omega)) _ | refine Below.setCell ?_ (by first | omega | (simp; done) | (simp; omega)) _)
end Go.Proofs.YtofhdlkocgbcgaaGreatDoor
