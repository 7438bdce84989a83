/- The reference's digits; instructions as lines. -/
import Derived.Test.YtofhdlkocgbcgaaGreatDoorHexW
import Derived.OwnWalk
import Derived.Deep.DeepMust
import Derived.Laws.OwnMore
import Derived.Laws.Concat
import Derived.Deep.AppendLies
namespace Go.Proofs.YtofhdlkocgbcgaaGreatDoor
open Go Go.RowKit Pu
set_option linter.unusedVariables false
set_option linter.unusedSimpArgs false
def digs : Nat → Int → List Int
  | 0, _ => []
  | k + 1, n => digs k (n / 16) ++ [digN (n % 16).toNat]
theorem hexS_digs {n : Int} {many : Nat} (hm : many = 1 ∨ many = 2 ∨ many = 4) (h0 : 0 ≤ n) (h1 : n < (16 : Int) ^ many) : hexS n many = strOfNums (digs many n) := by
  unfold hexS
  rw [if_neg (by omega)]
  rcases hm with rfl | rfl | rfl <;> simp [digs]
theorem info5u : (Tryz.prog.info? 5).map (fun i => (i.zero, i.size, i.bytes)) = some (some (.int .u8 0), 1, 1) := by kernel_rfl
def zeros (k : Nat) : List Value := List.replicate k (.int .u8 0)
theorem zeros_succ (k : Nat) : zeros k ++ [.int .u8 0] = zeros (k + 1) := by unfold zeros; rw [List.replicate_succ']
def rowD (r : Nat) (ds : List Int) : List Value := zeros r ++ ds.map (Value.int .u8)
theorem rowD_set (r : Nat) (ds : List Int) (x : Int) : (rowD (r + 1) ds).set r (.int .u8 x) = rowD r (x :: ds) := by
  unfold rowD zeros
  rw [List.replicate_succ', List.append_assoc, List.set_append_right _ _ (by simp)]
  simp
/-- The second loop's state. -/
def DigI (many : Nat) (n0 : Int) (r : Nat) (n : Int) (ds : List Int) : Prop := digs many n0 = digs r n ++ ds ∧ r + ds.length = many ∧ 0 ≤ n ∧ n ≤ 2147483647
theorem DigI.step {many r : Nat} {n0 n : Int} {ds : List Int} (h : DigI many n0 (r + 1) n ds) : DigI many n0 r (n / 16) (digN (n % 16).toNat :: ds) := by
  obtain ⟨h1, h2, h3, h4⟩ := h
  refine ⟨by rw [h1, digs]; simp, by simp; omega, by omega, by omega⟩
theorem own_conv {w : World} {base n : Nat} {e' : TypeId} {v : Value} {xs : List Int} (h : w.ownsRow base e' 1 v n (xs.map (Value.int .u8))) : (convert 39 9 v).run Tryz.prog w = .ok (.string (strOfNums xs)) w := by
  have hl : xs.length = n := by have := h.1; simpa using this
  rcases h.2 with ⟨rfl, rfl⟩ | ⟨g, cap, cur, rfl, _⟩
  · obtain rfl : xs = [] := List.eq_nil_of_length_eq_zero hl
    exact run_convert_bytes_nil w 39 5 Tryz.underlying39 Tryz.underlying5 0 0 9 Tryz.underlying9
  · refine run_convert_bytes_arg w 39 5 Tryz.underlying39 Tryz.underlying5 g 0 n cap xs hl (fun i hi => ?_) 9 Tryz.underlying9
    have hc := h.cells (g := g) rfl i (.int .u8 (xs.getD i 0)) (by simp [List.getElem?_eq_getElem (show i < xs.length by omega), List.getD_eq_getElem?_getD])
    have ha : (⟨g, 0, none⟩ : Addr).add i = ⟨g, 0 + i, none⟩ := by unfold Addr.add; split <;> simp_all
    rwa [ha] at hc
set_option maxHeartbeats 1000000 in
set_option maxRecDepth 100000 in
theorem r2_digits (n : Int) (many : Nat) (hm : many ≤ 8) (h0 : 0 ≤ n) (h1 : n ≤ 2147483647) (w : World) : Calls Tryz.prog 70 #[.int .i64 n, .int .i64 many] w fun e w' => e = .returned (.string (strOfNums (digs many n))) ∧ Below w.heap.size w w' := by
  obtain ⟨i5, i5a, i5b, i5c, i5d⟩ := info_parts info5u
  go_enter Tryz.func70, Tryz.ntmps70
  go_wp2
  go_loopw [5, 6] (fun b i wr => ∃ k : Nat, k ≤ many ∧ i = .int .i64 k ∧ wr.ownsRow w.heap.size 5 1 b k (zeros k) ∧ Below w.heap.size w wr) (fun _ i _ => many - (intOf i).toNat)
  case atStart => exact ⟨0, Nat.zero_le _, rfl, World.ownsRow_nil _ _ _ _, Below.refl _ _⟩
  case round =>
    obtain ⟨k, hk, rfl, hown, hbw⟩ := hrel
    by_cases hlt : k < many
    · go_wp2_with (at_builtin; refine wpList_append_own _ rfl _ _ 39 rfl w.heap.size 5 i5 (.int .u8 0) 1 1 Tryz.underlying39 i5a i5b i5c i5d rfl (by decide) _ _ _ rfl (hown.alloc _) ⟨wr.heap.size, 0, none⟩ 1 1 _ rfl rfl (cell_one_new _ _ _) (by simp [Value.oneCell']) (by unfold maxLen; omega) (by omega) (by have := hbw.size; simp; omega) ?_; intro v1 w1 hown1 hg1 _)
      have hown2 := hown1
      rw [zeros_succ] at hown2
      have hb2 : Below w.heap.size w w1 := (hbw.alloc hbw.size _).grown hg1 (by have := hbw.size; simp; omega) (fun q hq => (hown.lt q hq).1)
      clear hown1 hg1
      go_roundw
      case rel => exact ⟨k + 1, by omega, by go_num, hown2, hb2⟩
      case measure => simp [intOf]; omega
    · obtain rfl : k = many := by omega
      clear hlt hk
      go_wp2
      go_loopw [0, 7] (fun m i wq => ∃ (r : Nat) (n' : Int) (ds : List Int), i = .int .i64 ((r : Int) - 1) ∧ m = .int .i64 n' ∧ DigI k n r n' ds ∧ wq.ownsRow w.heap.size 5 1 u5 k (rowD r ds) ∧ Below w.heap.size w wq) (fun _ i _ => (intOf i + 1).toNat)
      case atStart => exact ⟨k, n, [], by go_num, rfl, ⟨by simp, by simp, h0, h1⟩, by simpa [rowD] using hown, hbw⟩
      case round =>
        obtain ⟨r, n', ds, rfl, rfl, hI, hown', hbq⟩ := hrel
        have hn0 := hI.2.2.1
        have hn1 := hI.2.2.2
        have hr := hI.2.1
        by_cases hr0 : r = 0
        · subst hr0
          have hcv := own_conv (xs := ds) (by simpa [rowD, zeros] using hown')
          go_wp2
          go_ret
          refine ⟨ret_str ?_, hbq⟩
          rw [hI.1]; simp [digs]
        · obtain ⟨q, rfl⟩ : ∃ q, r = q + 1 := ⟨r - 1, by omega⟩
          obtain ⟨g, cap, rfl, hg1, hg2⟩ := hown'.form (by omega)
          have hcell := hown'.cellAt q (by omega)
          have hfr := hown'.frozenAt q
          have ha : q < (rowD (q + 1) ds).length := by rw [hown'.1]; omega
          rw [List.getElem?_eq_getElem ha] at hcell
          have hst := hown'.stored q (.int .u8 (digN (n' % 16).toNat))
          rw [rowD_set] at hst
          have hb3 : Below w.heap.size w (wr.setCell ⟨g, q, none⟩ (.int .u8 (digN (n' % 16).toNat))) := hbq.setCell hg1 _
          have HS := Lib.hid hst; have HB := Lib.hid hb3; clear hst hb3
          go_wp2
          have hd : 0 ≤ n' % 16 ∧ n' % 16 < 16 := by omega
          refine ⟨⟨q, n' / 16, _, rfl, rfl, hI.step, ?_, ?_⟩, ?_⟩
          · have := HS.out
            rw [dig_at (by omega)]
            exact this.1
          · have := HB.out
            rw [dig_at (by omega)]
            exact this
          · simp [intOf]
/-- An instruction as a line: the text, the error's number. -/
def printI (s : ByteArray) (arg : Int) : ByteArray × Int :=
  if (encI s arg).1 = 0 then (if wideF (formF (firstI s).toNat) = 0 then (s, 0) else (s ++ bstr [32] ++ hexS arg (wideF (formF (firstI s).toNat)), 0)) else (ByteArray.empty, (encI s arg).1)
theorem wideF_cases (f : Nat) : wideF f = 0 ∨ wideF f = 1 ∨ wideF f = 2 ∨ wideF f = 4 := by
  unfold wideF
  by_cases h2 : f = 2 <;> by_cases h3 : f = 3 <;> by_cases h4 : f = 4 <;> by_cases h5 : f = 5 <;> by_cases h6 : f = 6 <;> simp [h2, h3, h4, h5, h6]
theorem wideF_pos {f : Nat} (h1 : 2 ≤ f) (h2 : f ≤ 6) : wideF f ≠ 0 := by
  obtain rfl | rfl | rfl | rfl | rfl : f = 2 ∨ f = 3 ∨ f = 4 ∨ f = 5 ∨ f = 6 := by omega
  all_goals decide
theorem encI_ok {s : ByteArray} {arg : Int} (h : (encI s arg).1 = 0) : 0 ≤ firstI s := by
  by_cases hn : 0 ≤ firstI s
  · exact hn
  · exfalso
    rw [encI, if_pos (by omega)] at h
    exact absurd h (by decide)
theorem cellB {w w1 : World} (hb : Below w.heap.size w w1) {a : Addr} {v : Value} (h : w.cell? a = some v) : w1.cell? a = some v := (hb.cell (World.block_lt_of_cell? w a h)).trans h
theorem Tabs.b {w w1 : World} (T : Tabs w) (hb : Below w.heap.size w w1) : Tabs w1 := T.below hb T.sz
theorem code_Encode' (s : ByteArray) (arg : Int) (w : World) (T : Tabs w) (h2 : -9223372036854775808 ≤ arg) (h3 : arg ≤ 9223372036854775807) (n : Int) (he : (encI s arg).1 = n) : Calls Tryz.prog 30 #[.agg #[.string s, .int .i64 arg]] w fun e w' => (∃ v, e = .returned (.tuple #[v, .int .i64 n])) ∧ Below w.heap.size w w' :=
  (code_Encode s arg w T h2 h3).mono fun e w' h => ⟨by obtain ⟨⟨v, rfl, _⟩, _⟩ := h; exact ⟨v, by rw [he]⟩, h.2⟩
theorem code_Find' (s : ByteArray) (w : World) (T : Tabs w) (F : Value) (hF : FindV s = F) : Calls Tryz.prog 59 #[.string s] w fun e w' => e = .returned F ∧ Below w.heap.size w w' := hF ▸ code_Find s w T
theorem hexS_size (n : Int) (k : Nat) (hk : k = 1 ∨ k = 2 ∨ k = 4) : (hexS n k).size ≤ 8 := by
  unfold hexS strOfNums
  split
  · simp
  · rcases hk with rfl | rfl | rfl <;> simp [ByteArray.size]
set_option maxHeartbeats 1000000 in
set_option maxRecDepth 100000 in
theorem code_Print_bad (s : ByteArray) (arg : Int) (w : World) (T : Tabs w) (h2 : -9223372036854775808 ≤ arg) (h3 : arg ≤ 9223372036854775807) (n : Int) (he : (encI s arg).1 = n) (hn : n ≠ 0) : Calls Tryz.prog 31 #[.agg #[.string s, .int .i64 arg]] w fun e w' => e = .returned (.tuple #[.string ByteArray.empty, .int .i64 n]) ∧ Below w.heap.size w w' := by
  have HE := Lib.hid he; clear he
  have hn2 : (n != 0) = true := by simpa using hn
  go_enter Tryz.func31, Tryz.ntmps31
  go_wp2_with (first | (go_at_call 30; refine (code_Encode' _ _ _ ?_ (by omega) (by omega) _ HE.out).mono ?_; (first | exact T | exact T.alloc _ | exact (T.alloc _).drew | exact ((T.alloc _).alloc _) | exact ((T.alloc _).alloc _).drew | exact T.below (by (repeat first | exact Below.refl _ _ | assumption | refine Below.trans ?_ (hb.mono (by first | omega | (simp; done) | (simp; omega))) | refine Below.drew ?_ | refine Below.alloc ?_ (by first | omega | (simp; done) | (simp; omega)) _ | refine Below.setCell ?_ (by first | omega | (simp; done) | (simp; omega)) _)) (by have := T.sz; omega)); rintro e w1 ⟨⟨v, rfl⟩, hb⟩; obtain ⟨hc, hfz⟩ := bcell hb; have hz := hb.size; simp at hz; have hz2 : w.heap.size < w1.heap.size := (by omega); have hz3 : w.heap.size < w1.heap.size + 1 := (by omega); have e1 := (hc w.heap.size 0 (by simp)); have e2 := (hc w.heap.size 1 (by simp)); have f1 := (hfz w.heap.size 0 (by simp)); have f2 := (hfz w.heap.size 1 (by simp)); (try simp at e1); (try simp at e2); (try simp at f1); (try simp at f2)))
  refine bodyPost_ret (v := .tuple #[.string ByteArray.empty, .int .i64 n]) (by simp [results, Tryz.results31, go_sem, *]; rfl) rfl ⟨rfl, ?_⟩
  (repeat first | exact Below.refl _ _ | assumption | refine Below.trans ?_ (hb.mono (by first | omega | (simp; done) | (simp; omega))) | refine Below.drew ?_ | refine Below.alloc ?_ (by first | omega | (simp; done) | (simp; omega)) _ | refine Below.setCell ?_ (by first | omega | (simp; done) | (simp; omega)) _)
set_option maxHeartbeats 1000000 in
set_option maxRecDepth 100000 in
theorem code_Print_1 (s : ByteArray) (arg : Int) (w : World) (T : Tabs w) (h2 : -9223372036854775808 ≤ arg) (h3 : arg ≤ 9223372036854775807) (he : (encI s arg).1 = 0) (hf : formF (firstI s).toNat = 1) : Calls Tryz.prog 31 #[.agg #[.string s, .int .i64 arg]] w fun e w' => e = .returned (.tuple #[.string s, .int .i64 0]) ∧ Below w.heap.size w w' := by
  have HE := Lib.hid he
  have HF : Hid (FindV s = .tuple #[.agg #[.string (nameB (firstI s).toNat), .int .u8 1, .int .i64 (lenF 1), .int .i64 (cycF (firstI s).toNat)], .bool true]) := Lib.hid (by have := encI_ok he; rw [FindV, if_neg (by omega), hf]; rfl)
  clear he hf
  go_enter Tryz.func31, Tryz.ntmps31
  go_wp2_with (first | (go_at_call 30; refine (code_Encode' _ _ _ ?_ (by omega) (by omega) _ HE.out).mono ?_; (first | exact T | exact T.alloc _ | exact (T.alloc _).drew | exact ((T.alloc _).alloc _) | exact ((T.alloc _).alloc _).drew | exact T.below (by (repeat first | exact Below.refl _ _ | assumption | refine Below.trans ?_ (hb.mono (by first | omega | (simp; done) | (simp; omega))) | refine Below.drew ?_ | refine Below.alloc ?_ (by first | omega | (simp; done) | (simp; omega)) _ | refine Below.setCell ?_ (by first | omega | (simp; done) | (simp; omega)) _)) (by have := T.sz; omega)); rintro e w1 ⟨⟨v, rfl⟩, hb⟩; have T1 := Tabs.b (T.alloc _) hb; obtain ⟨hc, hfz⟩ := bcell hb; have hz := hb.size; simp at hz; have hz2 : w.heap.size < w1.heap.size := (by omega); have hz3 : w.heap.size < w1.heap.size + 1 := (by omega); have e1 := (hc w.heap.size 0 (by simp)); have e2 := (hc w.heap.size 1 (by simp)); have f1 := (hfz w.heap.size 0 (by simp)); have f2 := (hfz w.heap.size 1 (by simp)); (try simp at e1); (try simp at e2); (try simp at f1); (try simp at f2)) | (go_at_call 59; refine (code_Find' _ _ T1 _ HF.out).mono ?_; rintro e w2 ⟨rfl, hb2⟩; replace hb := hb.trans (hb2.mono hb.size); clear hb2; obtain ⟨hc, hfz⟩ := bcell hb; have hz := hb.size; simp at hz; have hz4 : w.heap.size < w2.heap.size := (by omega); have hz5 : w.heap.size < w2.heap.size + 1 := (by omega); have e1 := (hc w.heap.size 0 (by simp)); have e2 := (hc w.heap.size 1 (by simp)); have f1 := (hfz w.heap.size 0 (by simp)); have f2 := (hfz w.heap.size 1 (by simp)); (try simp at e1); (try simp at e2); (try simp at f1); (try simp at f2)))
  refine bodyPost_ret (v := .tuple #[.string s, .int .i64 0]) (by simp [results, Tryz.results31, go_sem, *]) rfl ⟨rfl, ?_⟩
  (repeat first | exact Below.refl _ _ | assumption | refine Below.trans ?_ (hb.mono (by first | omega | (simp; done) | (simp; omega))) | refine Below.drew ?_ | refine Below.alloc ?_ (by first | omega | (simp; done) | (simp; omega)) _ | refine Below.setCell ?_ (by first | omega | (simp; done) | (simp; omega)) _)
set_option maxHeartbeats 1000000 in
set_option maxRecDepth 100000 in
theorem code_Print_2 (s : ByteArray) (arg : Int) (w : World) (T : Tabs w) (hs : s.size ≤ 1073741824) (h2 : -9223372036854775808 ≤ arg) (h3 : arg ≤ 9223372036854775807) (he : (encI s arg).1 = 0) (f : Nat) (hf : formF (firstI s).toNat = f) (hf2 : 2 ≤ f) (hf6 : f ≤ 6) (k : Nat) (hk : wideF f = k) (hk2 : k = 1 ∨ k = 2 ∨ k = 4) : Calls Tryz.prog 31 #[.agg #[.string s, .int .i64 arg]] w fun e w' => e = .returned (.tuple #[.string (s ++ bstr [32] ++ hexS arg k), .int .i64 0]) ∧ Below w.heap.size w w' := by
  have HE := Lib.hid he
  have HF : Hid (FindV s = .tuple #[.agg #[.string (nameB (firstI s).toNat), .int .u8 f, .int .i64 (lenF f), .int .i64 (cycF (firstI s).toNat)], .bool true]) := Lib.hid (by have := encI_ok he; rw [FindV, if_neg (by omega), hf])
  clear he hf
  have HS := Lib.hid (hexS_size arg k hk2)
  have hf1 : ((f : Int) == 1) = false := by simp; omega
  go_enter Tryz.func31, Tryz.ntmps31
  go_wp2_with (first | (go_at_call 30; refine (code_Encode' _ _ _ ?_ (by omega) (by omega) _ HE.out).mono ?_; (first | exact T | exact T.alloc _ | exact (T.alloc _).drew | exact ((T.alloc _).alloc _) | exact ((T.alloc _).alloc _).drew | exact T.below (by (repeat first | exact Below.refl _ _ | assumption | refine Below.trans ?_ (hb.mono (by first | omega | (simp; done) | (simp; omega))) | refine Below.drew ?_ | refine Below.alloc ?_ (by first | omega | (simp; done) | (simp; omega)) _ | refine Below.setCell ?_ (by first | omega | (simp; done) | (simp; omega)) _)) (by have := T.sz; omega)); rintro e w1 ⟨⟨v, rfl⟩, hb⟩; have T1 := Tabs.b (T.alloc _) hb; obtain ⟨hc, hfz⟩ := bcell hb; have hz := hb.size; simp at hz; have hz2 : w.heap.size < w1.heap.size := (by omega); have hz3 : w.heap.size < w1.heap.size + 1 := (by omega); have e1 := (hc w.heap.size 0 (by simp)); have e2 := (hc w.heap.size 1 (by simp)); have f1 := (hfz w.heap.size 0 (by simp)); have f2 := (hfz w.heap.size 1 (by simp)); (try simp at e1); (try simp at e2); (try simp at f1); (try simp at f2)) | (go_at_call 59; refine (code_Find' _ _ T1 _ HF.out).mono ?_; clear e1 e2 f1 f2 hc hfz hz; rintro e w2 ⟨rfl, hb2⟩; have T2 := Tabs.b T1 hb2; replace hb := hb.trans (hb2.mono hb.size); clear hb2; obtain ⟨hc, hfz⟩ := bcell hb; have hz := hb.size; simp at hz; have hz4 : w.heap.size < w2.heap.size := (by omega); have hz5 : w.heap.size < w2.heap.size + 1 := (by omega); have e1 := (hc w.heap.size 0 (by simp)); have e2 := (hc w.heap.size 1 (by simp)); have f1 := (hfz w.heap.size 0 (by simp)); have f2 := (hfz w.heap.size 1 (by simp)); (try simp at e1); (try simp at e2); (try simp at f1); (try simp at f2)))
  have hi0 : (0 : Int) ≤ f := by omega
  have hi7 : (f : Int) < 7 := by omega
  have hdk : (.int .i64 (wideF f) : Value) = .int .i64 k := by rw [hk]
  have htd : ∀ O, (w2.alloc O).cell? ⟨0, f, none⟩ = some (.int .i64 k) := fun O => ((T2.alloc O).td f (by omega)).trans (congrArg some hdk)
  have hs1 : (s ++ bstr [32]).size = s.size + 1 := by rw [ByteArray.size_append]; rfl
  have hadd1 : ∀ W, (Op.stringOp .add s ⟨#[32]⟩).run Tryz.prog W = .ok (.string (s ++ bstr [32])) W := fun W => run_string_add_sum W s (bstr [32]) (by have : (bstr [32]).size = 1 := rfl; omega)
  have hadd2 : ∀ W, (Op.stringOp .add (s ++ bstr [32]) (hexS arg k)).run Tryz.prog W = .ok (.string (s ++ bstr [32] ++ hexS arg k)) W := fun W => run_string_add_sum W _ _ (by have := HS.out; omega)
  clear hs1 hdk hk HE HF hc hfz hs hf2 hf6
  go_region_held3 (fun w' => (w'.cell? ⟨w.heap.size, 0, none⟩ = some (.string s) ∧ w'.cell? ⟨w.heap.size, 1, none⟩ = some (.int .i64 arg) ∧ w'.cell? ⟨w2.heap.size, 1, none⟩ = some (.int .u8 f) ∧ w'.cell? ⟨0, f, none⟩ = some (.int .i64 k)) ∧ w.heap.size + 1 ≤ w'.heap.size ∧ Below w.heap.size w w')
    (first | (obtain ⟨⟨k0, k1, k2, k3⟩, k4, k5⟩ := ‹(_ ∧ _ ∧ _ ∧ _) ∧ _ ∧ Below _ _ _›; exact ⟨⟨cellB hb3 k0, cellB hb3 k1, cellB hb3 k2, cellB hb3 k3⟩, Nat.le_trans k4 hb3.size, k5.trans (hb3.mono (by omega))⟩) | (refine ⟨by go_keep, by simp; omega, by (repeat first | exact Below.refl _ _ | assumption | refine Below.trans ?_ (hb.mono (by first | omega | (simp; done) | (simp; omega))) | refine Below.drew ?_ | refine Below.alloc ?_ (by first | omega | (simp; done) | (simp; omega)) _ | refine Below.setCell ?_ (by first | omega | (simp; done) | (simp; omega)) _)⟩))
    (first | (go_at_call 29; refine (bits_Hex _ _ hk2 _ _ rfl).mono ?_; rintro e w3 ⟨rfl, hb3⟩))
  all_goals
    go_wp2
    refine bodyPost_ret (v := .tuple #[.string (s ++ bstr [32] ++ hexS arg k), .int .i64 0]) (by simp [results, Tryz.results31, go_sem, *]) rfl ⟨rfl, ?_⟩
    exact ‹(_ ∧ _ ∧ _ ∧ _) ∧ _ ∧ Below _ _ _›.2.2
theorem code_Print (s : ByteArray) (arg : Int) (w : World) (T : Tabs w) (hs : s.size ≤ 1073741824) (h2 : -9223372036854775808 ≤ arg) (h3 : arg ≤ 9223372036854775807) : Calls Tryz.prog 31 #[.agg #[.string s, .int .i64 arg]] w fun e w' => e = .returned (.tuple #[.string (printI s arg).1, .int .i64 (printI s arg).2]) ∧ Below w.heap.size w w' := by
  have hp := formF_pos (firstI s).toNat
  by_cases he : (encI s arg).1 = 0
  · by_cases hf : formF (firstI s).toNat = 1
    · refine (code_Print_1 s arg w T h2 h3 he hf).mono ?_
      rintro e w' ⟨rfl, hb⟩
      exact ⟨by simp [printI, he, hf, wideF], hb⟩
    · have hk := wideF_cases (formF (firstI s).toNat)
      have hk0 : wideF (formF (firstI s).toNat) ≠ 0 := wideF_pos (by omega) hp.2
      refine (code_Print_2 s arg w T hs h2 h3 he _ rfl (by omega) (by omega) _ rfl (by omega)).mono ?_
      rintro e w' ⟨rfl, hb⟩
      exact ⟨by simp [printI, he, hk0], hb⟩
  · refine (code_Print_bad s arg w T h2 h3 _ rfl he).mono ?_
    rintro e w' ⟨rfl, hb⟩
    exact ⟨by simp [printI, he], hb⟩
end Go.Proofs.YtofhdlkocgbcgaaGreatDoor
