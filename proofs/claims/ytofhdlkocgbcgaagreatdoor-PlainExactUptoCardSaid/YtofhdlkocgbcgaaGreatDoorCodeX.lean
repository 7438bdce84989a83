/- The walks of package code's functions over names and bytes, and of bits' small ones. -/
import Derived.Test.YtofhdlkocgbcgaaGreatDoorCodeW
namespace Go.Proofs.YtofhdlkocgbcgaaGreatDoor
open Go Go.RowKit Pu
set_option linter.unusedVariables false
set_option linter.unusedSimpArgs false
/-- A slice of bytes of the call's own, nil where there are none. -/
def OwnB (B : Nat) (w' : World) (v : Value) (xs : List Int) : Prop :=
  (v = .slice none 0 0 ∧ xs = []) ∨ ∃ g, B ≤ g ∧ v = .slice (some ⟨g, 0, none⟩) xs.length xs.length ∧ w'.heap[g]? = some (.cells (xs.map (Value.int .u8)).toArray 5 (0, 0))

theorem bits_High (x : Int) (w : World) : Calls Tryz.prog 57 #[.int .u16 x] w fun e w' => e = .returned (.int .u8 (x / 256 % 256)) ∧ w = w' := by
  go_enter Tryz.func57, Tryz.ntmps57
  go_wp2
  go_ret
  exact ⟨rfl, rfl⟩
theorem bits_Low (x : Int) (w : World) : Calls Tryz.prog 58 #[.int .u16 x] w fun e w' => e = .returned (.int .u8 (x % 256)) ∧ w = w' := by
  go_enter Tryz.func58, Tryz.ntmps58
  go_wp2
  go_ret
  exact ⟨rfl, rfl⟩
theorem or_word (a b : Nat) (ha : a ≤ 255) (hb : b ≤ 255) : bits .or .u16 ((a : Int) * 256) (b : Int) = 256 * (a : Int) + b := by
  have key : ∀ a b : Nat, a < 256 → b < 256 → a * 256 ||| b = 256 * a + b := by
    intro a b _ hb
    rw [Nat.mul_comm a 256, show (256 : Nat) = 2 ^ 8 from rfl]
    exact (Nat.two_pow_add_eq_or_of_lt hb a).symm
  show IntKind.u16.wrap ((BitVec.ofInt 16 ((a : Int) * 256) ||| BitVec.ofInt 16 (b : Int)).toNat : Int) = _
  rw [BitVec.toNat_or, show ((a : Int) * 256) = ((a * 256 : Nat) : Int) from by omega, BitVec.ofInt_natCast, BitVec.ofInt_natCast, BitVec.toNat_ofNat, BitVec.toNat_ofNat,
    Nat.mod_eq_of_lt (by omega), Nat.mod_eq_of_lt (by omega), key a b (by omega) (by omega)]
  show (((256 * a + b : Nat) : Int)) % 65536 = _
  omega
theorem bits_Word (x y : Int) (w : World) (hx : 0 ≤ x) (hx1 : x ≤ 255) (hy : 0 ≤ y) (hy1 : y ≤ 255) : Calls Tryz.prog 79 #[.int .u8 x, .int .u8 y] w fun e w' => e = .returned (.int .u16 (256 * x + y)) ∧ w = w' := by
  go_enter Tryz.func79, Tryz.ntmps79
  go_wp2
  go_ret
  refine ⟨ret_int ?_, rfl⟩
  obtain ⟨a, rfl⟩ := Int.eq_ofNat_of_zero_le hx
  obtain ⟨b, rfl⟩ := Int.eq_ofNat_of_zero_le hy
  exact or_word a b (by omega) (by omega)

def FirstInv (s : ByteArray) (k : Nat) : Prop := k ≤ 256 ∧ firstFrom s (256 - k) k = firstI s
theorem FirstInv.step {s : ByteArray} {k : Nat} (h : FirstInv s k) (hk : k < 256) (hn : ¬ nameB k = s) : FirstInv s (k + 1) := by
  obtain ⟨_, h⟩ := h
  refine ⟨by omega, ?_⟩
  rw [← h, show 256 - k = (256 - (k + 1)) + 1 from by omega, firstFrom, if_neg hn]
theorem FirstInv.hit {s : ByteArray} {k : Nat} (h : FirstInv s k) (hk : k < 256) (hn : nameB k = s) : (k : Int) = firstI s := by
  obtain ⟨_, h⟩ := h
  rw [← h, show 256 - k = (256 - (k + 1)) + 1 from by omega, firstFrom, if_pos hn]
theorem FirstInv.none {s : ByteArray} {k : Nat} (h : FirstInv s k) (hk : ¬ k < 256) : (-1 : Int) = firstI s := by
  obtain ⟨_, h⟩ := h
  rw [← h, show 256 - k = 0 from by omega, firstFrom]
set_option maxRecDepth 100000 in
theorem code_first (s : ByteArray) (w : World) (T : Tabs w) : Calls Tryz.prog 55 #[.string s] w fun e w' => e = .returned (.int .i64 (firstI s)) ∧ w = w' := by
  generalize hq : firstI s = q
  have Hq := Lib.hid hq; clear hq
  go_enter Tryz.func55, Tryz.ntmps55
  go_wp2
  go_loop [3, 4] (fun _ i => ∃ k : Nat, i = .int .i64 k ∧ FirstInv s k) (fun _ i => 256 - (intOf i).toNat)
  case atStart => exact ⟨0, rfl, by omega, rfl⟩
  case round =>
    obtain ⟨k, rfl, H⟩ := hrel
    have hk := H.1
    by_cases hlt : k < 256
    · by_cases hn : nameB k = s
      · have hn' := beqS_true hn
        have Hn := Lib.hid hn; clear hn
        go_wp2_with (go_at_call 85; refine (code_name _ _ ?_ (by omega) (by omega)).mono ?_; (first | exact T | exact T.alloc _ | exact (T.alloc _).drew | exact ((T.alloc _).alloc _) | exact ((T.alloc _).alloc _).drew | exact T.below (by (repeat first | exact Below.refl _ _ | assumption | refine Below.trans ?_ (hb.mono (by first | omega | (simp; done) | (simp; omega))) | refine Below.drew ?_ | refine Below.alloc ?_ (by first | omega | (simp; done) | (simp; omega)) _ | refine Below.setCell ?_ (by first | omega | (simp; done) | (simp; omega)) _)) (by have := T.sz; omega)); rintro e w' ⟨rfl, rfl⟩)
        go_ret
        exact ⟨ret_int ((H.hit hlt Hn.out).trans Hq.out), rfl⟩
      · have hn' := beqS_false hn
        have Hn := Lib.hid hn; clear hn
        go_wp2_with (go_at_call 85; refine (code_name _ _ ?_ (by omega) (by omega)).mono ?_; (first | exact T | exact T.alloc _ | exact (T.alloc _).drew | exact ((T.alloc _).alloc _) | exact ((T.alloc _).alloc _).drew | exact T.below (by (repeat first | exact Below.refl _ _ | assumption | refine Below.trans ?_ (hb.mono (by first | omega | (simp; done) | (simp; omega))) | refine Below.drew ?_ | refine Below.alloc ?_ (by first | omega | (simp; done) | (simp; omega)) _ | refine Below.setCell ?_ (by first | omega | (simp; done) | (simp; omega)) _)) (by have := T.sz; omega)); rintro e w' ⟨rfl, rfl⟩)
        go_round
        case rel => exact ⟨k + 1, by go_num, H.step hlt Hn.out⟩
        case measure => simp [intOf]; omega
    · go_wp2
      go_ret
      exact ⟨ret_int ((H.none hlt).trans Hq.out), rfl⟩

/-- What is known of a name's instructions. -/
def FindV (s : ByteArray) : Value := if firstI s < 0 then .tuple #[.agg #[.string ⟨#[]⟩, .int .u8 0, .int .i64 0, .int .i64 0], .bool false] else
  .tuple #[.agg #[.string (nameB (firstI s).toNat), .int .u8 (formF (firstI s).toNat), .int .i64 (lenF (formF (firstI s).toNat)), .int .i64 (cycF (firstI s).toNat)], .bool true]
theorem code_Find (s : ByteArray) (w : World) (T : Tabs w) : Calls Tryz.prog 59 #[.string s] w fun e w' => e = .returned (FindV s) ∧ Below w.heap.size w w' := by
  obtain ⟨hb1, hb2⟩ := firstI_bd s
  by_cases hn : firstI s < 0
  · go_enter Tryz.func59, Tryz.ntmps59
    go_wp2_with (go_at_call 55; refine (code_first _ _ ?_).mono ?_; (first | exact T | exact T.alloc _ | exact (T.alloc _).drew | exact ((T.alloc _).alloc _) | exact ((T.alloc _).alloc _).drew | exact T.below (by (repeat first | exact Below.refl _ _ | assumption | refine Below.trans ?_ (hb.mono (by first | omega | (simp; done) | (simp; omega))) | refine Below.drew ?_ | refine Below.alloc ?_ (by first | omega | (simp; done) | (simp; omega)) _ | refine Below.setCell ?_ (by first | omega | (simp; done) | (simp; omega)) _)) (by have := T.sz; omega)); rintro e w' ⟨rfl, rfl⟩)
    refine bodyPost_ret (v := FindV s) (by unfold FindV; rw [if_pos hn]; simp [results, Tryz.results59, go_sem]) rfl ⟨rfl, ?_⟩
    (repeat first | exact Below.refl _ _ | assumption | refine Below.trans ?_ (hb.mono (by first | omega | (simp; done) | (simp; omega))) | refine Below.drew ?_ | refine Below.alloc ?_ (by first | omega | (simp; done) | (simp; omega)) _ | refine Below.setCell ?_ (by first | omega | (simp; done) | (simp; omega)) _)
  · have h0 : 0 ≤ firstI s := by omega
    go_enter Tryz.func59, Tryz.ntmps59
    go_wp2_with (first | (go_at_call 55; refine (code_first _ _ ?_).mono ?_; (first | exact T | exact T.alloc _ | exact (T.alloc _).drew | exact ((T.alloc _).alloc _) | exact ((T.alloc _).alloc _).drew | exact T.below (by (repeat first | exact Below.refl _ _ | assumption | refine Below.trans ?_ (hb.mono (by first | omega | (simp; done) | (simp; omega))) | refine Below.drew ?_ | refine Below.alloc ?_ (by first | omega | (simp; done) | (simp; omega)) _ | refine Below.setCell ?_ (by first | omega | (simp; done) | (simp; omega)) _)) (by have := T.sz; omega)); rintro e w' ⟨rfl, rfl⟩) | (go_at_call 78; refine (code_Info _ _ ?_ h0 hb2).mono ?_; (first | exact T | exact T.alloc _ | exact (T.alloc _).drew | exact ((T.alloc _).alloc _) | exact ((T.alloc _).alloc _).drew | exact T.below (by (repeat first | exact Below.refl _ _ | assumption | refine Below.trans ?_ (hb.mono (by first | omega | (simp; done) | (simp; omega))) | refine Below.drew ?_ | refine Below.alloc ?_ (by first | omega | (simp; done) | (simp; omega)) _ | refine Below.setCell ?_ (by first | omega | (simp; done) | (simp; omega)) _)) (by have := T.sz; omega)); rintro e w1 ⟨rfl, hb⟩; obtain ⟨hc, hfz⟩ := bcell hb; have hz := hb.size; simp at hz; have hz2 : w.heap.size < w1.heap.size := (by omega); have hz3 : w.heap.size < w1.heap.size + 1 := (by omega); have e1 := (hc w.heap.size 0 (by simp)); have e2 := (hc w.heap.size 1 (by simp)); have f1 := (hfz w.heap.size 0 (by simp)); have f2 := (hfz w.heap.size 1 (by simp)); (try simp at e1); (try simp at e2); (try simp at f1); (try simp at f2)))
    refine bodyPost_ret (v := FindV s) (by unfold FindV; rw [if_neg (by omega)]; simp [results, Tryz.results59, go_sem, hc]) rfl ⟨rfl, ?_⟩
    (repeat first | exact Below.refl _ _ | assumption | refine Below.trans ?_ (hb.mono (by first | omega | (simp; done) | (simp; omega))) | refine Below.drew ?_ | refine Below.alloc ?_ (by first | omega | (simp; done) | (simp; omega)) _ | refine Below.setCell ?_ (by first | omega | (simp; done) | (simp; omega)) _)

def EncPost (B : Nat) (w : World) (r : Int × List Int) (e : Ending) (w' : World) : Prop :=
  (∃ v, e = .returned (.tuple #[v, .int .i64 r.1]) ∧ OwnB B w' v r.2) ∧ Below B w w'
theorem EncPost.bad {B : Nat} {w w' : World} {r : Int × List Int} {n : Int} (h : r = (n, [])) (hb : Below B w w') : EncPost B w r (.returned (.tuple #[.slice none 0 0, .int .i64 n])) w' := by
  subst h; exact ⟨⟨_, rfl, .inl ⟨rfl, rfl⟩⟩, hb⟩
theorem EncPost.good {B : Nat} {w w' : World} {r : Int × List Int} {bs : List Int} {g n : Nat} (h : r = (0, bs)) (hn : n = bs.length) (hg : B ≤ g) (hh : w'.heap[g]? = some (.cells (bs.map (Value.int .u8)).toArray 5 (0, 0))) (hb : Below B w w') :
    EncPost B w r (.returned (.tuple #[.slice (some ⟨g, 0, none⟩) n n, .int .i64 0])) w' := by
  subst h; subst hn; exact ⟨⟨_, rfl, .inr ⟨g, hg, rfl, hh⟩⟩, hb⟩
set_option maxHeartbeats 1000000 in
set_option maxRecDepth 100000 in
theorem code_Encode (s : ByteArray) (arg : Int) (w : World) (T : Tabs w) (h2 : -9223372036854775808 ≤ arg) (h3 : arg ≤ 9223372036854775807) : Calls Tryz.prog 30 #[.agg #[.string s, .int .i64 arg]] w (EncPost w.heap.size w (encI s arg)) := by
  obtain ⟨hb1, hb2⟩ := firstI_bd s
  obtain ⟨hf1, hf2⟩ := formF_pos (firstI s).toNat
  by_cases hn : firstI s < 0
  · have H : Hid (encI s arg = (20, [])) := Lib.hid (by unfold encI; rw [if_pos hn])
    generalize encI s arg = r at *
    go_enter Tryz.func30, Tryz.ntmps30
    go_wp2_with (first | (go_at_call 55; refine (code_first _ _ ?_).mono ?_; (first | exact T | exact T.alloc _ | exact (T.alloc _).drew | exact ((T.alloc _).alloc _) | exact ((T.alloc _).alloc _).drew | exact T.below (by (repeat first | exact Below.refl _ _ | assumption | refine Below.trans ?_ (hb.mono (by first | omega | (simp; done) | (simp; omega))) | refine Below.drew ?_ | refine Below.alloc ?_ (by first | omega | (simp; done) | (simp; omega)) _ | refine Below.setCell ?_ (by first | omega | (simp; done) | (simp; omega)) _)) (by have := T.sz; omega)); rintro e w' ⟨rfl, rfl⟩))
    go_ret2
    exact EncPost.bad H.out (by (repeat first | exact Below.refl _ _ | assumption | refine Below.trans ?_ (hb.mono (by first | omega | (simp; done) | (simp; omega))) | refine Below.drew ?_ | refine Below.alloc ?_ (by first | omega | (simp; done) | (simp; omega)) _ | refine Below.setCell ?_ (by first | omega | (simp; done) | (simp; omega)) _))
  · have h0 : 0 ≤ firstI s := by omega
    have hcase : formF (firstI s).toNat = 1 ∨ formF (firstI s).toNat = 2 ∨ formF (firstI s).toNat = 3 ∨ formF (firstI s).toNat = 4 ∨ formF (firstI s).toNat = 5 ∨ formF (firstI s).toNat = 6 := by omega
    clear hf1 hf2
    rcases hcase with hf | hf | hf | hf | hf | hf
    · by_cases ha : arg < 0 ∨ 0 < arg
      · have H : Hid (encI s arg = (21, [])) := Lib.hid (by simp [encI, hn, hf, ha])
        generalize encI s arg = r at *
        go_enter Tryz.func30, Tryz.ntmps30
        go_wp2_with (first | (go_at_call 55; refine (code_first _ _ ?_).mono ?_; (first | exact T | exact T.alloc _ | exact (T.alloc _).drew | exact ((T.alloc _).alloc _) | exact ((T.alloc _).alloc _).drew | exact T.below (by (repeat first | exact Below.refl _ _ | assumption | refine Below.trans ?_ (hb.mono (by first | omega | (simp; done) | (simp; omega))) | refine Below.drew ?_ | refine Below.alloc ?_ (by first | omega | (simp; done) | (simp; omega)) _ | refine Below.setCell ?_ (by first | omega | (simp; done) | (simp; omega)) _)) (by have := T.sz; omega)); rintro e w' ⟨rfl, rfl⟩) | (go_at_call 56; refine (code_form _ _ (by omega) (by omega)).mono ?_; rintro e w' ⟨rfl, rfl⟩))
        all_goals (go_ret2; exact EncPost.bad H.out (by (repeat first | exact Below.refl _ _ | assumption | refine Below.trans ?_ (hb.mono (by first | omega | (simp; done) | (simp; omega))) | refine Below.drew ?_ | refine Below.alloc ?_ (by first | omega | (simp; done) | (simp; omega)) _ | refine Below.setCell ?_ (by first | omega | (simp; done) | (simp; omega)) _)))
      · have H : Hid (encI s arg = (0, [firstI s])) := Lib.hid (by simp [encI, hn, hf, ha])
        generalize encI s arg = r at *
        have ha1 : 0 ≤ arg := by omega
        have ha2 : arg ≤ 0 := by omega
        clear ha
        go_enter Tryz.func30, Tryz.ntmps30
        go_wp2_with (first | (go_at_call 55; refine (code_first _ _ ?_).mono ?_; (first | exact T | exact T.alloc _ | exact (T.alloc _).drew | exact ((T.alloc _).alloc _) | exact ((T.alloc _).alloc _).drew | exact T.below (by (repeat first | exact Below.refl _ _ | assumption | refine Below.trans ?_ (hb.mono (by first | omega | (simp; done) | (simp; omega))) | refine Below.drew ?_ | refine Below.alloc ?_ (by first | omega | (simp; done) | (simp; omega)) _ | refine Below.setCell ?_ (by first | omega | (simp; done) | (simp; omega)) _)) (by have := T.sz; omega)); rintro e w' ⟨rfl, rfl⟩) | (go_at_call 56; refine (code_form _ _ (by omega) (by omega)).mono ?_; rintro e w' ⟨rfl, rfl⟩) | (go_at_call 57; refine (bits_High _ _).mono ?_; rintro e w' ⟨rfl, rfl⟩) | (go_at_call 58; refine (bits_Low _ _).mono ?_; rintro e w' ⟨rfl, rfl⟩))
        all_goals (go_ret2; exact EncPost.good H.out (by simp) (by simp) (heap_new1 _ _ _) (by (repeat first | exact Below.refl _ _ | assumption | refine Below.trans ?_ (hb.mono (by first | omega | (simp; done) | (simp; omega))) | refine Below.drew ?_ | refine Below.alloc ?_ (by first | omega | (simp; done) | (simp; omega)) _ | refine Below.setCell ?_ (by first | omega | (simp; done) | (simp; omega)) _)))
    · by_cases hl : firstI s < 16
      · by_cases ha : arg < 1 ∨ 15 < arg
        · have H : Hid (encI s arg = (21, [])) := Lib.hid (by simp [encI, hn, hf, ha, hl])
          generalize encI s arg = r at *
          go_enter Tryz.func30, Tryz.ntmps30
          go_wp2_with (first | (go_at_call 55; refine (code_first _ _ ?_).mono ?_; (first | exact T | exact T.alloc _ | exact (T.alloc _).drew | exact ((T.alloc _).alloc _) | exact ((T.alloc _).alloc _).drew | exact T.below (by (repeat first | exact Below.refl _ _ | assumption | refine Below.trans ?_ (hb.mono (by first | omega | (simp; done) | (simp; omega))) | refine Below.drew ?_ | refine Below.alloc ?_ (by first | omega | (simp; done) | (simp; omega)) _ | refine Below.setCell ?_ (by first | omega | (simp; done) | (simp; omega)) _)) (by have := T.sz; omega)); rintro e w' ⟨rfl, rfl⟩) | (go_at_call 56; refine (code_form _ _ (by omega) (by omega)).mono ?_; rintro e w' ⟨rfl, rfl⟩))
          all_goals (go_ret2; exact EncPost.bad H.out (by (repeat first | exact Below.refl _ _ | assumption | refine Below.trans ?_ (hb.mono (by first | omega | (simp; done) | (simp; omega))) | refine Below.drew ?_ | refine Below.alloc ?_ (by first | omega | (simp; done) | (simp; omega)) _ | refine Below.setCell ?_ (by first | omega | (simp; done) | (simp; omega)) _)))
        · have H : Hid (encI s arg = (0, [arg])) := Lib.hid (by simp [encI, hn, hf, ha, hl])
          generalize encI s arg = r at *
          have ha1 : 1 ≤ arg := by omega
          have ha2 : arg ≤ 15 := by omega
          clear ha
          go_enter Tryz.func30, Tryz.ntmps30
          go_wp2_with (first | (go_at_call 55; refine (code_first _ _ ?_).mono ?_; (first | exact T | exact T.alloc _ | exact (T.alloc _).drew | exact ((T.alloc _).alloc _) | exact ((T.alloc _).alloc _).drew | exact T.below (by (repeat first | exact Below.refl _ _ | assumption | refine Below.trans ?_ (hb.mono (by first | omega | (simp; done) | (simp; omega))) | refine Below.drew ?_ | refine Below.alloc ?_ (by first | omega | (simp; done) | (simp; omega)) _ | refine Below.setCell ?_ (by first | omega | (simp; done) | (simp; omega)) _)) (by have := T.sz; omega)); rintro e w' ⟨rfl, rfl⟩) | (go_at_call 56; refine (code_form _ _ (by omega) (by omega)).mono ?_; rintro e w' ⟨rfl, rfl⟩) | (go_at_call 57; refine (bits_High _ _).mono ?_; rintro e w' ⟨rfl, rfl⟩) | (go_at_call 58; refine (bits_Low _ _).mono ?_; rintro e w' ⟨rfl, rfl⟩))
          all_goals (go_ret2; exact EncPost.good H.out (by simp) (by simp) (heap_new1 _ _ _) (by (repeat first | exact Below.refl _ _ | assumption | refine Below.trans ?_ (hb.mono (by first | omega | (simp; done) | (simp; omega))) | refine Below.drew ?_ | refine Below.alloc ?_ (by first | omega | (simp; done) | (simp; omega)) _ | refine Below.setCell ?_ (by first | omega | (simp; done) | (simp; omega)) _)))
      · have hl' : 16 ≤ firstI s := by omega
        by_cases ha : arg < 0 ∨ 15 < arg
        · have H : Hid (encI s arg = (21, [])) := Lib.hid (by simp [encI, hn, hf, ha, hl])
          generalize encI s arg = r at *
          go_enter Tryz.func30, Tryz.ntmps30
          go_wp2_with (first | (go_at_call 55; refine (code_first _ _ ?_).mono ?_; (first | exact T | exact T.alloc _ | exact (T.alloc _).drew | exact ((T.alloc _).alloc _) | exact ((T.alloc _).alloc _).drew | exact T.below (by (repeat first | exact Below.refl _ _ | assumption | refine Below.trans ?_ (hb.mono (by first | omega | (simp; done) | (simp; omega))) | refine Below.drew ?_ | refine Below.alloc ?_ (by first | omega | (simp; done) | (simp; omega)) _ | refine Below.setCell ?_ (by first | omega | (simp; done) | (simp; omega)) _)) (by have := T.sz; omega)); rintro e w' ⟨rfl, rfl⟩) | (go_at_call 56; refine (code_form _ _ (by omega) (by omega)).mono ?_; rintro e w' ⟨rfl, rfl⟩))
          all_goals (go_ret2; exact EncPost.bad H.out (by (repeat first | exact Below.refl _ _ | assumption | refine Below.trans ?_ (hb.mono (by first | omega | (simp; done) | (simp; omega))) | refine Below.drew ?_ | refine Below.alloc ?_ (by first | omega | (simp; done) | (simp; omega)) _ | refine Below.setCell ?_ (by first | omega | (simp; done) | (simp; omega)) _)))
        · have H : Hid (encI s arg = (0, [firstI s + arg])) := Lib.hid (by simp [encI, hn, hf, ha, hl])
          generalize encI s arg = r at *
          have ha1 : 0 ≤ arg := by omega
          have ha2 : arg ≤ 15 := by omega
          have ha3 : firstI s + arg ≤ 255 := by have := formF_2 hf (by omega); omega
          clear ha
          go_enter Tryz.func30, Tryz.ntmps30
          go_wp2_with (first | (go_at_call 55; refine (code_first _ _ ?_).mono ?_; (first | exact T | exact T.alloc _ | exact (T.alloc _).drew | exact ((T.alloc _).alloc _) | exact ((T.alloc _).alloc _).drew | exact T.below (by (repeat first | exact Below.refl _ _ | assumption | refine Below.trans ?_ (hb.mono (by first | omega | (simp; done) | (simp; omega))) | refine Below.drew ?_ | refine Below.alloc ?_ (by first | omega | (simp; done) | (simp; omega)) _ | refine Below.setCell ?_ (by first | omega | (simp; done) | (simp; omega)) _)) (by have := T.sz; omega)); rintro e w' ⟨rfl, rfl⟩) | (go_at_call 56; refine (code_form _ _ (by omega) (by omega)).mono ?_; rintro e w' ⟨rfl, rfl⟩) | (go_at_call 57; refine (bits_High _ _).mono ?_; rintro e w' ⟨rfl, rfl⟩) | (go_at_call 58; refine (bits_Low _ _).mono ?_; rintro e w' ⟨rfl, rfl⟩))
          all_goals (go_ret2; exact EncPost.good H.out (by simp) (by simp) (heap_new1 _ _ _) (by (repeat first | exact Below.refl _ _ | assumption | refine Below.trans ?_ (hb.mono (by first | omega | (simp; done) | (simp; omega))) | refine Below.drew ?_ | refine Below.alloc ?_ (by first | omega | (simp; done) | (simp; omega)) _ | refine Below.setCell ?_ (by first | omega | (simp; done) | (simp; omega)) _)))
    · by_cases ha : arg < 1 ∨ 7 < arg
      · have H : Hid (encI s arg = (21, [])) := Lib.hid (by simp [encI, hn, hf, ha])
        generalize encI s arg = r at *
        go_enter Tryz.func30, Tryz.ntmps30
        go_wp2_with (first | (go_at_call 55; refine (code_first _ _ ?_).mono ?_; (first | exact T | exact T.alloc _ | exact (T.alloc _).drew | exact ((T.alloc _).alloc _) | exact ((T.alloc _).alloc _).drew | exact T.below (by (repeat first | exact Below.refl _ _ | assumption | refine Below.trans ?_ (hb.mono (by first | omega | (simp; done) | (simp; omega))) | refine Below.drew ?_ | refine Below.alloc ?_ (by first | omega | (simp; done) | (simp; omega)) _ | refine Below.setCell ?_ (by first | omega | (simp; done) | (simp; omega)) _)) (by have := T.sz; omega)); rintro e w' ⟨rfl, rfl⟩) | (go_at_call 56; refine (code_form _ _ (by omega) (by omega)).mono ?_; rintro e w' ⟨rfl, rfl⟩))
        all_goals (go_ret2; exact EncPost.bad H.out (by (repeat first | exact Below.refl _ _ | assumption | refine Below.trans ?_ (hb.mono (by first | omega | (simp; done) | (simp; omega))) | refine Below.drew ?_ | refine Below.alloc ?_ (by first | omega | (simp; done) | (simp; omega)) _ | refine Below.setCell ?_ (by first | omega | (simp; done) | (simp; omega)) _)))
      · have H : Hid (encI s arg = (0, [firstI s - 1 + arg])) := Lib.hid (by simp [encI, hn, hf, ha])
        generalize encI s arg = r at *
        have ha1 : 1 ≤ arg := by omega
        have ha2 : arg ≤ 7 := by omega
        have ha3 : firstI s - 1 + arg ≤ 255 := by have := formF_3 hf; omega
        have ha4 : 1 ≤ firstI s := by have := formF_3 hf; omega
        clear ha
        go_enter Tryz.func30, Tryz.ntmps30
        go_wp2_with (first | (go_at_call 55; refine (code_first _ _ ?_).mono ?_; (first | exact T | exact T.alloc _ | exact (T.alloc _).drew | exact ((T.alloc _).alloc _) | exact ((T.alloc _).alloc _).drew | exact T.below (by (repeat first | exact Below.refl _ _ | assumption | refine Below.trans ?_ (hb.mono (by first | omega | (simp; done) | (simp; omega))) | refine Below.drew ?_ | refine Below.alloc ?_ (by first | omega | (simp; done) | (simp; omega)) _ | refine Below.setCell ?_ (by first | omega | (simp; done) | (simp; omega)) _)) (by have := T.sz; omega)); rintro e w' ⟨rfl, rfl⟩) | (go_at_call 56; refine (code_form _ _ (by omega) (by omega)).mono ?_; rintro e w' ⟨rfl, rfl⟩) | (go_at_call 57; refine (bits_High _ _).mono ?_; rintro e w' ⟨rfl, rfl⟩) | (go_at_call 58; refine (bits_Low _ _).mono ?_; rintro e w' ⟨rfl, rfl⟩))
        all_goals (go_ret2; exact EncPost.good H.out (by simp) (by simp) (heap_new1 _ _ _) (by (repeat first | exact Below.refl _ _ | assumption | refine Below.trans ?_ (hb.mono (by first | omega | (simp; done) | (simp; omega))) | refine Below.drew ?_ | refine Below.alloc ?_ (by first | omega | (simp; done) | (simp; omega)) _ | refine Below.setCell ?_ (by first | omega | (simp; done) | (simp; omega)) _)))
    · by_cases ha : arg < 0 ∨ 255 < arg
      · have H : Hid (encI s arg = (21, [])) := Lib.hid (by simp [encI, hn, hf, ha])
        generalize encI s arg = r at *
        go_enter Tryz.func30, Tryz.ntmps30
        go_wp2_with (first | (go_at_call 55; refine (code_first _ _ ?_).mono ?_; (first | exact T | exact T.alloc _ | exact (T.alloc _).drew | exact ((T.alloc _).alloc _) | exact ((T.alloc _).alloc _).drew | exact T.below (by (repeat first | exact Below.refl _ _ | assumption | refine Below.trans ?_ (hb.mono (by first | omega | (simp; done) | (simp; omega))) | refine Below.drew ?_ | refine Below.alloc ?_ (by first | omega | (simp; done) | (simp; omega)) _ | refine Below.setCell ?_ (by first | omega | (simp; done) | (simp; omega)) _)) (by have := T.sz; omega)); rintro e w' ⟨rfl, rfl⟩) | (go_at_call 56; refine (code_form _ _ (by omega) (by omega)).mono ?_; rintro e w' ⟨rfl, rfl⟩))
        all_goals (go_ret2; exact EncPost.bad H.out (by (repeat first | exact Below.refl _ _ | assumption | refine Below.trans ?_ (hb.mono (by first | omega | (simp; done) | (simp; omega))) | refine Below.drew ?_ | refine Below.alloc ?_ (by first | omega | (simp; done) | (simp; omega)) _ | refine Below.setCell ?_ (by first | omega | (simp; done) | (simp; omega)) _)))
      · have H : Hid (encI s arg = (0, [firstI s, arg])) := Lib.hid (by simp [encI, hn, hf, ha])
        generalize encI s arg = r at *
        have ha1 : 0 ≤ arg := by omega
        have ha2 : arg ≤ 255 := by omega
        clear ha
        go_enter Tryz.func30, Tryz.ntmps30
        go_wp2_with (first | (go_at_call 55; refine (code_first _ _ ?_).mono ?_; (first | exact T | exact T.alloc _ | exact (T.alloc _).drew | exact ((T.alloc _).alloc _) | exact ((T.alloc _).alloc _).drew | exact T.below (by (repeat first | exact Below.refl _ _ | assumption | refine Below.trans ?_ (hb.mono (by first | omega | (simp; done) | (simp; omega))) | refine Below.drew ?_ | refine Below.alloc ?_ (by first | omega | (simp; done) | (simp; omega)) _ | refine Below.setCell ?_ (by first | omega | (simp; done) | (simp; omega)) _)) (by have := T.sz; omega)); rintro e w' ⟨rfl, rfl⟩) | (go_at_call 56; refine (code_form _ _ (by omega) (by omega)).mono ?_; rintro e w' ⟨rfl, rfl⟩) | (go_at_call 57; refine (bits_High _ _).mono ?_; rintro e w' ⟨rfl, rfl⟩) | (go_at_call 58; refine (bits_Low _ _).mono ?_; rintro e w' ⟨rfl, rfl⟩))
        all_goals (go_ret2; exact EncPost.good H.out (by simp) (by simp) (heap_new1 _ _ _) (by (repeat first | exact Below.refl _ _ | assumption | refine Below.trans ?_ (hb.mono (by first | omega | (simp; done) | (simp; omega))) | refine Below.drew ?_ | refine Below.alloc ?_ (by first | omega | (simp; done) | (simp; omega)) _ | refine Below.setCell ?_ (by first | omega | (simp; done) | (simp; omega)) _)))
    · by_cases ha : arg < 0 ∨ 255 < arg
      · have H : Hid (encI s arg = (21, [])) := Lib.hid (by simp [encI, hn, hf, ha])
        generalize encI s arg = r at *
        go_enter Tryz.func30, Tryz.ntmps30
        go_wp2_with (first | (go_at_call 55; refine (code_first _ _ ?_).mono ?_; (first | exact T | exact T.alloc _ | exact (T.alloc _).drew | exact ((T.alloc _).alloc _) | exact ((T.alloc _).alloc _).drew | exact T.below (by (repeat first | exact Below.refl _ _ | assumption | refine Below.trans ?_ (hb.mono (by first | omega | (simp; done) | (simp; omega))) | refine Below.drew ?_ | refine Below.alloc ?_ (by first | omega | (simp; done) | (simp; omega)) _ | refine Below.setCell ?_ (by first | omega | (simp; done) | (simp; omega)) _)) (by have := T.sz; omega)); rintro e w' ⟨rfl, rfl⟩) | (go_at_call 56; refine (code_form _ _ (by omega) (by omega)).mono ?_; rintro e w' ⟨rfl, rfl⟩))
        all_goals (go_ret2; exact EncPost.bad H.out (by (repeat first | exact Below.refl _ _ | assumption | refine Below.trans ?_ (hb.mono (by first | omega | (simp; done) | (simp; omega))) | refine Below.drew ?_ | refine Below.alloc ?_ (by first | omega | (simp; done) | (simp; omega)) _ | refine Below.setCell ?_ (by first | omega | (simp; done) | (simp; omega)) _)))
      · have H : Hid (encI s arg = (0, [firstI s, arg])) := Lib.hid (by simp [encI, hn, hf, ha])
        generalize encI s arg = r at *
        have ha1 : 0 ≤ arg := by omega
        have ha2 : arg ≤ 255 := by omega
        clear ha
        go_enter Tryz.func30, Tryz.ntmps30
        go_wp2_with (first | (go_at_call 55; refine (code_first _ _ ?_).mono ?_; (first | exact T | exact T.alloc _ | exact (T.alloc _).drew | exact ((T.alloc _).alloc _) | exact ((T.alloc _).alloc _).drew | exact T.below (by (repeat first | exact Below.refl _ _ | assumption | refine Below.trans ?_ (hb.mono (by first | omega | (simp; done) | (simp; omega))) | refine Below.drew ?_ | refine Below.alloc ?_ (by first | omega | (simp; done) | (simp; omega)) _ | refine Below.setCell ?_ (by first | omega | (simp; done) | (simp; omega)) _)) (by have := T.sz; omega)); rintro e w' ⟨rfl, rfl⟩) | (go_at_call 56; refine (code_form _ _ (by omega) (by omega)).mono ?_; rintro e w' ⟨rfl, rfl⟩) | (go_at_call 57; refine (bits_High _ _).mono ?_; rintro e w' ⟨rfl, rfl⟩) | (go_at_call 58; refine (bits_Low _ _).mono ?_; rintro e w' ⟨rfl, rfl⟩))
        all_goals (go_ret2; exact EncPost.good H.out (by simp) (by simp) (heap_new1 _ _ _) (by (repeat first | exact Below.refl _ _ | assumption | refine Below.trans ?_ (hb.mono (by first | omega | (simp; done) | (simp; omega))) | refine Below.drew ?_ | refine Below.alloc ?_ (by first | omega | (simp; done) | (simp; omega)) _ | refine Below.setCell ?_ (by first | omega | (simp; done) | (simp; omega)) _)))
    · by_cases ha : arg < 0 ∨ 65535 < arg
      · have H : Hid (encI s arg = (21, [])) := Lib.hid (by simp [encI, hn, hf, ha])
        generalize encI s arg = r at *
        go_enter Tryz.func30, Tryz.ntmps30
        go_wp2_with (first | (go_at_call 55; refine (code_first _ _ ?_).mono ?_; (first | exact T | exact T.alloc _ | exact (T.alloc _).drew | exact ((T.alloc _).alloc _) | exact ((T.alloc _).alloc _).drew | exact T.below (by (repeat first | exact Below.refl _ _ | assumption | refine Below.trans ?_ (hb.mono (by first | omega | (simp; done) | (simp; omega))) | refine Below.drew ?_ | refine Below.alloc ?_ (by first | omega | (simp; done) | (simp; omega)) _ | refine Below.setCell ?_ (by first | omega | (simp; done) | (simp; omega)) _)) (by have := T.sz; omega)); rintro e w' ⟨rfl, rfl⟩) | (go_at_call 56; refine (code_form _ _ (by omega) (by omega)).mono ?_; rintro e w' ⟨rfl, rfl⟩))
        all_goals (go_ret2; exact EncPost.bad H.out (by (repeat first | exact Below.refl _ _ | assumption | refine Below.trans ?_ (hb.mono (by first | omega | (simp; done) | (simp; omega))) | refine Below.drew ?_ | refine Below.alloc ?_ (by first | omega | (simp; done) | (simp; omega)) _ | refine Below.setCell ?_ (by first | omega | (simp; done) | (simp; omega)) _)))
      · have H : Hid (encI s arg = (0, [firstI s, arg / 256, arg % 256])) := Lib.hid (by simp [encI, hn, hf, ha])
        generalize encI s arg = r at *
        have ha1 : 0 ≤ arg := by omega
        have ha2 : arg ≤ 65535 := by omega
        clear ha
        have wr1 : IntKind.u16.wrap arg = arg := by show arg % 65536 = arg; omega
        have wr2 : IntKind.u8.wrap (firstI s) = firstI s := by show firstI s % 256 = firstI s; omega
        have wr3 : arg / 256 % 256 = arg / 256 := by omega
        go_enter Tryz.func30, Tryz.ntmps30
        go_wp2_with (first | (go_at_call 55; refine (code_first _ _ ?_).mono ?_; (first | exact T | exact T.alloc _ | exact (T.alloc _).drew | exact ((T.alloc _).alloc _) | exact ((T.alloc _).alloc _).drew | exact T.below (by (repeat first | exact Below.refl _ _ | assumption | refine Below.trans ?_ (hb.mono (by first | omega | (simp; done) | (simp; omega))) | refine Below.drew ?_ | refine Below.alloc ?_ (by first | omega | (simp; done) | (simp; omega)) _ | refine Below.setCell ?_ (by first | omega | (simp; done) | (simp; omega)) _)) (by have := T.sz; omega)); rintro e w' ⟨rfl, rfl⟩) | (go_at_call 56; refine (code_form _ _ (by omega) (by omega)).mono ?_; rintro e w' ⟨rfl, rfl⟩) | (go_at_call 57; refine (bits_High _ _).mono ?_; rintro e w' ⟨rfl, rfl⟩) | (go_at_call 58; refine (bits_Low _ _).mono ?_; rintro e w' ⟨rfl, rfl⟩))
        go_region_with (first | (go_at_call 57; refine (bits_High _ _).mono ?_; rintro e w' ⟨rfl, rfl⟩) | (go_at_call 58; refine (bits_Low _ _).mono ?_; rintro e w' ⟨rfl, rfl⟩))
        all_goals go_wp2
        all_goals (go_ret2; exact EncPost.good H.out (by simp) (by simp) (heap_new1 _ _ _) (by (repeat first | exact Below.refl _ _ | assumption | refine Below.trans ?_ (hb.mono (by first | omega | (simp; done) | (simp; omega))) | refine Below.drew ?_ | refine Below.alloc ?_ (by first | omega | (simp; done) | (simp; omega)) _ | refine Below.setCell ?_ (by first | omega | (simp; done) | (simp; omega)) _)))
end Go.Proofs.YtofhdlkocgbcgaaGreatDoor
