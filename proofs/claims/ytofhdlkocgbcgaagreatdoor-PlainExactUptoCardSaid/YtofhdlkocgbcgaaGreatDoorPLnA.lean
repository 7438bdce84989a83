/- plain's hex, a line of the listing. -/
import Derived.Test.YtofhdlkocgbcgaaGreatDoorLinP
import Derived.Test.YtofhdlkocgbcgaaGreatDoorTelW
import Derived.Shelf.Strings.BuilderK
namespace Go.Proofs.YtofhdlkocgbcgaaGreatDoor
open Go Go.RowKit Pu
set_option linter.unusedVariables false
set_option linter.unusedSimpArgs false
theorem infoStr : (Tryz.prog.info? 9).map (fun i => (i.zero, i.size, i.bytes)) = some (some (.string ⟨#[]⟩), 1, 16) := by kernel_rfl
theorem OwnB.rd {B : Nat} {w : World} {v : Value} {bs : List Int} (h : OwnB B w v bs) : ∃ A c, v = .slice A bs.length c ∧ RdB w A bs := by
  rcases h with ⟨rfl, rfl⟩ | ⟨g, hg, rfl, hh⟩
  · exact ⟨none, 0, rfl, fun h => absurd h (by simp)⟩
  · refine ⟨_, _, rfl, fun _ => ⟨g, 0, rfl, blk_lt hh, fun i hi => ?_⟩⟩
    exact blk_cell hh (by simp [Nat.zero_add, hi, List.getD_eq_getElem?_getD])
theorem RdB.belowB {B : Nat} {w w' : World} {A : Option Addr} {xs : List Int} (R : RdB w A xs) (h : Below B w w') (hd : ∀ x, A = some x → x.block < B) : RdB w' A xs := fun h0 => by
  obtain ⟨b, off, rfl, hb, hr⟩ := R h0
  exact ⟨b, off, rfl, Nat.lt_of_lt_of_le hb h.size, fun i hi => (h.cell (p := ⟨b, off + i, none⟩) (show b < B from hd ⟨b, off, none⟩ rfl)).trans (hr i hi)⟩
def hexCs (l : List Int) : List Value := l.map fun x => Value.string (hexS x 2)
theorem hexCs_snoc (xs : List Int) (k : Nat) (hk : k < xs.length) : hexCs (xs.take (k + 1)) = hexCs (xs.take k) ++ [.string (hexS (xs.getD k 0) 2)] := by
  unfold hexCs
  rw [List.take_succ_eq_append_getElem hk, List.map_append, List.getD_eq_getElem?_getD, List.getElem?_eq_getElem hk]
  rfl
theorem join_hex (xs : List Int) : Lib.join ((xs.map fun x => hexS x 2).map (·.data.toList)) [32] = sepL xs := by
  unfold sepL hx
  rw [List.map_map]
  rfl
set_option maxHeartbeats 2000000 in
set_option maxRecDepth 100000 in
theorem plain_hex (A : Option Addr) (c : Nat) (xs : List Int) (w : World) (R : RdB w A xs) (hx : Bytes xs) (hl : xs.length ≤ 1048576) (n : Nat) (hn : n = xs.length) : Calls Tryz.prog 26 #[.slice A n c] w fun e w' => e = .returned (.string (bstr (sepL xs))) ∧ Below w.heap.size w w' := by
  obtain ⟨i0, hi0, hz0, hz1, hz2⟩ := info_parts infoStr
  subst hn
  by_cases h0 : xs = []
  · subst h0
    go_enter Tryz.func26, Tryz.ntmps26
    go_wp2_with (go_at_call 50; refine (Tryz.strings_Join_none _ _ _ _).mono ?_; rintro e w' ⟨rfl, rfl⟩)
    go_loop [3, 8] (fun s i => s = .slice none 0 0 ∧ i = .int .i64 0) (fun _ _ => 0)
    case atStart => exact ⟨rfl, rfl⟩
    case round =>
      obtain ⟨rfl, rfl⟩ := hrel
      go_wp2_with (go_at_call 50; refine (Tryz.strings_Join_none _ _ _ _).mono ?_; rintro e w' ⟨rfl, rfl⟩)
      go_ret
      exact ⟨rfl, Below.refl _ _⟩
  · have hp := List.length_pos_iff.2 h0
    obtain ⟨b, off, rfl, hb, hr⟩ := R hp
    clear R h0
    go_enter Tryz.func26, Tryz.ntmps26
    go_wp2
    go_loopw [3, 8] (fun s i wr => ∃ k : Nat, k ≤ xs.length ∧ i = .int .i64 k ∧ wr.ownsRow w.heap.size 9 1 s k (hexCs (xs.take k)) ∧ Below w.heap.size w wr) (fun _ i _ => xs.length - (intOf i).toNat)
    case atStart => exact ⟨0, Nat.zero_le _, rfl, by simpa [hexCs] using World.ownsRow_nil _ _ _ _, Below.refl _ _⟩
    case round =>
      obtain ⟨k, hk, rfl, hown, hbw⟩ := hrel
      by_cases hlt : k < xs.length
      · have hki : (k : Int) < xs.length := by omega
        have c0 := cellB hbw (hr k hlt)
        have hby := arg_byte hx k
        have hsn := hexCs_snoc xs k hlt
        generalize xs.getD k 0 = x at *
        have HS := Lib.hid hsn
        clear hsn hr
        go_wp2_with (first | (go_at_call 29; refine (bits_Hex x 2 (.inr (.inl rfl)) _ _ rfl).mono ?_; rintro e w1 ⟨rfl, hb1⟩) | (at_builtin; refine wpList_append_src _ rfl (.tmp 12) (.tmp 16) 99 rfl w.heap.size 9 i0 _ 1 16 Tryz.underlying99 hi0 hz0 hz1 hz2 rfl (by decide) _ k _ rfl ((own_below hown hb1).alloc _) _ 1 1 _ rfl (Src.block (heap_alloc_new _ _) rfl) (by simp [Value.oneCell']) (by unfold maxLen; omega) (by omega) (by have := hbw.size; have := hb1.size; simp; omega) ?_; intro v2 w2 ho2 hg2 hv2))
        have hb2 : Below w.heap.size w w2 := ((hbw.trans (hb1.mono hbw.size)).alloc (Nat.le_trans hbw.size hb1.size) _).grown hg2 (by have := hbw.size; have := hb1.size; simp; omega) (fun q hq => (hown.lt q hq).1)
        exact ⟨⟨k + 1, by omega, by go_num, by rw [HS.out]; exact ho2, hb2⟩, by simp [intOf]; omega⟩
      · obtain rfl : k = xs.length := by omega
        obtain ⟨g, cap, rfl, hg1, hg2⟩ := hown.form (by omega)
        rw [List.take_length] at hown
        have hcs := hown.cells (g := g) rfl
        have hcap : xs.length ≤ cap := by
          rcases hown.2 with ⟨e, _⟩ | ⟨g', cap', cur, e, _, _, h3, _⟩
          · cases e
          · cases e; exact h3
        have hj : ∀ (j : Nat) x, (xs.map fun x => hexS x 2)[j]? = some x → wr.cell? ⟨g, 0 + j, none⟩ = some (.string x) := fun j x hj => by
          have := hcs j (.string x) (by unfold hexCs; rw [List.getElem?_map] at hj ⊢; rw [Option.map_eq_some_iff] at hj ⊢; obtain ⟨y, h1, h2⟩ := hj; exact ⟨y, h1, by rw [h2]⟩)
          have ha : (⟨g, 0, none⟩ : Addr).add j = ⟨g, 0 + j, none⟩ := by unfold Addr.add; split <;> simp_all
          rwa [ha] at this
        have hjl := join_hex xs
        have hsl := sepL_le xs
        have J := Tryz.strings_Join g 0 cap (xs.map fun x => hexS x 2) ⟨#[32]⟩ wr hj hg2 (by simp; omega) (by simpa using hcap) (by show (Lib.join ((xs.map fun x => hexS x 2).map (·.data.toList)) [32]).length ≤ _; rw [hjl]; omega)
        rw [List.length_map] at J
        have HJ := Lib.hid hjl
        clear hjl hj hcs hr hsl hown
        go_wp2_with (go_at_call 50; refine J.mono ?_; rintro e w1 ⟨rfl, hb1⟩)
        go_ret
        exact ⟨ret_str (by have h := HJ.out; rw [List.map_map] at h; exact congrArg bstr h), hbw.trans (hb1.mono hbw.size)⟩
/-- The listing's builder, and the place. -/
structure BL (b : Nat) (a : Int) (l : List UInt8) (w : World) : Prop where
  h : Lib.IsBuilderF 68 5 b b (Lib.byteCells l) w
  at_ : w.heap[b + 1]? = some (.cells #[.int .i64 a] 3 (0, 0))
theorem builder_heap {T e : TypeId} {B b : Nat} {bs : List Value} {w w' : World} (h : Lib.IsBuilderF T e B b bs w) (hk : ∀ k o, (k = b ∨ ∃ cur fz, o = .cells cur e fz) → w.heap[k]? = some o → w'.heap[k]? = some o) : Lib.IsBuilderF T e B b bs w' := by
  have one : ∀ p, Lib.BuilderAtF T e B b p bs w → Lib.BuilderAtF T e B b p bs w' := by
    rintro p ⟨h1, v, h2, ⟨h3, h4⟩, h5⟩
    refine ⟨h1, v, hk _ _ (.inl rfl) h2, ⟨h3, ?_⟩, h5⟩
    rcases h4 with h4 | ⟨g, cap, cur, fz, h6, h7, h8, h9⟩
    · exact .inl h4
    · exact .inr ⟨g, cap, cur, fz, h6, h7, hk _ _ (.inr ⟨cur, fz, rfl⟩) h8, h9⟩
  exact h.elim (fun h => .inl (one _ h)) (fun h => .inr (one _ h))
theorem BL.below {b : Nat} {a : Int} {l : List UInt8} {w w' : World} (h : BL b a l w) (hb : Below w.heap.size w w') : BL b a l w' :=
  ⟨builder_heap h.h fun k o _ hk => heapB' hb hk, heapB' hb h.at_⟩
theorem BL.put {b : Nat} {a : Int} {l : List UInt8} {w : World} (h : BL b a l w) (a' : Int) : BL b a' l (w.setCell ⟨b + 1, 0, none⟩ (.int .i64 a')) := by
  refine ⟨builder_heap h.h fun k o hc hk => ?_, ?_⟩
  · rw [Below.heap_setCell _ _ _ _ (fun e => ?_)]; exact hk
    have e : k = b + 1 := e
    subst e
    rcases hc with e | ⟨cur, fz, rfl⟩
    · omega
    · rw [h.at_] at hk; injection hk with hk; injection hk with _ hk; exact absurd hk (by decide)
  · simp [World.setCell, Array.getElem?_modify, h.at_]
theorem BL.lt {b : Nat} {a : Int} {l : List UInt8} {w : World} (h : BL b a l w) : b + 1 < w.heap.size := blk_lt h.at_
theorem wr_str (b : Nat) (a : Int) (l : List UInt8) (s : ByteArray) (w : World) (h : BL b a l w) (hl : l.length + s.size ≤ 140737488355328) : Calls Tryz.prog 28 #[.pointer (some ⟨b, 0, none⟩), .string s] w fun e w' => e = .returned (.tuple #[.int .i64 s.size, .nilIface]) ∧ BL b a (l ++ s.data.toList) w' ∧ Below b w w' := by
  have hb := h.lt
  refine (Any.Builder_WriteString_k { Tryz.lays156 with } Tryz.Builder_Extra_156 b b (Lib.byteCells l) s w h.h (by rw [Lib.byteCells_length]; exact hl) (by omega)).mono ?_
  rintro e w' ⟨rfl, h1, h2, h3⟩
  refine ⟨rfl, ⟨.inr ?_, h3 (b + 1) _ h.at_ (by simp) fun c fz e => ?_⟩, h2⟩
  · rw [Lib.strCells_eq, ← Lib.byteCells_append] at h1; exact h1
  · injection e with _ e; exact absurd e (by decide)
def lineB (a : Int) (xs : List Int) (t : List UInt8) : List UInt8 := digL a xs ++ (if t = [] then [] else List.replicate (8 - (sepL xs).length) 32 ++ [32, 32] ++ t) ++ [10]
theorem bstr_size (l : List UInt8) : (bstr l).size = l.length := by simp [bstr, ByteArray.size]
theorem line_0 (a : Int) (xs : List Int) : (hexS a 4 ++ (⟨#[32, 32]⟩ : ByteArray) ++ bstr (sepL xs) ++ (⟨#[10]⟩ : ByteArray)).data.toList = lineB a xs [] := by
  unfold lineB digL bstr hx
  simp
set_option maxHeartbeats 2000000 in
set_option maxRecDepth 100000 in
theorem plain_line_0 (w : World) (b : Nat) (a : Int) (l : List UInt8) (A : Option Addr) (c : Nat) (xs : List Int) (H : BL b a l w) (R : RdB w A xs) (hx : Bytes xs) (hl : l.length ≤ 1099511627776) (hs : xs.length ≤ 256) (ha : 0 ≤ a) (ha2 : a ≤ 1048576) (n : Nat) (hn : n = xs.length) :
    Calls Tryz.prog 25 #[.slice A n c, .string ⟨#[]⟩, .pointer (some ⟨b, 0, none⟩), .pointer (some ⟨b + 1, 0, none⟩)] w fun e w' => e = .returned (.tuple #[]) ∧ BL b (a + xs.length) (l ++ lineB a xs []) w' ∧ Below b w w' := by
  have h1 := hexS_size a 4 (.inr (.inr rfl))
  have h2 := sepL_le xs
  have h3 := bstr_size (sepL xs)
  have h4 : (bstr (sepL xs)).size ≤ 1000 := by omega
  have hsz : (hexS a 4 ++ (⟨#[32, 32]⟩ : ByteArray) ++ bstr (sepL xs) ++ (⟨#[10]⟩ : ByteArray)).size ≤ 2000 := by
    simp only [ByteArray.size_append]
    have e1 : (⟨#[32, 32]⟩ : ByteArray).size = 2 := rfl
    have e2 : (⟨#[10]⟩ : ByteArray).size = 1 := rfl
    omega
  have hb := H.lt
  have y0 := blk_cell (i := 0) H.at_ rfl
  have HH := Lib.hid H
  subst hn
  clear h3 H
  go_enter Tryz.func25, Tryz.ntmps25
  go_wp2_with (first | (go_at_call 26; refine (plain_hex _ _ xs _ R hx (by omega) _ rfl).mono ?_; rintro e w1 ⟨rfl, hb1⟩; have H1 := HH.out.below hb1; have y1 := blk_cell (i := 0) H1.at_ rfl) | (go_at_call 29; refine (bits_Hex a 4 (.inr (.inr rfl)) _ _ rfl).mono ?_; rintro e w2 ⟨rfl, hb2⟩; have H2 := H1.below hb2) | (go_at_call 28; refine (wr_str b a l _ _ H2 (by omega)).mono ?_; rintro e w3 ⟨rfl, H3, hb3⟩; have y3 := blk_cell (i := 0) H3.at_ rfl; have f3 := blk_frozen (i := 0) H3.at_; have hl3 := H3.lt))
  go_end0
  exact ⟨rfl, by rw [← line_0]; exact H3.put _, (hb1.trans (hb2.mono hb1.size)).mono (by omega) |>.trans hb3 |>.setCell (by simp) _⟩
theorem rep_data (n : Nat) : Lib.repeatL [32] n = List.replicate n 32 := by
  induction n with
  | zero => rfl
  | succ n ih => rw [List.replicate_succ, ← ih]; rfl
theorem repeat_b (c : Nat) (k : Int) (w : World) (hk : k = c) (hc : c ≤ 8) : Calls Tryz.prog 27 #[.string ⟨#[32]⟩, .int .i64 k] w fun e w' => e = .returned (.string (bstr (List.replicate c 32))) ∧ Below w.heap.size w w' := by
  subst hk
  have h := Tryz.strings_Repeat ⟨#[32]⟩ c w (by omega) (by show 1 * c ≤ _; omega)
  have e : Lib.repeatL (⟨#[32]⟩ : ByteArray).data.toList c = List.replicate c 32 := rep_data c
  rw [e] at h
  exact h
theorem line_1 (a : Int) (xs : List Int) (t : ByteArray) (ht : t.data.toList ≠ []) : (hexS a 4 ++ (⟨#[32, 32]⟩ : ByteArray) ++ (bstr (sepL xs) ++ (bstr (List.replicate (8 - (sepL xs).length) 32) ++ (⟨#[32, 32]⟩ : ByteArray) ++ t)) ++ (⟨#[10]⟩ : ByteArray)).data.toList = lineB a xs t.data.toList := by
  unfold lineB digL bstr hx
  rw [if_neg ht]
  simp
set_option maxHeartbeats 2000000 in
set_option maxRecDepth 100000 in
theorem plain_line_1 (w : World) (b : Nat) (a : Int) (l : List UInt8) (A : Option Addr) (c : Nat) (xs : List Int) (t : ByteArray) (H : BL b a l w) (R : RdB w A xs) (hx : Bytes xs) (hl : l.length ≤ 1099511627776) (hs : xs.length ≤ 3) (ha : 0 ≤ a) (ha2 : a ≤ 1048576) (ht : t.size ≠ 0) (ht2 : t.size ≤ 100) (n : Nat) (hn : n = xs.length) :
    Calls Tryz.prog 25 #[.slice A n c, .string t, .pointer (some ⟨b, 0, none⟩), .pointer (some ⟨b + 1, 0, none⟩)] w fun e w' => e = .returned (.tuple #[]) ∧ BL b (a + xs.length) (l ++ lineB a xs t.data.toList) w' ∧ Below b w w' := by
  have h1 := hexS_size a 4 (.inr (.inr rfl))
  have h2 := sepL_len xs hx
  have h3 := bstr_size (sepL xs)
  have h5 := bstr_size (List.replicate (8 - (sepL xs).length) (32 : UInt8))
  rw [List.length_replicate] at h5
  have h4 : (bstr (sepL xs)).size ≤ 8 := by omega
  have hsz : (hexS a 4 ++ (⟨#[32, 32]⟩ : ByteArray) ++ (bstr (sepL xs) ++ (bstr (List.replicate (8 - (sepL xs).length) 32) ++ (⟨#[32, 32]⟩ : ByteArray) ++ t)) ++ (⟨#[10]⟩ : ByteArray)).size ≤ 2000 := by
    simp only [ByteArray.size_append]
    have e1 : (⟨#[32, 32]⟩ : ByteArray).size = 2 := rfl
    have e2 : (⟨#[10]⟩ : ByteArray).size = 1 := rfl
    omega
  have htl : t.data.toList ≠ [] := fun e => ht (by have := congrArg List.length e; rw [bl_size] at this; exact this)
  have HL := Lib.hid (line_1 a xs t htl)
  have t1 : t.toList.isEmpty = false := by rw [Lib.toList_data]; simpa using htl
  have t2 : (t.toList == ([] : List UInt8)) = false := by rw [Lib.toList_data]; simpa using htl
  have hb := H.lt
  have y0 := blk_cell (i := 0) H.at_ rfl
  have HH := Lib.hid H
  have H8 := Lib.hid h3
  have h6 : (bstr (List.replicate (8 - (sepL xs).length) (32 : UInt8))).size ≤ 8 := by omega
  subst hn
  clear h2 h3 h5 H htl ht
  generalize hrep : List.replicate (8 - (sepL xs).length) (32 : UInt8) = rp at *
  have HR := Lib.hid hrep
  clear hrep
  go_enter Tryz.func25, Tryz.ntmps25
  go_wp2_with (first | (go_at_call 26; refine (plain_hex _ _ xs _ R hx (by omega) _ rfl).mono ?_; rintro e w1 ⟨rfl, hb1⟩; have H1 := HH.out.below hb1; have y1 := blk_cell (i := 0) H1.at_ rfl) | (go_at_call 27; refine (repeat_b (8 - (sepL xs).length) _ _ (by have := H8.out; omega) (by omega)).mono ?_; rw [HR.out]; rintro e wr ⟨rfl, hbr⟩; have Hr := H1.below hbr; have yr := blk_cell (i := 0) Hr.at_ rfl) | (go_at_call 29; refine (bits_Hex a 4 (.inr (.inr rfl)) _ _ rfl).mono ?_; rintro e w2 ⟨rfl, hb2⟩; have H2 := Hr.below hb2) | (go_at_call 28; refine (wr_str b a l _ _ H2 (by omega)).mono ?_; rintro e w3 ⟨rfl, H3, hb3⟩; have y3 := blk_cell (i := 0) H3.at_ rfl; have f3 := blk_frozen (i := 0) H3.at_; have hl3 := H3.lt))
  go_end0
  exact ⟨rfl, by rw [← HL.out]; exact H3.put _, (hb1.trans ((hbr.trans (hb2.mono hbr.size)).mono hb1.size)).mono (by omega) |>.trans hb3 |>.setCell (by simp) _⟩
end Go.Proofs.YtofhdlkocgbcgaaGreatDoor
