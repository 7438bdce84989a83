/- The reference's digits and line. -/
import Derived.Test.YtofhdlkocgbcgaaGreatDoorSizW
import Derived.Test.YtofhdlkocgbcgaaGreatDoorPLnA
import Derived.Test.YtofhdlkocgbcgaaGreatDoorRefC
import Derived.Lib.AppendStr
namespace Go.Proofs.YtofhdlkocgbcgaaGreatDoor
open Go Go.RowKit Pu
set_option linter.unusedVariables false
set_option linter.unusedSimpArgs false
/-- Bytes in a row of the call's own. -/
def OB (B : Nat) (w : World) (v : Value) (l : List UInt8) : Prop := w.ownsRow B 5 1 v l.length (Lib.byteCells l)
theorem OB.nil (B : Nat) (w : World) : OB B w (.slice none 0 0) [] := World.ownsRow_nil _ _ _ _
theorem OB.below {B : Nat} {w w' : World} {v : Value} {l : List UInt8} (h : OB B w v l) (k : Below w.heap.size w w') : OB B w' v l := own_below h k
theorem OB.mono {B B' : Nat} {w : World} {v : Value} {l : List UInt8} (h : OB B w v l) (hB : B' ≤ B) : OB B' w v l := by
  refine ⟨h.1, ?_⟩
  rcases h.2 with h | ⟨g, cap, cur, h1, h2, h3⟩
  · exact .inl h
  · exact .inr ⟨g, cap, cur, h1, Nat.le_trans hB h2, h3⟩
theorem OB.form {B : Nat} {w : World} {v : Value} {l : List UInt8} (h : OB B w v l) : ∃ A c, v = .slice A l.length c ∧ Src w A l.length 1 (Lib.byteCells l) := by
  rcases h.2 with ⟨rfl, e⟩ | ⟨g, cap, cur, rfl, _⟩
  · obtain rfl : l = [] := List.eq_nil_of_length_eq_zero e
    exact ⟨none, 0, rfl, Src.of_own h⟩
  · exact ⟨_, _, rfl, Src.of_own h⟩
theorem OB.form' {B : Nat} {w : World} {v : Value} {l : List UInt8} (h : OB B w v l) (n : Nat) (hn : l.length = n) : ∃ A c, v = .slice A n c ∧ Src w A n 1 (Lib.byteCells l) := hn ▸ h.form
def padT (dg : List UInt8) (L : Nat) : List UInt8 := dg ++ List.replicate (L - dg.length) 32
theorem padT_len {dg : List UInt8} {L : Nat} (h : dg.length ≤ L) : (padT dg L).length = L := by unfold padT; simp; omega
theorem padT_succ {dg : List UInt8} {L : Nat} (h : dg.length ≤ L) : padT dg (L + 1) = padT dg L ++ [32] := by
  unfold padT
  rw [show L + 1 - dg.length = (L - dg.length) + 1 by omega, List.replicate_succ', List.append_assoc]
theorem padT_start (dg : List UInt8) : padT dg dg.length = dg := by unfold padT; simp
theorem padT_end {dg : List UInt8} (h : dg.length ≤ 16) : padT dg 16 = padL dg := rfl
theorem byteCells_1 (l : List UInt8) : ∀ u ∈ Lib.byteCells l, u.oneCell' = true := by
  intro u hu
  unfold Lib.byteCells at hu
  obtain ⟨x, _, rfl⟩ := List.mem_map.1 hu
  rfl
theorem ob_str {ops : Array Oper} {rest : List Oper} {o : Oper} {a : Act} {Q : Exit → Act → World → Prop} (hgd : o.guard = none) (sl x : Operand)
    (ho : o.op = .call { callee := .builtin .append, args := #[sl, x], argTypes := #[39, 9] }) (B : Nat) (w : World) (v : Value) (l : List UInt8) (hs : a.eval sl = v) (H : OB B w v l) (s : ByteArray) (hx : a.eval x = .string s)
    (hl : l.length + s.size ≤ 1099511627776) (hB : B ≤ w.heap.size) (h : ∀ v' w', OB B w' v' (l ++ s.data.toList) → Below B w w' → w.heap.size ≤ w'.heap.size → wpList Tryz.prog ops Q rest (a.put o.dst v') w') : wpList Tryz.prog ops Q (o :: rest) a w := by
  obtain ⟨i5, i5a, i5b, i5c, i5d⟩ := info_parts info5u
  refine Lib.wpList_append_own_string w hgd sl x 39 9 ho B 5 i5 Tryz.underlying39 Tryz.underlying9 i5a i5b i5c i5d v l.length (Lib.byteCells l) hs H s hx (by unfold maxLen; omega) (by omega) hB ?_
  intro v' w' h1 h2 _
  have hb : Below B w w' := (Below.refl _ _).grown h2 hB (fun q hq => (H.lt q hq).1)
  refine h v' w' ?_ hb hb.size
  unfold OB
  rw [List.length_append, bl_size, Lib.byteCells_append]
  exact h1
theorem ob_src {ops : Array Oper} {rest : List Oper} {o : Oper} {a : Act} {Q : Exit → Act → World → Prop} (hgd : o.guard = none) (sl x : Operand)
    (ho : o.op = .call { callee := .builtin .append, args := #[sl, x], argTypes := #[39, 39] }) (B : Nat) (w : World) (v : Value) (l : List UInt8) (hs : a.eval sl = v) (H : OB B w v l) (A : Option Addr) (m c : Nat) (t : List UInt8) (hx : a.eval x = .slice A m c) (hr : Src w A m 1 (Lib.byteCells t)) (hm : m = t.length)
    (hl : l.length + t.length ≤ 1099511627776) (hB : B ≤ w.heap.size) (h : ∀ v' w', OB B w' v' (l ++ t) → Below B w w' → w.heap.size ≤ w'.heap.size → wpList Tryz.prog ops Q rest (a.put o.dst v') w') : wpList Tryz.prog ops Q (o :: rest) a w := by
  obtain ⟨i5, i5a, i5b, i5c, i5d⟩ := info_parts info5u
  refine wpList_append_src w hgd sl x 39 ho B 5 i5 _ 1 1 Tryz.underlying39 i5a i5b i5c i5d rfl (by decide) v l.length (Lib.byteCells l) hs H A m c _ hx hr (byteCells_1 t) (by unfold maxLen; omega) (by omega) hB ?_
  intro v' w' h1 h2 _
  have hb : Below B w w' := (Below.refl _ _).grown h2 hB (fun q hq => (H.lt q hq).1)
  refine h v' w' ?_ hb hb.size
  unfold OB
  rw [List.length_append, Lib.byteCells_append, ← hm]
  exact h1
theorem src_32 (w : World) (k : Nat) (b : UInt8) (hk : (k : Int) = b.toNat) : Src (w.alloc (.cells #[.int .u8 k] 5)) (some ⟨w.heap.size, 0, none⟩) 1 1 (Lib.byteCells [b]) := by
  have := Src.block (m := 1) (size := 1) (heap_alloc_new w (.cells #[.int .u8 k] 5)) rfl
  rw [hk] at this ⊢
  exact this
set_option maxHeartbeats 4000000 in
set_option maxRecDepth 100000 in
theorem r15_digits (a : Int) (A : Option Addr) (c : Nat) (b : List Int) (w : World) (R : RdB w A b) (hb : Bytes b) (hl : b.length ≤ 1048576) (a0 : -9223372036854775808 ≤ a) (a1 : a ≤ 2147483647) (n : Nat) (hn : n = b.length) : Calls Tryz.prog 41 #[.int .i64 a, .slice A n c] w fun e w' => (∃ v, e = .returned v ∧ OB w.heap.size w' v (digL a b)) ∧ Below w.heap.size w w' := by
  subst hn
  have h4 := hexS_size a 4 (.inr (.inr rfl))
  have hx4 : (hexS a 4).data.toList = hx a 4 := rfl
  have h5 := hx_le a 4 (.inr rfl)
  have HX := Lib.hid hx4
  clear hx4
  go_enter Tryz.func41, Tryz.ntmps41
  go_wp2_with (first | (go_at_call 68; refine (r1_Hex a 4 (.inr rfl) a1 _ _ rfl).mono ?_; rintro e w1 ⟨rfl, hb1⟩) | (at_builtin; refine ob_str rfl (.tmp 11) (.tmp 12) rfl w.heap.size _ _ [] rfl (OB.nil _ _) _ rfl (by simp; omega) hb1.size ?_; intro v2 w2 o2 b2 z2; rw [HX.out, List.nil_append] at o2) | (at_builtin; refine ob_str rfl (.tmp 14) (.const (.string ⟨#[32, 32]⟩)) rfl w.heap.size _ _ _ rfl o2 _ rfl (by have : (⟨#[32, 32]⟩ : ByteArray).size = 2 := rfl; omega) (by have := hb1.size; omega) ?_; intro v3 w3 o3 b3 z3))
  have hb3 : Below w.heap.size w w3 := hb1.trans (b2.trans b3)
  have o3' : OB w.heap.size w3 v3 (hx a 4 ++ [32, 32] ++ sepL (b.take 0)) := by
    have e : hx a 4 ++ [32, 32] ++ sepL (b.take 0) = hx a 4 ++ (⟨#[32, 32]⟩ : ByteArray).data.toList := by simp [sepL, Lib.join]
    rw [e]; exact o3
  clear o3 o2 b2 b3 z2 z3 hb1
  go_loopw [5, 7] (fun v i wr => ∃ k : Nat, i = .int .i64 k ∧ k ≤ b.length ∧ OB w.heap.size wr v (hx a 4 ++ [32, 32] ++ sepL (b.take k)) ∧ Below w.heap.size w wr) (fun _ i _ => b.length - (intOf i).toNat)
  case atStart => exact ⟨0, rfl, Nat.zero_le _, o3', hb3⟩
  case round =>
    clear o3' hb3
    obtain ⟨k, rfl, hk, ho, hbw⟩ := hrel
    have hz := hbw.size
    by_cases hlt : k < b.length
    · have hki : (k : Int) < b.length := by omega
      obtain ⟨g, off, rfl, hg, hr⟩ := R (by omega)
      have c0w := hr k hlt
      have c0 := cellB hbw c0w
      have hby := arg_byte hb k
      have hst := sepL_take b k hlt
      have hsl := sepL_le (b.take k)
      rw [List.length_take] at hsl
      have hcur : (hx a 4 ++ [32, 32] ++ sepL (b.take k)).length ≤ 4194304 := by simp; omega
      generalize hcu : hx a 4 ++ [32, 32] ++ sepL (b.take k) = cu at *
      generalize b.getD k 0 = x at *
      have h2 := hexS_size x 2 (.inr (.inl rfl))
      have HX2 := Lib.hid (show (hexS x 2).data.toList = hx x 2 from rfl)
      clear hr
      by_cases hk0 : k = 0
      · have hk1 : ¬ (0 : Int) < k := by omega
        have hnx : hx a 4 ++ [32, 32] ++ sepL (b.take (k + 1)) = cu ++ hx x 2 := by rw [hst, if_pos hk0, ← hcu, hk0]; simp [sepL, Lib.join]
        have HN := Lib.hid hnx
        clear hnx hst hk0 hcu
        go_wp2_with (first | (go_at_call 68; refine (r1_Hex x 2 (.inl rfl) (by omega) _ _ rfl).mono ?_; rintro e w1 ⟨rfl, hb1⟩) | (at_builtin; refine ob_str rfl (.tmp 33) (.tmp 34) rfl w.heap.size _ _ cu rfl (ho.below hb1) _ rfl (by omega) (by have := hb1.size; omega) ?_; intro v2 w2 o2 b2 z2; rw [HX2.out] at o2))
        exact ⟨⟨k + 1, by go_num, by omega, by rw [HN.out]; exact o2, hbw.trans ((hb1.mono hz).trans b2)⟩, by simp [intOf]; omega⟩
      · have hk1 : (0 : Int) < k := by omega
        have hnx : hx a 4 ++ [32, 32] ++ sepL (b.take (k + 1)) = cu ++ [32] ++ hx x 2 := by rw [hst, if_neg hk0, ← hcu]; simp
        have HN := Lib.hid hnx
        clear hnx hst hk0 hcu
        go_wp2_with (first | (at_builtin; refine ob_src rfl (.tmp 24) (.tmp 25) rfl w.heap.size _ _ cu rfl (ho.below (belowA _)) _ 1 1 [32] rfl (src_32 _ 32 32 rfl) rfl (by simp; omega) (by simp; omega) ?_; intro v1 w1 o1 b1 z1; have hq1 : Below w.heap.size w w1 := hbw.trans (((Below.refl _ _).alloc hz _).trans b1); have c1 := cellB hq1 c0w) | (go_at_call 68; refine (r1_Hex x 2 (.inl rfl) (by omega) _ _ rfl).mono ?_; rintro e w2 ⟨rfl, hb2⟩) | (at_builtin; refine ob_str rfl (.tmp 33) (.tmp 34) rfl w.heap.size _ _ _ rfl (o1.below hb2) _ rfl (by simp; omega) (by have := hb2.size; simp at z1; omega) ?_; intro v2 w3 o2 b2 z2; rw [HX2.out] at o2))
        exact ⟨⟨k + 1, by go_num, by omega, by rw [HN.out]; exact o2, hq1.trans ((hb2.mono hq1.size).trans b2)⟩, by simp [intOf]; omega⟩
    · obtain rfl : k = b.length := by omega
      rw [List.take_length] at ho
      go_wp2
      go_ret
      exact ⟨⟨_, rfl, ho⟩, hbw⟩
set_option maxHeartbeats 1000000 in
set_option maxRecDepth 100000 in
theorem r15_line_lbl (nm : ByteArray) (A : Option Addr) (c : Nat) (a : Int) (hn : nm.size ≤ 16) (w : World) : Calls Tryz.prog 19 #[.agg #[.int .u8 1, .string nm, .int .i64 0, .string ⟨#[]⟩, .int .u8 0, .slice A 0 c], .int .i64 a] w fun e w' => (∃ v, e = .returned v ∧ OB w.heap.size w' v (nm.data.toList ++ [58, 10])) ∧ Below w.heap.size w w' := by
  have h1 := bl_size nm
  have h2 : (⟨#[58, 10]⟩ : ByteArray).size = 2 := rfl
  have H1 := Lib.hid h1
  have H2 := Lib.hid h2
  clear h1 h2
  go_enter Tryz.func19, Tryz.ntmps19
  go_wp2_with (first | (at_builtin; refine ob_str rfl (.tmp 17) (.tmp 19) rfl w.heap.size _ _ [] rfl (OB.nil _ _) nm rfl (by simp; omega) (by simp) ?_; intro v2 w2 o2 b2 z2) | (at_builtin; refine ob_str rfl (.tmp 21) (.const (.string ⟨#[58, 10]⟩)) rfl w.heap.size _ _ _ rfl o2 _ rfl (by have := H1.out; have := H2.out; simp; omega) (by simp at z2; omega) ?_; intro v3 w3 o3 b3 z3))
  go_ret
  exact ⟨⟨_, rfl, by simpa using o3⟩, ((belowA _).trans (b2.trans b3))⟩
set_option maxRecDepth 100000 in
theorem r15_line_at (nm : ByteArray) (x a : Int) (A : Option Addr) (c : Nat) (w : World) : Calls Tryz.prog 19 #[.agg #[.int .u8 4, .string nm, .int .i64 x, .string ⟨#[]⟩, .int .u8 0, .slice A 0 c], .int .i64 a] w fun e w' => (∃ v, e = .returned v ∧ OB w.heap.size w' v []) ∧ Below w.heap.size w w' := by
  go_enter Tryz.func19, Tryz.ntmps19
  go_wp2
  go_ret
  exact ⟨⟨_, rfl, OB.nil _ _⟩, belowA _⟩
set_option maxHeartbeats 4000000 in
set_option maxRecDepth 100000 in
theorem r15_line_code (nm : ByteArray) (ar a : Int) (n : Nat) (hd : DecOK nm ar n) (A : Option Addr) (c : Nat) (a0 : 0 ≤ a) (a1 : a + n ≤ 65536) (w : World) : Calls Tryz.prog 19 #[.agg #[.int .u8 2, .string nm, .int .i64 ar, .string ⟨#[]⟩, .int .u8 0, .slice A 0 c], .int .i64 a] w fun e w' => (∃ v, e = .returned v ∧ OB w.heap.size w' v (padL (digL a (encI nm ar).2) ++ (printI nm ar).1.data.toList ++ [10])) ∧ Below w.heap.size w w' := by
  obtain ⟨p1, p2⟩ := print_size hd
  have hEn := hd.enc
  have hEl := hd.len
  have hEb := hd.bts
  have hn3 := hd.n3
  have hnz := hd.sz
  have hdl : (digL a (encI nm ar).2).length ≤ 16 := by
    have h2 := hx_len a 4 (.inr rfl) a0 (by have := hd.n1; omega)
    have h3 := sepL_len _ hEb
    unfold digL; simp [h2]; omega
  have hPe : (printI nm ar).2 = 0 := by unfold printI; rw [if_pos hEn]; split <;> rfl
  have HPE := Lib.hid hPe
  have hts := bl_size (printI nm ar).1
  clear hPe hd
  generalize hen : encI nm ar = en at *
  generalize htx : (printI nm ar).1 = tx at *
  have HTX := Lib.hid htx
  obtain ⟨e1, e2⟩ := en
  simp only at *
  subst hEn
  have HEN := Lib.hid hen
  have HEL := Lib.hid hEl
  have HTS := Lib.hid hts
  clear hen hEl htx hts
  go_enter Tryz.func19, Tryz.ntmps19
  go_wp2_with (first | (go_at_call 40; refine (r2_Encode nm ar _).mono ?_; rw [HEN.out]; rintro e w1 ⟨⟨v1, rfl, ob1⟩, hb1⟩; obtain ⟨A2, c2, rfl, R2⟩ := ob1.rd; have y1 := cellB hb1 (a := ⟨w.heap.size, 1, none⟩) (v := .string nm) (by simp); have y2 := cellB hb1 (a := ⟨w.heap.size, 2, none⟩) (v := .int .i64 ar) (by simp)) | (go_at_call 41; refine (r15_digits a A2 c2 e2 _ R2 hEb (by have := HEL.out; omega) (by omega) (by omega) _ rfl).mono ?_; rintro e w2 ⟨⟨v2, rfl, o2⟩, hb2⟩; have x1 := cellB hb2 y1; have x2 := cellB hb2 y2))
  generalize hdg : digL a e2 = dg at *
  have HDG := Lib.hid hdg
  have hq1 := below1 hb1
  have hw1 : w.heap.size + 1 ≤ w1.heap.size := by have := hb1.size; simp at this; omega
  have hb1' : Below (w.heap.size + 1) (w.alloc (.cells #[.int .u8 2, .string nm, .int .i64 ar, .string ⟨#[]⟩, .int .u8 0, .slice A 0 c] 52)) w1 := by simpa using hb1
  have hq2 : Below (w.heap.size + 1) (w.alloc (.cells #[.int .u8 2, .string nm, .int .i64 ar, .string ⟨#[]⟩, .int .u8 0, .slice A 0 c] 52)) w2 := hb1'.trans (hb2.mono hw1)
  have hz2 := hq2.size
  rw [show (w.alloc (.cells #[.int .u8 2, .string nm, .int .i64 ar, .string ⟨#[]⟩, .int .u8 0, .slice A 0 c] 52)).heap.size = w.heap.size + 1 by simp] at hz2
  obtain ⟨A3, c3, rfl, _⟩ := o2.form
  have o2' := o2.mono (B' := w.heap.size + 1) hw1
  clear hdg o2 hb1 hb2 R2 y1 y2 x1 x2 ob1 hb1'
  have v1 : (w.alloc (.cells #[.int .u8 2, .string nm, .int .i64 ar, .string ⟨#[]⟩, .int .u8 0, .slice A 0 c] 52)).cell? ⟨w.heap.size, 1, none⟩ = some (.string nm) := by simp
  have v2 : (w.alloc (.cells #[.int .u8 2, .string nm, .int .i64 ar, .string ⟨#[]⟩, .int .u8 0, .slice A 0 c] 52)).cell? ⟨w.heap.size, 2, none⟩ = some (.int .i64 ar) := by simp
  have hV := belowA (w := w) (.cells #[.int .u8 2, .string nm, .int .i64 ar, .string ⟨#[]⟩, .int .u8 0, .slice A 0 c] 52)
  have hVz : (w.alloc (.cells #[.int .u8 2, .string nm, .int .i64 ar, .string ⟨#[]⟩, .int .u8 0, .slice A 0 c] 52)).heap.size = w.heap.size + 1 := by simp
  generalize w.alloc (.cells #[.int .u8 2, .string nm, .int .i64 ar, .string ⟨#[]⟩, .int .u8 0, .slice A 0 c] 52) = V at *
  have HVZ := Lib.hid hVz
  clear hVz
  go_loopw [5] (fun v wr => ∃ (L : Nat) (A' : Option Addr) (c' : Nat), v = .slice A' L c' ∧ dg.length ≤ L ∧ L ≤ 16 ∧ OB (w.heap.size + 1) wr (.slice A' L c') (padT dg L) ∧ Below (w.heap.size + 1) V wr) (fun v _ => 16 - vlen v)
  case atStart => exact ⟨dg.length, A3, c3, rfl, Nat.le_refl _, hdl, by rw [padT_start]; exact o2', hq2⟩
  case round =>
    clear o2' hq2 hz2
    obtain ⟨L, A', c', rfl, hL1, hL2, ho, hbw⟩ := hrel
    have hz : w.heap.size + 1 ≤ wr.heap.size := by have := hbw.size; have := HVZ.out; omega
    have HPL := Lib.hid (padT_len hL1)
    by_cases hlt : L < 16
    · have hki : (L : Int) < 16 := by omega
      have HPS := Lib.hid (padT_succ hL1)
      go_wp2_with (first | (at_builtin; refine ob_src rfl (.tmp 40) (.tmp 41) rfl (w.heap.size + 1) _ _ _ rfl (ho.below (belowA _)) _ 1 1 [32] rfl (src_32 _ 32 32 rfl) rfl (by rw [HPL.out]; simp; omega) (by simp; omega) ?_; intro v3 w3 o3 b3 z3))
      rw [← HPS.out] at o3
      obtain ⟨A5, c5, rfl, _⟩ := o3.form' (L + 1) (by rw [HPS.out, List.length_append, HPL.out]; rfl)
      exact ⟨⟨L + 1, A5, c5, rfl, by omega, by omega, o3, hbw.trans (((Below.refl _ _).alloc hz _).trans b3)⟩, by simp [vlen]; omega⟩
    · obtain rfl : L = 16 := by omega
      rw [padT_end hL1] at ho
      have w1' : wr.cell? ⟨w.heap.size, 1, none⟩ = some (.string nm) := (hbw.cell (p := ⟨w.heap.size, 1, none⟩) (Nat.lt_succ_self _)).trans v1
      have w2' : wr.cell? ⟨w.heap.size, 2, none⟩ = some (.int .i64 ar) := (hbw.cell (p := ⟨w.heap.size, 2, none⟩) (Nat.lt_succ_self _)).trans v2
      have hpl : (padL dg).length = 16 := padT_len hL1
      have HPP := Lib.hid hpl
      clear v1 v2 hpl
      go_wp2_with (first | (go_at_call 42; refine (r2_Print nm ar _ (by omega)).mono ?_; rw [HTX.out, HPE.out]; rintro e w4 ⟨rfl, hb4⟩) | (at_builtin; refine ob_str rfl (.tmp 52) (.tmp 53) rfl (w.heap.size + 1) _ _ _ rfl (ho.below hb4) _ rfl (by rw [HPP.out]; omega) (by have := hb4.size; omega) ?_; intro v5 w5 o5 b5 z5) | (at_builtin; refine ob_src rfl (.tmp 55) (.tmp 56) rfl (w.heap.size + 1) _ _ _ rfl (o5.below (belowA _)) _ 1 1 [10] rfl (src_32 _ 10 10 rfl) rfl (by have := HTS.out; rw [List.length_append, HPP.out]; simp; omega) (by have := hb4.size; simp; omega) ?_; intro v6 w6 o6 b6 z6))
      go_ret
      have hq4 : Below (w.heap.size + 1) V w4 := hbw.trans (hb4.mono hz)
      have hq5 := hq4.trans b5
      have z4 : wr.heap.size ≤ w4.heap.size := hb4.size
      have hq6 : Below (w.heap.size + 1) V w6 := (hq5.alloc (Nat.le_trans hz (Nat.le_trans z4 z5)) _).trans b6
      exact ⟨⟨v6, rfl, by rw [HDG.out]; exact o6.mono (B' := w.heap.size) (Nat.le_succ _)⟩, hV.trans (hq6.mono (Nat.le_succ _))⟩
/-- One row of eight more. -/
theorem rows8_step (a : Int) (xs : List Int) (k : Nat) (h : k < xs.length) : rowsL8 (a + k) (xs.drop k) = digL (a + k) ((xs.drop k).take 8) ++ [10] ++ rowsL8 (a + (k + 8 : Nat)) (xs.drop (k + 8)) := by
  have hne : xs.drop k ≠ [] := fun e => by have := congrArg List.length e; rw [List.length_drop] at this; simp at this; omega
  have e2 : (xs.drop k).drop 8 = xs.drop (k + 8) := by rw [List.drop_drop]
  rw [rowsL8_step _ hne, e2]
  by_cases h8 : k + 8 ≤ xs.length
  · have e : ((xs.drop k).take 8).length = 8 := by rw [List.length_take, List.length_drop]; omega
    rw [e, show a + (k : Int) + (8 : Nat) = a + (k + 8 : Nat) by omega]
    simp
  · have e3 : xs.drop (k + 8) = [] := List.drop_eq_nil_of_le (by omega)
    rw [e3, rowsL8_nil, rowsL8_nil]
    simp
set_option maxHeartbeats 4000000 in
set_option maxRecDepth 100000 in
theorem r15_line_data (xs : List Int) (a : Int) (A : Option Addr) (c : Nat) (w : World) (R : RdB w A xs) (hb : Bytes xs) (hl : xs.length ≤ 256) (hc : xs.length ≤ c) (a0 : 0 ≤ a) (a1 : a ≤ 65536) (n : Nat) (hn : n = xs.length) : Calls Tryz.prog 19 #[.agg #[.int .u8 3, .string ⟨#[]⟩, .int .i64 0, .string ⟨#[]⟩, .int .u8 0, .slice A n c], .int .i64 a] w fun e w' => (∃ v, e = .returned v ∧ OB w.heap.size w' v (rowsL8 a xs)) ∧ Below w.heap.size w w' := by
  subst hn
  have hrl := rowsL8_le xs.length a xs (Nat.le_refl _)
  go_enter Tryz.func19, Tryz.ntmps19
  go_wp2_with fail
  have v5 : (w.alloc (.cells #[.int .u8 3, .string ⟨#[]⟩, .int .i64 0, .string ⟨#[]⟩, .int .u8 0, .slice A xs.length c] 52)).cell? ⟨w.heap.size, 5, none⟩ = some (.slice A xs.length c) := by simp
  have hV := belowA (w := w) (.cells #[.int .u8 3, .string ⟨#[]⟩, .int .i64 0, .string ⟨#[]⟩, .int .u8 0, .slice A xs.length c] 52)
  have hVz : (w.alloc (.cells #[.int .u8 3, .string ⟨#[]⟩, .int .i64 0, .string ⟨#[]⟩, .int .u8 0, .slice A xs.length c] 52)).heap.size = w.heap.size + 1 := by simp
  generalize w.alloc (.cells #[.int .u8 3, .string ⟨#[]⟩, .int .i64 0, .string ⟨#[]⟩, .int .u8 0, .slice A xs.length c] 52) = V at *
  have HVZ := Lib.hid hVz
  clear hVz
  generalize htot : rowsL8 a xs = tot at *
  have HT0 := Lib.hid htot
  clear htot
  go_loopw [5, 10] (fun v i wr => ∃ (k : Nat) (txt : List UInt8), i = .int .i64 k ∧ k ≤ xs.length + 8 ∧ txt ++ rowsL8 (a + k) (xs.drop k) = tot ∧ OB (w.heap.size + 1) wr v txt ∧ Below (w.heap.size + 1) V wr) (fun _ i _ => xs.length + 8 - (intOf i).toNat)
  case atStart => exact ⟨0, [], rfl, by omega, by rw [← HT0.out]; simp, OB.nil _ _, Below.refl _ _⟩
  case round =>
    obtain ⟨k, txt, rfl, hk, ht, ho, hbw⟩ := hrel
    have hz : w.heap.size + 1 ≤ wr.heap.size := by have := hbw.size; have := HVZ.out; omega
    have w5' : wr.cell? ⟨w.heap.size, 5, none⟩ = some (.slice A xs.length c) := (hbw.cell (p := ⟨w.heap.size, 5, none⟩) (Nat.lt_succ_self _)).trans v5
    by_cases hlt : k < xs.length
    · have hki : (k : Int) < xs.length := by omega
      have hst := rows8_step a xs k hlt
      rw [hst] at ht
      have htl := congrArg List.length ht
      simp only [List.length_append] at htl
      obtain ⟨q, hq⟩ : ∃ q, q = min (k + 8) xs.length := ⟨_, rfl⟩
      have hqt : ((xs.drop k).take 8).length = q - k := by rw [List.length_take, List.length_drop]; omega
      have hAb : ∀ x, A = some x → x.block < w.heap.size := by
        obtain ⟨g, off, rfl, hg, _⟩ := R (by omega)
        intro x hx
        injection hx with hx
        subst hx
        exact hg
      have R2 : RdB wr (cutA A c k) ((xs.drop k).take 8) := (((R.below hV).belowB (hbw.mono (Nat.le_succ _)) hAb).cut c k hc).take 8
      have hB2 : Bytes ((xs.drop k).take 8) := (hb.drop k).take 8
      unfold cutA at R2
      rw [if_neg (show ¬ c = k by omega)] at R2
      have hdl : (digL (a + k) ((xs.drop k).take 8)).length ≤ 100 := by
        have h1 := sepL_le ((xs.drop k).take 8)
        have h2 := hx_le (a + k) 4 (.inr rfl)
        unfold digL
        simp only [List.length_append, List.length_cons, List.length_nil]
        omega
      generalize (xs.drop k).take 8 = ys at *
      have HT := Lib.hid ht
      have HQT := Lib.hid hqt
      have kq : k ≤ q := by omega
      have qc : q ≤ c := by omega
      have htx : txt.length ≤ 16384 := by omega
      have hq9 : q - k ≤ 8 := by omega
      by_cases h8 : k + 8 ≤ xs.length
      · have h8i : ¬ (xs.length : Int) < k + 8 := by omega
        have hqe : q = k + 8 := by omega
        have HQE := Lib.hid hqe
        clear hst ht htl hq hqt hqe HT0 hAb
        go_wp2_with (first | (go_at_call 41; refine (r15_digits (a + k) _ _ ys _ R2 hB2 (by have := HQT.out; omega) (by omega) (by omega) _ (by have := HQT.out; have := HQE.out; omega)).mono ?_; rintro e w2 ⟨⟨v2, rfl, o2⟩, hb2⟩; obtain ⟨A7, c7, rfl, s7⟩ := o2.form) | (at_builtin; refine ob_src rfl (.tmp 86) (.tmp 87) rfl (w.heap.size + 1) _ _ txt rfl (ho.below hb2) A7 _ c7 _ rfl s7 rfl (by omega) (by have := hb2.size; omega) ?_; intro v3 w3 o3 b3 z3) | (at_builtin; refine ob_src rfl (.tmp 89) (.tmp 90) rfl (w.heap.size + 1) _ _ _ rfl (o3.below (belowA _)) _ 1 1 [10] rfl (src_32 _ 10 10 rfl) rfl (by rw [List.length_append]; simp; omega) (by have := hb2.size; simp; omega) ?_; intro v6 w6 o6 b6 z6))
        have z2 : wr.heap.size ≤ w2.heap.size := hb2.size
        have hq2 : Below (w.heap.size + 1) V w2 := hbw.trans (hb2.mono hz)
        have hq6 : Below (w.heap.size + 1) V w6 := ((hq2.trans b3).alloc (Nat.le_trans hz (Nat.le_trans z2 z3)) _).trans b6
        exact ⟨⟨k + 8, txt ++ (digL (a + k) ys ++ [10]), by go_num, by omega, by rw [← HT.out]; simp only [List.append_assoc], by rw [List.append_assoc] at o6; exact o6, hq6⟩, by simp [intOf]; omega⟩
      · have h8i : (xs.length : Int) < k + 8 := by omega
        have hqe : q = xs.length := by omega
        have HQE := Lib.hid hqe
        clear hst ht htl hq hqt hqe HT0 hAb
        go_wp2_with (first | (go_at_call 41; refine (r15_digits (a + k) _ _ ys _ R2 hB2 (by have := HQT.out; omega) (by omega) (by omega) _ (by have := HQT.out; have := HQE.out; omega)).mono ?_; rintro e w2 ⟨⟨v2, rfl, o2⟩, hb2⟩; obtain ⟨A7, c7, rfl, s7⟩ := o2.form) | (at_builtin; refine ob_src rfl (.tmp 86) (.tmp 87) rfl (w.heap.size + 1) _ _ txt rfl (ho.below hb2) A7 _ c7 _ rfl s7 rfl (by omega) (by have := hb2.size; omega) ?_; intro v3 w3 o3 b3 z3) | (at_builtin; refine ob_src rfl (.tmp 89) (.tmp 90) rfl (w.heap.size + 1) _ _ _ rfl (o3.below (belowA _)) _ 1 1 [10] rfl (src_32 _ 10 10 rfl) rfl (by rw [List.length_append]; simp; omega) (by have := hb2.size; simp; omega) ?_; intro v6 w6 o6 b6 z6))
        have z2 : wr.heap.size ≤ w2.heap.size := hb2.size
        have hq2 : Below (w.heap.size + 1) V w2 := hbw.trans (hb2.mono hz)
        have hq6 : Below (w.heap.size + 1) V w6 := ((hq2.trans b3).alloc (Nat.le_trans hz (Nat.le_trans z2 z3)) _).trans b6
        exact ⟨⟨k + 8, txt ++ (digL (a + k) ys ++ [10]), by go_num, by omega, by rw [← HT.out]; simp only [List.append_assoc], by rw [List.append_assoc] at o6; exact o6, hq6⟩, by simp [intOf]; omega⟩
    · rw [List.drop_eq_nil_of_le (by omega), rowsL8_nil, List.append_nil] at ht
      have HT := Lib.hid ht
      clear ht
      go_wp2_with fail
      go_ret
      exact ⟨⟨_, rfl, by have h := ho.mono (B' := w.heap.size) (Nat.le_succ _); rw [HT.out] at h; rw [HT0.out]; exact h⟩, hV.trans (hbw.mono (Nat.le_succ _))⟩
end Go.Proofs.YtofhdlkocgbcgaaGreatDoor
