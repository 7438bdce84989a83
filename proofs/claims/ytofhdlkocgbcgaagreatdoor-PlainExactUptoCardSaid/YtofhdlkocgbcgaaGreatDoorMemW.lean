/- Memory words: what a call touches; rows of its own; items as they lie in the memory. -/
import Derived.Test.YtofhdlkocgbcgaaGreatDoorPlnP
import Derived.Below
import Derived.Laws.OwnMore
import Derived.Laws.AppendOwnNone
import Derived.Maps.AppendAt
import Derived.Deep.AppendLies
import Derived.OwnWalk
namespace Go.Proofs.YtofhdlkocgbcgaaGreatDoor
open Go Go.RowKit Pu
set_option linter.unusedVariables false
set_option linter.unusedSimpArgs false
/-- From w to w' the blocks of D alone may have turned. -/
structure Tch (D : Nat → Prop) (w w' : World) : Prop where
  os : w'.os = w.os
  tape : w'.tape = w.tape
  output : w'.output = w.output
  size : w.heap.size ≤ w'.heap.size
  block : ∀ k, k < w.heap.size → ¬ D k → w'.heap[k]? = w.heap[k]?
theorem Tch.refl (D : Nat → Prop) (w : World) : Tch D w w := ⟨rfl, rfl, rfl, Nat.le_refl _, fun _ _ _ => rfl⟩
theorem Tch.trans {D E : Nat → Prop} {a b c : World} (h : Tch D a b) (k : Tch E b c) (hd : ∀ j, j < a.heap.size → E j → D j) : Tch D a c :=
  ⟨k.os.trans h.os, k.tape.trans h.tape, k.output.trans h.output, Nat.le_trans h.size k.size, fun j hj hn => (k.block j (Nat.lt_of_lt_of_le hj h.size) fun e => hn (hd j hj e)).trans (h.block j hj hn)⟩
theorem Tch.mono {D E : Nat → Prop} {a b : World} (h : Tch E a b) (hd : ∀ j, j < a.heap.size → E j → D j) : Tch D a b :=
  ⟨h.os, h.tape, h.output, h.size, fun j hj hn => h.block j hj fun e => hn (hd j hj e)⟩
theorem Tch.drew {D : Nat → Prop} {a b : World} (h : Tch D a b) : Tch D a b.drew := ⟨h.os, h.tape, h.output, h.size, h.block⟩
theorem Tch.below {D : Nat → Prop} {a b c : World} (h : Tch D a b) (k : Below b.heap.size b c) : Tch D a c :=
  h.trans (E := fun _ => False) ⟨k.os, k.tape, k.output, k.size, fun j hj _ => k.block j hj⟩ (fun _ _ e => e.elim)
theorem Tch.alloc {D : Nat → Prop} {a b : World} (h : Tch D a b) (o : Obj) : Tch D a (b.alloc o) := h.below (belowA o)
theorem Tch.setCell {D : Nat → Prop} {a b : World} (h : Tch D a b) {p : Addr} (hp : p.block < a.heap.size → D p.block) (u : Value) : Tch D a (b.setCell p u) :=
  h.trans (E := fun k => k = p.block) ⟨rfl, rfl, rfl, by simp [World.setCell], fun j _ hj => Below.heap_setCell _ _ _ _ hj⟩ (fun j hj e => by subst e; exact hp hj)
theorem Tch.grown {D : Nat → Prop} {a b c : World} {row : Option Nat} (h : Tch D a b) (g : b.grownBy c row) (hr : ∀ k, k < a.heap.size → row = some k → D k) : Tch D a c :=
  h.trans (E := fun k => row = some k) ⟨g.os, g.tape, g.output, g.size, fun j hj hn => g.block j hj fun e => hn e.symm⟩ (fun j hj e => hr j hj e)
theorem Tch.to_below {D : Nat → Prop} {a b : World} (h : Tch D a b) {B : Nat} (hB : B ≤ a.heap.size) (hd : ∀ k, k < B → ¬ D k) : Below B a b :=
  ⟨h.os, h.tape, h.output, h.size, fun k hk => h.block k (by omega) (hd k hk)⟩
theorem Tch.heap {D : Nat → Prop} {a b : World} (h : Tch D a b) {k : Nat} {o : Obj} (ho : a.heap[k]? = some o) (hd : ¬ D k) : b.heap[k]? = some o := by
  have hlt : k < a.heap.size := by
    rcases Nat.lt_or_ge k a.heap.size with h1 | h1
    · exact h1
    · rw [Array.getElem?_eq_none h1] at ho; exact absurd ho (by simp)
  rw [h.block k hlt hd, ho]
theorem Tch.cell {D : Nat → Prop} {a b : World} (h : Tch D a b) {p : Addr} {v : Value} (hc : a.cell? p = some v) (hd : ¬ D p.block) : b.cell? p = some v :=
  (World.cell?_of_block (h.block _ (World.block_lt_of_cell? a p hc) hd)).trans hc
/-- A row of the call's own is kept where its block is not touched. -/
theorem own_tch {D : Nat → Prop} {a b : World} {B e size n : Nat} {v : Value} {xs : List Value} (h : a.ownsRow B e size v n xs) (t : Tch D a b) (hd : ∀ k, v.ownBlock = some k → ¬ D k) : b.ownsRow B e size v n xs := by
  refine ⟨h.1, ?_⟩
  rcases h.2 with hn | ⟨g, cap, cur, rfl, hb, hgg, rest⟩
  · exact .inl hn
  · exact .inr ⟨g, cap, cur, rfl, hb, t.heap hgg (hd g rfl), rest⟩
theorem own_below {a b : World} {B e size n : Nat} {v : Value} {xs : List Value} (h : a.ownsRow B e size v n xs) (k : Below a.heap.size a b) : b.ownsRow B e size v n xs :=
  own_tch h ((Tch.refl (fun _ => False) a).below k) (fun _ _ e => e)
theorem own_mono {a : World} {B B' e size n : Nat} {v : Value} {xs : List Value} (h : a.ownsRow B e size v n xs) (hB : B' ≤ B) : a.ownsRow B' e size v n xs := by
  refine ⟨h.1, ?_⟩
  rcases h.2 with hn | ⟨g, cap, cur, e1, hb, rest⟩
  · exact .inl hn
  · exact .inr ⟨g, cap, cur, e1, Nat.le_trans hB hb, rest⟩
/-- Two rows of unlike types lie apart. -/
theorem own_ne {a : World} {B B' e e' size size' n n' : Nat} {v v' : Value} {xs xs' : List Value} (h : a.ownsRow B e size v n xs) (h' : a.ownsRow B' e' size' v' n' xs') (hne : e ≠ e') {k : Nat} (hk : v.ownBlock = some k) : v'.ownBlock ≠ some k := by
  intro hk'
  rcases h.2 with ⟨rfl, _⟩ | ⟨g, cap, cur, rfl, _, hg, _⟩
  · simp [Value.ownBlock] at hk
  · rcases h'.2 with ⟨rfl, _⟩ | ⟨g', cap', cur', rfl, _, hg', _⟩
    · simp [Value.ownBlock] at hk'
    · simp only [Value.ownBlock, Option.some.injEq] at hk hk'
      subst hk; subst hk'
      rw [hg] at hg'
      injection hg' with hg'
      injection hg' with _ ht
      exact hne ht
theorem own_blk {a : World} {B e size n : Nat} {v : Value} {xs : List Value} (h : a.ownsRow B e size v n xs) {k : Nat} {cs : Array Value} {t : TypeId} {fr : Nat × Nat} (hk : a.heap[k]? = some (.cells cs t fr)) (hne : e ≠ t) : v.ownBlock ≠ some k := by
  intro hk'
  rcases h.2 with ⟨rfl, _⟩ | ⟨g, cap, cur, rfl, _, hg, _⟩
  · simp [Value.ownBlock] at hk'
  · simp only [Value.ownBlock, Option.some.injEq] at hk'
    subst hk'
    rw [hg] at hk
    injection hk with hk
    injection hk with _ ht
    exact hne ht
/-- The source of an append reads so, nil or not. -/
def Src (w : World) (A : Option Addr) (m size : Nat) (news : List Value) : Prop := news.length = m * size ∧ ∀ j u, news[j]? = some u → ∃ a, A = some a ∧ w.cell? (a.add j) = some u
theorem Src.below {w w' : World} {A : Option Addr} {m size : Nat} {news : List Value} (h : Src w A m size news) (hb : Below w.heap.size w w') : Src w' A m size news :=
  ⟨h.1, fun j u hu => by obtain ⟨a, e, hc⟩ := h.2 j u hu; exact ⟨a, e, cellB hb hc⟩⟩
theorem Src.tch {D : Nat → Prop} {w w' : World} {A : Option Addr} {m size : Nat} {news : List Value} (h : Src w A m size news) (t : Tch D w w') (hd : ∀ a, A = some a → ¬ D a.block) : Src w' A m size news :=
  ⟨h.1, fun j u hu => by
    obtain ⟨a, e, hc⟩ := h.2 j u hu
    exact ⟨a, e, t.cell hc (by have : (a.add j).block = a.block := by unfold Addr.add; split <;> rfl
                               rw [this]; exact hd a e)⟩⟩
theorem Src.of_own {w : World} {B e size n c : Nat} {A : Option Addr} {xs : List Value} (h : w.ownsRow B e size (.slice A n c) n xs) : Src w A n size xs := by
  refine ⟨h.1, fun j u hu => ?_⟩
  rcases h.2 with ⟨hv, hn⟩ | ⟨g, cap, cur, hv, _, hg, _⟩
  · have := h.1; subst hn
    have : xs = [] := List.eq_nil_of_length_eq_zero (by omega)
    subst this; simp at hu
  · have hA : A = some ⟨g, 0, none⟩ := by injection hv
    subst hA
    exact ⟨_, rfl, h.cells (g := g) rfl j u hu⟩
section
variable {P : Program}
/-- append onto a row of the call's own, whatever the source. -/
theorem run_append_src (w : World) (base : Nat) (t ty e : TypeId) (i : TypeInfo) (z : Value) (size bytes : Nat) (ht : P.underlying t = some (.slice e)) (hi : P.info? e = some i) (hz : i.zero = some z)
    (hsize : i.size = size) (hby : i.bytes = bytes) (hzs : z.cells.size = size) (hsz : 0 < size)
    (v : Value) (n : Nat) (xs : List Value) (hown : w.ownsRow base e size v n xs)
    (A : Option Addr) (m c : Nat) (news : List Value) (hr : Src w A m size news) (h1 : ∀ u ∈ news, u.oneCell' = true)
    (h63 : n + m ≤ maxLen) (hbytes : (n + m) * bytes ≤ 140737488355328) (hbase : base ≤ w.heap.size) :
    ∃ v' w', (Builtin.append_ #[t, t] ty #[v, .slice A m c]).run P w = .ok v' w' ∧ w'.ownsRow base e size v' (n + m) (xs ++ news) ∧ w.grownBy w' v.ownBlock ∧
      (v'.ownBlock = v.ownBlock ∨ v'.ownBlock = some w.heap.size) := by
  cases A with
  | some ad =>
    obtain ⟨v', w', hrun, h2, h3, _, h5⟩ := run_append_own_at (P := P) w base t ty e i z size bytes ht hi hz hsize hby hzs hsz v n xs hown ad m c news hr.1
      (fun j u hu => by obtain ⟨a, ea, hc⟩ := hr.2 j u hu; injection ea with ea; subst ea; exact hc) h1 h63 hbytes hbase
    exact ⟨v', w', hrun, h2, h3, h5⟩
  | none =>
    have hnil : news = [] := by
      cases news with
      | nil => rfl
      | cons u r => obtain ⟨a, ea, _⟩ := hr.2 0 u rfl; cases ea
    subst hnil
    have hm : m = 0 := by
      have := hr.1
      simp only [List.length_nil] at this
      rcases Nat.eq_zero_or_pos m with h | h
      · exact h
      · have := Nat.mul_pos h hsz; omega
    subst hm
    have hg : w.grownBy w v.ownBlock := ⟨rfl, rfl, rfl, Nat.le_refl _, fun _ _ _ => rfl⟩
    refine ⟨v, w, ?_, by simpa using hown, hg, .inl rfl⟩
    rcases hown.2 with ⟨rfl, rfl⟩ | ⟨g, cap, cur, rfl, _, _, hnc, _⟩
    · simp [Builtin.append_, run_underlying ht, sizeOf, typeInfo, hi, Builtin.lenOf, Builtin.firstCells]
    · simp [Builtin.append_, run_underlying ht, sizeOf, typeInfo, hi, Builtin.lenOf, Builtin.firstCells, hnc, storeCells]
theorem wp_append_src (w : World) {o : Oper} {a : Act} {K : Act → World → Prop} {Q : Exit → Act → World → Prop} (s x : Operand) (t : TypeId)
    (ho : o.op = .call { callee := .builtin .append, args := #[s, x], argTypes := #[t, t] })
    (base : Nat) (e : TypeId) (i : TypeInfo) (z : Value) (size bytes : Nat) (ht : P.underlying t = some (.slice e)) (hi : P.info? e = some i) (hz : i.zero = some z)
    (hsize : i.size = size) (hby : i.bytes = bytes) (hzs : z.cells.size = size) (hsz : 0 < size)
    (v : Value) (n : Nat) (xs : List Value) (hs : a.eval s = v) (hown : w.ownsRow base e size v n xs)
    (A : Option Addr) (m c : Nat) (news : List Value) (hx : a.eval x = .slice A m c) (hr : Src w A m size news) (h1 : ∀ u ∈ news, u.oneCell' = true)
    (h63 : n + m ≤ maxLen) (hbytes : (n + m) * bytes ≤ 140737488355328) (hbase : base ≤ w.heap.size)
    (h : ∀ v' w', w'.ownsRow base e size v' (n + m) (xs ++ news) → w.grownBy w' v.ownBlock → (v'.ownBlock = v.ownBlock ∨ v'.ownBlock = some w.heap.size) → K (a.put o.dst v') w') : o.wp P a w K Q := by
  obtain ⟨v', w', hrun, h2, h3, h4⟩ := run_append_src (P := P) w base t o.type e i z size bytes ht hi hz hsize hby hzs hsz v n xs hown A m c news hr h1 h63 hbytes hbase
  unfold Oper.wp execOp
  simp only [ho, resolve, invoke, builtin, Sem.run_bind, Sem.run_pure, Result.andThen_ok, List.map_toArray, List.map_cons, List.map_nil, hs, hx, hrun]
  exact h v' w' h2 h3 h4
theorem wpList_append_src (w : World) {ops : Array Oper} {rest : List Oper} {o : Oper} {a : Act} {Q : Exit → Act → World → Prop} (hgd : o.guard = none) (s x : Operand) (t : TypeId)
    (ho : o.op = .call { callee := .builtin .append, args := #[s, x], argTypes := #[t, t] })
    (base : Nat) (e : TypeId) (i : TypeInfo) (z : Value) (size bytes : Nat) (ht : P.underlying t = some (.slice e)) (hi : P.info? e = some i) (hz : i.zero = some z)
    (hsize : i.size = size) (hby : i.bytes = bytes) (hzs : z.cells.size = size) (hsz : 0 < size)
    (v : Value) (n : Nat) (xs : List Value) (hs : a.eval s = v) (hown : w.ownsRow base e size v n xs)
    (A : Option Addr) (m c : Nat) (news : List Value) (hx : a.eval x = .slice A m c) (hr : Src w A m size news) (h1 : ∀ u ∈ news, u.oneCell' = true)
    (h63 : n + m ≤ maxLen) (hbytes : (n + m) * bytes ≤ 140737488355328) (hbase : base ≤ w.heap.size)
    (h : ∀ v' w', w'.ownsRow base e size v' (n + m) (xs ++ news) → w.grownBy w' v.ownBlock → (v'.ownBlock = v.ownBlock ∨ v'.ownBlock = some w.heap.size) → wpList P ops Q rest (a.put o.dst v') w') : wpList P ops Q (o :: rest) a w :=
  wpList_plain hgd fun _ hK => wp_append_src w s x t ho base e i z size bytes ht hi hz hsize hby hzs hsz v n xs hs hown A m c news hx hr h1 h63 hbytes hbase fun v' w' h2 h3 h4 => hK _ _ (h v' w' h2 h3 h4)
theorem step_append_src (w : World) {ops : Array Oper} {o : Oper} {a : Act} {K : Act → World → Prop} {Q : Exit → Act → World → Prop} {E : Prop} (hgd : o.guard = none) (s x : Operand) (t : TypeId)
    (ho : o.op = .call { callee := .builtin .append, args := #[s, x], argTypes := #[t, t] })
    (base : Nat) (e : TypeId) (i : TypeInfo) (z : Value) (size bytes : Nat) (ht : P.underlying t = some (.slice e)) (hi : P.info? e = some i) (hz : i.zero = some z)
    (hsize : i.size = size) (hby : i.bytes = bytes) (hzs : z.cells.size = size) (hsz : 0 < size)
    (v : Value) (n : Nat) (xs : List Value) (hs : a.eval s = v) (hown : w.ownsRow base e size v n xs)
    (A : Option Addr) (m c : Nat) (news : List Value) (hx : a.eval x = .slice A m c) (hr : Src w A m size news) (h1 : ∀ u ∈ news, u.oneCell' = true)
    (h63 : n + m ≤ maxLen) (hbytes : (n + m) * bytes ≤ 140737488355328) (hbase : base ≤ w.heap.size)
    (h : ∀ v' w', w'.ownsRow base e size v' (n + m) (xs ++ news) → w.grownBy w' v.ownBlock → (v'.ownBlock = v.ownBlock ∨ v'.ownBlock = some w.heap.size) → K (a.put o.dst v') w') :
    if Region.wanted o (yielded ops a.tmps) = true then Oper.wp P o a w K Q else E := by
  rw [if_pos (by simp [Region.wanted, hgd])]
  exact wp_append_src w s x t ho base e i z size bytes ht hi hz hsize hby hzs hsz v n xs hs hown A m c news hx hr h1 h63 hbytes hbase h
end
theorem Src.block {w : World} {g m size : Nat} {cs : Array Value} {t : TypeId} {fr : Nat × Nat} (h : w.heap[g]? = some (.cells cs t fr)) (hl : cs.size = m * size) : Src w (some ⟨g, 0, none⟩) m size cs.toList :=
  ⟨by rw [Array.length_toList]; exact hl, fun j u hu => ⟨_, rfl, World.news_of_block h j u hu⟩⟩
theorem own_drew {w : World} {B e size n : Nat} {v : Value} {xs : List Value} (h : w.ownsRow B e size v n xs) : w.drew.ownsRow B e size v n xs := h
/-- An item's cells; its bytes' slice. -/
def itC (x : ItemP) (s : Value) : List Value := [.int .u8 x.kind, .string x.name, .int .i64 x.arg, .string ⟨#[]⟩, .int .u8 0, s]
/-- Cells that read as items; the bytes of each in a row from block B on. -/
def ItR (w : World) (B : Nat) : List Value → List ItemP → Prop
  | xs, [] => xs = []
  | xs, x :: l => ∃ s r, xs = itC x s ++ r ∧ w.ownsRow B 5 1 s x.bytes.length (x.bytes.map (Value.int .u8)) ∧ ItR w B r l
theorem ItR.length {w : World} {B : Nat} : ∀ {xs : List Value} {l : List ItemP}, ItR w B xs l → xs.length = l.length * 6
  | _, [], h => by rw [ItR] at h; subst h; rfl
  | _, x :: l, h => by
    obtain ⟨s, r, rfl, _, hr⟩ := h
    have := hr.length
    simp only [itC, List.length_append, List.length_cons, List.length_nil, this]; omega
theorem ItR.append {w : World} {B : Nat} : ∀ {xs ys : List Value} {l m : List ItemP}, ItR w B xs l → ItR w B ys m → ItR w B (xs ++ ys) (l ++ m)
  | _, _, [], m, h, k => by rw [ItR] at h; subst h; exact k
  | _, _, x :: l, m, h, k => by
    obtain ⟨s, r, rfl, h1, hr⟩ := h
    exact ⟨s, r ++ _, by simp, h1, hr.append k⟩
theorem ItR.one {w : World} {B : Nat} (x : ItemP) {s : Value} (h : w.ownsRow B 5 1 s x.bytes.length (x.bytes.map (Value.int .u8))) : ItR w B (itC x s) [x] := ⟨s, [], by simp, h, rfl⟩
theorem ItR.one_nil {w : World} {B : Nat} (x : ItemP) (h : x.bytes = []) : ItR w B (itC x (.slice none 0 0)) [x] := ItR.one x (by rw [h]; exact World.ownsRow_nil _ _ _ _)
theorem ItR.mono {w : World} {B B' : Nat} (hB : B' ≤ B) : ∀ {xs : List Value} {l : List ItemP}, ItR w B xs l → ItR w B' xs l
  | _, [], h => h
  | _, x :: l, h => by
    obtain ⟨s, r, rfl, h1, hr⟩ := h
    exact ⟨s, r, rfl, own_mono h1 hB, hr.mono hB⟩
theorem ItR.one_cell {w : World} {B : Nat} : ∀ {xs : List Value} {l : List ItemP}, ItR w B xs l → ∀ u ∈ xs, u.oneCell' = true
  | _, [], h => by rw [ItR] at h; subst h; simp
  | _, x :: l, h => by
    obtain ⟨s, r, rfl, h1, hr⟩ := h
    have h2 := hr.one_cell
    have hs : s.oneCell' = true := by
      rcases h1.2 with ⟨rfl, _⟩ | ⟨g, cap, cur, rfl, _⟩ <;> rfl
    intro u hu
    simp only [itC, List.mem_append, List.mem_cons, List.not_mem_nil, or_false] at hu
    rcases hu with (rfl | rfl | rfl | rfl | rfl | rfl) | hu
    · rfl
    · rfl
    · rfl
    · rfl
    · rfl
    · exact hs
    · exact h2 u hu
/-- Kept where no row of bytes from B on is touched. -/
theorem ItR.keep {w w' : World} {B : Nat} (h0 : ∀ k cs, B ≤ k → w.heap[k]? = some (.cells cs 5 (0, 0)) → w'.heap[k]? = some (.cells cs 5 (0, 0))) : ∀ {xs : List Value} {l : List ItemP}, ItR w B xs l → ItR w' B xs l
  | _, [], h => h
  | _, x :: l, h => by
    obtain ⟨s, r, rfl, h1, hr⟩ := h
    refine ⟨s, r, rfl, ⟨h1.1, ?_⟩, ItR.keep h0 hr⟩
    rcases h1.2 with hn | ⟨g, cap, cur, rfl, hb, hg, rest⟩
    · exact .inl hn
    · exact .inr ⟨g, cap, cur, rfl, hb, h0 _ _ hb hg, rest⟩
theorem ItR.tch {D : Nat → Prop} {w w' : World} {B : Nat} (t : Tch D w w') (hd : ∀ k cs, B ≤ k → w.heap[k]? = some (.cells cs 5 (0, 0)) → ¬ D k) {xs : List Value} {l : List ItemP} (h : ItR w B xs l) : ItR w' B xs l :=
  h.keep fun k cs hb hk => t.heap hk (hd k cs hb hk)
theorem ItR.below {w w' : World} {B : Nat} (k : Below w.heap.size w w') {xs : List Value} {l : List ItemP} (h : ItR w B xs l) : ItR w' B xs l :=
  h.tch ((Tch.refl (fun _ => False) w).below k) (fun _ _ _ _ e => e)
/-- The cells of item number i. -/
theorem ItR.at {w : World} {B : Nat} : ∀ {xs : List Value} {l : List ItemP}, ItR w B xs l → ∀ (i : Nat) (hi : i < l.length), ∃ s, (∀ j u, (itC l[i] s)[j]? = some u → xs[i * 6 + j]? = some u) ∧ w.ownsRow B 5 1 s l[i].bytes.length (l[i].bytes.map (Value.int .u8))
  | _, [], _, i, hi => absurd hi (by simp)
  | _, x :: l, h, 0, _ => by
    obtain ⟨s, r, rfl, h1, hr⟩ := h
    refine ⟨s, fun j u hu => ?_, h1⟩
    have hj : j < (itC x s).length := by
      rcases Nat.lt_or_ge j (itC x s).length with h2 | h2
      · exact h2
      · simp only [List.getElem_cons_zero] at hu; rw [List.getElem?_eq_none h2] at hu; exact absurd hu (by simp)
    rw [Nat.zero_mul, Nat.zero_add, List.getElem?_append_left hj]
    exact hu
  | _, x :: l, h, i + 1, hi => by
    obtain ⟨s, r, rfl, h1, hr⟩ := h
    obtain ⟨s', h2, h3⟩ := hr.at i (by simpa using hi)
    refine ⟨s', fun j u hu => ?_, h3⟩
    have hl : (itC x s).length = 6 := rfl
    rw [show (i + 1) * 6 + j = 6 + (i * 6 + j) by omega, List.getElem?_append_right (by omega), hl, Nat.add_sub_cancel_left]
    exact h2 j u hu
/-- A list of items in a row of the call's own. -/
def ItL (w : World) (B : Nat) (v : Value) (l : List ItemP) : Prop := ∃ xs, w.ownsRow B 52 6 v l.length xs ∧ ItR w B xs l
theorem ItL.nil (w : World) (B : Nat) : ItL w B (.slice none 0 0) [] := ⟨[], World.ownsRow_nil _ _ _ _, rfl⟩
theorem ItL.mono {w : World} {B B' : Nat} {v : Value} {l : List ItemP} (h : ItL w B v l) (hB : B' ≤ B) : ItL w B' v l := by
  obtain ⟨xs, h1, h2⟩ := h; exact ⟨xs, own_mono h1 hB, h2.mono hB⟩
theorem ItL.below {w w' : World} {B : Nat} {v : Value} {l : List ItemP} (h : ItL w B v l) (k : Below w.heap.size w w') : ItL w' B v l := by
  obtain ⟨xs, h1, h2⟩ := h; exact ⟨xs, own_below h1 k, h2.below k⟩
theorem ItL.tch {D : Nat → Prop} {w w' : World} {B : Nat} {v : Value} {l : List ItemP} (h : ItL w B v l) (t : Tch D w w') (h1 : ∀ k, v.ownBlock = some k → ¬ D k) (hd : ∀ k cs, B ≤ k → w.heap[k]? = some (.cells cs 5 (0, 0)) → ¬ D k) : ItL w' B v l := by
  obtain ⟨xs, h2, h3⟩ := h; exact ⟨xs, own_tch h2 t h1, h3.tch t hd⟩
/-- Behind an append to the list. -/
theorem ItL.grown {w w' : World} {B : Nat} {v v' : Value} {l m : List ItemP} {xs ys : List Value} (h1 : w.ownsRow B 52 6 v l.length xs) (h2 : ItR w B xs l) (h3 : ItR w B ys m) (hg : w.grownBy w' v.ownBlock)
    (ho : w'.ownsRow B 52 6 v' (l.length + m.length) (xs ++ ys)) : ItL w' B v' (l ++ m) := by
  have hk : ∀ k cs, B ≤ k → w.heap[k]? = some (.cells cs 5 (0, 0)) → w'.heap[k]? = some (.cells cs 5 (0, 0)) := fun k cs _ hh => by
    have hlt : k < w.heap.size := by
      rcases Nat.lt_or_ge k w.heap.size with h | h
      · exact h
      · rw [Array.getElem?_eq_none h] at hh; exact absurd hh (by simp)
    rw [hg.block k hlt (fun e => own_blk h1 hh (by decide) e.symm)]; exact hh
  exact ⟨xs ++ ys, by rw [List.length_append]; exact ho, (h2.keep hk).append (h3.keep hk)⟩
end Go.Proofs.YtofhdlkocgbcgaaGreatDoor
