/- law15: wipe. -/
import Derived.Test.YtofhdlkocgbcgaaGreatDoorLawB
namespace Go.Proofs.YtofhdlkocgbcgaaGreatDoor
open Go Go.RowKit Pu
set_option linter.unusedVariables false
set_option linter.unusedSimpArgs false
structure WpI (wE : World) (B : Nat) (w wr : World) : Prop where
  t : Tch (fun k => B ≤ k ∧ k < wE.heap.size) w wr
  by_ : ∀ (k : Nat) (cs : Array Value), wE.heap[k]? = some (.cells cs 5 (0, 0)) → ∃ cs' : Array Value, cs'.size = cs.size ∧ wr.heap[k]? = some (.cells cs' 5 (0, 0))
  it : ∀ (k : Nat) (cs : Array Value), wE.heap[k]? = some (.cells cs 52 (0, 0)) → wr.heap[k]? = some (.cells cs 52 (0, 0))
theorem WpI.start {wE w : World} {B : Nat} (hb : Below wE.heap.size wE w) : WpI wE B w w := ⟨Tch.refl _ _, fun k cs h => ⟨cs, rfl, heapB' hb h⟩, fun k cs h => heapB' hb h⟩
theorem WpI.drewN {wE w wr : World} {B n : Nat} (h : WpI wE B w wr) : WpI wE B w (wr.drewN n) := ⟨⟨h.t.os, h.t.tape, h.t.output, h.t.size, h.t.block⟩, h.by_, h.it⟩
theorem set_shape {w : World} {g : Nat} {cs : Array Value} {t : TypeId} (h : w.heap[g]? = some (.cells cs t (0, 0))) (i : Nat) (v : Value) : (w.setCell ⟨g, i, none⟩ v).heap[g]? = some (.cells (cs.setIfInBounds i v) t (0, 0)) := by
  simp [World.setCell, Array.getElem?_modify, h]
theorem WpI.set {wE w wr : World} {B g : Nat} {cs : Array Value} (h : WpI wE B w wr) (hg : wE.heap[g]? = some (.cells cs 5 (0, 0))) (hB : B ≤ g) (i : Nat) (v : Value) : WpI wE B w (wr.setCell ⟨g, i, none⟩ v) := by
  refine ⟨h.t.setCell (fun _ => ⟨hB, blk_lt hg⟩) v, fun k c hk => ?_, fun k c hk => ?_⟩
  · obtain ⟨c', e, hc⟩ := h.by_ k c hk
    by_cases hkg : k = g
    · subst hkg
      exact ⟨_, by rw [Array.size_setIfInBounds]; exact e, set_shape hc i v⟩
    · exact ⟨c', e, by rw [Below.heap_setCell _ _ _ _ hkg]; exact hc⟩
  · have hkg : k ≠ g := fun e => by
      subst e; rw [hg] at hk; injection hk with hk; injection hk with _ hk; exact absurd hk (by decide)
    rw [Below.heap_setCell _ _ _ _ hkg]
    exact h.it k c hk
theorem cells_at {w : World} {g : Nat} {cs : Array Value} {t : TypeId} (h : w.heap[g]? = some (.cells cs t (0, 0))) (i : Nat) (hi : i < cs.size) : w.cell? ⟨g, i, none⟩ = some cs[i] := blk_cell h (Array.getElem?_eq_getElem hi)
set_option maxHeartbeats 4000000 in
set_option maxRecDepth 100000 in
theorem law_wipe_nil (w : World) : Calls Tryz.prog 12 #[.slice none 0 0] w fun e w' => e = .returned (.tuple #[]) ∧ w = w' := by
  go_enter Tryz.func12, Tryz.ntmps12
  go_wp2
  go_loop [2] (fun i => i = .int .i64 0) (fun _ => 0)
  case atStart => rfl
  case round =>
    obtain rfl := hrel
    go_wp2
    go_loop [6] (fun i => i = .int .i64 0) (fun _ => 0)
    case atStart => rfl
    case round =>
      obtain rfl := hrel
      go_wp2
      go_end0
      exact ⟨rfl, rfl⟩
set_option maxHeartbeats 8000000 in
set_option maxRecDepth 100000 in
theorem law_wipe_some (w wE : World) (B g n cap : Nat) (l : List ItemP) (cur : Array Value) (hn : n = l.length) (hb : Below wE.heap.size wE w) (hB : B ≤ g) (hg : wE.heap[g]? = some (.cells cur 52 (0, 0))) (hsz : cur.size = cap * 6) (hnc : n ≤ cap) (hcap : cap ≤ 9223372036854775807)
    (hs : ∀ (i : Nat), i < n → ∃ s : Value, cur[i * 6 + 5]? = some s ∧ (s = .slice none 0 0 ∨ ∃ (gb m c : Nat) (cs : Array Value), s = .slice (some ⟨gb, 0, none⟩) m c ∧ B ≤ gb ∧ m ≤ c ∧ c ≤ 9223372036854775807 ∧ wE.heap[gb]? = some (.cells cs 5 (0, 0)) ∧ cs.size = c)) :
    Calls Tryz.prog 12 #[.slice (some ⟨g, 0, none⟩) n cap] w fun e w' => e = .returned (.tuple #[]) ∧ Tch (fun k => B ≤ k ∧ k < wE.heap.size) w w' := by
  have W0 : WpI wE B w w := WpI.start hb
  clear hb hn
  go_enter Tryz.func12, Tryz.ntmps12
  go_wp2
  go_loopw [2] (fun i wr => ∃ k : Nat, i = .int .i64 k ∧ k ≤ n ∧ WpI wE B w wr) (fun i _ => n - (intOf i).toNat)
  case atStart => exact ⟨0, rfl, Nat.zero_le _, W0⟩
  case round =>
    clear W0
    obtain ⟨k, rfl, hk, W⟩ := hrel
    by_cases hlt : k < n
    · have hki : (k : Int) < n := by omega
      have hk0 : (0 : Int) ≤ k := by omega
      obtain ⟨s, hs1, hs2⟩ := hs k hlt
      have c5 : wr.cell? ⟨g, k * 6 + 5, none⟩ = some s := blk_cell (W.it g cur hg) hs1
      rcases hs2 with rfl | ⟨gb, m, c, cs, rfl, hgb, hmc, hc, hgh, hcs⟩
      · have WH := Lib.hid W
        clear W hs hs1
        go_wp2_with fail
        go_quiet (fail)
        go_wp2
        go_loopw [4] (fun i wq => i = .int .i64 0 ∧ WpI wE B w wq) (fun _ _ => 0)
        case atStart => exact ⟨rfl, WH.out.drewN⟩
        case round =>
          obtain ⟨rfl, W⟩ := hrel
          go_wp2
          exact ⟨⟨k + 1, by go_num, by omega, W⟩, by simp [intOf]; omega⟩
      · have hci : (0 : Int) ≤ c := by omega
        have WH := Lib.hid W
        clear W hs hs1
        go_wp2_with fail
        go_quiet (fail)
        go_wp2
        go_loopw [4] (fun i wq => ∃ j : Nat, i = .int .i64 j ∧ j ≤ c ∧ WpI wE B w wq) (fun i _ => c - (intOf i).toNat)
        case atStart => exact ⟨0, rfl, Nat.zero_le _, WH.out.drewN⟩
        case round =>
          clear c5
          obtain ⟨j, rfl, hj, W⟩ := hrel
          by_cases hjl : j < c
          · have hji : (j : Int) < c := by omega
            have hj0 : (0 : Int) ≤ j := by omega
            obtain ⟨cs', e, hc'⟩ := W.by_ gb cs hgh
            have x0 := cells_at hc' j (by omega)
            have f0 := blk_frozen (i := j) hc'
            have WN := Lib.hid (W.set hgh hgb j (.int .u8 165))
            clear W
            generalize cs'[j] = y at *
            go_wp2
            exact ⟨⟨j + 1, by go_num, by omega, WN.out⟩, by simp [intOf]; omega⟩
          · obtain rfl : j = c := by omega
            go_wp2
            exact ⟨⟨k + 1, by go_num, by omega, W⟩, by simp [intOf]; omega⟩
    · obtain rfl : k = n := by omega
      have T0 := W.t
      have G0 := W.it g cur hg
      clear hs W hlt
      go_wp2
      go_loopw [6] (fun i wq => ∃ j : Nat, i = .int .i64 j ∧ j ≤ cap ∧ (∃ c2 : Array Value, c2.size = cap * 6 ∧ wq.heap[g]? = some (.cells c2 52 (0, 0))) ∧ Tch (fun k => B ≤ k ∧ k < wE.heap.size) w wq) (fun i _ => cap - (intOf i).toNat)
      case atStart => exact ⟨0, rfl, Nat.zero_le _, ⟨cur, hsz, G0⟩, T0⟩
      case round =>
        clear T0 G0
        obtain ⟨j, rfl, hj, ⟨c2, hc2, hgq⟩, T⟩ := hrel
        by_cases hjl : j < cap
        · have hji : (j : Int) < cap := by omega
          have hj0 : (0 : Int) ≤ j := by omega
          have x0 := cells_at hgq (j * 6) (by omega)
          have x1 := cells_at hgq (j * 6 + 1) (by omega)
          have x2 := cells_at hgq (j * 6 + 2) (by omega)
          have x3 := cells_at hgq (j * 6 + 3) (by omega)
          have x4 := cells_at hgq (j * 6 + 4) (by omega)
          have x5 := cells_at hgq (j * 6 + 5) (by omega)
          have f0 := blk_frozen (i := j * 6) hgq
          have f1 := blk_frozen (i := j * 6 + 1) hgq
          have f2 := blk_frozen (i := j * 6 + 2) hgq
          have f3 := blk_frozen (i := j * 6 + 3) hgq
          have f4 := blk_frozen (i := j * 6 + 4) hgq
          have f5 := blk_frozen (i := j * 6 + 5) hgq
          have HG := Lib.hid hgq
          have HC := Lib.hid hc2
          have TH := Lib.hid T
          generalize c2[j * 6] = y0 at *
          generalize c2[j * 6 + 1] = y1 at *
          generalize c2[j * 6 + 2] = y2 at *
          generalize c2[j * 6 + 3] = y3 at *
          generalize c2[j * 6 + 4] = y4 at *
          generalize c2[j * 6 + 5] = y5 at *
          clear hgq hc2 T
          have hD : ∀ p : Nat, p = g → B ≤ p ∧ p < wE.heap.size := fun p e => by subst e; exact ⟨hB, blk_lt hg⟩
          go_wp2
          refine ⟨⟨j + 1, by go_num, by omega, ⟨_, ?_, set_shape (set_shape (set_shape (set_shape (set_shape (set_shape HG.out _ _) _ _) _ _) _ _) _ _) _ _⟩, ((((((TH.out.setCell (fun _ => hD _ rfl) _).setCell (fun _ => hD _ rfl) _).setCell (fun _ => hD _ rfl) _).setCell (fun _ => hD _ rfl) _).setCell (fun _ => hD _ rfl) _).setCell (fun _ => hD _ rfl) _)⟩, by simp [intOf]; omega⟩
          simp only [Array.size_setIfInBounds]
          exact HC.out
        · obtain rfl : j = cap := by omega
          go_wp2
          go_end0
          exact ⟨rfl, T⟩
theorem law_wipe (w wE : World) (B : Nat) (v : Value) (l : List ItemP) (h : ItL wE B v l) (hb : Below wE.heap.size wE w) : Calls Tryz.prog 12 #[v] w fun e w' => e = .returned (.tuple #[]) ∧ Tch (fun k => B ≤ k ∧ k < wE.heap.size) w w' := by
  obtain ⟨xs, ho, hr⟩ := h
  obtain ⟨hx, ⟨rfl, hl⟩ | ⟨g, cap, cur, rfl, hB, hg, hnc, hcm, hsz, htk⟩⟩ := ho
  · exact (law_wipe_nil w).mono fun e w' ⟨h1, h2⟩ => ⟨h1, h2 ▸ Tch.refl _ _⟩
  · refine law_wipe_some w wE B g l.length cap l cur rfl hb hB hg hsz hnc (by unfold maxLen at hcm; omega) fun i hi => ?_
    obtain ⟨s, hc, hs⟩ := hr.at i hi
    have h5 := hc 5 s rfl
    refine ⟨s, ?_, ?_⟩
    · rw [← htk] at h5
      have hlt : i * 6 + 5 < l.length * 6 := by omega
      rw [List.getElem?_take, if_pos hlt, Array.getElem?_toList] at h5
      exact h5
    · obtain ⟨_, ⟨rfl, _⟩ | ⟨gb, c, cs, rfl, hB2, hg2, h3, h4, h6, _⟩⟩ := hs
      · exact .inl rfl
      · exact .inr ⟨gb, _, c, cs, rfl, hB2, h3, by unfold maxLen at h4; omega, hg2, by omega⟩
end Go.Proofs.YtofhdlkocgbcgaaGreatDoor
