/- The map of names. -/
import Derived.Test.YtofhdlkocgbcgaaGreatDoorLabA
namespace Go.Proofs.YtofhdlkocgbcgaaGreatDoor
open Go Go.RowKit Pu
set_option linter.unusedVariables false
set_option linter.unusedSimpArgs false
theorem baBeq (a b : ByteArray) : (a == b) = decide (a = b) := by
  show ByteArray.beq a b = _
  rcases a with ⟨a⟩
  rcases b with ⟨b⟩
  rw [Bool.eq_iff_iff, decide_eq_true_iff]
  unfold ByteArray.beq
  simp
def MapN (es : Array MapEntry) (ns : List ByteArray) : Prop := es.toList.map (fun e => (e.key, e.val)) = ns.map (fun n => (.string n, .int .i64 1))
theorem findNow_names (s : ByteArray) : ∀ (es : List MapEntry) (ns : List ByteArray) (i : Nat), es.map (fun e => (e.key, e.val)) = ns.map (fun n => (Value.string n, Value.int .i64 1)) →
    (s ∈ ns → ∃ j, Instr.findNow .string (.string s) es i = some (some (j, .int .i64 1))) ∧ (¬ s ∈ ns → Instr.findNow .string (.string s) es i = some none)
  | [], [], i, _ => ⟨fun h => absurd h (by simp), fun _ => rfl⟩
  | [], _ :: _, i, h => absurd h (by simp)
  | _ :: _, [], i, h => absurd h (by simp)
  | e :: es, n :: ns, i, h => by
    rw [List.map_cons, List.map_cons, List.cons.injEq, Prod.mk.injEq] at h
    obtain ⟨⟨h1, h2⟩, h3⟩ := h
    obtain ⟨a, b⟩ := findNow_names s es ns (i + 1) h3
    by_cases hn : s = n
    · subst hn
      refine ⟨fun _ => ⟨i, ?_⟩, fun h => absurd (List.mem_cons_self ..) h⟩
      unfold Instr.findNow Instr.sameNow
      rw [h1, h2]; simp [baBeq]
    · have hb : (s == n) = false := by rw [baBeq, decide_eq_false hn]
      have e1 : Instr.findNow .string (.string s) (e :: es) i = Instr.findNow .string (.string s) es (i + 1) := by
        conv => lhs; unfold Instr.findNow Instr.sameNow
        rw [h1]; simp [hb]
      rw [e1]
      refine ⟨fun h => a ?_, fun h => b fun h' => h (List.mem_cons_of_mem _ h')⟩
      rcases List.mem_cons.1 h with h | h
      · exact absurd h hn
      · exact h
theorem check_str (e : Bool) (s : ByteArray) (w : World) : (Instr.checkKey e 10000 9 (.string s)).run Tryz.prog w = .ok () w := by
  show (Instr.checkKey e (9999 + 1) 9 (.string s)).run Tryz.prog w = .ok () w
  unfold Instr.checkKey
  simp [Tryz.underlying9]
theorem names_has (b : Nat) (es : Array MapEntry) (c : Nat) (ns : List ByteArray) (hm : MapN es ns) (s : ByteArray) (hs : s ∈ ns) (w : World) (h : w.heap[b]? = some (.map es c)) : (Instr.lookup 96 (.map (some b)) (.string s) false).run Tryz.prog w = .ok (.int .i64 1) w := by
  obtain ⟨j, hj⟩ := (findNow_names s es.toList ns 0 hm).1 hs
  simp [Instr.lookup, Tryz.underlying96, Tryz.underlying9, MapKept.run_getObj_map h, check_str, Instr.findKey, hj, Result.andThen]
theorem names_none (b : Nat) (es : Array MapEntry) (c : Nat) (ns : List ByteArray) (hm : MapN es ns) (s : ByteArray) (hs : ¬ s ∈ ns) (w : World) (h : w.heap[b]? = some (.map es c)) : (Instr.lookup 96 (.map (some b)) (.string s) false).run Tryz.prog w = .ok (.int .i64 0) w := by
  have hj := (findNow_names s es.toList ns 0 hm).2 hs
  simp [Instr.lookup, Tryz.underlying96, Tryz.underlying9, MapKept.run_getObj_map h, check_str, Instr.findKey, hj, Result.andThen]
theorem names_update (b : Nat) (es : Array MapEntry) (c : Nat) (ns : List ByteArray) (hm : MapN es ns) (s : ByteArray) (hs : ¬ s ∈ ns) (w : World) (h : w.heap[b]? = some (.map es c)) : (Instr.mapUpdate 96 (.map (some b)) (.string s) (.int .i64 1)).run Tryz.prog w = (setObj b (.map (es.push { key := .string s, val := .int .i64 1, born := c }) (c + 1))).run Tryz.prog w := by
  obtain ⟨h1, h2⟩ := findNow_names s es.toList ns 0 hm
  have hj := h2 hs
  simp [Instr.mapUpdate, Tryz.underlying96, Tryz.underlying9, MapKept.run_getObj_map h, check_str, Instr.findKey, hj, Result.andThen]
theorem MapN.push {es : Array MapEntry} {ns : List ByteArray} (h : MapN es ns) (s : ByteArray) (c : Nat) : MapN (es.push { key := .string s, val := .int .i64 1, born := c }) (ns ++ [s]) := by
  unfold MapN at *
  simp [h]
def setBlk (w : World) (b : Nat) (o : Obj) : World := { w with heap := w.heap.setIfInBounds b o }
theorem names_add (b : Nat) (es : Array MapEntry) (c : Nat) (ns : List ByteArray) (hm : MapN es ns) (s : ByteArray) (hs : ¬ s ∈ ns) (w : World) (h : w.heap[b]? = some (.map es c)) : (Instr.mapUpdate 96 (.map (some b)) (.string s) (.int .i64 1)).run Tryz.prog w = .ok () (setBlk w b (.map (es.push { key := .string s, val := .int .i64 1, born := c }) (c + 1))) := by
  rw [names_update b es c ns hm s hs w h]
  simp [MapKept.run_setObj_map _ h, setBlk]
theorem setBlk_below {w w' : World} {B b : Nat} {o : Obj} (h : Below B w w') (hb : B ≤ b) : Below B w (setBlk w' b o) :=
  ⟨h.os, h.tape, h.output, by simpa [setBlk] using h.size, fun k hk => by rw [← h.block k hk]; simp only [setBlk]; rw [Array.getElem?_setIfInBounds_ne (by omega)]⟩
theorem setBlk_get {w : World} {b : Nat} {o o' : Obj} (h : w.heap[b]? = some o') : (setBlk w b o).heap[b]? = some o := by
  have hlt : b < w.heap.size := by
    rcases Nat.lt_or_ge b w.heap.size with h1 | h1
    · exact h1
    · rw [Array.getElem?_eq_none h1] at h; exact absurd h (by simp)
  simp only [setBlk]
  rw [Array.getElem?_setIfInBounds_self_of_lt hlt]
end Go.Proofs.YtofhdlkocgbcgaaGreatDoor
