/- A region that draws its order, whose operations read what stays and whose calls leave a world above the same one: ONE walk in the text's order. -/
import Derived.Below
import Derived.Deep.QuietTactic
import Derived.BigQuiet
namespace Go.Proofs.YtofhdlkocgbcgaaGreatDoor
open Go Go.RowKit
/-- The worlds above w. -/
structure Up (w : World) where
  val : World
  up : Below w.heap.size w val
instance Up.here (w : World) : Nonempty (Up w) := ⟨⟨w, Below.refl _ _⟩⟩
theorem Up.cell {w : World} (z : Up w) {a : Addr} {v : Value} (h : w.cell? a = some v) : z.val.cell? a = some v :=
  (z.up.cell (World.block_lt_of_cell? w a h)).trans h
theorem Up.heap {w : World} (z : Up w) {b : Nat} {o : Obj} (h : w.heap[b]? = some o) : z.val.heap[b]? = some o := by
  have hlt : b < w.heap.size := by
    rcases Nat.lt_or_ge b w.heap.size with h1 | h1
    · exact h1
    · rw [Array.getElem?_eq_none h1] at h; exact absurd h (by simp)
  rw [z.up.block b hlt, h]
theorem region_up {P : Program} {id : Nat} {Q : Exit → Act → World → Prop} {a : Act} {w : World} {l : List Oper} (hm : P.follows .mixedOrders = true) (hB : Region.lexB .any l.toArray = true)
    (h : wpQuiet P l.toArray (fun w' => ∃ z : Up w, w' = z.val) (fun a' => ∀ w', (∃ z : Up w, w' = z.val) → Q .normal a' w') l a) : (Code.region id l.toArray true).wp P Q a w :=
  wp_region_quiet (C := fun w' => ∃ z : Up w, w' = z.val) hm hB ⟨⟨w.drew, (Below.refl _ _).drew⟩, rfl⟩ (by simpa using h)
/-- A callee's contract within the class. -/
theorem Calls.up {P : Program} {f : FuncId} {args : Array Value} {w : World} {z : Up w} {v : Value}
    (h : Calls P f args z.val fun e w' => e = .returned v ∧ Below z.val.heap.size z.val w') : Calls P f args z.val fun e w'' => e = .returned v ∧ ∃ z' : Up w, w'' = z'.val :=
  h.mono fun _ w' ⟨he, hb⟩ => ⟨he, ⟨w', z.up.trans (hb.mono z.up.size)⟩, rfl⟩
theorem Calls.up_same {P : Program} {f : FuncId} {args : Array Value} {w : World} {z : Up w} {v : Value}
    (h : Calls P f args z.val fun e w' => e = .returned v ∧ z.val = w') : Calls P f args z.val fun e w'' => e = .returned v ∧ ∃ z' : Up w, w'' = z'.val :=
  h.mono fun _ _ ⟨he, hb⟩ => ⟨he, z, hb.symm⟩
end Go.Proofs.YtofhdlkocgbcgaaGreatDoor
