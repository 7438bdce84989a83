/- The walk of package code's Decode. -/
import Derived.Test.YtofhdlkocgbcgaaGreatDoorCodeX
import Derived.BigQuiet
namespace Go.Proofs.YtofhdlkocgbcgaaGreatDoor
open Go Go.RowKit Pu
set_option linter.unusedVariables false
set_option linter.unusedSimpArgs false
/-- The instruction at the front of bytes that are read. -/
def DecV (b : List Int) : Value := .tuple #[.agg #[.string (decI b).1, .int .i64 (decI b).2.1], .int .i64 (decI b).2.2.1, .int .i64 (decI b).2.2.2]
/-- A slice of bytes reads as a list. -/
def RdB (w : World) (A : Option Addr) (xs : List Int) : Prop := 0 < xs.length → ∃ b off, A = some ⟨b, off, none⟩ ∧ b < w.heap.size ∧ ∀ i, i < xs.length → w.cell? ⟨b, off + i, none⟩ = some (.int .u8 (xs.getD i 0))
def Bytes (xs : List Int) : Prop := ∀ x ∈ xs, 0 ≤ x ∧ x ≤ 255
section
variable (A : Option Addr) (c : Nat) (w : World)
theorem code_Decode_nil : Calls Tryz.prog 48 #[.slice A 0 c] w fun e w' => e = .returned (DecV []) ∧ Below w.heap.size w w' := by
  go_enter Tryz.func48, Tryz.ntmps48
  go_wp2
  refine bodyPost_ret (v := DecV []) (by simp [DecV, decI, results, Tryz.results48, go_sem]) rfl ⟨rfl, ?_⟩
  (repeat first | exact Below.refl _ _ | assumption | refine Below.trans ?_ (hb.mono (by first | omega | (simp; done) | (simp; omega))) | refine Below.drew ?_ | refine Below.alloc ?_ (by first | omega | (simp; done) | (simp; omega)) _ | refine Below.setCell ?_ (by first | omega | (simp; done) | (simp; omega)) _)
set_option maxHeartbeats 1000000 in
set_option maxRecDepth 100000 in
theorem code_Decode_f1 (T : Tabs w) (b off m : Nat) (o p q : Int) (hbl : b < w.heap.size) (c0 : w.cell? ⟨b, off, none⟩ = some (.int .u8 o)) (c1 : False → w.cell? ⟨b, off + 1, none⟩ = some (.int .u8 p)) (c2 : False → w.cell? ⟨b, off + 2, none⟩ = some (.int .u8 q))
    (o0 : 0 ≤ o) (o1 : o ≤ 255) (p0 : 0 ≤ p) (p1 : p ≤ 255) (q0 : 0 ≤ q) (q1 : q ≤ 255) (hf : formF o.toNat = 1) (hm1 : 1 ≤ m) (hm0 : 1 ≤ m) (hm2 : m ≤ 2147483647) :
    Calls Tryz.prog 48 #[.slice (some ⟨b, off, none⟩) m c] w fun e w' => e = .returned (.tuple #[.agg #[.string (nameB o.toNat), .int .i64 (0)], .int .i64 1, .int .i64 0]) ∧ Below w.heap.size w w' := by
  have hlen : lenF 1 = 1 := rfl
  have hne : ((m : Int) == 0) = false := by simp; omega
  go_enter Tryz.func48, Tryz.ntmps48
  go_wp2_with (first | (go_at_call 78; refine (code_Info _ _ ?_ o0 o1).mono ?_; (first | exact T | exact T.alloc _ | exact (T.alloc _).drew | exact ((T.alloc _).alloc _) | exact ((T.alloc _).alloc _).drew | exact T.below (by (repeat first | exact Below.refl _ _ | assumption | refine Below.trans ?_ (hb.mono (by first | omega | (simp; done) | (simp; omega))) | refine Below.drew ?_ | refine Below.alloc ?_ (by first | omega | (simp; done) | (simp; omega)) _ | refine Below.setCell ?_ (by first | omega | (simp; done) | (simp; omega)) _)) (by have := T.sz; omega)); rintro e w1 ⟨rfl, hb⟩; obtain ⟨hc, hfz⟩ := bcell hb; have hz := hb.size; simp at hz; have hz2 : w.heap.size < w1.heap.size := (by omega); have hz3 : w.heap.size < w1.heap.size + 1 := (by omega); have e1 := (hc w.heap.size 0 (by simp)); have e2 := (hc w.heap.size 1 (by simp)); have f1 := (hfz w.heap.size 0 (by simp)); have f2 := (hfz w.heap.size 1 (by simp)); (try simp at e1); (try simp at e2); (try simp at f1); (try simp at f2); have hb1 : b < w1.heap.size := (by omega); have hb2 : b < w1.heap.size + 1 := (by omega); have x0 := (hc b off (by simp; try omega)).trans ((World.cell?_alloc_lt w _ ⟨b, off, none⟩ hbl).trans c0)))
  go_region
  all_goals
    go_wp2
    refine bodyPost_ret (v := (.tuple #[.agg #[.string (nameB o.toNat), .int .i64 (0)], .int .i64 1, .int .i64 0])) (by simp [results, Tryz.results48, go_sem, *]) rfl ⟨rfl, ?_⟩
    (repeat first | exact Below.refl _ _ | assumption | refine Below.trans ?_ (hb.mono (by first | omega | (simp; done) | (simp; omega))) | refine Below.drew ?_ | refine Below.alloc ?_ (by first | omega | (simp; done) | (simp; omega)) _ | refine Below.setCell ?_ (by first | omega | (simp; done) | (simp; omega)) _)
set_option maxHeartbeats 1000000 in
set_option maxRecDepth 100000 in
theorem code_Decode_f2 (T : Tabs w) (b off m : Nat) (o p q : Int) (hbl : b < w.heap.size) (c0 : w.cell? ⟨b, off, none⟩ = some (.int .u8 o)) (c1 : False → w.cell? ⟨b, off + 1, none⟩ = some (.int .u8 p)) (c2 : False → w.cell? ⟨b, off + 2, none⟩ = some (.int .u8 q))
    (o0 : 0 ≤ o) (o1 : o ≤ 255) (p0 : 0 ≤ p) (p1 : p ≤ 255) (q0 : 0 ≤ q) (q1 : q ≤ 255) (hf : formF o.toNat = 2) (hm1 : 1 ≤ m) (hm0 : 1 ≤ m) (hm2 : m ≤ 2147483647) :
    Calls Tryz.prog 48 #[.slice (some ⟨b, off, none⟩) m c] w fun e w' => e = .returned (.tuple #[.agg #[.string (nameB o.toNat), .int .i64 (o % 16)], .int .i64 1, .int .i64 0]) ∧ Below w.heap.size w w' := by
  have hlen : lenF 2 = 1 := rfl
  have hne : ((m : Int) == 0) = false := by simp; omega
  go_enter Tryz.func48, Tryz.ntmps48
  go_wp2_with (first | (go_at_call 78; refine (code_Info _ _ ?_ o0 o1).mono ?_; (first | exact T | exact T.alloc _ | exact (T.alloc _).drew | exact ((T.alloc _).alloc _) | exact ((T.alloc _).alloc _).drew | exact T.below (by (repeat first | exact Below.refl _ _ | assumption | refine Below.trans ?_ (hb.mono (by first | omega | (simp; done) | (simp; omega))) | refine Below.drew ?_ | refine Below.alloc ?_ (by first | omega | (simp; done) | (simp; omega)) _ | refine Below.setCell ?_ (by first | omega | (simp; done) | (simp; omega)) _)) (by have := T.sz; omega)); rintro e w1 ⟨rfl, hb⟩; obtain ⟨hc, hfz⟩ := bcell hb; have hz := hb.size; simp at hz; have hz2 : w.heap.size < w1.heap.size := (by omega); have hz3 : w.heap.size < w1.heap.size + 1 := (by omega); have e1 := (hc w.heap.size 0 (by simp)); have e2 := (hc w.heap.size 1 (by simp)); have f1 := (hfz w.heap.size 0 (by simp)); have f2 := (hfz w.heap.size 1 (by simp)); (try simp at e1); (try simp at e2); (try simp at f1); (try simp at f2); have hb1 : b < w1.heap.size := (by omega); have hb2 : b < w1.heap.size + 1 := (by omega); have x0 := (hc b off (by simp; try omega)).trans ((World.cell?_alloc_lt w _ ⟨b, off, none⟩ hbl).trans c0)))
  go_region
  all_goals
    go_wp2
    refine bodyPost_ret (v := (.tuple #[.agg #[.string (nameB o.toNat), .int .i64 (o % 16)], .int .i64 1, .int .i64 0])) (by simp [results, Tryz.results48, go_sem, *]) rfl ⟨rfl, ?_⟩
    (repeat first | exact Below.refl _ _ | assumption | refine Below.trans ?_ (hb.mono (by first | omega | (simp; done) | (simp; omega))) | refine Below.drew ?_ | refine Below.alloc ?_ (by first | omega | (simp; done) | (simp; omega)) _ | refine Below.setCell ?_ (by first | omega | (simp; done) | (simp; omega)) _)
set_option maxHeartbeats 1000000 in
set_option maxRecDepth 100000 in
theorem code_Decode_f3 (T : Tabs w) (b off m : Nat) (o p q : Int) (hbl : b < w.heap.size) (c0 : w.cell? ⟨b, off, none⟩ = some (.int .u8 o)) (c1 : False → w.cell? ⟨b, off + 1, none⟩ = some (.int .u8 p)) (c2 : False → w.cell? ⟨b, off + 2, none⟩ = some (.int .u8 q))
    (o0 : 0 ≤ o) (o1 : o ≤ 255) (p0 : 0 ≤ p) (p1 : p ≤ 255) (q0 : 0 ≤ q) (q1 : q ≤ 255) (hf : formF o.toNat = 3) (hm1 : 1 ≤ m) (hm0 : 1 ≤ m) (hm2 : m ≤ 2147483647) :
    Calls Tryz.prog 48 #[.slice (some ⟨b, off, none⟩) m c] w fun e w' => e = .returned (.tuple #[.agg #[.string (nameB o.toNat), .int .i64 (o % 8)], .int .i64 1, .int .i64 0]) ∧ Below w.heap.size w w' := by
  have hlen : lenF 3 = 1 := rfl
  have hne : ((m : Int) == 0) = false := by simp; omega
  go_enter Tryz.func48, Tryz.ntmps48
  go_wp2_with (first | (go_at_call 78; refine (code_Info _ _ ?_ o0 o1).mono ?_; (first | exact T | exact T.alloc _ | exact (T.alloc _).drew | exact ((T.alloc _).alloc _) | exact ((T.alloc _).alloc _).drew | exact T.below (by (repeat first | exact Below.refl _ _ | assumption | refine Below.trans ?_ (hb.mono (by first | omega | (simp; done) | (simp; omega))) | refine Below.drew ?_ | refine Below.alloc ?_ (by first | omega | (simp; done) | (simp; omega)) _ | refine Below.setCell ?_ (by first | omega | (simp; done) | (simp; omega)) _)) (by have := T.sz; omega)); rintro e w1 ⟨rfl, hb⟩; obtain ⟨hc, hfz⟩ := bcell hb; have hz := hb.size; simp at hz; have hz2 : w.heap.size < w1.heap.size := (by omega); have hz3 : w.heap.size < w1.heap.size + 1 := (by omega); have e1 := (hc w.heap.size 0 (by simp)); have e2 := (hc w.heap.size 1 (by simp)); have f1 := (hfz w.heap.size 0 (by simp)); have f2 := (hfz w.heap.size 1 (by simp)); (try simp at e1); (try simp at e2); (try simp at f1); (try simp at f2); have hb1 : b < w1.heap.size := (by omega); have hb2 : b < w1.heap.size + 1 := (by omega); have x0 := (hc b off (by simp; try omega)).trans ((World.cell?_alloc_lt w _ ⟨b, off, none⟩ hbl).trans c0)))
  go_region
  all_goals
    go_wp2
    refine bodyPost_ret (v := (.tuple #[.agg #[.string (nameB o.toNat), .int .i64 (o % 8)], .int .i64 1, .int .i64 0])) (by simp [results, Tryz.results48, go_sem, *]) rfl ⟨rfl, ?_⟩
    (repeat first | exact Below.refl _ _ | assumption | refine Below.trans ?_ (hb.mono (by first | omega | (simp; done) | (simp; omega))) | refine Below.drew ?_ | refine Below.alloc ?_ (by first | omega | (simp; done) | (simp; omega)) _ | refine Below.setCell ?_ (by first | omega | (simp; done) | (simp; omega)) _)
set_option maxHeartbeats 1000000 in
set_option maxRecDepth 100000 in
theorem code_Decode_f4 (T : Tabs w) (b off m : Nat) (o p q : Int) (hbl : b < w.heap.size) (c0 : w.cell? ⟨b, off, none⟩ = some (.int .u8 o)) (c1 : w.cell? ⟨b, off + 1, none⟩ = some (.int .u8 p)) (c2 : False → w.cell? ⟨b, off + 2, none⟩ = some (.int .u8 q))
    (o0 : 0 ≤ o) (o1 : o ≤ 255) (p0 : 0 ≤ p) (p1 : p ≤ 255) (q0 : 0 ≤ q) (q1 : q ≤ 255) (hf : formF o.toNat = 4) (hm1 : 2 ≤ m) (hm0 : 1 ≤ m) (hm2 : m ≤ 2147483647) :
    Calls Tryz.prog 48 #[.slice (some ⟨b, off, none⟩) m c] w fun e w' => e = .returned (.tuple #[.agg #[.string (nameB o.toNat), .int .i64 (p)], .int .i64 2, .int .i64 0]) ∧ Below w.heap.size w w' := by
  have hlen : lenF 4 = 2 := rfl
  have hne : ((m : Int) == 0) = false := by simp; omega
  go_enter Tryz.func48, Tryz.ntmps48
  go_wp2_with (first | (go_at_call 78; refine (code_Info _ _ ?_ o0 o1).mono ?_; (first | exact T | exact T.alloc _ | exact (T.alloc _).drew | exact ((T.alloc _).alloc _) | exact ((T.alloc _).alloc _).drew | exact T.below (by (repeat first | exact Below.refl _ _ | assumption | refine Below.trans ?_ (hb.mono (by first | omega | (simp; done) | (simp; omega))) | refine Below.drew ?_ | refine Below.alloc ?_ (by first | omega | (simp; done) | (simp; omega)) _ | refine Below.setCell ?_ (by first | omega | (simp; done) | (simp; omega)) _)) (by have := T.sz; omega)); rintro e w1 ⟨rfl, hb⟩; obtain ⟨hc, hfz⟩ := bcell hb; have hz := hb.size; simp at hz; have hz2 : w.heap.size < w1.heap.size := (by omega); have hz3 : w.heap.size < w1.heap.size + 1 := (by omega); have e1 := (hc w.heap.size 0 (by simp)); have e2 := (hc w.heap.size 1 (by simp)); have f1 := (hfz w.heap.size 0 (by simp)); have f2 := (hfz w.heap.size 1 (by simp)); (try simp at e1); (try simp at e2); (try simp at f1); (try simp at f2); have hb1 : b < w1.heap.size := (by omega); have hb2 : b < w1.heap.size + 1 := (by omega); have x0 := (hc b off (by simp; try omega)).trans ((World.cell?_alloc_lt w _ ⟨b, off, none⟩ hbl).trans c0); have x1 := (hc b (off + 1) (by simp; try omega)).trans ((World.cell?_alloc_lt w _ ⟨b, off + 1, none⟩ hbl).trans c1)))
  go_region
  all_goals
    go_wp2
    refine bodyPost_ret (v := (.tuple #[.agg #[.string (nameB o.toNat), .int .i64 (p)], .int .i64 2, .int .i64 0])) (by simp [results, Tryz.results48, go_sem, *]) rfl ⟨rfl, ?_⟩
    (repeat first | exact Below.refl _ _ | assumption | refine Below.trans ?_ (hb.mono (by first | omega | (simp; done) | (simp; omega))) | refine Below.drew ?_ | refine Below.alloc ?_ (by first | omega | (simp; done) | (simp; omega)) _ | refine Below.setCell ?_ (by first | omega | (simp; done) | (simp; omega)) _)
set_option maxHeartbeats 1000000 in
set_option maxRecDepth 100000 in
theorem code_Decode_f5 (T : Tabs w) (b off m : Nat) (o p q : Int) (hbl : b < w.heap.size) (c0 : w.cell? ⟨b, off, none⟩ = some (.int .u8 o)) (c1 : w.cell? ⟨b, off + 1, none⟩ = some (.int .u8 p)) (c2 : False → w.cell? ⟨b, off + 2, none⟩ = some (.int .u8 q))
    (o0 : 0 ≤ o) (o1 : o ≤ 255) (p0 : 0 ≤ p) (p1 : p ≤ 255) (q0 : 0 ≤ q) (q1 : q ≤ 255) (hf : formF o.toNat = 5) (hm1 : 2 ≤ m) (hm0 : 1 ≤ m) (hm2 : m ≤ 2147483647) :
    Calls Tryz.prog 48 #[.slice (some ⟨b, off, none⟩) m c] w fun e w' => e = .returned (.tuple #[.agg #[.string (nameB o.toNat), .int .i64 (p)], .int .i64 2, .int .i64 0]) ∧ Below w.heap.size w w' := by
  have hlen : lenF 5 = 2 := rfl
  have hne : ((m : Int) == 0) = false := by simp; omega
  go_enter Tryz.func48, Tryz.ntmps48
  go_wp2_with (first | (go_at_call 78; refine (code_Info _ _ ?_ o0 o1).mono ?_; (first | exact T | exact T.alloc _ | exact (T.alloc _).drew | exact ((T.alloc _).alloc _) | exact ((T.alloc _).alloc _).drew | exact T.below (by (repeat first | exact Below.refl _ _ | assumption | refine Below.trans ?_ (hb.mono (by first | omega | (simp; done) | (simp; omega))) | refine Below.drew ?_ | refine Below.alloc ?_ (by first | omega | (simp; done) | (simp; omega)) _ | refine Below.setCell ?_ (by first | omega | (simp; done) | (simp; omega)) _)) (by have := T.sz; omega)); rintro e w1 ⟨rfl, hb⟩; obtain ⟨hc, hfz⟩ := bcell hb; have hz := hb.size; simp at hz; have hz2 : w.heap.size < w1.heap.size := (by omega); have hz3 : w.heap.size < w1.heap.size + 1 := (by omega); have e1 := (hc w.heap.size 0 (by simp)); have e2 := (hc w.heap.size 1 (by simp)); have f1 := (hfz w.heap.size 0 (by simp)); have f2 := (hfz w.heap.size 1 (by simp)); (try simp at e1); (try simp at e2); (try simp at f1); (try simp at f2); have hb1 : b < w1.heap.size := (by omega); have hb2 : b < w1.heap.size + 1 := (by omega); have x0 := (hc b off (by simp; try omega)).trans ((World.cell?_alloc_lt w _ ⟨b, off, none⟩ hbl).trans c0); have x1 := (hc b (off + 1) (by simp; try omega)).trans ((World.cell?_alloc_lt w _ ⟨b, off + 1, none⟩ hbl).trans c1)))
  go_region
  all_goals
    go_wp2
    refine bodyPost_ret (v := (.tuple #[.agg #[.string (nameB o.toNat), .int .i64 (p)], .int .i64 2, .int .i64 0])) (by simp [results, Tryz.results48, go_sem, *]) rfl ⟨rfl, ?_⟩
    (repeat first | exact Below.refl _ _ | assumption | refine Below.trans ?_ (hb.mono (by first | omega | (simp; done) | (simp; omega))) | refine Below.drew ?_ | refine Below.alloc ?_ (by first | omega | (simp; done) | (simp; omega)) _ | refine Below.setCell ?_ (by first | omega | (simp; done) | (simp; omega)) _)
set_option maxHeartbeats 1000000 in
set_option maxRecDepth 100000 in
theorem code_Decode_s4 (T : Tabs w) (b off m : Nat) (o p q : Int) (hbl : b < w.heap.size) (c0 : w.cell? ⟨b, off, none⟩ = some (.int .u8 o)) (c1 : False → w.cell? ⟨b, off + 1, none⟩ = some (.int .u8 p)) (c2 : False → w.cell? ⟨b, off + 2, none⟩ = some (.int .u8 q))
    (o0 : 0 ≤ o) (o1 : o ≤ 255) (p0 : 0 ≤ p) (p1 : p ≤ 255) (q0 : 0 ≤ q) (q1 : q ≤ 255) (hf : formF o.toNat = 4) (hm1 : m < 2) (hm0 : 1 ≤ m) (hm2 : m ≤ 2147483647) :
    Calls Tryz.prog 48 #[.slice (some ⟨b, off, none⟩) m c] w fun e w' => e = .returned (.tuple #[.agg #[.string ⟨#[]⟩, .int .i64 0], .int .i64 0, .int .i64 22]) ∧ Below w.heap.size w w' := by
  have hlen : lenF 4 = 2 := rfl
  have hne : ((m : Int) == 0) = false := by simp; omega
  go_enter Tryz.func48, Tryz.ntmps48
  go_wp2_with (first | (go_at_call 78; refine (code_Info _ _ ?_ o0 o1).mono ?_; (first | exact T | exact T.alloc _ | exact (T.alloc _).drew | exact ((T.alloc _).alloc _) | exact ((T.alloc _).alloc _).drew | exact T.below (by (repeat first | exact Below.refl _ _ | assumption | refine Below.trans ?_ (hb.mono (by first | omega | (simp; done) | (simp; omega))) | refine Below.drew ?_ | refine Below.alloc ?_ (by first | omega | (simp; done) | (simp; omega)) _ | refine Below.setCell ?_ (by first | omega | (simp; done) | (simp; omega)) _)) (by have := T.sz; omega)); rintro e w1 ⟨rfl, hb⟩; obtain ⟨hc, hfz⟩ := bcell hb; have hz := hb.size; simp at hz; have hz2 : w.heap.size < w1.heap.size := (by omega); have hz3 : w.heap.size < w1.heap.size + 1 := (by omega); have e1 := (hc w.heap.size 0 (by simp)); have e2 := (hc w.heap.size 1 (by simp)); have f1 := (hfz w.heap.size 0 (by simp)); have f2 := (hfz w.heap.size 1 (by simp)); (try simp at e1); (try simp at e2); (try simp at f1); (try simp at f2); have hb1 : b < w1.heap.size := (by omega); have hb2 : b < w1.heap.size + 1 := (by omega); have x0 := (hc b off (by simp; try omega)).trans ((World.cell?_alloc_lt w _ ⟨b, off, none⟩ hbl).trans c0)))
  refine bodyPost_ret (v := (.tuple #[.agg #[.string ⟨#[]⟩, .int .i64 0], .int .i64 0, .int .i64 22])) (by simp [results, Tryz.results48, go_sem, *]) rfl ⟨rfl, ?_⟩
  (repeat first | exact Below.refl _ _ | assumption | refine Below.trans ?_ (hb.mono (by first | omega | (simp; done) | (simp; omega))) | refine Below.drew ?_ | refine Below.alloc ?_ (by first | omega | (simp; done) | (simp; omega)) _ | refine Below.setCell ?_ (by first | omega | (simp; done) | (simp; omega)) _)
set_option maxHeartbeats 1000000 in
set_option maxRecDepth 100000 in
theorem code_Decode_s5 (T : Tabs w) (b off m : Nat) (o p q : Int) (hbl : b < w.heap.size) (c0 : w.cell? ⟨b, off, none⟩ = some (.int .u8 o)) (c1 : False → w.cell? ⟨b, off + 1, none⟩ = some (.int .u8 p)) (c2 : False → w.cell? ⟨b, off + 2, none⟩ = some (.int .u8 q))
    (o0 : 0 ≤ o) (o1 : o ≤ 255) (p0 : 0 ≤ p) (p1 : p ≤ 255) (q0 : 0 ≤ q) (q1 : q ≤ 255) (hf : formF o.toNat = 5) (hm1 : m < 2) (hm0 : 1 ≤ m) (hm2 : m ≤ 2147483647) :
    Calls Tryz.prog 48 #[.slice (some ⟨b, off, none⟩) m c] w fun e w' => e = .returned (.tuple #[.agg #[.string ⟨#[]⟩, .int .i64 0], .int .i64 0, .int .i64 22]) ∧ Below w.heap.size w w' := by
  have hlen : lenF 5 = 2 := rfl
  have hne : ((m : Int) == 0) = false := by simp; omega
  go_enter Tryz.func48, Tryz.ntmps48
  go_wp2_with (first | (go_at_call 78; refine (code_Info _ _ ?_ o0 o1).mono ?_; (first | exact T | exact T.alloc _ | exact (T.alloc _).drew | exact ((T.alloc _).alloc _) | exact ((T.alloc _).alloc _).drew | exact T.below (by (repeat first | exact Below.refl _ _ | assumption | refine Below.trans ?_ (hb.mono (by first | omega | (simp; done) | (simp; omega))) | refine Below.drew ?_ | refine Below.alloc ?_ (by first | omega | (simp; done) | (simp; omega)) _ | refine Below.setCell ?_ (by first | omega | (simp; done) | (simp; omega)) _)) (by have := T.sz; omega)); rintro e w1 ⟨rfl, hb⟩; obtain ⟨hc, hfz⟩ := bcell hb; have hz := hb.size; simp at hz; have hz2 : w.heap.size < w1.heap.size := (by omega); have hz3 : w.heap.size < w1.heap.size + 1 := (by omega); have e1 := (hc w.heap.size 0 (by simp)); have e2 := (hc w.heap.size 1 (by simp)); have f1 := (hfz w.heap.size 0 (by simp)); have f2 := (hfz w.heap.size 1 (by simp)); (try simp at e1); (try simp at e2); (try simp at f1); (try simp at f2); have hb1 : b < w1.heap.size := (by omega); have hb2 : b < w1.heap.size + 1 := (by omega); have x0 := (hc b off (by simp; try omega)).trans ((World.cell?_alloc_lt w _ ⟨b, off, none⟩ hbl).trans c0)))
  refine bodyPost_ret (v := (.tuple #[.agg #[.string ⟨#[]⟩, .int .i64 0], .int .i64 0, .int .i64 22])) (by simp [results, Tryz.results48, go_sem, *]) rfl ⟨rfl, ?_⟩
  (repeat first | exact Below.refl _ _ | assumption | refine Below.trans ?_ (hb.mono (by first | omega | (simp; done) | (simp; omega))) | refine Below.drew ?_ | refine Below.alloc ?_ (by first | omega | (simp; done) | (simp; omega)) _ | refine Below.setCell ?_ (by first | omega | (simp; done) | (simp; omega)) _)
set_option maxHeartbeats 1000000 in
set_option maxRecDepth 100000 in
theorem code_Decode_s6 (T : Tabs w) (b off m : Nat) (o p q : Int) (hbl : b < w.heap.size) (c0 : w.cell? ⟨b, off, none⟩ = some (.int .u8 o)) (c1 : False → w.cell? ⟨b, off + 1, none⟩ = some (.int .u8 p)) (c2 : False → w.cell? ⟨b, off + 2, none⟩ = some (.int .u8 q))
    (o0 : 0 ≤ o) (o1 : o ≤ 255) (p0 : 0 ≤ p) (p1 : p ≤ 255) (q0 : 0 ≤ q) (q1 : q ≤ 255) (hf : formF o.toNat = 6) (hm1 : m < 3) (hm0 : 1 ≤ m) (hm2 : m ≤ 2147483647) :
    Calls Tryz.prog 48 #[.slice (some ⟨b, off, none⟩) m c] w fun e w' => e = .returned (.tuple #[.agg #[.string ⟨#[]⟩, .int .i64 0], .int .i64 0, .int .i64 22]) ∧ Below w.heap.size w w' := by
  have hlen : lenF 6 = 3 := rfl
  have hne : ((m : Int) == 0) = false := by simp; omega
  go_enter Tryz.func48, Tryz.ntmps48
  go_wp2_with (first | (go_at_call 78; refine (code_Info _ _ ?_ o0 o1).mono ?_; (first | exact T | exact T.alloc _ | exact (T.alloc _).drew | exact ((T.alloc _).alloc _) | exact ((T.alloc _).alloc _).drew | exact T.below (by (repeat first | exact Below.refl _ _ | assumption | refine Below.trans ?_ (hb.mono (by first | omega | (simp; done) | (simp; omega))) | refine Below.drew ?_ | refine Below.alloc ?_ (by first | omega | (simp; done) | (simp; omega)) _ | refine Below.setCell ?_ (by first | omega | (simp; done) | (simp; omega)) _)) (by have := T.sz; omega)); rintro e w1 ⟨rfl, hb⟩; obtain ⟨hc, hfz⟩ := bcell hb; have hz := hb.size; simp at hz; have hz2 : w.heap.size < w1.heap.size := (by omega); have hz3 : w.heap.size < w1.heap.size + 1 := (by omega); have e1 := (hc w.heap.size 0 (by simp)); have e2 := (hc w.heap.size 1 (by simp)); have f1 := (hfz w.heap.size 0 (by simp)); have f2 := (hfz w.heap.size 1 (by simp)); (try simp at e1); (try simp at e2); (try simp at f1); (try simp at f2); have hb1 : b < w1.heap.size := (by omega); have hb2 : b < w1.heap.size + 1 := (by omega); have x0 := (hc b off (by simp; try omega)).trans ((World.cell?_alloc_lt w _ ⟨b, off, none⟩ hbl).trans c0)))
  refine bodyPost_ret (v := (.tuple #[.agg #[.string ⟨#[]⟩, .int .i64 0], .int .i64 0, .int .i64 22])) (by simp [results, Tryz.results48, go_sem, *]) rfl ⟨rfl, ?_⟩
  (repeat first | exact Below.refl _ _ | assumption | refine Below.trans ?_ (hb.mono (by first | omega | (simp; done) | (simp; omega))) | refine Below.drew ?_ | refine Below.alloc ?_ (by first | omega | (simp; done) | (simp; omega)) _ | refine Below.setCell ?_ (by first | omega | (simp; done) | (simp; omega)) _)
set_option maxHeartbeats 1000000 in
set_option maxRecDepth 100000 in
theorem code_Decode_f6 (T : Tabs w) (b off m : Nat) (o p q : Int) (hbl : b < w.heap.size) (c0 : w.cell? ⟨b, off, none⟩ = some (.int .u8 o)) (c1 : w.cell? ⟨b, off + 1, none⟩ = some (.int .u8 p)) (c2 : w.cell? ⟨b, off + 2, none⟩ = some (.int .u8 q))
    (o0 : 0 ≤ o) (o1 : o ≤ 255) (p0 : 0 ≤ p) (p1 : p ≤ 255) (q0 : 0 ≤ q) (q1 : q ≤ 255) (hf : formF o.toNat = 6) (hm1 : 3 ≤ m) (hm0 : 1 ≤ m) (hm2 : m ≤ 2147483647) :
    Calls Tryz.prog 48 #[.slice (some ⟨b, off, none⟩) m c] w fun e w' => e = .returned (.tuple #[.agg #[.string (nameB o.toNat), .int .i64 (256 * p + q)], .int .i64 3, .int .i64 0]) ∧ Below w.heap.size w w' := by
  have hlen : lenF 6 = 3 := rfl
  have hne : ((m : Int) == 0) = false := by simp; omega
  go_enter Tryz.func48, Tryz.ntmps48
  go_wp2_with (first | (go_at_call 78; refine (code_Info _ _ ?_ o0 o1).mono ?_; (first | exact T | exact T.alloc _ | exact (T.alloc _).drew | exact ((T.alloc _).alloc _) | exact ((T.alloc _).alloc _).drew | exact T.below (by (repeat first | exact Below.refl _ _ | assumption | refine Below.trans ?_ (hb.mono (by first | omega | (simp; done) | (simp; omega))) | refine Below.drew ?_ | refine Below.alloc ?_ (by first | omega | (simp; done) | (simp; omega)) _ | refine Below.setCell ?_ (by first | omega | (simp; done) | (simp; omega)) _)) (by have := T.sz; omega)); rintro e w1 ⟨rfl, hb⟩; obtain ⟨hc, hfz⟩ := bcell hb; have hz := hb.size; simp at hz; have hz2 : w.heap.size < w1.heap.size := (by omega); have hz3 : w.heap.size < w1.heap.size + 1 := (by omega); have e1 := (hc w.heap.size 0 (by simp)); have e2 := (hc w.heap.size 1 (by simp)); have f1 := (hfz w.heap.size 0 (by simp)); have f2 := (hfz w.heap.size 1 (by simp)); (try simp at e1); (try simp at e2); (try simp at f1); (try simp at f2); have hb1 : b < w1.heap.size := (by omega); have hb2 : b < w1.heap.size + 1 := (by omega); have x0 := (hc b off (by simp; try omega)).trans ((World.cell?_alloc_lt w _ ⟨b, off, none⟩ hbl).trans c0); have x1 := (hc b (off + 1) (by simp; try omega)).trans ((World.cell?_alloc_lt w _ ⟨b, off + 1, none⟩ hbl).trans c1); have x2 := (hc b (off + 2) (by simp; try omega)).trans ((World.cell?_alloc_lt w _ ⟨b, off + 2, none⟩ hbl).trans c2)) | (go_at_call 79; refine (bits_Word _ _ _ p0 p1 q0 q1).mono ?_; rintro e w2 ⟨rfl, rfl⟩))
  go_region_with (go_at_call 79; refine (bits_Word _ _ _ p0 p1 q0 q1).mono ?_; rintro e w2 ⟨rfl, rfl⟩)
  all_goals go_wp2
  all_goals go_region
  all_goals
    go_wp2
    refine bodyPost_ret (v := (.tuple #[.agg #[.string (nameB o.toNat), .int .i64 (256 * p + q)], .int .i64 3, .int .i64 0])) (by simp [results, Tryz.results48, go_sem, *]) rfl ⟨rfl, ?_⟩
    (repeat first | exact Below.refl _ _ | assumption | refine Below.trans ?_ (hb.mono (by first | omega | (simp; done) | (simp; omega))) | refine Below.drew ?_ | refine Below.alloc ?_ (by first | omega | (simp; done) | (simp; omega)) _ | refine Below.setCell ?_ (by first | omega | (simp; done) | (simp; omega)) _)
end
theorem bytes_at {xs : List Int} (h : Bytes xs) (i : Nat) : 0 ≤ xs.getD i 0 ∧ xs.getD i 0 ≤ 255 := by
  by_cases hi : i < xs.length
  · have e : xs.getD i 0 = xs[i] := by simp [List.getD, hi]
    rw [e]; exact h _ (List.getElem_mem hi)
  · have e : xs.getD i 0 = 0 := by simp [List.getD, List.getElem?_eq_none (Nat.le_of_not_lt hi)]
    rw [e]; omega
theorem code_Decode (A : Option Addr) (c : Nat) (xs : List Int) (w : World) (T : Tabs w) (R : RdB w A xs) (hx : Bytes xs) (hl : xs.length ≤ 2147483647) (n : Nat) (hn : n = xs.length) : Calls Tryz.prog 48 #[.slice A n c] w fun e w' => e = .returned (DecV xs) ∧ Below w.heap.size w w' := by
  subst hn
  cases xs with
  | nil => exact code_Decode_nil A c w
  | cons o r =>
    obtain ⟨b, off, rfl, hb, hr⟩ := R (by simp)
    have c0 : w.cell? ⟨b, off, none⟩ = some (.int .u8 o) := hr 0 (by simp)
    have o01 := hx o (by simp)
    have hx' : Bytes r := fun x h => hx x (List.mem_cons_of_mem _ h)
    have p01 := bytes_at hx' 0
    have q01 := bytes_at hx' 1
    have c1 : 2 ≤ (o :: r).length → w.cell? ⟨b, off + 1, none⟩ = some (.int .u8 (r.getD 0 0)) := fun h => hr 1 (by omega)
    have c2 : 3 ≤ (o :: r).length → w.cell? ⟨b, off + 2, none⟩ = some (.int .u8 (r.getD 1 0)) := fun h => hr 2 (by omega)
    have hm : 1 ≤ (o :: r).length := by simp
    generalize hM : (o :: r).length = m at *
    obtain ⟨hf1, hf2⟩ := formF_pos o.toNat
    have D : DecV (o :: r) = if m < lenF (formF o.toNat) then .tuple #[.agg #[.string ⟨#[]⟩, .int .i64 0], .int .i64 0, .int .i64 22] else
        .tuple #[.agg #[.string (nameB o.toNat), .int .i64 (if formF o.toNat = 2 then o % 16 else if formF o.toNat = 3 then o % 8 else if formF o.toNat = 4 ∨ formF o.toNat = 5 then r.getD 0 0 else if formF o.toNat = 6 then 256 * r.getD 0 0 + r.getD 1 0 else 0)], .int .i64 (lenF (formF o.toNat)), .int .i64 0] := by
      unfold DecV decI; simp only [hM]; split <;> rfl
    rw [D]
    have hcase : formF o.toNat = 1 ∨ formF o.toNat = 2 ∨ formF o.toNat = 3 ∨ formF o.toNat = 4 ∨ formF o.toNat = 5 ∨ formF o.toNat = 6 := by omega
    rcases hcase with hf | hf | hf | hf | hf | hf
    · rw [hf, if_neg (by simp [lenF]; omega)]
      exact code_Decode_f1 c w T b off m o 0 0 hb c0 (fun h => h.elim) (fun h => h.elim) o01.1 o01.2 (by omega) (by omega) (by omega) (by omega) hf hm hm hl
    · rw [hf, if_neg (by simp [lenF]; omega)]
      exact code_Decode_f2 c w T b off m o 0 0 hb c0 (fun h => h.elim) (fun h => h.elim) o01.1 o01.2 (by omega) (by omega) (by omega) (by omega) hf hm hm hl
    · rw [hf, if_neg (by simp [lenF]; omega)]
      exact code_Decode_f3 c w T b off m o 0 0 hb c0 (fun h => h.elim) (fun h => h.elim) o01.1 o01.2 (by omega) (by omega) (by omega) (by omega) hf hm hm hl
    · by_cases h2 : m < 2
      · rw [hf, if_pos (by simp [lenF]; omega)]
        exact code_Decode_s4 c w T b off m o 0 0 hb c0 (fun h => h.elim) (fun h => h.elim) o01.1 o01.2 (by omega) (by omega) (by omega) (by omega) hf h2 hm hl
      · rw [hf, if_neg (by simp [lenF]; omega)]
        exact code_Decode_f4 c w T b off m o _ 0 hb c0 (c1 (by omega)) (fun h => h.elim) o01.1 o01.2 p01.1 p01.2 (by omega) (by omega) hf (by omega) hm hl
    · by_cases h2 : m < 2
      · rw [hf, if_pos (by simp [lenF]; omega)]
        exact code_Decode_s5 c w T b off m o 0 0 hb c0 (fun h => h.elim) (fun h => h.elim) o01.1 o01.2 (by omega) (by omega) (by omega) (by omega) hf h2 hm hl
      · rw [hf, if_neg (by simp [lenF]; omega)]
        exact code_Decode_f5 c w T b off m o _ 0 hb c0 (c1 (by omega)) (fun h => h.elim) o01.1 o01.2 p01.1 p01.2 (by omega) (by omega) hf (by omega) hm hl
    · by_cases h2 : m < 3
      · rw [hf, if_pos (by simp [lenF]; omega)]
        exact code_Decode_s6 c w T b off m o 0 0 hb c0 (fun h => h.elim) (fun h => h.elim) o01.1 o01.2 (by omega) (by omega) (by omega) (by omega) hf h2 hm hl
      · rw [hf, if_neg (by simp [lenF]; omega)]
        exact code_Decode_f6 c w T b off m o _ _ hb c0 (c1 (by omega)) (c2 (by omega)) o01.1 o01.2 p01.1 p01.2 q01.1 q01.2 hf (by omega) hm hl
end Go.Proofs.YtofhdlkocgbcgaaGreatDoor
