/- The walk of the reference's Decode and Print. -/
import Derived.Test.YtofhdlkocgbcgaaGreatDoorCodeY
import Derived.Test.YtofhdlkocgbcgaaGreatDoorDigW
namespace Go.Proofs.YtofhdlkocgbcgaaGreatDoor
open Go Go.RowKit Pu
set_option linter.unusedVariables false
set_option linter.unusedSimpArgs false
theorem r2_FormOf' (op : Int) (w : World) (h0 : 0 ≤ op) (h1 : op ≤ 255) (f : Int) (hf : (formF op.toNat : Int) = f) : Calls Tryz.prog 63 #[.int .u8 op] w fun e w' => e = .returned (.int .u8 f) ∧ w = w' := hf ▸ r2_FormOf op w h0 h1
theorem r2_Bytes' (f : Int) (w : World) (h0 : 1 ≤ f) (h1 : f ≤ 6) (n : Int) (hn : (lenF f.toNat : Int) = n) : Calls Tryz.prog 64 #[.int .u8 f] w fun e w' => e = .returned (.int .i64 n) ∧ w = w' := hn ▸ r2_Bytes f w h0 h1
theorem r2_wide' (f : Int) (w : World) (h0 : 1 ≤ f) (h1 : f ≤ 6) (n : Int) (hn : (wideF f.toNat : Int) = n) : Calls Tryz.prog 69 #[.int .u8 f] w fun e w' => e = .returned (.int .i64 n) ∧ w = w' := hn ▸ r2_wide f w h0 h1
section
variable (A : Option Addr) (c : Nat) (w : World)
theorem r2_Decode_nil : Calls Tryz.prog 38 #[.slice A 0 c] w fun e w' => e = .returned (DecV []) ∧ Below w.heap.size w w' := by
  go_enter Tryz.func38, Tryz.ntmps38
  go_wp2
  refine bodyPost_ret (v := DecV []) (by simp [DecV, decI, results, Tryz.results38, go_sem]) rfl ⟨rfl, ?_⟩
  (repeat first | exact Below.refl _ _ | assumption | refine Below.trans ?_ (hb.mono (by first | omega | (simp; done) | (simp; omega))) | refine Below.drew ?_ | refine Below.alloc ?_ (by first | omega | (simp; done) | (simp; omega)) _ | refine Below.setCell ?_ (by first | omega | (simp; done) | (simp; omega)) _)
set_option maxHeartbeats 1000000 in
set_option maxRecDepth 100000 in
theorem r2_Decode_f1 (b off m : Nat) (o p q : Int) (hbl : b < w.heap.size) (c0 : w.cell? ⟨b, off, none⟩ = some (.int .u8 o)) (c1 : False → w.cell? ⟨b, off + 1, none⟩ = some (.int .u8 p)) (c2 : False → w.cell? ⟨b, off + 2, none⟩ = some (.int .u8 q))
    (o0 : 0 ≤ o) (o1 : o ≤ 255) (p0 : 0 ≤ p) (p1 : p ≤ 255) (q0 : 0 ≤ q) (q1 : q ≤ 255) (hf : formF o.toNat = 1) (hm1 : 1 ≤ m) (hm0 : 1 ≤ m) (hm2 : m ≤ 2147483647) :
    Calls Tryz.prog 38 #[.slice (some ⟨b, off, none⟩) m c] w fun e w' => e = .returned (.tuple #[.agg #[.string (nameB o.toNat), .int .i64 (0)], .int .i64 1, .int .i64 0]) ∧ Below w.heap.size w w' := by
  have hne : ((m : Int) == 0) = false := by simp; omega
  have hff : (formF o.toNat : Int) = 1 := by rw [hf]; rfl
  go_enter Tryz.func38, Tryz.ntmps38
  go_wp2_with (first | (go_at_call 63; refine (r2_FormOf' _ _ o0 o1 _ hff).mono ?_; rintro e w1 ⟨rfl, rfl⟩) | (go_at_call 64; refine (r2_Bytes' _ _ (by decide) (by decide) 1 rfl).mono ?_; rintro e w1 ⟨rfl, rfl⟩) | (go_at_call 65; refine (r2_Name _ _ o0 o1).mono ?_; rintro e w1 ⟨rfl, hb⟩; obtain ⟨hc, hfz⟩ := bcell hb; have hz := hb.size; simp at hz; have hz2 : w.heap.size < w1.heap.size := (by omega); have hz3 : w.heap.size < w1.heap.size + 1 := (by omega); have e1 := (hc w.heap.size 0 (by simp)); have e2 := (hc w.heap.size 1 (by simp)); have f1 := (hfz w.heap.size 0 (by simp)); have f2 := (hfz w.heap.size 1 (by simp)); (try simp at e1); (try simp at e2); (try simp at f1); (try simp at f2)))
  refine bodyPost_ret (v := (.tuple #[.agg #[.string (nameB o.toNat), .int .i64 (0)], .int .i64 1, .int .i64 0])) (by simp [results, Tryz.results38, go_sem, *]) rfl ⟨rfl, ?_⟩
  (repeat first | exact Below.refl _ _ | assumption | refine Below.trans ?_ (hb.mono (by first | omega | (simp; done) | (simp; omega))) | refine Below.drew ?_ | refine Below.alloc ?_ (by first | omega | (simp; done) | (simp; omega)) _ | refine Below.setCell ?_ (by first | omega | (simp; done) | (simp; omega)) _)
set_option maxHeartbeats 1000000 in
set_option maxRecDepth 100000 in
theorem r2_Decode_f2 (b off m : Nat) (o p q : Int) (hbl : b < w.heap.size) (c0 : w.cell? ⟨b, off, none⟩ = some (.int .u8 o)) (c1 : False → w.cell? ⟨b, off + 1, none⟩ = some (.int .u8 p)) (c2 : False → w.cell? ⟨b, off + 2, none⟩ = some (.int .u8 q))
    (o0 : 0 ≤ o) (o1 : o ≤ 255) (p0 : 0 ≤ p) (p1 : p ≤ 255) (q0 : 0 ≤ q) (q1 : q ≤ 255) (hf : formF o.toNat = 2) (hm1 : 1 ≤ m) (hm0 : 1 ≤ m) (hm2 : m ≤ 2147483647) :
    Calls Tryz.prog 38 #[.slice (some ⟨b, off, none⟩) m c] w fun e w' => e = .returned (.tuple #[.agg #[.string (nameB o.toNat), .int .i64 (o % 16)], .int .i64 1, .int .i64 0]) ∧ Below w.heap.size w w' := by
  have hne : ((m : Int) == 0) = false := by simp; omega
  have hff : (formF o.toNat : Int) = 2 := by rw [hf]; rfl
  go_enter Tryz.func38, Tryz.ntmps38
  go_wp2_with (first | (go_at_call 63; refine (r2_FormOf' _ _ o0 o1 _ hff).mono ?_; rintro e w1 ⟨rfl, rfl⟩) | (go_at_call 64; refine (r2_Bytes' _ _ (by decide) (by decide) 1 rfl).mono ?_; rintro e w1 ⟨rfl, rfl⟩) | (go_at_call 65; refine (r2_Name _ _ o0 o1).mono ?_; rintro e w1 ⟨rfl, hb⟩; obtain ⟨hc, hfz⟩ := bcell hb; have hz := hb.size; simp at hz; have hz2 : w.heap.size < w1.heap.size := (by omega); have hz3 : w.heap.size < w1.heap.size + 1 := (by omega); have e1 := (hc w.heap.size 0 (by simp)); have e2 := (hc w.heap.size 1 (by simp)); have f1 := (hfz w.heap.size 0 (by simp)); have f2 := (hfz w.heap.size 1 (by simp)); (try simp at e1); (try simp at e2); (try simp at f1); (try simp at f2)))
  refine bodyPost_ret (v := (.tuple #[.agg #[.string (nameB o.toNat), .int .i64 (o % 16)], .int .i64 1, .int .i64 0])) (by simp [results, Tryz.results38, go_sem, *]) rfl ⟨rfl, ?_⟩
  (repeat first | exact Below.refl _ _ | assumption | refine Below.trans ?_ (hb.mono (by first | omega | (simp; done) | (simp; omega))) | refine Below.drew ?_ | refine Below.alloc ?_ (by first | omega | (simp; done) | (simp; omega)) _ | refine Below.setCell ?_ (by first | omega | (simp; done) | (simp; omega)) _)
set_option maxHeartbeats 1000000 in
set_option maxRecDepth 100000 in
theorem r2_Decode_f3 (b off m : Nat) (o p q : Int) (hbl : b < w.heap.size) (c0 : w.cell? ⟨b, off, none⟩ = some (.int .u8 o)) (c1 : False → w.cell? ⟨b, off + 1, none⟩ = some (.int .u8 p)) (c2 : False → w.cell? ⟨b, off + 2, none⟩ = some (.int .u8 q))
    (o0 : 0 ≤ o) (o1 : o ≤ 255) (p0 : 0 ≤ p) (p1 : p ≤ 255) (q0 : 0 ≤ q) (q1 : q ≤ 255) (hf : formF o.toNat = 3) (hm1 : 1 ≤ m) (hm0 : 1 ≤ m) (hm2 : m ≤ 2147483647) :
    Calls Tryz.prog 38 #[.slice (some ⟨b, off, none⟩) m c] w fun e w' => e = .returned (.tuple #[.agg #[.string (nameB o.toNat), .int .i64 (o % 8)], .int .i64 1, .int .i64 0]) ∧ Below w.heap.size w w' := by
  have hne : ((m : Int) == 0) = false := by simp; omega
  have hff : (formF o.toNat : Int) = 3 := by rw [hf]; rfl
  go_enter Tryz.func38, Tryz.ntmps38
  go_wp2_with (first | (go_at_call 63; refine (r2_FormOf' _ _ o0 o1 _ hff).mono ?_; rintro e w1 ⟨rfl, rfl⟩) | (go_at_call 64; refine (r2_Bytes' _ _ (by decide) (by decide) 1 rfl).mono ?_; rintro e w1 ⟨rfl, rfl⟩) | (go_at_call 65; refine (r2_Name _ _ o0 o1).mono ?_; rintro e w1 ⟨rfl, hb⟩; obtain ⟨hc, hfz⟩ := bcell hb; have hz := hb.size; simp at hz; have hz2 : w.heap.size < w1.heap.size := (by omega); have hz3 : w.heap.size < w1.heap.size + 1 := (by omega); have e1 := (hc w.heap.size 0 (by simp)); have e2 := (hc w.heap.size 1 (by simp)); have f1 := (hfz w.heap.size 0 (by simp)); have f2 := (hfz w.heap.size 1 (by simp)); (try simp at e1); (try simp at e2); (try simp at f1); (try simp at f2)))
  refine bodyPost_ret (v := (.tuple #[.agg #[.string (nameB o.toNat), .int .i64 (o % 8)], .int .i64 1, .int .i64 0])) (by simp [results, Tryz.results38, go_sem, *]) rfl ⟨rfl, ?_⟩
  (repeat first | exact Below.refl _ _ | assumption | refine Below.trans ?_ (hb.mono (by first | omega | (simp; done) | (simp; omega))) | refine Below.drew ?_ | refine Below.alloc ?_ (by first | omega | (simp; done) | (simp; omega)) _ | refine Below.setCell ?_ (by first | omega | (simp; done) | (simp; omega)) _)
set_option maxHeartbeats 1000000 in
set_option maxRecDepth 100000 in
theorem r2_Decode_f4 (b off m : Nat) (o p q : Int) (hbl : b < w.heap.size) (c0 : w.cell? ⟨b, off, none⟩ = some (.int .u8 o)) (c1 : w.cell? ⟨b, off + 1, none⟩ = some (.int .u8 p)) (c2 : False → w.cell? ⟨b, off + 2, none⟩ = some (.int .u8 q))
    (o0 : 0 ≤ o) (o1 : o ≤ 255) (p0 : 0 ≤ p) (p1 : p ≤ 255) (q0 : 0 ≤ q) (q1 : q ≤ 255) (hf : formF o.toNat = 4) (hm1 : 2 ≤ m) (hm0 : 1 ≤ m) (hm2 : m ≤ 2147483647) :
    Calls Tryz.prog 38 #[.slice (some ⟨b, off, none⟩) m c] w fun e w' => e = .returned (.tuple #[.agg #[.string (nameB o.toNat), .int .i64 (p)], .int .i64 2, .int .i64 0]) ∧ Below w.heap.size w w' := by
  have hne : ((m : Int) == 0) = false := by simp; omega
  have hff : (formF o.toNat : Int) = 4 := by rw [hf]; rfl
  go_enter Tryz.func38, Tryz.ntmps38
  go_wp2_with (first | (go_at_call 63; refine (r2_FormOf' _ _ o0 o1 _ hff).mono ?_; rintro e w1 ⟨rfl, rfl⟩) | (go_at_call 64; refine (r2_Bytes' _ _ (by decide) (by decide) 2 rfl).mono ?_; rintro e w1 ⟨rfl, rfl⟩) | (go_at_call 65; refine (r2_Name _ _ o0 o1).mono ?_; rintro e w1 ⟨rfl, hb⟩; obtain ⟨hc, hfz⟩ := bcell hb; have hz := hb.size; simp at hz; have hz2 : w.heap.size < w1.heap.size := (by omega); have hz3 : w.heap.size < w1.heap.size + 1 := (by omega); have e1 := (hc w.heap.size 0 (by simp)); have e2 := (hc w.heap.size 1 (by simp)); have f1 := (hfz w.heap.size 0 (by simp)); have f2 := (hfz w.heap.size 1 (by simp)); (try simp at e1); (try simp at e2); (try simp at f1); (try simp at f2)))
  refine bodyPost_ret (v := (.tuple #[.agg #[.string (nameB o.toNat), .int .i64 (p)], .int .i64 2, .int .i64 0])) (by simp [results, Tryz.results38, go_sem, *]) rfl ⟨rfl, ?_⟩
  (repeat first | exact Below.refl _ _ | assumption | refine Below.trans ?_ (hb.mono (by first | omega | (simp; done) | (simp; omega))) | refine Below.drew ?_ | refine Below.alloc ?_ (by first | omega | (simp; done) | (simp; omega)) _ | refine Below.setCell ?_ (by first | omega | (simp; done) | (simp; omega)) _)
set_option maxHeartbeats 1000000 in
set_option maxRecDepth 100000 in
theorem r2_Decode_f5 (b off m : Nat) (o p q : Int) (hbl : b < w.heap.size) (c0 : w.cell? ⟨b, off, none⟩ = some (.int .u8 o)) (c1 : w.cell? ⟨b, off + 1, none⟩ = some (.int .u8 p)) (c2 : False → w.cell? ⟨b, off + 2, none⟩ = some (.int .u8 q))
    (o0 : 0 ≤ o) (o1 : o ≤ 255) (p0 : 0 ≤ p) (p1 : p ≤ 255) (q0 : 0 ≤ q) (q1 : q ≤ 255) (hf : formF o.toNat = 5) (hm1 : 2 ≤ m) (hm0 : 1 ≤ m) (hm2 : m ≤ 2147483647) :
    Calls Tryz.prog 38 #[.slice (some ⟨b, off, none⟩) m c] w fun e w' => e = .returned (.tuple #[.agg #[.string (nameB o.toNat), .int .i64 (p)], .int .i64 2, .int .i64 0]) ∧ Below w.heap.size w w' := by
  have hne : ((m : Int) == 0) = false := by simp; omega
  have hff : (formF o.toNat : Int) = 5 := by rw [hf]; rfl
  go_enter Tryz.func38, Tryz.ntmps38
  go_wp2_with (first | (go_at_call 63; refine (r2_FormOf' _ _ o0 o1 _ hff).mono ?_; rintro e w1 ⟨rfl, rfl⟩) | (go_at_call 64; refine (r2_Bytes' _ _ (by decide) (by decide) 2 rfl).mono ?_; rintro e w1 ⟨rfl, rfl⟩) | (go_at_call 65; refine (r2_Name _ _ o0 o1).mono ?_; rintro e w1 ⟨rfl, hb⟩; obtain ⟨hc, hfz⟩ := bcell hb; have hz := hb.size; simp at hz; have hz2 : w.heap.size < w1.heap.size := (by omega); have hz3 : w.heap.size < w1.heap.size + 1 := (by omega); have e1 := (hc w.heap.size 0 (by simp)); have e2 := (hc w.heap.size 1 (by simp)); have f1 := (hfz w.heap.size 0 (by simp)); have f2 := (hfz w.heap.size 1 (by simp)); (try simp at e1); (try simp at e2); (try simp at f1); (try simp at f2)))
  refine bodyPost_ret (v := (.tuple #[.agg #[.string (nameB o.toNat), .int .i64 (p)], .int .i64 2, .int .i64 0])) (by simp [results, Tryz.results38, go_sem, *]) rfl ⟨rfl, ?_⟩
  (repeat first | exact Below.refl _ _ | assumption | refine Below.trans ?_ (hb.mono (by first | omega | (simp; done) | (simp; omega))) | refine Below.drew ?_ | refine Below.alloc ?_ (by first | omega | (simp; done) | (simp; omega)) _ | refine Below.setCell ?_ (by first | omega | (simp; done) | (simp; omega)) _)
set_option maxHeartbeats 1000000 in
set_option maxRecDepth 100000 in
theorem r2_Decode_s4 (b off m : Nat) (o p q : Int) (hbl : b < w.heap.size) (c0 : w.cell? ⟨b, off, none⟩ = some (.int .u8 o)) (c1 : False → w.cell? ⟨b, off + 1, none⟩ = some (.int .u8 p)) (c2 : False → w.cell? ⟨b, off + 2, none⟩ = some (.int .u8 q))
    (o0 : 0 ≤ o) (o1 : o ≤ 255) (p0 : 0 ≤ p) (p1 : p ≤ 255) (q0 : 0 ≤ q) (q1 : q ≤ 255) (hf : formF o.toNat = 4) (hm1 : m < 2) (hm0 : 1 ≤ m) (hm2 : m ≤ 2147483647) :
    Calls Tryz.prog 38 #[.slice (some ⟨b, off, none⟩) m c] w fun e w' => e = .returned (.tuple #[.agg #[.string ⟨#[]⟩, .int .i64 0], .int .i64 0, .int .i64 22]) ∧ Below w.heap.size w w' := by
  have hne : ((m : Int) == 0) = false := by simp; omega
  have hff : (formF o.toNat : Int) = 4 := by rw [hf]; rfl
  go_enter Tryz.func38, Tryz.ntmps38
  go_wp2_with (first | (go_at_call 63; refine (r2_FormOf' _ _ o0 o1 _ hff).mono ?_; rintro e w1 ⟨rfl, rfl⟩) | (go_at_call 64; refine (r2_Bytes' _ _ (by decide) (by decide) 2 rfl).mono ?_; rintro e w1 ⟨rfl, rfl⟩) | (go_at_call 65; refine (r2_Name _ _ o0 o1).mono ?_; rintro e w1 ⟨rfl, hb⟩; obtain ⟨hc, hfz⟩ := bcell hb; have hz := hb.size; simp at hz; have hz2 : w.heap.size < w1.heap.size := (by omega); have hz3 : w.heap.size < w1.heap.size + 1 := (by omega); have e1 := (hc w.heap.size 0 (by simp)); have e2 := (hc w.heap.size 1 (by simp)); have f1 := (hfz w.heap.size 0 (by simp)); have f2 := (hfz w.heap.size 1 (by simp)); (try simp at e1); (try simp at e2); (try simp at f1); (try simp at f2)))
  refine bodyPost_ret (v := (.tuple #[.agg #[.string ⟨#[]⟩, .int .i64 0], .int .i64 0, .int .i64 22])) (by simp [results, Tryz.results38, go_sem, *]) rfl ⟨rfl, ?_⟩
  (repeat first | exact Below.refl _ _ | assumption | refine Below.trans ?_ (hb.mono (by first | omega | (simp; done) | (simp; omega))) | refine Below.drew ?_ | refine Below.alloc ?_ (by first | omega | (simp; done) | (simp; omega)) _ | refine Below.setCell ?_ (by first | omega | (simp; done) | (simp; omega)) _)
set_option maxHeartbeats 1000000 in
set_option maxRecDepth 100000 in
theorem r2_Decode_s5 (b off m : Nat) (o p q : Int) (hbl : b < w.heap.size) (c0 : w.cell? ⟨b, off, none⟩ = some (.int .u8 o)) (c1 : False → w.cell? ⟨b, off + 1, none⟩ = some (.int .u8 p)) (c2 : False → w.cell? ⟨b, off + 2, none⟩ = some (.int .u8 q))
    (o0 : 0 ≤ o) (o1 : o ≤ 255) (p0 : 0 ≤ p) (p1 : p ≤ 255) (q0 : 0 ≤ q) (q1 : q ≤ 255) (hf : formF o.toNat = 5) (hm1 : m < 2) (hm0 : 1 ≤ m) (hm2 : m ≤ 2147483647) :
    Calls Tryz.prog 38 #[.slice (some ⟨b, off, none⟩) m c] w fun e w' => e = .returned (.tuple #[.agg #[.string ⟨#[]⟩, .int .i64 0], .int .i64 0, .int .i64 22]) ∧ Below w.heap.size w w' := by
  have hne : ((m : Int) == 0) = false := by simp; omega
  have hff : (formF o.toNat : Int) = 5 := by rw [hf]; rfl
  go_enter Tryz.func38, Tryz.ntmps38
  go_wp2_with (first | (go_at_call 63; refine (r2_FormOf' _ _ o0 o1 _ hff).mono ?_; rintro e w1 ⟨rfl, rfl⟩) | (go_at_call 64; refine (r2_Bytes' _ _ (by decide) (by decide) 2 rfl).mono ?_; rintro e w1 ⟨rfl, rfl⟩) | (go_at_call 65; refine (r2_Name _ _ o0 o1).mono ?_; rintro e w1 ⟨rfl, hb⟩; obtain ⟨hc, hfz⟩ := bcell hb; have hz := hb.size; simp at hz; have hz2 : w.heap.size < w1.heap.size := (by omega); have hz3 : w.heap.size < w1.heap.size + 1 := (by omega); have e1 := (hc w.heap.size 0 (by simp)); have e2 := (hc w.heap.size 1 (by simp)); have f1 := (hfz w.heap.size 0 (by simp)); have f2 := (hfz w.heap.size 1 (by simp)); (try simp at e1); (try simp at e2); (try simp at f1); (try simp at f2)))
  refine bodyPost_ret (v := (.tuple #[.agg #[.string ⟨#[]⟩, .int .i64 0], .int .i64 0, .int .i64 22])) (by simp [results, Tryz.results38, go_sem, *]) rfl ⟨rfl, ?_⟩
  (repeat first | exact Below.refl _ _ | assumption | refine Below.trans ?_ (hb.mono (by first | omega | (simp; done) | (simp; omega))) | refine Below.drew ?_ | refine Below.alloc ?_ (by first | omega | (simp; done) | (simp; omega)) _ | refine Below.setCell ?_ (by first | omega | (simp; done) | (simp; omega)) _)
set_option maxHeartbeats 1000000 in
set_option maxRecDepth 100000 in
theorem r2_Decode_s6 (b off m : Nat) (o p q : Int) (hbl : b < w.heap.size) (c0 : w.cell? ⟨b, off, none⟩ = some (.int .u8 o)) (c1 : False → w.cell? ⟨b, off + 1, none⟩ = some (.int .u8 p)) (c2 : False → w.cell? ⟨b, off + 2, none⟩ = some (.int .u8 q))
    (o0 : 0 ≤ o) (o1 : o ≤ 255) (p0 : 0 ≤ p) (p1 : p ≤ 255) (q0 : 0 ≤ q) (q1 : q ≤ 255) (hf : formF o.toNat = 6) (hm1 : m < 3) (hm0 : 1 ≤ m) (hm2 : m ≤ 2147483647) :
    Calls Tryz.prog 38 #[.slice (some ⟨b, off, none⟩) m c] w fun e w' => e = .returned (.tuple #[.agg #[.string ⟨#[]⟩, .int .i64 0], .int .i64 0, .int .i64 22]) ∧ Below w.heap.size w w' := by
  have hne : ((m : Int) == 0) = false := by simp; omega
  have hff : (formF o.toNat : Int) = 6 := by rw [hf]; rfl
  go_enter Tryz.func38, Tryz.ntmps38
  go_wp2_with (first | (go_at_call 63; refine (r2_FormOf' _ _ o0 o1 _ hff).mono ?_; rintro e w1 ⟨rfl, rfl⟩) | (go_at_call 64; refine (r2_Bytes' _ _ (by decide) (by decide) 3 rfl).mono ?_; rintro e w1 ⟨rfl, rfl⟩) | (go_at_call 65; refine (r2_Name _ _ o0 o1).mono ?_; rintro e w1 ⟨rfl, hb⟩; obtain ⟨hc, hfz⟩ := bcell hb; have hz := hb.size; simp at hz; have hz2 : w.heap.size < w1.heap.size := (by omega); have hz3 : w.heap.size < w1.heap.size + 1 := (by omega); have e1 := (hc w.heap.size 0 (by simp)); have e2 := (hc w.heap.size 1 (by simp)); have f1 := (hfz w.heap.size 0 (by simp)); have f2 := (hfz w.heap.size 1 (by simp)); (try simp at e1); (try simp at e2); (try simp at f1); (try simp at f2)))
  refine bodyPost_ret (v := (.tuple #[.agg #[.string ⟨#[]⟩, .int .i64 0], .int .i64 0, .int .i64 22])) (by simp [results, Tryz.results38, go_sem, *]) rfl ⟨rfl, ?_⟩
  (repeat first | exact Below.refl _ _ | assumption | refine Below.trans ?_ (hb.mono (by first | omega | (simp; done) | (simp; omega))) | refine Below.drew ?_ | refine Below.alloc ?_ (by first | omega | (simp; done) | (simp; omega)) _ | refine Below.setCell ?_ (by first | omega | (simp; done) | (simp; omega)) _)
set_option maxHeartbeats 1000000 in
set_option maxRecDepth 100000 in
theorem r2_Decode_f6 (b off m : Nat) (o p q : Int) (hbl : b < w.heap.size) (c0 : w.cell? ⟨b, off, none⟩ = some (.int .u8 o)) (c1 : w.cell? ⟨b, off + 1, none⟩ = some (.int .u8 p)) (c2 : w.cell? ⟨b, off + 2, none⟩ = some (.int .u8 q))
    (o0 : 0 ≤ o) (o1 : o ≤ 255) (p0 : 0 ≤ p) (p1 : p ≤ 255) (q0 : 0 ≤ q) (q1 : q ≤ 255) (hf : formF o.toNat = 6) (hm1 : 3 ≤ m) (hm0 : 1 ≤ m) (hm2 : m ≤ 2147483647) :
    Calls Tryz.prog 38 #[.slice (some ⟨b, off, none⟩) m c] w fun e w' => e = .returned (.tuple #[.agg #[.string (nameB o.toNat), .int .i64 (256 * p + q)], .int .i64 3, .int .i64 0]) ∧ Below w.heap.size w w' := by
  have hne : ((m : Int) == 0) = false := by simp; omega
  have hff : (formF o.toNat : Int) = 6 := by rw [hf]; rfl
  go_enter Tryz.func38, Tryz.ntmps38
  go_wp2_with (first | (go_at_call 63; refine (r2_FormOf' _ _ o0 o1 _ hff).mono ?_; rintro e w1 ⟨rfl, rfl⟩) | (go_at_call 64; refine (r2_Bytes' _ _ (by decide) (by decide) 3 rfl).mono ?_; rintro e w1 ⟨rfl, rfl⟩) | (go_at_call 65; refine (r2_Name _ _ o0 o1).mono ?_; rintro e w1 ⟨rfl, hb⟩; obtain ⟨hc, hfz⟩ := bcell hb; have hz := hb.size; simp at hz; have hz2 : w.heap.size < w1.heap.size := (by omega); have hz3 : w.heap.size < w1.heap.size + 1 := (by omega); have e1 := (hc w.heap.size 0 (by simp)); have e2 := (hc w.heap.size 1 (by simp)); have f1 := (hfz w.heap.size 0 (by simp)); have f2 := (hfz w.heap.size 1 (by simp)); (try simp at e1); (try simp at e2); (try simp at f1); (try simp at f2)))
  go_region
  all_goals go_wp2_with (first | (go_at_call 63; refine (r2_FormOf' _ _ o0 o1 _ hff).mono ?_; rintro e w1 ⟨rfl, rfl⟩) | (go_at_call 64; refine (r2_Bytes' _ _ (by decide) (by decide) 3 rfl).mono ?_; rintro e w1 ⟨rfl, rfl⟩) | (go_at_call 65; refine (r2_Name _ _ o0 o1).mono ?_; rintro e w1 ⟨rfl, hb⟩; obtain ⟨hc, hfz⟩ := bcell hb; have hz := hb.size; simp at hz; have hz2 : w.heap.size < w1.heap.size := (by omega); have hz3 : w.heap.size < w1.heap.size + 1 := (by omega); have e1 := (hc w.heap.size 0 (by simp)); have e2 := (hc w.heap.size 1 (by simp)); have f1 := (hfz w.heap.size 0 (by simp)); have f2 := (hfz w.heap.size 1 (by simp)); (try simp at e1); (try simp at e2); (try simp at f1); (try simp at f2)))
  all_goals
    refine bodyPost_ret (v := (.tuple #[.agg #[.string (nameB o.toNat), .int .i64 (256 * p + q)], .int .i64 3, .int .i64 0])) (by simp [results, Tryz.results38, go_sem, *]) rfl ⟨rfl, ?_⟩
    (repeat first | exact Below.refl _ _ | assumption | refine Below.trans ?_ (hb.mono (by first | omega | (simp; done) | (simp; omega))) | refine Below.drew ?_ | refine Below.alloc ?_ (by first | omega | (simp; done) | (simp; omega)) _ | refine Below.setCell ?_ (by first | omega | (simp; done) | (simp; omega)) _)
end
theorem r2_Decode (A : Option Addr) (c : Nat) (xs : List Int) (w : World) (R : RdB w A xs) (hx : Bytes xs) (hl : xs.length ≤ 2147483647) (n : Nat) (hn : n = xs.length) : Calls Tryz.prog 38 #[.slice A n c] w fun e w' => e = .returned (DecV xs) ∧ Below w.heap.size w w' := by
  subst hn
  cases xs with
  | nil => exact r2_Decode_nil A c w
  | cons o r =>
    obtain ⟨b, off, rfl, hb, hr⟩ := R (by simp)
    have c0 : w.cell? ⟨b, off, none⟩ = some (.int .u8 o) := hr 0 (by simp)
    have o01 := hx o (by simp)
    have hx' : Bytes r := fun x h => hx x (List.mem_cons_of_mem _ h)
    have p01 := bytes_at hx' 0
    have q01 := bytes_at hx' 1
    have c1 : 2 ≤ (o :: r).length → w.cell? ⟨b, off + 1, none⟩ = some (.int .u8 (r.getD 0 0)) := fun h => hr 1 (by omega)
    have c2 : 3 ≤ (o :: r).length → w.cell? ⟨b, off + 2, none⟩ = some (.int .u8 (r.getD 1 0)) := fun h => hr 2 (by omega)
    have hm : 1 ≤ (o :: r).length := by simp
    generalize hM : (o :: r).length = m at *
    obtain ⟨hf1, hf2⟩ := formF_pos o.toNat
    have D : DecV (o :: r) = if m < lenF (formF o.toNat) then .tuple #[.agg #[.string ⟨#[]⟩, .int .i64 0], .int .i64 0, .int .i64 22] else
        .tuple #[.agg #[.string (nameB o.toNat), .int .i64 (if formF o.toNat = 2 then o % 16 else if formF o.toNat = 3 then o % 8 else if formF o.toNat = 4 ∨ formF o.toNat = 5 then r.getD 0 0 else if formF o.toNat = 6 then 256 * r.getD 0 0 + r.getD 1 0 else 0)], .int .i64 (lenF (formF o.toNat)), .int .i64 0] := by
      unfold DecV decI; simp only [hM]; split <;> rfl
    rw [D]
    have hcase : formF o.toNat = 1 ∨ formF o.toNat = 2 ∨ formF o.toNat = 3 ∨ formF o.toNat = 4 ∨ formF o.toNat = 5 ∨ formF o.toNat = 6 := by omega
    rcases hcase with hf | hf | hf | hf | hf | hf
    · rw [hf, if_neg (by simp [lenF]; omega)]
      exact r2_Decode_f1 c w b off m o 0 0 hb c0 (fun h => h.elim) (fun h => h.elim) o01.1 o01.2 (by omega) (by omega) (by omega) (by omega) hf hm hm hl
    · rw [hf, if_neg (by simp [lenF]; omega)]
      exact r2_Decode_f2 c w b off m o 0 0 hb c0 (fun h => h.elim) (fun h => h.elim) o01.1 o01.2 (by omega) (by omega) (by omega) (by omega) hf hm hm hl
    · rw [hf, if_neg (by simp [lenF]; omega)]
      exact r2_Decode_f3 c w b off m o 0 0 hb c0 (fun h => h.elim) (fun h => h.elim) o01.1 o01.2 (by omega) (by omega) (by omega) (by omega) hf hm hm hl
    · by_cases h2 : m < 2
      · rw [hf, if_pos (by simp [lenF]; omega)]
        exact r2_Decode_s4 c w b off m o 0 0 hb c0 (fun h => h.elim) (fun h => h.elim) o01.1 o01.2 (by omega) (by omega) (by omega) (by omega) hf h2 hm hl
      · rw [hf, if_neg (by simp [lenF]; omega)]
        exact r2_Decode_f4 c w b off m o _ 0 hb c0 (c1 (by omega)) (fun h => h.elim) o01.1 o01.2 p01.1 p01.2 (by omega) (by omega) hf (by omega) hm hl
    · by_cases h2 : m < 2
      · rw [hf, if_pos (by simp [lenF]; omega)]
        exact r2_Decode_s5 c w b off m o 0 0 hb c0 (fun h => h.elim) (fun h => h.elim) o01.1 o01.2 (by omega) (by omega) (by omega) (by omega) hf h2 hm hl
      · rw [hf, if_neg (by simp [lenF]; omega)]
        exact r2_Decode_f5 c w b off m o _ 0 hb c0 (c1 (by omega)) (fun h => h.elim) o01.1 o01.2 p01.1 p01.2 (by omega) (by omega) hf (by omega) hm hl
    · by_cases h2 : m < 3
      · rw [hf, if_pos (by simp [lenF]; omega)]
        exact r2_Decode_s6 c w b off m o 0 0 hb c0 (fun h => h.elim) (fun h => h.elim) o01.1 o01.2 (by omega) (by omega) (by omega) (by omega) hf h2 hm hl
      · rw [hf, if_neg (by simp [lenF]; omega)]
        exact r2_Decode_f6 c w b off m o _ _ hb c0 (c1 (by omega)) (c2 (by omega)) o01.1 o01.2 p01.1 p01.2 q01.1 q01.2 hf (by omega) hm hl
theorem encI_range {s : ByteArray} {arg : Int} (h : (encI s arg).1 = 0) : formF (firstI s).toNat = 1 ∨ (0 ≤ arg ∧ arg < (16 : Int) ^ wideF (formF (firstI s).toNat)) := by
  have h0 := encI_ok h
  obtain ⟨hp1, hp2⟩ := formF_pos (firstI s).toNat
  rw [encI, if_neg (by omega)] at h
  simp only at h
  generalize formF (firstI s).toNat = f at *
  obtain rfl | rfl | rfl | rfl | rfl | rfl : f = 1 ∨ f = 2 ∨ f = 3 ∨ f = 4 ∨ f = 5 ∨ f = 6 := by omega
  · exact .inl rfl
  all_goals right
  · by_cases hc : arg < (if firstI s < 16 then 1 else 0) ∨ 15 < arg
    · simp [hc] at h
    · simp [wideF]; split at hc <;> omega
  · by_cases hc : arg < 1 ∨ 7 < arg
    · simp [hc] at h
    · simp [wideF]; omega
  · by_cases hc : arg < 0 ∨ 255 < arg
    · simp [hc] at h
    · simp [wideF]; omega
  · by_cases hc : arg < 0 ∨ 255 < arg
    · simp [hc] at h
    · simp [wideF]; omega
  · by_cases hc : arg < 0 ∨ 65535 < arg
    · simp [hc] at h
    · simp [wideF]; omega
theorem r2_Encode' (s : ByteArray) (arg : Int) (w : World) (n : Int) (he : (encI s arg).1 = n) : Calls Tryz.prog 40 #[.agg #[.string s, .int .i64 arg]] w fun e w' => (∃ v, e = .returned (.tuple #[v, .int .i64 n])) ∧ Below w.heap.size w w' :=
  (r2_Encode s arg w).mono fun e w' h => ⟨by obtain ⟨⟨v, rfl, _⟩, _⟩ := h; exact ⟨v, by rw [he]⟩, h.2⟩
set_option maxHeartbeats 1000000 in
set_option maxRecDepth 100000 in
theorem r2_Print_bad (s : ByteArray) (arg : Int) (w : World) (n : Int) (he : (encI s arg).1 = n) (hn : n ≠ 0) : Calls Tryz.prog 42 #[.agg #[.string s, .int .i64 arg]] w fun e w' => e = .returned (.tuple #[.string ByteArray.empty, .int .i64 n]) ∧ Below w.heap.size w w' := by
  have HE := Lib.hid he; clear he
  have hn2 : (n != 0) = true := by simpa using hn
  go_enter Tryz.func42, Tryz.ntmps42
  go_wp2_with (first | (go_at_call 40; refine (r2_Encode' _ _ _ _ HE.out).mono ?_; rintro e w1 ⟨⟨v, rfl⟩, hb⟩; obtain ⟨hc, hfz⟩ := bcell hb; have hz := hb.size; simp at hz; have hz2 : w.heap.size < w1.heap.size := (by omega); have hz3 : w.heap.size < w1.heap.size + 1 := (by omega); have e1 := (hc w.heap.size 0 (by simp)); have e2 := (hc w.heap.size 1 (by simp)); have f1 := (hfz w.heap.size 0 (by simp)); have f2 := (hfz w.heap.size 1 (by simp)); (try simp at e1); (try simp at e2); (try simp at f1); (try simp at f2)))
  refine bodyPost_ret (v := .tuple #[.string ByteArray.empty, .int .i64 n]) (by simp [results, Tryz.results42, go_sem, *]; rfl) rfl ⟨rfl, ?_⟩
  (repeat first | exact Below.refl _ _ | assumption | refine Below.trans ?_ (hb.mono (by first | omega | (simp; done) | (simp; omega))) | refine Below.drew ?_ | refine Below.alloc ?_ (by first | omega | (simp; done) | (simp; omega)) _ | refine Below.setCell ?_ (by first | omega | (simp; done) | (simp; omega)) _)
set_option maxHeartbeats 1000000 in
set_option maxRecDepth 100000 in
theorem r2_Print_1 (s : ByteArray) (arg : Int) (w : World) (he : (encI s arg).1 = 0) (h0 : 0 ≤ firstI s) (h1 : firstI s ≤ 255) (hf : formF (firstI s).toNat = 1) : Calls Tryz.prog 42 #[.agg #[.string s, .int .i64 arg]] w fun e w' => e = .returned (.tuple #[.string s, .int .i64 0]) ∧ Below w.heap.size w w' := by
  have HE := Lib.hid he; clear he
  have hff : (formF (firstI s).toNat : Int) = 1 := by rw [hf]; rfl
  have hkk : (wideF (1 : Int).toNat : Int) = 0 := rfl
  go_enter Tryz.func42, Tryz.ntmps42
  go_wp2_with (first | (go_at_call 40; refine (r2_Encode' _ _ _ _ HE.out).mono ?_; rintro e w1 ⟨⟨v, rfl⟩, hb⟩; obtain ⟨hc, hfz⟩ := bcell hb; have hz := hb.size; simp at hz; have hz2 : w.heap.size < w1.heap.size := (by omega); have hz3 : w.heap.size < w1.heap.size + 1 := (by omega); have e1 := (hc w.heap.size 0 (by simp)); have e2 := (hc w.heap.size 1 (by simp)); have f1 := (hfz w.heap.size 0 (by simp)); have f2 := (hfz w.heap.size 1 (by simp)); (try simp at e1); (try simp at e2); (try simp at f1); (try simp at f2)) | (go_at_call 66; refine (r2_First _ _).mono ?_; clear e1 e2 f1 f2 hc hfz hz; rintro e w2 ⟨rfl, hb2⟩; replace hb := hb.trans (hb2.mono hb.size); clear hb2; obtain ⟨hc, hfz⟩ := bcell hb; have hz := hb.size; simp at hz; have hz4 : w.heap.size < w2.heap.size := (by omega); have hz5 : w.heap.size < w2.heap.size + 1 := (by omega); have e1 := (hc w.heap.size 0 (by simp)); have e2 := (hc w.heap.size 1 (by simp)); have f1 := (hfz w.heap.size 0 (by simp)); have f2 := (hfz w.heap.size 1 (by simp)); (try simp at e1); (try simp at e2); (try simp at f1); (try simp at f2)) | (go_at_call 63; refine (r2_FormOf' _ _ h0 h1 _ hff).mono ?_; rintro e w' ⟨rfl, rfl⟩) | (go_at_call 69; refine (r2_wide' _ _ (by omega) (by omega) _ hkk).mono ?_; rintro e w' ⟨rfl, rfl⟩))
  refine bodyPost_ret (v := .tuple #[.string s, .int .i64 0]) (by simp [results, Tryz.results42, go_sem, *]) rfl ⟨rfl, ?_⟩
  (repeat first | exact Below.refl _ _ | assumption | refine Below.trans ?_ (hb.mono (by first | omega | (simp; done) | (simp; omega))) | refine Below.drew ?_ | refine Below.alloc ?_ (by first | omega | (simp; done) | (simp; omega)) _ | refine Below.setCell ?_ (by first | omega | (simp; done) | (simp; omega)) _)
set_option maxHeartbeats 1000000 in
set_option maxRecDepth 100000 in
theorem r2_Print_2 (s : ByteArray) (arg : Int) (w : World) (hs : s.size ≤ 1073741824) (he : (encI s arg).1 = 0) (h0 : 0 ≤ firstI s) (h1 : firstI s ≤ 255) (f : Int) (hff : (formF (firstI s).toNat : Int) = f) (hf2 : 2 ≤ f) (hf6 : f ≤ 6) (k : Nat) (hk : (wideF f.toNat : Int) = k) (hk1 : 1 ≤ k) (hk2 : k ≤ 4) (a0 : 0 ≤ arg) (a1 : arg ≤ 65535) (x : ByteArray) (hx : strOfNums (digs k arg) = x) (hxs : x.size ≤ 8) : Calls Tryz.prog 42 #[.agg #[.string s, .int .i64 arg]] w fun e w' => e = .returned (.tuple #[.string (s ++ bstr [32] ++ x), .int .i64 0]) ∧ Below w.heap.size w w' := by
  have HE := Lib.hid he; clear he
  have hkk : (wideF f.toNat : Int) = k := hk
  have hk0 : ((k : Int) == 0) = false := by simp; omega
  have hs1 : (s ++ bstr [32]).size = s.size + 1 := by rw [ByteArray.size_append]; rfl
  have hadd1 : ∀ W, (Op.stringOp .add s ⟨#[32]⟩).run Tryz.prog W = .ok (.string (s ++ bstr [32])) W := fun W => run_string_add_sum W s (bstr [32]) (by have : (bstr [32]).size = 1 := rfl; omega)
  have hadd2 : ∀ W, (Op.stringOp .add (s ++ bstr [32]) x).run Tryz.prog W = .ok (.string (s ++ bstr [32] ++ x)) W := fun W => run_string_add_sum W _ _ (by omega)
  go_enter Tryz.func42, Tryz.ntmps42
  go_wp2_with (first | (go_at_call 40; refine (r2_Encode' _ _ _ _ HE.out).mono ?_; rintro e w1 ⟨⟨v, rfl⟩, hb⟩; obtain ⟨hc, hfz⟩ := bcell hb; have hz := hb.size; simp at hz; have hz2 : w.heap.size < w1.heap.size := (by omega); have hz3 : w.heap.size < w1.heap.size + 1 := (by omega); have e1 := (hc w.heap.size 0 (by simp)); have e2 := (hc w.heap.size 1 (by simp)); have f1 := (hfz w.heap.size 0 (by simp)); have f2 := (hfz w.heap.size 1 (by simp)); (try simp at e1); (try simp at e2); (try simp at f1); (try simp at f2)) | (go_at_call 66; refine (r2_First _ _).mono ?_; clear e1 e2 f1 f2 hc hfz hz; rintro e w2 ⟨rfl, hb2⟩; replace hb := hb.trans (hb2.mono hb.size); clear hb2; obtain ⟨hc, hfz⟩ := bcell hb; have hz := hb.size; simp at hz; have hz4 : w.heap.size < w2.heap.size := (by omega); have hz5 : w.heap.size < w2.heap.size + 1 := (by omega); have e1 := (hc w.heap.size 0 (by simp)); have e2 := (hc w.heap.size 1 (by simp)); have f1 := (hfz w.heap.size 0 (by simp)); have f2 := (hfz w.heap.size 1 (by simp)); (try simp at e1); (try simp at e2); (try simp at f1); (try simp at f2)) | (go_at_call 63; refine (r2_FormOf' _ _ h0 h1 _ hff).mono ?_; rintro e w' ⟨rfl, rfl⟩) | (go_at_call 69; refine (r2_wide' _ _ (by omega) (by omega) _ hkk).mono ?_; rintro e w' ⟨rfl, rfl⟩))
  clear hfz hc
  go_region_held3 (fun w' => (w'.cell? ⟨w.heap.size, 0, none⟩ = some (.string s) ∧ w'.cell? ⟨w.heap.size, 1, none⟩ = some (.int .i64 arg)) ∧ w.heap.size + 1 ≤ w'.heap.size ∧ Below w.heap.size w w')
    (first | (obtain ⟨⟨k0, k1⟩, k4, k5⟩ := ‹(_ ∧ _) ∧ _ ∧ Below _ _ _›; exact ⟨⟨cellB hb3 k0, cellB hb3 k1⟩, Nat.le_trans k4 hb3.size, k5.trans (hb3.mono (by omega))⟩) | (refine ⟨by go_keep, by simp; omega, by (repeat first | exact Below.refl _ _ | assumption | refine Below.trans ?_ (hb.mono (by first | omega | (simp; done) | (simp; omega))) | refine Below.drew ?_ | refine Below.alloc ?_ (by first | omega | (simp; done) | (simp; omega)) _ | refine Below.setCell ?_ (by first | omega | (simp; done) | (simp; omega)) _)⟩))
    (first | (go_at_call 70; refine (r2_digits _ _ (by omega) a0 (by omega) _).mono ?_; rw [hx]; rintro e w3 ⟨rfl, hb3⟩))
  all_goals
    go_wp2
    refine bodyPost_ret (v := .tuple #[.string (s ++ bstr [32] ++ x), .int .i64 0]) (by simp [results, Tryz.results42, go_sem, *]) rfl ⟨rfl, ?_⟩
    exact ‹(_ ∧ _) ∧ _ ∧ Below _ _ _›.2.2
theorem r2_Print (s : ByteArray) (arg : Int) (w : World) (hs : s.size ≤ 1073741824) : Calls Tryz.prog 42 #[.agg #[.string s, .int .i64 arg]] w fun e w' => e = .returned (.tuple #[.string (printI s arg).1, .int .i64 (printI s arg).2]) ∧ Below w.heap.size w w' := by
  have hp := formF_pos (firstI s).toNat
  have hbd := firstI_bd s
  by_cases he : (encI s arg).1 = 0
  · have h0 := encI_ok he
    by_cases hf : formF (firstI s).toNat = 1
    · refine (r2_Print_1 s arg w he h0 hbd.2 hf).mono ?_
      rintro e w' ⟨rfl, hb⟩
      exact ⟨by simp [printI, he, hf, wideF], hb⟩
    · have hk := wideF_cases (formF (firstI s).toNat)
      have hk0 : wideF (formF (firstI s).toNat) ≠ 0 := wideF_pos (by omega) hp.2
      have hr := (encI_range he).resolve_left hf
      have hk' : wideF (formF (firstI s).toNat) = 1 ∨ wideF (formF (firstI s).toNat) = 2 ∨ wideF (formF (firstI s).toNat) = 4 := by omega
      have hlt : arg < 65536 := by have := hr.2; rcases hk' with h | h | h <;> rw [h] at this <;> omega
      refine (r2_Print_2 s arg w hs he h0 hbd.2 _ rfl (by omega) (by omega) _ (by rw [Int.toNat_natCast]) (by omega) (by omega) hr.1 (by omega) _ (hexS_digs hk' hr.1 hr.2).symm (hexS_size _ _ hk')).mono ?_
      rintro e w' ⟨rfl, hb⟩
      exact ⟨by simp [printI, he, hk0], hb⟩
  · refine (r2_Print_bad s arg w _ rfl he).mono ?_
    rintro e w' ⟨rfl, hb⟩
    exact ⟨by simp [printI, he], hb⟩
end Go.Proofs.YtofhdlkocgbcgaaGreatDoor
