/- law15: alike, equal. -/
import Derived.Test.YtofhdlkocgbcgaaGreatDoorLawB
namespace Go.Proofs.YtofhdlkocgbcgaaGreatDoor
open Go Go.RowKit Pu
set_option linter.unusedVariables false
set_option linter.unusedSimpArgs false
set_option maxHeartbeats 8000000 in
set_option maxRecDepth 100000 in
theorem law_alike (w : World) (B1 B2 : Nat) (v1 v2 : Value) (l : List ItemP) (h1 : ItL w B1 v1 l) (h2 : ItL w B2 v2 l) (hl : l.length ≤ 16777216) (hby : ∀ i (h : i < l.length), Bytes l[i].bytes ∧ l[i].bytes.length ≤ 1048576) : Calls Tryz.prog 10 #[v1, v2] w fun e w' => e = .returned (.bool true) ∧ Below w.heap.size w w' := by
  obtain ⟨A1, c1, _, rfl, _, _⟩ := h1.src
  obtain ⟨A2, c2, _, rfl, _, _⟩ := h2.src
  have hne : ((l.length : Int) != l.length) = false := by simp
  go_enter Tryz.func10, Tryz.ntmps10
  go_wp2
  go_loopw [5] (fun i wr => ∃ k : Nat, i = .int .i64 k ∧ k ≤ l.length ∧ Below w.heap.size w wr) (fun i _ => l.length - (intOf i).toNat)
  case atStart => exact ⟨0, rfl, Nat.zero_le _, Below.refl _ _⟩
  case round =>
    obtain ⟨k, rfl, hk, hbw⟩ := hrel
    by_cases hlt : k < l.length
    · have hki : (k : Int) < l.length := by omega
      have hk0 : (0 : Int) ≤ k := by omega
      obtain ⟨g, cap, C1, d1, hv, _, _, p0, p1, p2, p3, p4, p5, R1, _, _⟩ := h1.item k hlt
      injection hv with hv1 _ hv2
      subst hv1; subst hv2
      obtain ⟨g2, cap2, C2, d2, hv, _, _, q0, q1, q2, q3, q4, q5, R2, _, _⟩ := h2.item k hlt
      injection hv with hv1 _ hv2
      subst hv1; subst hv2
      obtain ⟨b1, b2⟩ := hby k hlt
      have S1 := R1.below hbw
      have S2 := R2.below hbw
      have z0 := fun z : Up wr => z.cell (cellB hbw p0)
      have z1 := fun z : Up wr => z.cell (cellB hbw p1)
      have z2 := fun z : Up wr => z.cell (cellB hbw p2)
      have z3 := fun z : Up wr => z.cell (cellB hbw p3)
      have z4 := fun z : Up wr => z.cell (cellB hbw p4)
      have z5 := fun z : Up wr => z.cell (cellB hbw p5)
      have y0 := fun z : Up wr => z.cell (cellB hbw q0)
      have y1 := fun z : Up wr => z.cell (cellB hbw q1)
      have y2 := fun z : Up wr => z.cell (cellB hbw q2)
      have y3 := fun z : Up wr => z.cell (cellB hbw q3)
      have y4 := fun z : Up wr => z.cell (cellB hbw q4)
      have y5 := fun z : Up wr => z.cell (cellB hbw q5)
      clear p0 p1 p2 p3 p4 p5 q0 q1 q2 q3 q4 q5 R1 R2 h1 h2 hby
      generalize l[k] = x at *
      obtain ⟨xk, xn, xa, xb⟩ := x
      simp only at *
      have e1 : (xk != xk) = false := by simp
      have e2 : (xa != xa) = false := by simp
      have e3 : (xn.toList == xn.toList) = true := by simp
      go_wp2_with fail
      refine region_up (by kernel_rfl) (by kernel_rfl) ?_
      simp only [List.append_eq, List.cons_append, List.nil_append]
      repeat (go_big_quiet_step ((go_at_call 34; refine Calls.up (v := .bool true) ?_; exact law_same _ _ _ _ _ xb xb (S1.below (‹Up wr›).up) (S2.below (‹Up wr›).up) b1 b1 b2 b2 true (by simp) _ _ rfl rfl)))
      refine wpQuiet_nil ?_
      rintro w9 ⟨⟨_, hb9⟩, rfl⟩
      clear z0 z1 z2 z3 z4 z5 y0 y1 y2 y3 y4 y5
      go_wp2
      exact ⟨⟨k + 1, by go_num, by omega, hbw.trans (hb9.mono hbw.size)⟩, by simp [intOf]; omega⟩
    · obtain rfl : k = l.length := by omega
      go_wp2
      go_ret
      exact ⟨rfl, hbw⟩
end Go.Proofs.YtofhdlkocgbcgaaGreatDoor
