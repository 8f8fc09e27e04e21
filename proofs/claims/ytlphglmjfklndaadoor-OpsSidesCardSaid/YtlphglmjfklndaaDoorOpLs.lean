/- OpsSides walked. -/
import Derived.Test.YtlphglmjfklndaaDoorOpAl
namespace Go.Proofs.YtlphglmjfklndaaDoor
set_option linter.unusedVariables false
open Go.RowKit Go.Shelf Go.Maps Go.Proofs.YtlphglmjfklndaaDoorW.PrintWords Go.Proofs.YtlphglmjfklndaaDoorW.PrintLast Go.Proofs.YtlphglmjfklndaaDoorW.PrintMore Go.Proofs.YtlphglmjfklndaaDoor.POpsApart Go.Extern

theorem sides_le (ty p : Int) : ((sidesT ty p).1 ≤ p ∧ (sidesT ty p).2 ≤ p) ∨ p < 0 := by
  by_cases h : p < 0
  · exact .inr h
  · refine .inl ?_
    unfold sidesT
    repeat' split
    all_goals (constructor <;> simp <;> omega)

set_option maxHeartbeats 4000000 in
set_option maxRecDepth 100000 in
theorem sides_law (w : World) (o : S27) : Calls Tryd.prog 4 #[.agg #[.string o.f0, .int .i64 o.f1, .int .i64 o.f2]] w fun e w' => e = .returned (.bool true) ∧ Below w.heap.size w w' := by
  have hle := sides_le o.f1 o.f2
  have kO := blk_new w (.cells #[.string o.f0, .int .i64 o.f1, .int .i64 o.f2] 27)
  have hB0 := below_alloc (Below.refl w.heap.size w) (.cells #[.string o.f0, .int .i64 o.f1, .int .i64 o.f2] 27)
  have hA := alive_any (w.alloc (.cells #[.string o.f0, .int .i64 o.f1, .int .i64 o.f2] 27))
  go_enter Tryd.func4, Tryd.ntmps4
  go_wp2_with fail
  refine hA.mono ?_
  rintro e w1 ⟨rfl, hb1⟩
  clear hA
  have k1 := blk_below kO hb1
  have hB1 := hB0.trans (hb1.mono hB0.size)
  have a0 := blk_cell k1 0
  have a1 := blk_cell k1 1
  have a2 := blk_cell k1 2
  have hS := Sides_at o.f0 o.f1 o.f2 w1
  obtain ⟨l, hl⟩ : ∃ l, (sidesT o.f1 o.f2).1 = l := ⟨_, rfl⟩
  obtain ⟨r, hr⟩ : ∃ r, (sidesT o.f1 o.f2).2 = r := ⟨_, rfl⟩
  rw [hl, hr] at hS hle
  clear kO hB0 hb1
  go_wp2_with fail
  refine hS.mono ?_
  rintro e w2 ⟨rfl, hb2⟩
  clear hS
  have k2 := blk_below k1 hb2
  have hB2 := hB1.trans (hb2.mono hB1.size)
  have hS := refSides_at o.f0 o.f1 o.f2 w2
  rw [hl, hr] at hS
  clear k1 hb2 hB1 a0 a1 a2
  have a0 := blk_cell k2 0
  have a1 := blk_cell k2 1
  have a2 := blk_cell k2 2
  go_wp2_with fail
  refine hS.mono ?_
  rintro e w3 ⟨rfl, hb3⟩
  clear hS
  have k3 := blk_below k2 hb3
  have hB3 := hB2.trans (hb3.mono hB2.size)
  clear k2 hb3 hB2 a0 a1 a2 hl hr
  have a2 := blk_cell k3 2
  by_cases hn : o.f2 < 0
  · have hd : decide (o.f2 < 0) = true := decide_eq_true hn
    by_cases c1 : l ≤ o.f2
    · have d1 : decide (l ≤ o.f2) = true := decide_eq_true c1
      by_cases c2 : r ≤ o.f2
      · have d2 : decide (r ≤ o.f2) = true := decide_eq_true c2
        go_wp2
        go_ret
        exact ⟨rfl, hB3⟩
      · have d2 : decide (r ≤ o.f2) = false := decide_eq_false c2
        go_wp2
        go_ret
        exact ⟨rfl, hB3⟩
    · have d1 : decide (l ≤ o.f2) = false := decide_eq_false c1
      go_wp2
      go_ret
      exact ⟨rfl, hB3⟩
  · obtain ⟨c1, c2⟩ := hle.resolve_right hn
    have d1 : decide (l ≤ o.f2) = true := decide_eq_true c1
    have d2 : decide (r ≤ o.f2) = true := decide_eq_true c2
    go_wp2
    go_ret
    exact ⟨rfl, hB3⟩

end Go.Proofs.YtlphglmjfklndaaDoor
