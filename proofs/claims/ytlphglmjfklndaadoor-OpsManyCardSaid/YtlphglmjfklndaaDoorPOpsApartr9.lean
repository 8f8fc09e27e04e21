/- What print.sh wrote for functions of the document (r22.py). -/
import Derived.Test.YtlphglmjfklndaaDoorPOpsApartr0
import Derived.Test.YtlphglmjfklndaaDoorPOpsApartr2
import Derived.Test.YtlphglmjfklndaaDoorPOpsApartr3
namespace Go.Proofs.YtlphglmjfklndaaDoor.POpsApart
open Go.RowKit Go.Proofs.YtlphglmjfklndaaDoorW.PrintWords Go.Proofs.YtlphglmjfklndaaDoorW.PrintLast Go.Proofs.YtlphglmjfklndaaDoorW.PrintMore
attribute [local go_sem] max2_int min2_int max_two min_two max_three min_three max_four min_four   -- for this text's walks alone
set_option linter.unusedVariables false
set_option linter.unusedSimpArgs false

/-! ### pythiaref09_Prefix: function 17 -/
def pythiaref09_Prefix.f (a0 : Int) : Option (Bool) := if a0 = 4 then (some true) else (some (a0 == 5))
set_option maxHeartbeats 8000000 in
set_option maxRecDepth 100000 in
theorem pythiaref09_Prefix.calls (a0 : Int) (r : Bool) (w : World) (h : pythiaref09_Prefix.f a0 = some r) :
    Calls Tryd.prog 17 #[.int .i64 a0] w fun e w' => e = .returned (.bool r) ∧ Drawn0 w w' := by
  have H : (if a0 = 4 then (some true) else (some (a0 == 5))) = some r := h
  clear h
  by_cases c2 : a0 = 4
  · rw [if_pos c2] at H
    have c2b0 : (a0 == 4) = true := beq_iff_eq.mpr c2
    have c2b1 : (a0 != 4) = false := bne_eq_false_iff_eq.mpr c2
    clear c2
    obtain rfl := Option.some.inj H
    go_enter Tryd.func17, Tryd.ntmps17
    go_wp2
    go_ret
    exact ⟨by first | rfl | (simp; done) | (simp [*]; done), by repeat (first | exact Drawn0.refl _ | apply Drawn0.step)⟩
  · rw [if_neg c2] at H
    have c2b0 : (a0 == 4) = false := beq_eq_false_iff_ne.mpr c2
    have c2b1 : (a0 != 4) = true := bne_iff_ne.mpr c2
    obtain rfl := Option.some.inj H
    go_enter Tryd.func17, Tryd.ntmps17
    go_wp2
    go_ret
    exact ⟨by first | rfl | (simp; done) | (simp [*]; done), by repeat (first | exact Drawn0.refl _ | apply Drawn0.step)⟩


/-! ### pythiaref09_Sides: function 14 -/
def pythiaref09_Sides.j0 : Nat → Int → Bool → ByteArray → Int → Int → Option (Int × Int)
  | 0, _, _, _, _, _ => none
  | k + 1, x4, x12, x105000, x105001, x105002 => if x12 = true then (some ((-1), (-1))) else (if x105001 = 1 then (some (wrap64 (x4 - 1), wrap64 (x4 - 1))) else (if x105001 = 2 then (some (wrap64 (x4 - 1), x4)) else (if x105001 = 3 then (some (x4, wrap64 (x4 - 1))) else (if x105001 = 4 then (some ((-1), x4)) else (if x105001 = 5 then (some ((-1), wrap64 (x4 - 1))) else (if x105001 = 6 then (some (wrap64 (x4 - 1), (-1))) else (if x105001 = 7 then (some (x4, (-1))) else (some ((-1), (-1))))))))))
def pythiaref09_Sides.f (k : Nat) (a0_0 : ByteArray) (a0_1 : Int) (a0_2 : Int) : Option (Int × Int) := if a0_2 < 1 then (pythiaref09_Sides.j0 k a0_2 true a0_0 a0_1 a0_2) else (pythiaref09_Sides.j0 k a0_2 (decide (a0_2 > 1200)) a0_0 a0_1 a0_2)
theorem pythiaref09_Sides.mono_l : ∀ k, (∀ y0 y1 y2 y3 y4, LeO (pythiaref09_Sides.j0 k y0 y1 y2 y3 y4) (pythiaref09_Sides.j0 (k + 1) y0 y1 y2 y3 y4))
  | 0 => fun _ _ _ _ _ r h => by simp [pythiaref09_Sides.j0] at h
  | k + 1 => by
    have ih0 := pythiaref09_Sides.mono_l k
    · intro y0 y1 y2 y3 y4
      unfold pythiaref09_Sides.j0
      repeat' first
      | (with_reducible exact ih0 _ _ _ _ _)
      | (with_reducible exact LeO.refl _)
      | (with_reducible exact LeO.none _)
      | (with_reducible refine LeO.ite ?_ ?_)
      | (with_reducible refine LeO.bind ?_ (fun _ => ?_))
      | exact ih0 _ _ _ _ _
      | exact LeO.none _
      | refine LeO.ite ?_ ?_
      | refine LeO.bind ?_ (fun _ => ?_)
theorem pythiaref09_Sides.mono : ∀ a0 a1 a2 k, LeO (pythiaref09_Sides.f k a0 a1 a2) (pythiaref09_Sides.f (k + 1) a0 a1 a2) := by
  intro a0 a1 a2 k
  have ih0 := pythiaref09_Sides.mono_l k
  unfold pythiaref09_Sides.f
  repeat' first
      | (with_reducible exact ih0 _ _ _ _ _)
      | (with_reducible exact LeO.refl _)
      | (with_reducible exact LeO.none _)
      | (with_reducible refine LeO.ite ?_ ?_)
      | (with_reducible refine LeO.bind ?_ (fun _ => ?_))
      | exact ih0 _ _ _ _ _
      | exact LeO.none _
      | refine LeO.ite ?_ ?_
      | refine LeO.bind ?_ (fun _ => ?_)
set_option maxHeartbeats 8000000 in
set_option maxRecDepth 100000 in
theorem pythiaref09_Sides.calls (k : Nat) (a0_0 : ByteArray) (a0_1 : Int) (a0_2 : Int) (r1 : Int) (r2 : Int) (w : World) (h : pythiaref09_Sides.f k a0_0 a0_1 a0_2 = some (r1, r2)) :
    Calls Tryd.prog 14 #[.agg #[.string a0_0, .int .i64 a0_1, .int .i64 a0_2]] w fun e w' => e = .returned (.tuple #[.int .i64 r1, .int .i64 r2]) ∧ Below w.heap.size w w' := by
  have hu27 := Tryd.underlying27
  have HB := Aside0.mk (Below.refl w.heap.size w)
  have H : (if a0_2 < 1 then (pythiaref09_Sides.j0 k a0_2 true a0_0 a0_1 a0_2) else (pythiaref09_Sides.j0 k a0_2 (decide (a0_2 > 1200)) a0_0 a0_1 a0_2)) = some (r1, r2) := h
  clear h
  have HC2 := Aside0.mk H
  clear H
  go_enter Tryd.func14, Tryd.ntmps14
  go_upto_region 2 with (first | ((with_reducible refine gate_dst (N := 1) rfl ?_); refine box_event ?hg (N := 1) ?hd (cs := #[.string a0_0, .int .i64 a0_1, .int .i64 a0_2]) (t := 27) ?hr ?_; (case hd => rfl); (case hg => rfl); (case hr => first | (go_simp; done) | (go_simp; rfl)); intro gb104 hg w3 hbox hb; have n0_ := Aside0.mk (below_step (by repeat (first | (with_reducible first | exact HB.out | apply below_alloc | apply pw_below_drewN | apply below_drew1) | exact HB.out)) hb); have n1_ := Aside0.mk (hbox); have n2_ := Aside0.mk ((by rw [hg]; exact (below_size (by repeat (first | (with_reducible first | exact HB.out | apply below_alloc | apply pw_below_drewN | apply below_drew1) | exact HB.out))) : w.heap.size ≤ gb104)); have n3_ := Aside0.mk ((by rw [hg]; exact (below_size (by repeat (first | (with_reducible first | exact HB.out | apply below_alloc | apply pw_below_drewN | apply below_drew1) | exact HB.out))) : w.heap.size ≤ gb104)); clear HB; have HB := n0_; have BK104 := n1_; have GW104 := n2_; have GE104 := n3_; clear n0_ n1_ n2_ n3_; clear hb hbox hg; have hcz4_0 : w3.cell? ⟨gb104, 0, none⟩ = some (.string a0_0) := (blk_cell BK104.out 0).trans rfl; have hcz4_1 : w3.cell? ⟨gb104, 1, none⟩ = some (.int .i64 a0_1) := (blk_cell BK104.out 1).trans rfl; have hcz4_2 : w3.cell? ⟨gb104, 2, none⟩ = some (.int .i64 a0_2) := (blk_cell BK104.out 2).trans rfl; have hfz4_0 := blk_frozen BK104.out 0; have hfz4_1 := blk_frozen BK104.out 1; have hfz4_2 := blk_frozen BK104.out 2))
  (try simp only [Act.put, List.setIfInBounds_toArray, List.set_cons_zero, List.set_cons_succ])
  go_cut [12] (fun v12 wc => ∃ (kq : Nat) (x12_1 : Bool), v12 = .bool x12_1 ∧ Aside0 (pythiaref09_Sides.j0 kq a0_2 x12_1 a0_0 a0_1 a0_2 = some (r1, r2)) ∧ Aside0 (kq ≤ k) ∧ Aside0 (wc.heap[gb104]? = some (.cells #[.string a0_0, .int .i64 a0_1, .int .i64 a0_2] 27 (0, 0))) ∧ Aside0 (Below w.heap.size w wc))
  case first =>
    have H := HC2.out
    clear HC2
    by_cases c5 : a0_2 < 1
    · rw [if_pos c5] at H
      have c5b0 : decide (a0_2 < 1) = true := decide_eq_true c5
      clear c5
      (first | rw [c5b0] | (simp only [i64_w, i32_w]; rw [c5b0]) | skip)
      have H' := Aside0.mk H
      clear H
      go_wp2
      go_meet
      case rel => exact ⟨_, (true), (by first | rfl | (simp; done) | (simp [*]; done)), H', ⟨by first | omega | exact Nat.le_refl _⟩, ⟨by (with_reducible repeat (first | refine blk_drewN ?_ _ | refine blk_drew ?_ | refine blk_alloc ?_ _)); exact BK104.out⟩, ⟨by repeat (first | (with_reducible first | exact HB.out | apply below_alloc | apply pw_below_drewN | apply below_drew1 | refine below_set ?_ GE104.out) | exact HB.out)⟩⟩
    · rw [if_neg c5] at H
      have c5b0 : decide (a0_2 < 1) = false := decide_eq_false c5
      clear c5
      (first | rw [c5b0] | (simp only [i64_w, i32_w]; rw [c5b0]) | skip)
      have H' := Aside0.mk H
      clear H
      go_wp2
      go_meet
      case rel => exact ⟨_, (decide (a0_2 > 1200)), (by first | rfl | (simp; done) | (simp [*]; done)), H', ⟨by first | omega | exact Nat.le_refl _⟩, ⟨by (with_reducible repeat (first | refine blk_drewN ?_ _ | refine blk_drew ?_ | refine blk_alloc ?_ _)); exact BK104.out⟩, ⟨by repeat (first | (with_reducible first | exact HB.out | apply below_alloc | apply pw_below_drewN | apply below_drew1 | refine below_set ?_ GE104.out) | exact HB.out)⟩⟩
  case rest =>
    clear HC2
    try clear c1
    try clear p2
    try clear c5
    try clear c5b0
    try clear hcz4_0
    try clear hcz4_1
    try clear hcz4_2
    try clear hfz4_0
    try clear hfz4_1
    try clear hfz4_2
    obtain ⟨kq, x12_1, rfl, HA, HJ1, BK104, HB⟩ := hcut
    cases kq with
    | zero => exact absurd HA.out (by simp [pythiaref09_Sides.j0])
    | succ kj1 =>
      have H := HA.out
      clear HA
      simp only [pythiaref09_Sides.j0] at H
      by_cases c6 : x12_1 = true
      · subst c6
        have H1 : (some ((-1), (-1))) = some (r1, r2) := by rw [if_pos rfl] at H; exact H
        clear H
        have H := H1
        clear H1
        simp only [Option.some.injEq, Prod.mk.injEq] at H
        obtain ⟨rfl, rfl⟩ := H
        go_wp2
        go_ret2
        exact ⟨by first | rfl | (simp [errW_none, errW_some] <;> rfl) | (simp [*, errW_none, errW_some] <;> rfl), by repeat (first | (with_reducible first | exact HB.out | apply below_alloc | apply pw_below_drewN | apply below_drew1 | refine below_set ?_ GE104.out) | exact HB.out)⟩
      · replace c6 := Bool.eq_false_iff.mpr c6
        subst c6
        have H1 : (if a0_1 = 1 then (some (wrap64 (a0_2 - 1), wrap64 (a0_2 - 1))) else (if a0_1 = 2 then (some (wrap64 (a0_2 - 1), a0_2)) else (if a0_1 = 3 then (some (a0_2, wrap64 (a0_2 - 1))) else (if a0_1 = 4 then (some ((-1), a0_2)) else (if a0_1 = 5 then (some ((-1), wrap64 (a0_2 - 1))) else (if a0_1 = 6 then (some (wrap64 (a0_2 - 1), (-1))) else (if a0_1 = 7 then (some (a0_2, (-1))) else (some ((-1), (-1)))))))))) = some (r1, r2) := by rw [if_neg (show ¬ (false = true) by decide)] at H; exact H
        clear H
        have H := H1
        clear H1
        by_cases c7 : a0_1 = 1
        · rw [if_pos c7] at H
          have c7b0 : (a0_1 == 1) = true := beq_iff_eq.mpr c7
          have c7b1 : (a0_1 != 1) = false := bne_eq_false_iff_eq.mpr c7
          clear c7
          simp only [Option.some.injEq, Prod.mk.injEq] at H
          obtain ⟨rfl, rfl⟩ := H
          have hcz8_0 : wc.cell? ⟨gb104, 0, none⟩ = some (.string a0_0) := (blk_cell BK104.out 0).trans rfl
          have hcz8_1 : wc.cell? ⟨gb104, 1, none⟩ = some (.int .i64 a0_1) := (blk_cell BK104.out 1).trans rfl
          have hcz8_2 : wc.cell? ⟨gb104, 2, none⟩ = some (.int .i64 a0_2) := (blk_cell BK104.out 2).trans rfl
          have hfz8_0 := blk_frozen BK104.out 0
          have hfz8_1 := blk_frozen BK104.out 1
          have hfz8_2 := blk_frozen BK104.out 2
          go_wp2
          go_ret2
          exact ⟨by first | rfl | (simp [errW_none, errW_some] <;> rfl) | (simp [*, errW_none, errW_some] <;> rfl), by repeat (first | (with_reducible first | exact HB.out | apply below_alloc | apply pw_below_drewN | apply below_drew1 | refine below_set ?_ GE104.out) | exact HB.out)⟩
        · rw [if_neg c7] at H
          have c7b0 : (a0_1 == 1) = false := beq_eq_false_iff_ne.mpr c7
          have c7b1 : (a0_1 != 1) = true := bne_iff_ne.mpr c7
          by_cases c9 : a0_1 = 2
          · rw [if_pos c9] at H
            have c9b0 : (a0_1 == 2) = true := beq_iff_eq.mpr c9
            have c9b1 : (a0_1 != 2) = false := bne_eq_false_iff_eq.mpr c9
            clear c9
            simp only [Option.some.injEq, Prod.mk.injEq] at H
            obtain ⟨rfl, rfl⟩ := H
            have hcz10_0 : wc.cell? ⟨gb104, 0, none⟩ = some (.string a0_0) := (blk_cell BK104.out 0).trans rfl
            have hcz10_1 : wc.cell? ⟨gb104, 1, none⟩ = some (.int .i64 a0_1) := (blk_cell BK104.out 1).trans rfl
            have hcz10_2 : wc.cell? ⟨gb104, 2, none⟩ = some (.int .i64 a0_2) := (blk_cell BK104.out 2).trans rfl
            have hfz10_0 := blk_frozen BK104.out 0
            have hfz10_1 := blk_frozen BK104.out 1
            have hfz10_2 := blk_frozen BK104.out 2
            go_wp2
            go_ret2
            exact ⟨by first | rfl | (simp [errW_none, errW_some] <;> rfl) | (simp [*, errW_none, errW_some] <;> rfl), by repeat (first | (with_reducible first | exact HB.out | apply below_alloc | apply pw_below_drewN | apply below_drew1 | refine below_set ?_ GE104.out) | exact HB.out)⟩
          · rw [if_neg c9] at H
            have c9b0 : (a0_1 == 2) = false := beq_eq_false_iff_ne.mpr c9
            have c9b1 : (a0_1 != 2) = true := bne_iff_ne.mpr c9
            by_cases c11 : a0_1 = 3
            · rw [if_pos c11] at H
              have c11b0 : (a0_1 == 3) = true := beq_iff_eq.mpr c11
              have c11b1 : (a0_1 != 3) = false := bne_eq_false_iff_eq.mpr c11
              clear c11
              simp only [Option.some.injEq, Prod.mk.injEq] at H
              obtain ⟨rfl, rfl⟩ := H
              have hcz12_0 : wc.cell? ⟨gb104, 0, none⟩ = some (.string a0_0) := (blk_cell BK104.out 0).trans rfl
              have hcz12_1 : wc.cell? ⟨gb104, 1, none⟩ = some (.int .i64 a0_1) := (blk_cell BK104.out 1).trans rfl
              have hcz12_2 : wc.cell? ⟨gb104, 2, none⟩ = some (.int .i64 a0_2) := (blk_cell BK104.out 2).trans rfl
              have hfz12_0 := blk_frozen BK104.out 0
              have hfz12_1 := blk_frozen BK104.out 1
              have hfz12_2 := blk_frozen BK104.out 2
              go_wp2
              go_ret2
              exact ⟨by first | rfl | (simp [errW_none, errW_some] <;> rfl) | (simp [*, errW_none, errW_some] <;> rfl), by repeat (first | (with_reducible first | exact HB.out | apply below_alloc | apply pw_below_drewN | apply below_drew1 | refine below_set ?_ GE104.out) | exact HB.out)⟩
            · rw [if_neg c11] at H
              have c11b0 : (a0_1 == 3) = false := beq_eq_false_iff_ne.mpr c11
              have c11b1 : (a0_1 != 3) = true := bne_iff_ne.mpr c11
              by_cases c13 : a0_1 = 4
              · rw [if_pos c13] at H
                have c13b0 : (a0_1 == 4) = true := beq_iff_eq.mpr c13
                have c13b1 : (a0_1 != 4) = false := bne_eq_false_iff_eq.mpr c13
                clear c13
                simp only [Option.some.injEq, Prod.mk.injEq] at H
                obtain ⟨rfl, rfl⟩ := H
                have hcz14_0 : wc.cell? ⟨gb104, 0, none⟩ = some (.string a0_0) := (blk_cell BK104.out 0).trans rfl
                have hcz14_1 : wc.cell? ⟨gb104, 1, none⟩ = some (.int .i64 a0_1) := (blk_cell BK104.out 1).trans rfl
                have hcz14_2 : wc.cell? ⟨gb104, 2, none⟩ = some (.int .i64 a0_2) := (blk_cell BK104.out 2).trans rfl
                have hfz14_0 := blk_frozen BK104.out 0
                have hfz14_1 := blk_frozen BK104.out 1
                have hfz14_2 := blk_frozen BK104.out 2
                go_wp2
                go_ret2
                exact ⟨by first | rfl | (simp [errW_none, errW_some] <;> rfl) | (simp [*, errW_none, errW_some] <;> rfl), by repeat (first | (with_reducible first | exact HB.out | apply below_alloc | apply pw_below_drewN | apply below_drew1 | refine below_set ?_ GE104.out) | exact HB.out)⟩
              · rw [if_neg c13] at H
                have c13b0 : (a0_1 == 4) = false := beq_eq_false_iff_ne.mpr c13
                have c13b1 : (a0_1 != 4) = true := bne_iff_ne.mpr c13
                by_cases c15 : a0_1 = 5
                · rw [if_pos c15] at H
                  have c15b0 : (a0_1 == 5) = true := beq_iff_eq.mpr c15
                  have c15b1 : (a0_1 != 5) = false := bne_eq_false_iff_eq.mpr c15
                  clear c15
                  simp only [Option.some.injEq, Prod.mk.injEq] at H
                  obtain ⟨rfl, rfl⟩ := H
                  have hcz16_0 : wc.cell? ⟨gb104, 0, none⟩ = some (.string a0_0) := (blk_cell BK104.out 0).trans rfl
                  have hcz16_1 : wc.cell? ⟨gb104, 1, none⟩ = some (.int .i64 a0_1) := (blk_cell BK104.out 1).trans rfl
                  have hcz16_2 : wc.cell? ⟨gb104, 2, none⟩ = some (.int .i64 a0_2) := (blk_cell BK104.out 2).trans rfl
                  have hfz16_0 := blk_frozen BK104.out 0
                  have hfz16_1 := blk_frozen BK104.out 1
                  have hfz16_2 := blk_frozen BK104.out 2
                  go_wp2
                  go_ret2
                  exact ⟨by first | rfl | (simp [errW_none, errW_some] <;> rfl) | (simp [*, errW_none, errW_some] <;> rfl), by repeat (first | (with_reducible first | exact HB.out | apply below_alloc | apply pw_below_drewN | apply below_drew1 | refine below_set ?_ GE104.out) | exact HB.out)⟩
                · rw [if_neg c15] at H
                  have c15b0 : (a0_1 == 5) = false := beq_eq_false_iff_ne.mpr c15
                  have c15b1 : (a0_1 != 5) = true := bne_iff_ne.mpr c15
                  by_cases c17 : a0_1 = 6
                  · rw [if_pos c17] at H
                    have c17b0 : (a0_1 == 6) = true := beq_iff_eq.mpr c17
                    have c17b1 : (a0_1 != 6) = false := bne_eq_false_iff_eq.mpr c17
                    clear c17
                    simp only [Option.some.injEq, Prod.mk.injEq] at H
                    obtain ⟨rfl, rfl⟩ := H
                    have hcz18_0 : wc.cell? ⟨gb104, 0, none⟩ = some (.string a0_0) := (blk_cell BK104.out 0).trans rfl
                    have hcz18_1 : wc.cell? ⟨gb104, 1, none⟩ = some (.int .i64 a0_1) := (blk_cell BK104.out 1).trans rfl
                    have hcz18_2 : wc.cell? ⟨gb104, 2, none⟩ = some (.int .i64 a0_2) := (blk_cell BK104.out 2).trans rfl
                    have hfz18_0 := blk_frozen BK104.out 0
                    have hfz18_1 := blk_frozen BK104.out 1
                    have hfz18_2 := blk_frozen BK104.out 2
                    go_wp2
                    go_ret2
                    exact ⟨by first | rfl | (simp [errW_none, errW_some] <;> rfl) | (simp [*, errW_none, errW_some] <;> rfl), by repeat (first | (with_reducible first | exact HB.out | apply below_alloc | apply pw_below_drewN | apply below_drew1 | refine below_set ?_ GE104.out) | exact HB.out)⟩
                  · rw [if_neg c17] at H
                    have c17b0 : (a0_1 == 6) = false := beq_eq_false_iff_ne.mpr c17
                    have c17b1 : (a0_1 != 6) = true := bne_iff_ne.mpr c17
                    by_cases c19 : a0_1 = 7
                    · rw [if_pos c19] at H
                      have c19b0 : (a0_1 == 7) = true := beq_iff_eq.mpr c19
                      have c19b1 : (a0_1 != 7) = false := bne_eq_false_iff_eq.mpr c19
                      clear c19
                      simp only [Option.some.injEq, Prod.mk.injEq] at H
                      obtain ⟨rfl, rfl⟩ := H
                      have hcz20_0 : wc.cell? ⟨gb104, 0, none⟩ = some (.string a0_0) := (blk_cell BK104.out 0).trans rfl
                      have hcz20_1 : wc.cell? ⟨gb104, 1, none⟩ = some (.int .i64 a0_1) := (blk_cell BK104.out 1).trans rfl
                      have hcz20_2 : wc.cell? ⟨gb104, 2, none⟩ = some (.int .i64 a0_2) := (blk_cell BK104.out 2).trans rfl
                      have hfz20_0 := blk_frozen BK104.out 0
                      have hfz20_1 := blk_frozen BK104.out 1
                      have hfz20_2 := blk_frozen BK104.out 2
                      go_wp2
                      go_ret2
                      exact ⟨by first | rfl | (simp [errW_none, errW_some] <;> rfl) | (simp [*, errW_none, errW_some] <;> rfl), by repeat (first | (with_reducible first | exact HB.out | apply below_alloc | apply pw_below_drewN | apply below_drew1 | refine below_set ?_ GE104.out) | exact HB.out)⟩
                    · rw [if_neg c19] at H
                      have c19b0 : (a0_1 == 7) = false := beq_eq_false_iff_ne.mpr c19
                      have c19b1 : (a0_1 != 7) = true := bne_iff_ne.mpr c19
                      simp only [Option.some.injEq, Prod.mk.injEq] at H
                      obtain ⟨rfl, rfl⟩ := H
                      have hcz21_0 : wc.cell? ⟨gb104, 0, none⟩ = some (.string a0_0) := (blk_cell BK104.out 0).trans rfl
                      have hcz21_1 : wc.cell? ⟨gb104, 1, none⟩ = some (.int .i64 a0_1) := (blk_cell BK104.out 1).trans rfl
                      have hcz21_2 : wc.cell? ⟨gb104, 2, none⟩ = some (.int .i64 a0_2) := (blk_cell BK104.out 2).trans rfl
                      have hfz21_0 := blk_frozen BK104.out 0
                      have hfz21_1 := blk_frozen BK104.out 1
                      have hfz21_2 := blk_frozen BK104.out 2
                      go_wp2
                      go_ret2
                      exact ⟨by first | rfl | (simp [errW_none, errW_some] <;> rfl) | (simp [*, errW_none, errW_some] <;> rfl), by repeat (first | (with_reducible first | exact HB.out | apply below_alloc | apply pw_below_drewN | apply below_drew1 | refine below_set ?_ GE104.out) | exact HB.out)⟩

end Go.Proofs.YtlphglmjfklndaaDoor.POpsApart
