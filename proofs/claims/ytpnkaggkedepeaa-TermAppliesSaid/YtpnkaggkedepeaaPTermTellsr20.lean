/- What print.sh wrote for functions of the document, with ends that fell mended (reprint.py). -/
import Derived.Test.YtpnkaggkedepeaaPTermTellsr0
import Derived.Test.YtpnkaggkedepeaaPTermTellsr10
import Derived.Test.YtpnkaggkedepeaaPTermTellsr11
namespace Go.Proofs.Ytpnkaggkedepeaa.PTermTells
open Go.RowKit Go.Proofs.YtpnkaggkedepeaaW.PrintWords Go.Proofs.YtpnkaggkedepeaaW.PrintLast Go.Proofs.YtpnkaggkedepeaaW.PrintMore
attribute [local go_sem] max2_int min2_int max_two min_two max_three min_three max_four min_four   -- for this text's walks alone
set_option linter.unusedVariables false
set_option linter.unusedSimpArgs false

/-! ### pythiaref07_C: function 47 -/
def pythiaref07_C.f (a0 : ByteArray) (l1 : List (S24)) : Option (Int × ByteArray × Int × (List (S24))) := some (4, a0, 0, l1)
set_option maxHeartbeats 8000000 in
set_option maxRecDepth 100000 in
theorem pythiaref07_C.calls (a0 : ByteArray) (P1_ : Nat → Prop) (A1 : Option Addr) (c1 : Nat) (l1 : List (S24)) (r1 : Int) (r2 : ByteArray) (r3 : Int) (r4 : List (S24)) (w : World) (hs1 : Kd.V k24 24 w w.heap.size (fun k_ => P1_ k_) (.slice A1 l1.length c1) l1) (h : pythiaref07_C.f a0 l1 = some (r1, r2, r3, r4)) :
    Calls Try.prog 47 #[.string a0, .slice A1 l1.length c1] w fun e w' => ∃ v3_ : Value, e = .returned (.agg #[.int .i64 r1, .string r2, .int .i64 r3, v3_]) ∧ Kd.V k24 24 w' w.heap.size (fun k_ => (P1_ k_ ∨ w.heap.size ≤ k_)) v3_ r4 ∧ Below w.heap.size w w' := by
  have hu24 := Try.underlying24
  have HO1 := Aside0.mk (show Kd.V k24 24 w w.heap.size (fun k_ => (P1_ k_ ∨ w.heap.size ≤ k_)) (.slice A1 l1.length c1) l1 from Kd.V_mono hs1 (fun k_ hk => .inl hk))
  have HB := Aside0.mk (Below.refl w.heap.size w)
  have H : (some (4, a0, 0, l1)) = some (r1, r2, r3, r4) := h
  clear h
  simp only [Option.some.injEq, Prod.mk.injEq] at H
  obtain ⟨rfl, rfl, rfl, rfl⟩ := H
  go_enter Try.func47, Try.ntmps47
  go_wp2_with (first | ((with_reducible refine gate_dst (N := 4) rfl ?_); refine box_event ?hg (N := 4) ?hd (cs := #[.int .i64 0, .string (⟨#[]⟩ : ByteArray), .int .i64 0, .slice none 0 0]) (t := 24) ?hr ?_; (case hd => rfl); (case hg => rfl); (case hr => first | (go_simp; done) | (go_simp; rfl)); intro gb301 hg w3 hbox hb; have n0_ := Aside0.mk (Kd.V_below (Kd.V_elderB (by (with_reducible repeat (first | apply Kd.V_alloc | apply Kd.V_drewN | apply Kd.V_drew)); exact HO1.out) gb301 (Nat.le_of_eq hg.symm)) hb); have n1_ := Aside0.mk (below_step (by repeat (first | (with_reducible first | exact HB.out | apply below_alloc | apply pw_below_drewN | apply below_drew1) | exact HB.out)) hb); have n2_ := Aside0.mk (hbox); have n3_ := Aside0.mk ((by rw [hg]; exact (below_size (by repeat (first | (with_reducible first | exact HB.out | apply below_alloc | apply pw_below_drewN | apply below_drew1) | exact HB.out))) : w.heap.size ≤ gb301)); have n4_ := Aside0.mk ((by rw [hg]; exact (below_size (by repeat (first | (with_reducible first | exact HB.out | apply below_alloc | apply pw_below_drewN | apply below_drew1) | exact HB.out))) : w.heap.size ≤ gb301)); clear HO1; clear HB; have HO1 := n0_; have HB := n1_; have BK301 := n2_; have GW301 := n3_; have GE301 := n4_; clear n0_ n1_ n2_ n3_ n4_; clear hb hbox hg; have hcz4_0 : w3.cell? ⟨gb301, 0, none⟩ = some (.int .i64 0) := (blk_cell BK301.out 0).trans rfl; have hcz4_1 : w3.cell? ⟨gb301, 1, none⟩ = some (.string (⟨#[]⟩ : ByteArray)) := (blk_cell BK301.out 1).trans rfl; have hcz4_2 : w3.cell? ⟨gb301, 2, none⟩ = some (.int .i64 0) := (blk_cell BK301.out 2).trans rfl; have hcz4_3 : w3.cell? ⟨gb301, 3, none⟩ = some (.slice none 0 0) := (blk_cell BK301.out 3).trans rfl; have hfz4_0 := blk_frozen BK301.out 0; have hfz4_1 := blk_frozen BK301.out 1; have hfz4_2 := blk_frozen BK301.out 2; have hfz4_3 := blk_frozen BK301.out 3))
  refine bodyPost_ret (results_cell_row rfl _ _ gb301 24 #[.int .i64 4, .string a0, .int .i64 0, .slice A1 l1.length c1] (0, 0) _ rfl (by (with_reducible repeat (first | refine blk_drewN ?_ _ | refine blk_drew ?_ | refine blk_alloc ?_ _)); refine blk_put (cs := #[.int .i64 4, .string a0, .int .i64 0, .slice none 0 0]) ?_ 3 _ rfl; (with_reducible repeat (first | refine blk_drewN ?_ _ | refine blk_drew ?_ | refine blk_alloc ?_ _)); refine blk_put (cs := #[.int .i64 4, .string a0, .int .i64 0, .slice none 0 0]) ?_ 2 _ rfl; (with_reducible repeat (first | refine blk_drewN ?_ _ | refine blk_drew ?_ | refine blk_alloc ?_ _)); refine blk_put (cs := #[.int .i64 4, .string (⟨#[]⟩ : ByteArray), .int .i64 0, .slice none 0 0]) ?_ 1 _ rfl; (with_reducible repeat (first | refine blk_drewN ?_ _ | refine blk_drew ?_ | refine blk_alloc ?_ _)); refine blk_put (cs := #[.int .i64 0, .string (⟨#[]⟩ : ByteArray), .int .i64 0, .slice none 0 0]) ?_ 0 _ rfl; (with_reducible repeat (first | refine blk_drewN ?_ _ | refine blk_drew ?_ | refine blk_alloc ?_ _)); exact BK301.out) Try.underlying24 rfl (by kernel_rfl)) rfl ?_
  exact ⟨_, by first | rfl | (simp [errW_none, errW_some] <;> rfl) | (simp [*, errW_none, errW_some] <;> rfl), by (with_reducible repeat (first | apply Kd.V_alloc | apply Kd.V_drewN | apply Kd.V_drew)); exact Kd.V_mono (Kd.V_far (p := ⟨gb301, 3, none⟩) (Kd.V_far (p := ⟨gb301, 2, none⟩) (Kd.V_far (p := ⟨gb301, 1, none⟩) (Kd.V_far (p := ⟨gb301, 0, none⟩) (Kd.V_mono HO1.out (fun k_ hk => (⟨hk, hk.2⟩ : _ ∧ k_ ≠ gb301))) (fun _ hk => hk.2) (.int .i64 4)) (fun _ hk => hk.2) (.string a0)) (fun _ hk => hk.2) (.int .i64 0)) (fun _ hk => hk.2) (.slice A1 l1.length c1)) (fun _ hk => hk.1.1), by repeat (first | (with_reducible first | exact HB.out | apply below_alloc | apply pw_below_drewN | apply below_drew1 | refine below_set ?_ GE301.out) | exact HB.out)⟩

/-! ### pythiaref07_V: function 44 -/
def pythiaref07_V.f (a0 : Int) : Option (Int × ByteArray × Int × (List (S24))) := some (1, (⟨#[]⟩ : ByteArray), a0, ([] : List (S24)))
set_option maxHeartbeats 8000000 in
set_option maxRecDepth 100000 in
theorem pythiaref07_V.calls (a0 : Int) (r1 : Int) (r2 : ByteArray) (r3 : Int) (r4 : List (S24)) (w : World) (h : pythiaref07_V.f a0 = some (r1, r2, r3, r4)) :
    Calls Try.prog 44 #[.int .i64 a0] w fun e w' => ∃ v3_ : Value, e = .returned (.agg #[.int .i64 r1, .string r2, .int .i64 r3, v3_]) ∧ Kd.R k24 24 w' w.heap.size (fun _ => True) v3_ r4 ∧ Below w.heap.size w w' := by
  have hu24 := Try.underlying24
  have HB := Aside0.mk (Below.refl w.heap.size w)
  have H : (some (1, (⟨#[]⟩ : ByteArray), a0, ([] : List (S24)))) = some (r1, r2, r3, r4) := h
  clear h
  simp only [Option.some.injEq, Prod.mk.injEq] at H
  obtain ⟨rfl, rfl, rfl, rfl⟩ := H
  go_enter Try.func44, Try.ntmps44
  go_wp2_with (first | ((with_reducible refine gate_dst (N := 2) rfl ?_); refine box_event ?hg (N := 2) ?hd (cs := #[.int .i64 0, .string (⟨#[]⟩ : ByteArray), .int .i64 0, .slice none 0 0]) (t := 24) ?hr ?_; (case hd => rfl); (case hg => rfl); (case hr => first | (go_simp; done) | (go_simp; rfl)); intro gb302 hg w2 hbox hb; have n0_ := Aside0.mk (below_step (by repeat (first | (with_reducible first | exact HB.out | apply below_alloc | apply pw_below_drewN | apply below_drew1) | exact HB.out)) hb); have n1_ := Aside0.mk (hbox); have n2_ := Aside0.mk ((by rw [hg]; exact (below_size (by repeat (first | (with_reducible first | exact HB.out | apply below_alloc | apply pw_below_drewN | apply below_drew1) | exact HB.out))) : w.heap.size ≤ gb302)); have n3_ := Aside0.mk ((by rw [hg]; exact (below_size (by repeat (first | (with_reducible first | exact HB.out | apply below_alloc | apply pw_below_drewN | apply below_drew1) | exact HB.out))) : w.heap.size ≤ gb302)); clear HB; have HB := n0_; have BK302 := n1_; have GW302 := n2_; have GE302 := n3_; clear n0_ n1_ n2_ n3_; clear hb hbox hg; have hcz3_0 : w2.cell? ⟨gb302, 0, none⟩ = some (.int .i64 0) := (blk_cell BK302.out 0).trans rfl; have hcz3_1 : w2.cell? ⟨gb302, 1, none⟩ = some (.string (⟨#[]⟩ : ByteArray)) := (blk_cell BK302.out 1).trans rfl; have hcz3_2 : w2.cell? ⟨gb302, 2, none⟩ = some (.int .i64 0) := (blk_cell BK302.out 2).trans rfl; have hcz3_3 : w2.cell? ⟨gb302, 3, none⟩ = some (.slice none 0 0) := (blk_cell BK302.out 3).trans rfl; have hfz3_0 := blk_frozen BK302.out 0; have hfz3_1 := blk_frozen BK302.out 1; have hfz3_2 := blk_frozen BK302.out 2; have hfz3_3 := blk_frozen BK302.out 3))
  refine bodyPost_ret (results_cell_row rfl _ _ gb302 24 #[.int .i64 1, .string (⟨#[]⟩ : ByteArray), .int .i64 a0, .slice none 0 0] (0, 0) _ rfl (by (with_reducible repeat (first | refine blk_drewN ?_ _ | refine blk_drew ?_ | refine blk_alloc ?_ _)); refine blk_put (cs := #[.int .i64 1, .string (⟨#[]⟩ : ByteArray), .int .i64 a0, .slice none 0 0]) ?_ 3 _ rfl; (with_reducible repeat (first | refine blk_drewN ?_ _ | refine blk_drew ?_ | refine blk_alloc ?_ _)); refine blk_put (cs := #[.int .i64 1, .string (⟨#[]⟩ : ByteArray), .int .i64 0, .slice none 0 0]) ?_ 2 _ rfl; (with_reducible repeat (first | refine blk_drewN ?_ _ | refine blk_drew ?_ | refine blk_alloc ?_ _)); refine blk_put (cs := #[.int .i64 1, .string (⟨#[]⟩ : ByteArray), .int .i64 0, .slice none 0 0]) ?_ 1 _ rfl; (with_reducible repeat (first | refine blk_drewN ?_ _ | refine blk_drew ?_ | refine blk_alloc ?_ _)); refine blk_put (cs := #[.int .i64 0, .string (⟨#[]⟩ : ByteArray), .int .i64 0, .slice none 0 0]) ?_ 0 _ rfl; (with_reducible repeat (first | refine blk_drewN ?_ _ | refine blk_drew ?_ | refine blk_alloc ?_ _)); exact BK302.out) Try.underlying24 rfl (by kernel_rfl)) rfl ?_
  exact ⟨_, by first | rfl | (simp [errW_none, errW_some] <;> rfl) | (simp [*, errW_none, errW_some] <;> rfl), by first | exact Kd.R_nil _ _ _ _ _ | exact Kd.N_nil _ _ _ _ _ | exact Kd.V_nil _ _ _ _ _ | exact Kd.Q_nil _ _ _ _ _ | exact Kd.S_nil _ _ _ _ _, by repeat (first | (with_reducible first | exact HB.out | apply below_alloc | apply pw_below_drewN | apply below_drew1 | refine below_set ?_ GE302.out) | exact HB.out)⟩

/-! ### pythiaref07_Size: function 22 -/
mutual
def pythiaref07_Size.l0 : Nat → Int → Int → Int → Int → ByteArray → Int → List (S24) → Option (Int)
  | 0, _, _, _, _, _, _, _ => none
  | k + 1, x1, x5, x6, x356000, x356001, x356002, x356003 => if x6 < (x356003.length : Int) then (if x5 ≤ x1 then (if 0 ≤ x6 then ((pythiaref07_Size.f k ((rd_T24 x356003 x6).f0) ((rd_T24 x356003 x6).f1) ((rd_T24 x356003 x6).f2) ((rd_T24 x356003 x6).f3) (wrap64 (x1 - x5))).bind fun t357 => (pythiaref07_Size.l0 k x1 (wrap64 (x5 + t357)) (wrap64 (x6 + 1)) x356000 x356001 x356002 x356003)) else (none)) else (some x5)) else (some x5)
def pythiaref07_Size.f : Nat → Int → ByteArray → Int → List (S24) → Int → Option (Int)
  | 0, _, _, _, _, _ => none
  | k + 1, a0_0, a0_1, a0_2, l0_3, a1 => if a0_0 = 4 then (pythiaref07_Size.l0 k a1 1 0 a0_0 a0_1 a0_2 l0_3) else (some 1)
end
theorem pythiaref07_Size.mono_l : ∀ k, (∀ y0 y1 y2 y3 y4, LeO (pythiaref07_Size.f k y0 y1 y2 y3 y4) (pythiaref07_Size.f (k + 1) y0 y1 y2 y3 y4)) ∧ (∀ y0 y1 y2 y3 y4 y5 y6, LeO (pythiaref07_Size.l0 k y0 y1 y2 y3 y4 y5 y6) (pythiaref07_Size.l0 (k + 1) y0 y1 y2 y3 y4 y5 y6))
  | 0 => ⟨fun _ _ _ _ _ r h => by simp [pythiaref07_Size.f] at h, fun _ _ _ _ _ _ _ r h => by simp [pythiaref07_Size.l0] at h⟩
  | k + 1 => by
    obtain ⟨ih0, ih1⟩ := pythiaref07_Size.mono_l k
    refine ⟨?_, ?_⟩
    · intro y0 y1 y2 y3 y4
      unfold pythiaref07_Size.f
      repeat' first
      | (with_reducible exact ih0 _ _ _ _ _)
      | (with_reducible exact ih1 _ _ _ _ _ _ _)
      | (with_reducible exact LeO.refl _)
      | (with_reducible exact LeO.none _)
      | (with_reducible refine LeO.ite ?_ ?_)
      | (with_reducible refine LeO.bind ?_ (fun _ => ?_))
      | exact ih0 _ _ _ _ _
      | exact ih1 _ _ _ _ _ _ _
      | exact LeO.none _
      | refine LeO.ite ?_ ?_
      | refine LeO.bind ?_ (fun _ => ?_)
    · intro y0 y1 y2 y3 y4 y5 y6
      unfold pythiaref07_Size.l0
      repeat' first
      | (with_reducible exact ih0 _ _ _ _ _)
      | (with_reducible exact ih1 _ _ _ _ _ _ _)
      | (with_reducible exact LeO.refl _)
      | (with_reducible exact LeO.none _)
      | (with_reducible refine LeO.ite ?_ ?_)
      | (with_reducible refine LeO.bind ?_ (fun _ => ?_))
      | exact ih0 _ _ _ _ _
      | exact ih1 _ _ _ _ _ _ _
      | exact LeO.none _
      | refine LeO.ite ?_ ?_
      | refine LeO.bind ?_ (fun _ => ?_)
theorem pythiaref07_Size.mono : ∀ a0 a1 a2 a3 a4 k, LeO (pythiaref07_Size.f k a0 a1 a2 a3 a4) (pythiaref07_Size.f (k + 1) a0 a1 a2 a3 a4) := by
  intro a0 a1 a2 a3 a4 k
  obtain ⟨ih0, ih1⟩ := pythiaref07_Size.mono_l k
  exact ih0 a0 a1 a2 a3 a4
set_option maxHeartbeats 8000000 in
set_option maxRecDepth 100000 in
theorem pythiaref07_Size.calls (k : Nat) : ∀ (a0_0 : Int) (a0_1 : ByteArray) (a0_2 : Int) (A0_3 : Option Addr) (c0_3 : Nat) (l0_3 : List (S24)) (a1 : Int) (r : Int) (w : World) (hr0_3 : Kd.C k24 w A0_3 l0_3.length l0_3) (hc0_3 : l0_3.length ≤ c0_3) (h : pythiaref07_Size.f k a0_0 a0_1 a0_2 l0_3 a1 = some r),
    Calls Try.prog 22 #[.agg #[.int .i64 a0_0, .string a0_1, .int .i64 a0_2, .slice A0_3 l0_3.length c0_3], .int .i64 a1] w fun e w' => e = .returned (.int .i64 r) ∧ Below w.heap.size w w' := by
  induction k using Nat.strongRecOn with
  | _ k ih =>
  intro a0_0 a0_1 a0_2 A0_3 c0_3 l0_3 a1 r w hr0_3 hc0_3 h
  cases k with
  | zero => exact absurd h (by simp [pythiaref07_Size.f])
  | succ k =>
  simp only [pythiaref07_Size.f] at h
  have hu24 := Try.underlying24
  have HR0_3 := Aside0.mk hr0_3
  have HC0_3 := Aside0.mk hc0_3
  clear hr0_3 hc0_3
  have HB := Aside0.mk (Below.refl w.heap.size w)
  have H : (if a0_0 = 4 then (pythiaref07_Size.l0 k a1 1 0 a0_0 a0_1 a0_2 l0_3) else (some 1)) = some r := h
  clear h
  by_cases c3 : a0_0 = 4
  · rw [if_pos c3] at H
    have c3b0 : (a0_0 == 4) = true := beq_iff_eq.mpr c3
    have c3b1 : (a0_0 != 4) = false := bne_eq_false_iff_eq.mpr c3
    clear c3
    have H' := Aside0.mk H
    clear H
    go_enter Try.func22, Try.ntmps22
    go_wp2_with (first | ((with_reducible refine gate_dst (N := 2) rfl ?_); refine box_event ?hg (N := 2) ?hd (cs := #[.int .i64 a0_0, .string a0_1, .int .i64 a0_2, .slice A0_3 l0_3.length c0_3]) (t := 24) ?hr ?_; (case hd => rfl); (case hg => rfl); (case hr => first | (go_simp; done) | (go_simp; rfl)); intro gb355 hg w4 hbox hb; have n0_ := Aside0.mk (below_step (by repeat (first | (with_reducible first | exact HB.out | apply below_alloc | apply pw_below_drewN | apply below_drew1) | exact HB.out)) hb); have n1_ := Aside0.mk (hbox); have n2_ := Aside0.mk ((by rw [hg]; exact (below_size (by repeat (first | (with_reducible first | exact HB.out | apply below_alloc | apply pw_below_drewN | apply below_drew1) | exact HB.out))) : w.heap.size ≤ gb355)); have n3_ := Aside0.mk ((by rw [hg]; exact (below_size (by repeat (first | (with_reducible first | exact HB.out | apply below_alloc | apply pw_below_drewN | apply below_drew1) | exact HB.out))) : w.heap.size ≤ gb355)); clear HB; have HB := n0_; have BK355 := n1_; have GW355 := n2_; have GE355 := n3_; clear n0_ n1_ n2_ n3_; clear hb hbox hg; have hcz5_0 : w4.cell? ⟨gb355, 0, none⟩ = some (.int .i64 a0_0) := (blk_cell BK355.out 0).trans rfl; have hcz5_1 : w4.cell? ⟨gb355, 1, none⟩ = some (.string a0_1) := (blk_cell BK355.out 1).trans rfl; have hcz5_2 : w4.cell? ⟨gb355, 2, none⟩ = some (.int .i64 a0_2) := (blk_cell BK355.out 2).trans rfl; have hcz5_3 : w4.cell? ⟨gb355, 3, none⟩ = some (.slice A0_3 l0_3.length c0_3) := (blk_cell BK355.out 3).trans rfl; have hfz5_0 := blk_frozen BK355.out 0; have hfz5_1 := blk_frozen BK355.out 1; have hfz5_2 := blk_frozen BK355.out 2; have hfz5_3 := blk_frozen BK355.out 3))
    go_loopg [5, 6] k (fun kq v5 v6 w' => ∃ (x5_1 : Int) (x6_1 : Int), v5 = .int .i64 x5_1 ∧ v6 = .int .i64 x6_1 ∧ Aside0 (pythiaref07_Size.l0 kq a1 x5_1 x6_1 a0_0 a0_1 a0_2 l0_3 = some r) ∧ Aside0 (kq ≤ k) ∧ Aside0 (w'.heap[gb355]? = some (.cells #[.int .i64 a0_0, .string a0_1, .int .i64 a0_2, (.slice A0_3 l0_3.length c0_3)] 24 (0, 0))) ∧ Aside0 (Below w.heap.size w w'))
    case atStart => exact ⟨(1), (0), (by first | rfl | (simp; done) | (simp [*]; done)), (by first | rfl | (simp; done) | (simp [*]; done)), H', ⟨Nat.le_refl _⟩, ⟨by (with_reducible repeat (first | refine blk_drewN ?_ _ | refine blk_drew ?_ | refine blk_alloc ?_ _)); exact BK355.out⟩, ⟨by repeat (first | (with_reducible first | exact HB.out | apply below_alloc | apply pw_below_drewN | apply below_drew1 | refine below_set ?_ GE355.out) | exact HB.out)⟩⟩
    case round =>
      clear H'
      try clear c2
      try clear p2
      try clear c3
      try clear c3b0
      try clear c3b1
      try clear hcz5_0
      try clear hcz5_1
      try clear hcz5_2
      try clear hcz5_3
      try clear hfz5_0
      try clear hfz5_1
      try clear hfz5_2
      try clear hfz5_3
      obtain ⟨x5_1, x6_1, rfl, rfl, HA, HK1, BK355, HB⟩ := hrel
      cases gk with
      | zero => exact absurd HA.out (by simp [pythiaref07_Size.l0])
      | succ k1 =>
        have H := HA.out
        clear HA
        simp only [pythiaref07_Size.l0] at H
        by_cases c6 : x6_1 < (l0_3.length : Int)
        · rw [if_pos c6] at H
          have c6b0 : decide (x6_1 < (l0_3.length : Int)) = true := decide_eq_true c6
          clear c6
          by_cases c7 : x5_1 ≤ a1
          · rw [if_pos c7] at H
            have c7b0 : decide (x5_1 ≤ a1) = true := decide_eq_true c7
            clear c7
            by_cases c8 : 0 ≤ x6_1
            · rw [if_pos c8] at H
              have c8b0 : decide (0 ≤ x6_1) = true := decide_eq_true c8
              clear c8
              replace H := Option.bind_eq_some_iff.mp H
              obtain ⟨t357, A90, H⟩ := H
              replace H : (pythiaref07_Size.l0 k1 a1 (wrap64 (x5_1 + t357)) (wrap64 (x6_1 + 1)) a0_0 a0_1 a0_2 l0_3) = some r := H
              have A9 := Aside0.mk A90
              clear A90
              have H' := Aside0.mk H
              clear H
              have hcz10_0 : wr.cell? ⟨gb355, 0, none⟩ = some (.int .i64 a0_0) := (blk_cell BK355.out 0).trans rfl
              have hcz10_1 : wr.cell? ⟨gb355, 1, none⟩ = some (.string a0_1) := (blk_cell BK355.out 1).trans rfl
              have hcz10_2 : wr.cell? ⟨gb355, 2, none⟩ = some (.int .i64 a0_2) := (blk_cell BK355.out 2).trans rfl
              have hcz10_3 : wr.cell? ⟨gb355, 3, none⟩ = some (.slice A0_3 l0_3.length c0_3) := (blk_cell BK355.out 3).trans rfl
              have hfz10_0 := blk_frozen BK355.out 0
              have hfz10_1 := blk_frozen BK355.out 1
              have hfz10_2 := blk_frozen BK355.out 2
              have hfz10_3 := blk_frozen BK355.out 3
              have p356 : 0 ≤ (x6_1 : Int) := of_decide_eq_true (by first | (with_reducible assumption) | assumption)
              have q356 : x6_1 < (l0_3.length : Int) := of_decide_eq_true (by first | (with_reducible assumption) | assumption)
              obtain ⟨ad356, A356_3, c356_3, e356, hx356_0, hx356_1, hx356_2, hx356_3, hl356_3, hi356_3⟩ := at_T24 HR0_3.out x6_1 p356 q356
              cases e356
              replace hx356_0 := (HB.out.cell (World.block_lt_of_cell? w _ hx356_0)).trans hx356_0
              replace hx356_1 := (HB.out.cell (World.block_lt_of_cell? w _ hx356_1)).trans hx356_1
              replace hx356_2 := (HB.out.cell (World.block_lt_of_cell? w _ hx356_2)).trans hx356_2
              replace hx356_3 := (HB.out.cell (World.block_lt_of_cell? w _ hx356_3)).trans hx356_3
              have HR356_3 := Aside0.mk hi356_3
              have HC356_3 := Aside0.mk hl356_3
              clear hi356_3 hl356_3
              replace p356 := eq_true p356
              replace q356 := eq_true q356
              go_wp2_with (first | ((with_reducible refine gate_callee (f := 22) rfl ?_); refine goesL_ (some 31) rfl rfl Try.func22 (by kernel_rfl) rfl #[.agg #[.int .i64 ((rd_T24 l0_3 x6_1).f0), .string ((rd_T24 l0_3 x6_1).f1), .int .i64 ((rd_T24 l0_3 x6_1).f2), .slice A356_3 ((rd_T24 l0_3 x6_1).f3).length c356_3], .int .i64 (wrap64 (a1 - x5_1))] rfl (by (try simp only [List.map_toArray, List.map_cons, List.map_nil]); first | done | rfl | (simp only [List.length_drop, List.length_take]; rfl)) ?_; (with_reducible refine (ih k1 (by have := HK1.out; omega) ((rd_T24 l0_3 x6_1).f0) ((rd_T24 l0_3 x6_1).f1) ((rd_T24 l0_3 x6_1).f2) _ _ ((rd_T24 l0_3 x6_1).f3) (wrap64 (a1 - x5_1)) t357 _ ?side1 ?side2 A9.out).mono ?_); (case side1 => repeat (first | exact (Kd.C_below HR356_3.out HB.out) | (with_reducible refine Kd.C_alloc ?_ _) | (with_reducible refine Kd.C_drewN ?_ _) | (with_reducible refine Kd.C_drew ?_))); (case side2 => exact HC356_3.out); rintro e w11 ⟨rfl, hb⟩; refine ⟨_, rfl, ?_⟩; have n0_ := Aside0.mk (blk_below (g := gb355) (o := .cells #[.int .i64 a0_0, .string a0_1, .int .i64 a0_2, .slice (some ad356) l0_3.length c0_3] 24 (0, 0)) (by (with_reducible repeat (first | refine blk_drewN ?_ _ | refine blk_drew ?_ | refine blk_alloc ?_ _)); exact BK355.out) hb); have n1_ := Aside0.mk (below_step (by repeat (first | (with_reducible first | exact HB.out | apply below_alloc | apply pw_below_drewN | apply below_drew1 | refine below_set ?_ GE355.out) | exact HB.out)) hb); clear BK355; clear HB; have BK355 := n0_; have HB := n1_; clear n0_ n1_; (try clear hb); (try clear hb2); (try clear hk); (try clear hi)))
              go_roundg k1
              case measure => have := HK1.out; omega
              case rel => exact ⟨(wrap64 (x5_1 + t357)), (wrap64 (x6_1 + 1)), (by first | rfl | (simp; done) | (simp [*]; done)), (by first | rfl | (simp; done) | (simp [*]; done)), H', ⟨by have := HK1.out; omega⟩, ⟨by (with_reducible repeat (first | refine blk_drewN ?_ _ | refine blk_drew ?_ | refine blk_alloc ?_ _)); exact BK355.out⟩, ⟨by repeat (first | (with_reducible first | exact HB.out | apply below_alloc | apply pw_below_drewN | apply below_drew1 | refine below_set ?_ GE355.out) | exact HB.out)⟩⟩
            · rw [if_neg c8] at H
              exact absurd H (by simp)
          · rw [if_neg c7] at H
            have c7b0 : decide (x5_1 ≤ a1) = false := decide_eq_false c7
            clear c7
            obtain rfl := Option.some.inj H
            have hcz12_0 : wr.cell? ⟨gb355, 0, none⟩ = some (.int .i64 a0_0) := (blk_cell BK355.out 0).trans rfl
            have hcz12_1 : wr.cell? ⟨gb355, 1, none⟩ = some (.string a0_1) := (blk_cell BK355.out 1).trans rfl
            have hcz12_2 : wr.cell? ⟨gb355, 2, none⟩ = some (.int .i64 a0_2) := (blk_cell BK355.out 2).trans rfl
            have hcz12_3 : wr.cell? ⟨gb355, 3, none⟩ = some (.slice A0_3 l0_3.length c0_3) := (blk_cell BK355.out 3).trans rfl
            have hfz12_0 := blk_frozen BK355.out 0
            have hfz12_1 := blk_frozen BK355.out 1
            have hfz12_2 := blk_frozen BK355.out 2
            have hfz12_3 := blk_frozen BK355.out 3
            go_wp2
            go_ret
            exact ⟨by first | rfl | (simp [errW_none, errW_some] <;> rfl) | (simp [*, errW_none, errW_some] <;> rfl), by repeat (first | (with_reducible first | exact HB.out | apply below_alloc | apply pw_below_drewN | apply below_drew1 | refine below_set ?_ GE355.out) | exact HB.out)⟩
        · rw [if_neg c6] at H
          have c6b0 : decide (x6_1 < (l0_3.length : Int)) = false := decide_eq_false c6
          clear c6
          obtain rfl := Option.some.inj H
          have hcz13_0 : wr.cell? ⟨gb355, 0, none⟩ = some (.int .i64 a0_0) := (blk_cell BK355.out 0).trans rfl
          have hcz13_1 : wr.cell? ⟨gb355, 1, none⟩ = some (.string a0_1) := (blk_cell BK355.out 1).trans rfl
          have hcz13_2 : wr.cell? ⟨gb355, 2, none⟩ = some (.int .i64 a0_2) := (blk_cell BK355.out 2).trans rfl
          have hcz13_3 : wr.cell? ⟨gb355, 3, none⟩ = some (.slice A0_3 l0_3.length c0_3) := (blk_cell BK355.out 3).trans rfl
          have hfz13_0 := blk_frozen BK355.out 0
          have hfz13_1 := blk_frozen BK355.out 1
          have hfz13_2 := blk_frozen BK355.out 2
          have hfz13_3 := blk_frozen BK355.out 3
          go_wp2
          go_ret
          exact ⟨by first | rfl | (simp [errW_none, errW_some] <;> rfl) | (simp [*, errW_none, errW_some] <;> rfl), by repeat (first | (with_reducible first | exact HB.out | apply below_alloc | apply pw_below_drewN | apply below_drew1 | refine below_set ?_ GE355.out) | exact HB.out)⟩
  · rw [if_neg c3] at H
    have c3b0 : (a0_0 == 4) = false := beq_eq_false_iff_ne.mpr c3
    have c3b1 : (a0_0 != 4) = true := bne_iff_ne.mpr c3
    obtain rfl := Option.some.inj H
    go_enter Try.func22, Try.ntmps22
    go_wp2_with (first | ((with_reducible refine gate_dst (N := 2) rfl ?_); refine box_event ?hg (N := 2) ?hd (cs := #[.int .i64 a0_0, .string a0_1, .int .i64 a0_2, .slice A0_3 l0_3.length c0_3]) (t := 24) ?hr ?_; (case hd => rfl); (case hg => rfl); (case hr => first | (go_simp; done) | (go_simp; rfl)); intro gb355 hg w14 hbox hb; have n0_ := Aside0.mk (below_step (by repeat (first | (with_reducible first | exact HB.out | apply below_alloc | apply pw_below_drewN | apply below_drew1) | exact HB.out)) hb); have n1_ := Aside0.mk (hbox); have n2_ := Aside0.mk ((by rw [hg]; exact (below_size (by repeat (first | (with_reducible first | exact HB.out | apply below_alloc | apply pw_below_drewN | apply below_drew1) | exact HB.out))) : w.heap.size ≤ gb355)); have n3_ := Aside0.mk ((by rw [hg]; exact (below_size (by repeat (first | (with_reducible first | exact HB.out | apply below_alloc | apply pw_below_drewN | apply below_drew1) | exact HB.out))) : w.heap.size ≤ gb355)); clear HB; have HB := n0_; have BK355 := n1_; have GW355 := n2_; have GE355 := n3_; clear n0_ n1_ n2_ n3_; clear hb hbox hg; have hcz15_0 : w14.cell? ⟨gb355, 0, none⟩ = some (.int .i64 a0_0) := (blk_cell BK355.out 0).trans rfl; have hcz15_1 : w14.cell? ⟨gb355, 1, none⟩ = some (.string a0_1) := (blk_cell BK355.out 1).trans rfl; have hcz15_2 : w14.cell? ⟨gb355, 2, none⟩ = some (.int .i64 a0_2) := (blk_cell BK355.out 2).trans rfl; have hcz15_3 : w14.cell? ⟨gb355, 3, none⟩ = some (.slice A0_3 l0_3.length c0_3) := (blk_cell BK355.out 3).trans rfl; have hfz15_0 := blk_frozen BK355.out 0; have hfz15_1 := blk_frozen BK355.out 1; have hfz15_2 := blk_frozen BK355.out 2; have hfz15_3 := blk_frozen BK355.out 3))
    go_ret
    exact ⟨by first | rfl | (simp [errW_none, errW_some] <;> rfl) | (simp [*, errW_none, errW_some] <;> rfl), by repeat (first | (with_reducible first | exact HB.out | apply below_alloc | apply pw_below_drewN | apply below_drew1 | refine below_set ?_ GE355.out) | exact HB.out)⟩

/-! ### pythiaref07_Depth: function 23 -/
mutual
def pythiaref07_Depth.j0 : Nat → Int → Bool → Int → ByteArray → Int → List (S24) → Option (Int)
  | 0, _, _, _, _, _, _ => none
  | k + 1, x1, x14, x359000, x359001, x359002, x359003 => if x14 = true then (some 1) else (pythiaref07_Depth.l0 k x1 0 0 x359000 x359001 x359002 x359003)
def pythiaref07_Depth.l0 : Nat → Int → Int → Int → Int → ByteArray → Int → List (S24) → Option (Int)
  | 0, _, _, _, _, _, _, _ => none
  | k + 1, x1, x5, x6, x359000, x359001, x359002, x359003 => if x6 < (x359003.length : Int) then (if 0 ≤ x6 then ((pythiaref07_Depth.f k ((rd_T24 x359003 x6).f0) ((rd_T24 x359003 x6).f1) ((rd_T24 x359003 x6).f2) ((rd_T24 x359003 x6).f3) (wrap64 (x1 - 1))).bind fun t360 => (if t360 > x5 then (pythiaref07_Depth.l0 k x1 t360 (wrap64 (x6 + 1)) x359000 x359001 x359002 x359003) else (pythiaref07_Depth.l0 k x1 x5 (wrap64 (x6 + 1)) x359000 x359001 x359002 x359003))) else (none)) else (some (wrap64 (x5 + 1)))
def pythiaref07_Depth.f : Nat → Int → ByteArray → Int → List (S24) → Int → Option (Int)
  | 0, _, _, _, _, _ => none
  | k + 1, a0_0, a0_1, a0_2, l0_3, a1 => if a1 ≤ 0 then (pythiaref07_Depth.j0 k a1 true a0_0 a0_1 a0_2 l0_3) else (pythiaref07_Depth.j0 k a1 (a0_0 != 4) a0_0 a0_1 a0_2 l0_3)
end
theorem pythiaref07_Depth.mono_l : ∀ k, (∀ y0 y1 y2 y3 y4, LeO (pythiaref07_Depth.f k y0 y1 y2 y3 y4) (pythiaref07_Depth.f (k + 1) y0 y1 y2 y3 y4)) ∧ (∀ y0 y1 y2 y3 y4 y5, LeO (pythiaref07_Depth.j0 k y0 y1 y2 y3 y4 y5) (pythiaref07_Depth.j0 (k + 1) y0 y1 y2 y3 y4 y5)) ∧ (∀ y0 y1 y2 y3 y4 y5 y6, LeO (pythiaref07_Depth.l0 k y0 y1 y2 y3 y4 y5 y6) (pythiaref07_Depth.l0 (k + 1) y0 y1 y2 y3 y4 y5 y6))
  | 0 => ⟨fun _ _ _ _ _ r h => by simp [pythiaref07_Depth.f] at h, fun _ _ _ _ _ _ r h => by simp [pythiaref07_Depth.j0] at h, fun _ _ _ _ _ _ _ r h => by simp [pythiaref07_Depth.l0] at h⟩
  | k + 1 => by
    obtain ⟨ih0, ih1, ih2⟩ := pythiaref07_Depth.mono_l k
    refine ⟨?_, ?_, ?_⟩
    · intro y0 y1 y2 y3 y4
      unfold pythiaref07_Depth.f
      repeat' first
      | (with_reducible exact ih0 _ _ _ _ _)
      | (with_reducible exact ih1 _ _ _ _ _ _)
      | (with_reducible exact ih2 _ _ _ _ _ _ _)
      | (with_reducible exact LeO.refl _)
      | (with_reducible exact LeO.none _)
      | (with_reducible refine LeO.ite ?_ ?_)
      | (with_reducible refine LeO.bind ?_ (fun _ => ?_))
      | exact ih0 _ _ _ _ _
      | exact ih1 _ _ _ _ _ _
      | exact ih2 _ _ _ _ _ _ _
      | exact LeO.none _
      | refine LeO.ite ?_ ?_
      | refine LeO.bind ?_ (fun _ => ?_)
    · intro y0 y1 y2 y3 y4 y5
      unfold pythiaref07_Depth.j0
      repeat' first
      | (with_reducible exact ih0 _ _ _ _ _)
      | (with_reducible exact ih1 _ _ _ _ _ _)
      | (with_reducible exact ih2 _ _ _ _ _ _ _)
      | (with_reducible exact LeO.refl _)
      | (with_reducible exact LeO.none _)
      | (with_reducible refine LeO.ite ?_ ?_)
      | (with_reducible refine LeO.bind ?_ (fun _ => ?_))
      | exact ih0 _ _ _ _ _
      | exact ih1 _ _ _ _ _ _
      | exact ih2 _ _ _ _ _ _ _
      | exact LeO.none _
      | refine LeO.ite ?_ ?_
      | refine LeO.bind ?_ (fun _ => ?_)
    · intro y0 y1 y2 y3 y4 y5 y6
      unfold pythiaref07_Depth.l0
      repeat' first
      | (with_reducible exact ih0 _ _ _ _ _)
      | (with_reducible exact ih1 _ _ _ _ _ _)
      | (with_reducible exact ih2 _ _ _ _ _ _ _)
      | (with_reducible exact LeO.refl _)
      | (with_reducible exact LeO.none _)
      | (with_reducible refine LeO.ite ?_ ?_)
      | (with_reducible refine LeO.bind ?_ (fun _ => ?_))
      | exact ih0 _ _ _ _ _
      | exact ih1 _ _ _ _ _ _
      | exact ih2 _ _ _ _ _ _ _
      | exact LeO.none _
      | refine LeO.ite ?_ ?_
      | refine LeO.bind ?_ (fun _ => ?_)
theorem pythiaref07_Depth.mono : ∀ a0 a1 a2 a3 a4 k, LeO (pythiaref07_Depth.f k a0 a1 a2 a3 a4) (pythiaref07_Depth.f (k + 1) a0 a1 a2 a3 a4) := by
  intro a0 a1 a2 a3 a4 k
  obtain ⟨ih0, ih1, ih2⟩ := pythiaref07_Depth.mono_l k
  exact ih0 a0 a1 a2 a3 a4
set_option maxHeartbeats 8000000 in
set_option maxRecDepth 100000 in
theorem pythiaref07_Depth.calls (k : Nat) : ∀ (a0_0 : Int) (a0_1 : ByteArray) (a0_2 : Int) (A0_3 : Option Addr) (c0_3 : Nat) (l0_3 : List (S24)) (a1 : Int) (r : Int) (w : World) (hr0_3 : Kd.C k24 w A0_3 l0_3.length l0_3) (hc0_3 : l0_3.length ≤ c0_3) (h : pythiaref07_Depth.f k a0_0 a0_1 a0_2 l0_3 a1 = some r),
    Calls Try.prog 23 #[.agg #[.int .i64 a0_0, .string a0_1, .int .i64 a0_2, .slice A0_3 l0_3.length c0_3], .int .i64 a1] w fun e w' => e = .returned (.int .i64 r) ∧ Below w.heap.size w w' := by
  induction k using Nat.strongRecOn with
  | _ k ih =>
  intro a0_0 a0_1 a0_2 A0_3 c0_3 l0_3 a1 r w hr0_3 hc0_3 h
  cases k with
  | zero => exact absurd h (by simp [pythiaref07_Depth.f])
  | succ k =>
  simp only [pythiaref07_Depth.f] at h
  have hu24 := Try.underlying24
  have HR0_3 := Aside0.mk hr0_3
  have HC0_3 := Aside0.mk hc0_3
  clear hr0_3 hc0_3
  have HB := Aside0.mk (Below.refl w.heap.size w)
  have H : (if a1 ≤ 0 then (pythiaref07_Depth.j0 k a1 true a0_0 a0_1 a0_2 l0_3) else (pythiaref07_Depth.j0 k a1 (a0_0 != 4) a0_0 a0_1 a0_2 l0_3)) = some r := h
  clear h
  have HC3 := Aside0.mk H
  clear H
  go_enter Try.func23, Try.ntmps23
  go_upto_region 1 with (first | ((with_reducible refine gate_dst (N := 2) rfl ?_); refine box_event ?hg (N := 2) ?hd (cs := #[.int .i64 a0_0, .string a0_1, .int .i64 a0_2, .slice A0_3 l0_3.length c0_3]) (t := 24) ?hr ?_; (case hd => rfl); (case hg => rfl); (case hr => first | (go_simp; done) | (go_simp; rfl)); intro gb358 hg w4 hbox hb; have n0_ := Aside0.mk (below_step (by repeat (first | (with_reducible first | exact HB.out | apply below_alloc | apply pw_below_drewN | apply below_drew1) | exact HB.out)) hb); have n1_ := Aside0.mk (hbox); have n2_ := Aside0.mk ((by rw [hg]; exact (below_size (by repeat (first | (with_reducible first | exact HB.out | apply below_alloc | apply pw_below_drewN | apply below_drew1) | exact HB.out))) : w.heap.size ≤ gb358)); have n3_ := Aside0.mk ((by rw [hg]; exact (below_size (by repeat (first | (with_reducible first | exact HB.out | apply below_alloc | apply pw_below_drewN | apply below_drew1) | exact HB.out))) : w.heap.size ≤ gb358)); clear HB; have HB := n0_; have BK358 := n1_; have GW358 := n2_; have GE358 := n3_; clear n0_ n1_ n2_ n3_; clear hb hbox hg))
  (try simp only [Act.put, List.setIfInBounds_toArray, List.set_cons_zero, List.set_cons_succ])
  go_cut [14] (fun v14 wc => ∃ (kq : Nat) (x14_2 : Bool), v14 = .bool x14_2 ∧ Aside0 (pythiaref07_Depth.j0 kq a1 x14_2 a0_0 a0_1 a0_2 l0_3 = some r) ∧ Aside0 (kq ≤ k) ∧ Aside0 (wc.heap[gb358]? = some (.cells #[.int .i64 a0_0, .string a0_1, .int .i64 a0_2, (.slice A0_3 l0_3.length c0_3)] 24 (0, 0))) ∧ Aside0 (Below w.heap.size w wc))
  case first =>
    have H := HC3.out
    clear HC3
    by_cases c5 : a1 ≤ 0
    · rw [if_pos c5] at H
      have c5b0 : decide (a1 ≤ 0) = true := decide_eq_true c5
      clear c5
      (first | rw [c5b0] | (simp only [i64_w, i32_w]; rw [c5b0]) | skip)
      have H' := Aside0.mk H
      clear H
      go_wp2
      go_meet
      case rel => exact ⟨_, (true), (by first | rfl | (simp; done) | (simp [*]; done)), H', ⟨by first | omega | exact Nat.le_refl _⟩, ⟨by (with_reducible repeat (first | refine blk_drewN ?_ _ | refine blk_drew ?_ | refine blk_alloc ?_ _)); exact BK358.out⟩, ⟨by repeat (first | (with_reducible first | exact HB.out | apply below_alloc | apply pw_below_drewN | apply below_drew1 | refine below_set ?_ GE358.out) | exact HB.out)⟩⟩
    · rw [if_neg c5] at H
      have c5b0 : decide (a1 ≤ 0) = false := decide_eq_false c5
      clear c5
      (first | rw [c5b0] | (simp only [i64_w, i32_w]; rw [c5b0]) | skip)
      have H' := Aside0.mk H
      clear H
      have hcz6_0 : w4.cell? ⟨gb358, 0, none⟩ = some (.int .i64 a0_0) := (blk_cell BK358.out 0).trans rfl
      have hcz6_1 : w4.cell? ⟨gb358, 1, none⟩ = some (.string a0_1) := (blk_cell BK358.out 1).trans rfl
      have hcz6_2 : w4.cell? ⟨gb358, 2, none⟩ = some (.int .i64 a0_2) := (blk_cell BK358.out 2).trans rfl
      have hcz6_3 : w4.cell? ⟨gb358, 3, none⟩ = some (.slice A0_3 l0_3.length c0_3) := (blk_cell BK358.out 3).trans rfl
      have hfz6_0 := blk_frozen BK358.out 0
      have hfz6_1 := blk_frozen BK358.out 1
      have hfz6_2 := blk_frozen BK358.out 2
      have hfz6_3 := blk_frozen BK358.out 3
      go_wp2
      go_meet
      case rel => exact ⟨_, ((a0_0 != 4)), (by first | rfl | (simp; done) | (simp [*]; done)), H', ⟨by first | omega | exact Nat.le_refl _⟩, ⟨by (with_reducible repeat (first | refine blk_drewN ?_ _ | refine blk_drew ?_ | refine blk_alloc ?_ _)); exact BK358.out⟩, ⟨by repeat (first | (with_reducible first | exact HB.out | apply below_alloc | apply pw_below_drewN | apply below_drew1 | refine below_set ?_ GE358.out) | exact HB.out)⟩⟩
  case rest =>
    clear HC3
    try clear c2
    try clear p2
    try clear c5
    try clear c5b0
    try clear hcz6_0
    try clear hcz6_1
    try clear hcz6_2
    try clear hcz6_3
    try clear hfz6_0
    try clear hfz6_1
    try clear hfz6_2
    try clear hfz6_3
    obtain ⟨kq, x14_2, rfl, HA, HJ2, BK358, HB⟩ := hcut
    cases kq with
    | zero => exact absurd HA.out (by simp [pythiaref07_Depth.j0])
    | succ kj2 =>
      have H := HA.out
      clear HA
      simp only [pythiaref07_Depth.j0] at H
      by_cases c7 : x14_2 = true
      · subst c7
        have H1 : (some 1) = some r := by rw [if_pos rfl] at H; exact H
        clear H
        have H := H1
        clear H1
        obtain rfl := Option.some.inj H
        go_wp2
        go_ret
        exact ⟨by first | rfl | (simp [errW_none, errW_some] <;> rfl) | (simp [*, errW_none, errW_some] <;> rfl), by repeat (first | (with_reducible first | exact HB.out | apply below_alloc | apply pw_below_drewN | apply below_drew1 | refine below_set ?_ GE358.out) | exact HB.out)⟩
      · replace c7 := Bool.eq_false_iff.mpr c7
        subst c7
        have H1 : (pythiaref07_Depth.l0 kj2 a1 0 0 a0_0 a0_1 a0_2 l0_3) = some r := by rw [if_neg (show ¬ (false = true) by decide)] at H; exact H
        clear H
        have H := H1
        clear H1
        have H' := Aside0.mk H
        clear H
        go_wp2
        go_loopg [5, 6] kj2 (fun kq v5 v6 w' => ∃ (x5_2 : Int) (x6_2 : Int), v5 = .int .i64 x5_2 ∧ v6 = .int .i64 x6_2 ∧ Aside0 (pythiaref07_Depth.l0 kq a1 x5_2 x6_2 a0_0 a0_1 a0_2 l0_3 = some r) ∧ Aside0 (kq ≤ kj2) ∧ Aside0 (w'.heap[gb358]? = some (.cells #[.int .i64 a0_0, .string a0_1, .int .i64 a0_2, (.slice A0_3 l0_3.length c0_3)] 24 (0, 0))) ∧ Aside0 (Below w.heap.size w w'))
        case atStart => exact ⟨(0), (0), (by first | rfl | (simp; done) | (simp [*]; done)), (by first | rfl | (simp; done) | (simp [*]; done)), H', ⟨Nat.le_refl _⟩, ⟨by (with_reducible repeat (first | refine blk_drewN ?_ _ | refine blk_drew ?_ | refine blk_alloc ?_ _)); exact BK358.out⟩, ⟨by repeat (first | (with_reducible first | exact HB.out | apply below_alloc | apply pw_below_drewN | apply below_drew1 | refine below_set ?_ GE358.out) | exact HB.out)⟩⟩
        case round =>
          clear H'
          try clear c2
          try clear p2
          try clear c5
          try clear c5b0
          try clear c7
          try clear hcz6_0
          try clear hcz6_1
          try clear hcz6_2
          try clear hcz6_3
          try clear hfz6_0
          try clear hfz6_1
          try clear hfz6_2
          try clear hfz6_3
          try clear p2
          obtain ⟨x5_2, x6_2, rfl, rfl, HA, HK2, BK358, HB⟩ := hrel
          cases gk with
          | zero => exact absurd HA.out (by simp [pythiaref07_Depth.l0])
          | succ k2 =>
            have H := HA.out
            clear HA
            simp only [pythiaref07_Depth.l0] at H
            by_cases c8 : x6_2 < (l0_3.length : Int)
            · rw [if_pos c8] at H
              have c8b0 : decide (x6_2 < (l0_3.length : Int)) = true := decide_eq_true c8
              clear c8
              by_cases c9 : 0 ≤ x6_2
              · rw [if_pos c9] at H
                have c9b0 : decide (0 ≤ x6_2) = true := decide_eq_true c9
                clear c9
                replace H := Option.bind_eq_some_iff.mp H
                obtain ⟨t360, A100, H⟩ := H
                replace H : (if t360 > x5_2 then (pythiaref07_Depth.l0 k2 a1 t360 (wrap64 (x6_2 + 1)) a0_0 a0_1 a0_2 l0_3) else (pythiaref07_Depth.l0 k2 a1 x5_2 (wrap64 (x6_2 + 1)) a0_0 a0_1 a0_2 l0_3)) = some r := H
                have A10 := Aside0.mk A100
                clear A100
                by_cases c11 : t360 > x5_2
                · rw [if_pos c11] at H
                  have c11b0 : decide (x5_2 < t360) = true := decide_eq_true c11
                  clear c11
                  have H' := Aside0.mk H
                  clear H
                  have hcz12_0 : wr.cell? ⟨gb358, 0, none⟩ = some (.int .i64 a0_0) := (blk_cell BK358.out 0).trans rfl
                  have hcz12_1 : wr.cell? ⟨gb358, 1, none⟩ = some (.string a0_1) := (blk_cell BK358.out 1).trans rfl
                  have hcz12_2 : wr.cell? ⟨gb358, 2, none⟩ = some (.int .i64 a0_2) := (blk_cell BK358.out 2).trans rfl
                  have hcz12_3 : wr.cell? ⟨gb358, 3, none⟩ = some (.slice A0_3 l0_3.length c0_3) := (blk_cell BK358.out 3).trans rfl
                  have hfz12_0 := blk_frozen BK358.out 0
                  have hfz12_1 := blk_frozen BK358.out 1
                  have hfz12_2 := blk_frozen BK358.out 2
                  have hfz12_3 := blk_frozen BK358.out 3
                  have p359 : 0 ≤ (x6_2 : Int) := of_decide_eq_true (by first | (with_reducible assumption) | assumption)
                  have q359 : x6_2 < (l0_3.length : Int) := of_decide_eq_true (by first | (with_reducible assumption) | assumption)
                  obtain ⟨ad359, A359_3, c359_3, e359, hx359_0, hx359_1, hx359_2, hx359_3, hl359_3, hi359_3⟩ := at_T24 HR0_3.out x6_2 p359 q359
                  cases e359
                  replace hx359_0 := (HB.out.cell (World.block_lt_of_cell? w _ hx359_0)).trans hx359_0
                  replace hx359_1 := (HB.out.cell (World.block_lt_of_cell? w _ hx359_1)).trans hx359_1
                  replace hx359_2 := (HB.out.cell (World.block_lt_of_cell? w _ hx359_2)).trans hx359_2
                  replace hx359_3 := (HB.out.cell (World.block_lt_of_cell? w _ hx359_3)).trans hx359_3
                  have HR359_3 := Aside0.mk hi359_3
                  have HC359_3 := Aside0.mk hl359_3
                  clear hi359_3 hl359_3
                  replace p359 := eq_true p359
                  replace q359 := eq_true q359
                  go_wp2_with (first | ((with_reducible refine gate_callee (f := 23) rfl ?_); refine goesL_ (some 29) rfl rfl Try.func23 (by kernel_rfl) rfl #[.agg #[.int .i64 ((rd_T24 l0_3 x6_2).f0), .string ((rd_T24 l0_3 x6_2).f1), .int .i64 ((rd_T24 l0_3 x6_2).f2), .slice A359_3 ((rd_T24 l0_3 x6_2).f3).length c359_3], .int .i64 (wrap64 (a1 - 1))] rfl (by (try simp only [List.map_toArray, List.map_cons, List.map_nil]); first | done | rfl | (simp only [List.length_drop, List.length_take]; rfl)) ?_; (with_reducible refine (ih k2 (by have := HJ2.out; have := HK2.out; omega) ((rd_T24 l0_3 x6_2).f0) ((rd_T24 l0_3 x6_2).f1) ((rd_T24 l0_3 x6_2).f2) _ _ ((rd_T24 l0_3 x6_2).f3) (wrap64 (a1 - 1)) t360 _ ?side1 ?side2 A10.out).mono ?_); (case side1 => repeat (first | exact (Kd.C_below HR359_3.out HB.out) | (with_reducible refine Kd.C_alloc ?_ _) | (with_reducible refine Kd.C_drewN ?_ _) | (with_reducible refine Kd.C_drew ?_))); (case side2 => exact HC359_3.out); rintro e w13 ⟨rfl, hb⟩; refine ⟨_, rfl, ?_⟩; have n0_ := Aside0.mk (blk_below (g := gb358) (o := .cells #[.int .i64 a0_0, .string a0_1, .int .i64 a0_2, .slice (some ad359) l0_3.length c0_3] 24 (0, 0)) (by (with_reducible repeat (first | refine blk_drewN ?_ _ | refine blk_drew ?_ | refine blk_alloc ?_ _)); exact BK358.out) hb); have n1_ := Aside0.mk (below_step (by repeat (first | (with_reducible first | exact HB.out | apply below_alloc | apply pw_below_drewN | apply below_drew1 | refine below_set ?_ GE358.out) | exact HB.out)) hb); clear BK358; clear HB; have BK358 := n0_; have HB := n1_; clear n0_ n1_; (try clear hb); (try clear hb2); (try clear hk); (try clear hi)))
                  go_roundg k2
                  case measure => have := HJ2.out; have := HK2.out; omega
                  case rel => exact ⟨(t360), (wrap64 (x6_2 + 1)), (by first | rfl | (simp; done) | (simp [*]; done)), (by first | rfl | (simp; done) | (simp [*]; done)), H', ⟨by have := HJ2.out; have := HK2.out; omega⟩, ⟨by (with_reducible repeat (first | refine blk_drewN ?_ _ | refine blk_drew ?_ | refine blk_alloc ?_ _)); exact BK358.out⟩, ⟨by repeat (first | (with_reducible first | exact HB.out | apply below_alloc | apply pw_below_drewN | apply below_drew1 | refine below_set ?_ GE358.out) | exact HB.out)⟩⟩
                · rw [if_neg c11] at H
                  have c11b0 : decide (x5_2 < t360) = false := decide_eq_false c11
                  clear c11
                  have H' := Aside0.mk H
                  clear H
                  have hcz14_0 : wr.cell? ⟨gb358, 0, none⟩ = some (.int .i64 a0_0) := (blk_cell BK358.out 0).trans rfl
                  have hcz14_1 : wr.cell? ⟨gb358, 1, none⟩ = some (.string a0_1) := (blk_cell BK358.out 1).trans rfl
                  have hcz14_2 : wr.cell? ⟨gb358, 2, none⟩ = some (.int .i64 a0_2) := (blk_cell BK358.out 2).trans rfl
                  have hcz14_3 : wr.cell? ⟨gb358, 3, none⟩ = some (.slice A0_3 l0_3.length c0_3) := (blk_cell BK358.out 3).trans rfl
                  have hfz14_0 := blk_frozen BK358.out 0
                  have hfz14_1 := blk_frozen BK358.out 1
                  have hfz14_2 := blk_frozen BK358.out 2
                  have hfz14_3 := blk_frozen BK358.out 3
                  have p359 : 0 ≤ (x6_2 : Int) := of_decide_eq_true (by first | (with_reducible assumption) | assumption)
                  have q359 : x6_2 < (l0_3.length : Int) := of_decide_eq_true (by first | (with_reducible assumption) | assumption)
                  obtain ⟨ad359, A359_3, c359_3, e359, hx359_0, hx359_1, hx359_2, hx359_3, hl359_3, hi359_3⟩ := at_T24 HR0_3.out x6_2 p359 q359
                  cases e359
                  replace hx359_0 := (HB.out.cell (World.block_lt_of_cell? w _ hx359_0)).trans hx359_0
                  replace hx359_1 := (HB.out.cell (World.block_lt_of_cell? w _ hx359_1)).trans hx359_1
                  replace hx359_2 := (HB.out.cell (World.block_lt_of_cell? w _ hx359_2)).trans hx359_2
                  replace hx359_3 := (HB.out.cell (World.block_lt_of_cell? w _ hx359_3)).trans hx359_3
                  have HR359_3 := Aside0.mk hi359_3
                  have HC359_3 := Aside0.mk hl359_3
                  clear hi359_3 hl359_3
                  replace p359 := eq_true p359
                  replace q359 := eq_true q359
                  go_wp2_with (first | ((with_reducible refine gate_callee (f := 23) rfl ?_); refine goesL_ (some 29) rfl rfl Try.func23 (by kernel_rfl) rfl #[.agg #[.int .i64 ((rd_T24 l0_3 x6_2).f0), .string ((rd_T24 l0_3 x6_2).f1), .int .i64 ((rd_T24 l0_3 x6_2).f2), .slice A359_3 ((rd_T24 l0_3 x6_2).f3).length c359_3], .int .i64 (wrap64 (a1 - 1))] rfl (by (try simp only [List.map_toArray, List.map_cons, List.map_nil]); first | done | rfl | (simp only [List.length_drop, List.length_take]; rfl)) ?_; (with_reducible refine (ih k2 (by have := HJ2.out; have := HK2.out; omega) ((rd_T24 l0_3 x6_2).f0) ((rd_T24 l0_3 x6_2).f1) ((rd_T24 l0_3 x6_2).f2) _ _ ((rd_T24 l0_3 x6_2).f3) (wrap64 (a1 - 1)) t360 _ ?side1 ?side2 A10.out).mono ?_); (case side1 => repeat (first | exact (Kd.C_below HR359_3.out HB.out) | (with_reducible refine Kd.C_alloc ?_ _) | (with_reducible refine Kd.C_drewN ?_ _) | (with_reducible refine Kd.C_drew ?_))); (case side2 => exact HC359_3.out); rintro e w15 ⟨rfl, hb⟩; refine ⟨_, rfl, ?_⟩; have n0_ := Aside0.mk (blk_below (g := gb358) (o := .cells #[.int .i64 a0_0, .string a0_1, .int .i64 a0_2, .slice (some ad359) l0_3.length c0_3] 24 (0, 0)) (by (with_reducible repeat (first | refine blk_drewN ?_ _ | refine blk_drew ?_ | refine blk_alloc ?_ _)); exact BK358.out) hb); have n1_ := Aside0.mk (below_step (by repeat (first | (with_reducible first | exact HB.out | apply below_alloc | apply pw_below_drewN | apply below_drew1 | refine below_set ?_ GE358.out) | exact HB.out)) hb); clear BK358; clear HB; have BK358 := n0_; have HB := n1_; clear n0_ n1_; (try clear hb); (try clear hb2); (try clear hk); (try clear hi)))
                  go_roundg k2
                  case measure => have := HJ2.out; have := HK2.out; omega
                  case rel => exact ⟨(x5_2), (wrap64 (x6_2 + 1)), (by first | rfl | (simp; done) | (simp [*]; done)), (by first | rfl | (simp; done) | (simp [*]; done)), H', ⟨by have := HJ2.out; have := HK2.out; omega⟩, ⟨by (with_reducible repeat (first | refine blk_drewN ?_ _ | refine blk_drew ?_ | refine blk_alloc ?_ _)); exact BK358.out⟩, ⟨by repeat (first | (with_reducible first | exact HB.out | apply below_alloc | apply pw_below_drewN | apply below_drew1 | refine below_set ?_ GE358.out) | exact HB.out)⟩⟩
              · rw [if_neg c9] at H
                exact absurd H (by simp)
            · rw [if_neg c8] at H
              have c8b0 : decide (x6_2 < (l0_3.length : Int)) = false := decide_eq_false c8
              clear c8
              obtain rfl := Option.some.inj H
              have hcz16_0 : wr.cell? ⟨gb358, 0, none⟩ = some (.int .i64 a0_0) := (blk_cell BK358.out 0).trans rfl
              have hcz16_1 : wr.cell? ⟨gb358, 1, none⟩ = some (.string a0_1) := (blk_cell BK358.out 1).trans rfl
              have hcz16_2 : wr.cell? ⟨gb358, 2, none⟩ = some (.int .i64 a0_2) := (blk_cell BK358.out 2).trans rfl
              have hcz16_3 : wr.cell? ⟨gb358, 3, none⟩ = some (.slice A0_3 l0_3.length c0_3) := (blk_cell BK358.out 3).trans rfl
              have hfz16_0 := blk_frozen BK358.out 0
              have hfz16_1 := blk_frozen BK358.out 1
              have hfz16_2 := blk_frozen BK358.out 2
              have hfz16_3 := blk_frozen BK358.out 3
              go_wp2
              go_ret
              exact ⟨by first | rfl | (simp [errW_none, errW_some] <;> rfl) | (simp [*, errW_none, errW_some] <;> rfl), by repeat (first | (with_reducible first | exact HB.out | apply below_alloc | apply pw_below_drewN | apply below_drew1 | refine below_set ?_ GE358.out) | exact HB.out)⟩

/-! ### pythiaref07_plain: function 50 -/
mutual
def pythiaref07_plain.j0 : Nat → Int → Bool → Int → ByteArray → Int → List (S24) → Option (Bool)
  | 0, _, _, _, _, _, _ => none
  | k + 1, x1, x40, x362000, x362001, x362002, x362003 => if x40 = true then (some false) else (pythiaref07_plain.l0 k x1 0 x362000 x362001 x362002 x362003)
def pythiaref07_plain.l0 : Nat → Int → Int → Int → ByteArray → Int → List (S24) → Option (Bool)
  | 0, _, _, _, _, _, _ => none
  | k + 1, x1, x5, x362000, x362001, x362002, x362003 => if x5 < (x362003.length : Int) then (if 0 ≤ x5 then ((pythiaref07_plain.f k ((rd_T24 x362003 x5).f0) ((rd_T24 x362003 x5).f1) ((rd_T24 x362003 x5).f2) ((rd_T24 x362003 x5).f3) (wrap64 (x1 - 1))).bind fun t363 => (if t363 = true then (pythiaref07_plain.l0 k x1 (wrap64 (x5 + 1)) x362000 x362001 x362002 x362003) else (some false))) else (none)) else (some true)
def pythiaref07_plain.f : Nat → Int → ByteArray → Int → List (S24) → Int → Option (Bool)
  | 0, _, _, _, _, _ => none
  | k + 1, a0_0, a0_1, a0_2, l0_3, a1 => if a1 ≤ 0 then (some false) else (if a0_0 = 1 then (some (decide (a0_2 ≥ 1))) else (if a0_0 = 2 then (some true) else (if a0_0 = 3 then (some (decide ((a0_1.size : Int) ≤ 64))) else (if a0_0 = 4 then (if (a0_1.size : Int) > 64 then (pythiaref07_plain.j0 k a1 true a0_0 a0_1 a0_2 l0_3) else (if (l0_3.length : Int) < 1 then (pythiaref07_plain.j0 k a1 true a0_0 a0_1 a0_2 l0_3) else (pythiaref07_plain.j0 k a1 (decide ((l0_3.length : Int) > 8)) a0_0 a0_1 a0_2 l0_3))) else (some false)))))
end
theorem pythiaref07_plain.mono_l : ∀ k, (∀ y0 y1 y2 y3 y4, LeO (pythiaref07_plain.f k y0 y1 y2 y3 y4) (pythiaref07_plain.f (k + 1) y0 y1 y2 y3 y4)) ∧ (∀ y0 y1 y2 y3 y4 y5, LeO (pythiaref07_plain.j0 k y0 y1 y2 y3 y4 y5) (pythiaref07_plain.j0 (k + 1) y0 y1 y2 y3 y4 y5)) ∧ (∀ y0 y1 y2 y3 y4 y5, LeO (pythiaref07_plain.l0 k y0 y1 y2 y3 y4 y5) (pythiaref07_plain.l0 (k + 1) y0 y1 y2 y3 y4 y5))
  | 0 => ⟨fun _ _ _ _ _ r h => by simp [pythiaref07_plain.f] at h, fun _ _ _ _ _ _ r h => by simp [pythiaref07_plain.j0] at h, fun _ _ _ _ _ _ r h => by simp [pythiaref07_plain.l0] at h⟩
  | k + 1 => by
    obtain ⟨ih0, ih1, ih2⟩ := pythiaref07_plain.mono_l k
    refine ⟨?_, ?_, ?_⟩
    · intro y0 y1 y2 y3 y4
      unfold pythiaref07_plain.f
      repeat' first
      | (with_reducible exact ih0 _ _ _ _ _)
      | (with_reducible exact ih1 _ _ _ _ _ _)
      | (with_reducible exact ih2 _ _ _ _ _ _)
      | (with_reducible exact LeO.refl _)
      | (with_reducible exact LeO.none _)
      | (with_reducible refine LeO.ite ?_ ?_)
      | (with_reducible refine LeO.bind ?_ (fun _ => ?_))
      | exact ih0 _ _ _ _ _
      | exact ih1 _ _ _ _ _ _
      | exact ih2 _ _ _ _ _ _
      | exact LeO.none _
      | refine LeO.ite ?_ ?_
      | refine LeO.bind ?_ (fun _ => ?_)
    · intro y0 y1 y2 y3 y4 y5
      unfold pythiaref07_plain.j0
      repeat' first
      | (with_reducible exact ih0 _ _ _ _ _)
      | (with_reducible exact ih1 _ _ _ _ _ _)
      | (with_reducible exact ih2 _ _ _ _ _ _)
      | (with_reducible exact LeO.refl _)
      | (with_reducible exact LeO.none _)
      | (with_reducible refine LeO.ite ?_ ?_)
      | (with_reducible refine LeO.bind ?_ (fun _ => ?_))
      | exact ih0 _ _ _ _ _
      | exact ih1 _ _ _ _ _ _
      | exact ih2 _ _ _ _ _ _
      | exact LeO.none _
      | refine LeO.ite ?_ ?_
      | refine LeO.bind ?_ (fun _ => ?_)
    · intro y0 y1 y2 y3 y4 y5
      unfold pythiaref07_plain.l0
      repeat' first
      | (with_reducible exact ih0 _ _ _ _ _)
      | (with_reducible exact ih1 _ _ _ _ _ _)
      | (with_reducible exact ih2 _ _ _ _ _ _)
      | (with_reducible exact LeO.refl _)
      | (with_reducible exact LeO.none _)
      | (with_reducible refine LeO.ite ?_ ?_)
      | (with_reducible refine LeO.bind ?_ (fun _ => ?_))
      | exact ih0 _ _ _ _ _
      | exact ih1 _ _ _ _ _ _
      | exact ih2 _ _ _ _ _ _
      | exact LeO.none _
      | refine LeO.ite ?_ ?_
      | refine LeO.bind ?_ (fun _ => ?_)
theorem pythiaref07_plain.mono : ∀ a0 a1 a2 a3 a4 k, LeO (pythiaref07_plain.f k a0 a1 a2 a3 a4) (pythiaref07_plain.f (k + 1) a0 a1 a2 a3 a4) := by
  intro a0 a1 a2 a3 a4 k
  obtain ⟨ih0, ih1, ih2⟩ := pythiaref07_plain.mono_l k
  exact ih0 a0 a1 a2 a3 a4
set_option maxHeartbeats 8000000 in
set_option maxRecDepth 100000 in
theorem pythiaref07_plain.calls (k : Nat) : ∀ (a0_0 : Int) (a0_1 : ByteArray) (a0_2 : Int) (A0_3 : Option Addr) (c0_3 : Nat) (l0_3 : List (S24)) (a1 : Int) (r : Bool) (w : World) (hr0_3 : Kd.C k24 w A0_3 l0_3.length l0_3) (hc0_3 : l0_3.length ≤ c0_3) (h : pythiaref07_plain.f k a0_0 a0_1 a0_2 l0_3 a1 = some r),
    Calls Try.prog 50 #[.agg #[.int .i64 a0_0, .string a0_1, .int .i64 a0_2, .slice A0_3 l0_3.length c0_3], .int .i64 a1] w fun e w' => e = .returned (.bool r) ∧ Below w.heap.size w w' := by
  induction k using Nat.strongRecOn with
  | _ k ih =>
  intro a0_0 a0_1 a0_2 A0_3 c0_3 l0_3 a1 r w hr0_3 hc0_3 h
  cases k with
  | zero => exact absurd h (by simp [pythiaref07_plain.f])
  | succ k =>
  simp only [pythiaref07_plain.f] at h
  have hu24 := Try.underlying24
  have HR0_3 := Aside0.mk hr0_3
  have HC0_3 := Aside0.mk hc0_3
  clear hr0_3 hc0_3
  have HB := Aside0.mk (Below.refl w.heap.size w)
  have H : (if a1 ≤ 0 then (some false) else (if a0_0 = 1 then (some (decide (a0_2 ≥ 1))) else (if a0_0 = 2 then (some true) else (if a0_0 = 3 then (some (decide ((a0_1.size : Int) ≤ 64))) else (if a0_0 = 4 then (if (a0_1.size : Int) > 64 then (pythiaref07_plain.j0 k a1 true a0_0 a0_1 a0_2 l0_3) else (if (l0_3.length : Int) < 1 then (pythiaref07_plain.j0 k a1 true a0_0 a0_1 a0_2 l0_3) else (pythiaref07_plain.j0 k a1 (decide ((l0_3.length : Int) > 8)) a0_0 a0_1 a0_2 l0_3))) else (some false)))))) = some r := h
  clear h
  by_cases c3 : a1 ≤ 0
  · rw [if_pos c3] at H
    have c3b0 : decide (a1 ≤ 0) = true := decide_eq_true c3
    clear c3
    obtain rfl := Option.some.inj H
    go_enter Try.func50, Try.ntmps50
    go_wp2_with (first | ((with_reducible refine gate_dst (N := 2) rfl ?_); (try (refine gate_guard (by rfl) ?_; dsimp only)); refine box_event ?hg (N := 2) ?hd (cs := #[.int .i64 a0_0, .string a0_1, .int .i64 a0_2, .slice A0_3 l0_3.length c0_3]) (t := 24) ?hr ?_; (case hd => rfl); (case hg => rfl); (case hr => first | (go_simp; done) | (go_simp; rfl)); intro gb361 hg w4 hbox hb; have n0_ := Aside0.mk (below_step (by repeat (first | (with_reducible first | exact HB.out | apply below_alloc | apply pw_below_drewN | apply below_drew1) | exact HB.out)) hb); have n1_ := Aside0.mk (hbox); have n2_ := Aside0.mk ((by rw [hg]; exact (below_size (by repeat (first | (with_reducible first | exact HB.out | apply below_alloc | apply pw_below_drewN | apply below_drew1) | exact HB.out))) : w.heap.size ≤ gb361)); have n3_ := Aside0.mk ((by rw [hg]; exact (below_size (by repeat (first | (with_reducible first | exact HB.out | apply below_alloc | apply pw_below_drewN | apply below_drew1) | exact HB.out))) : w.heap.size ≤ gb361)); clear HB; have HB := n0_; have BK361 := n1_; have GW361 := n2_; have GE361 := n3_; clear n0_ n1_ n2_ n3_; clear hb hbox hg))
    go_ret
    exact ⟨by first | rfl | (simp [errW_none, errW_some] <;> rfl) | (simp [*, errW_none, errW_some] <;> rfl), by repeat (first | (with_reducible first | exact HB.out | apply below_alloc | apply pw_below_drewN | apply below_drew1 | refine below_set ?_ GE361.out) | exact HB.out)⟩
  · rw [if_neg c3] at H
    have c3b0 : decide (a1 ≤ 0) = false := decide_eq_false c3
    clear c3
    by_cases c5 : a0_0 = 1
    · rw [if_pos c5] at H
      have c5b0 : (a0_0 == 1) = true := beq_iff_eq.mpr c5
      have c5b1 : (a0_0 != 1) = false := bne_eq_false_iff_eq.mpr c5
      clear c5
      obtain rfl := Option.some.inj H
      go_enter Try.func50, Try.ntmps50
      go_wp2_with (first | ((with_reducible refine gate_dst (N := 2) rfl ?_); (try (refine gate_guard (by rfl) ?_; dsimp only)); refine box_event ?hg (N := 2) ?hd (cs := #[.int .i64 a0_0, .string a0_1, .int .i64 a0_2, .slice A0_3 l0_3.length c0_3]) (t := 24) ?hr ?_; (case hd => rfl); (case hg => rfl); (case hr => first | (go_simp; done) | (go_simp; rfl)); intro gb361 hg w6 hbox hb; have n0_ := Aside0.mk (below_step (by repeat (first | (with_reducible first | exact HB.out | apply below_alloc | apply pw_below_drewN | apply below_drew1) | exact HB.out)) hb); have n1_ := Aside0.mk (hbox); have n2_ := Aside0.mk ((by rw [hg]; exact (below_size (by repeat (first | (with_reducible first | exact HB.out | apply below_alloc | apply pw_below_drewN | apply below_drew1) | exact HB.out))) : w.heap.size ≤ gb361)); have n3_ := Aside0.mk ((by rw [hg]; exact (below_size (by repeat (first | (with_reducible first | exact HB.out | apply below_alloc | apply pw_below_drewN | apply below_drew1) | exact HB.out))) : w.heap.size ≤ gb361)); clear HB; have HB := n0_; have BK361 := n1_; have GW361 := n2_; have GE361 := n3_; clear n0_ n1_ n2_ n3_; clear hb hbox hg; have hcz7_0 : w6.cell? ⟨gb361, 0, none⟩ = some (.int .i64 a0_0) := (blk_cell BK361.out 0).trans rfl; have hcz7_1 : w6.cell? ⟨gb361, 1, none⟩ = some (.string a0_1) := (blk_cell BK361.out 1).trans rfl; have hcz7_2 : w6.cell? ⟨gb361, 2, none⟩ = some (.int .i64 a0_2) := (blk_cell BK361.out 2).trans rfl; have hcz7_3 : w6.cell? ⟨gb361, 3, none⟩ = some (.slice A0_3 l0_3.length c0_3) := (blk_cell BK361.out 3).trans rfl; have hfz7_0 := blk_frozen BK361.out 0; have hfz7_1 := blk_frozen BK361.out 1; have hfz7_2 := blk_frozen BK361.out 2; have hfz7_3 := blk_frozen BK361.out 3))
      go_ret
      exact ⟨by first | rfl | (simp [errW_none, errW_some] <;> rfl) | (simp [*, errW_none, errW_some] <;> rfl), by repeat (first | (with_reducible first | exact HB.out | apply below_alloc | apply pw_below_drewN | apply below_drew1 | refine below_set ?_ GE361.out) | exact HB.out)⟩
    · rw [if_neg c5] at H
      have c5b0 : (a0_0 == 1) = false := beq_eq_false_iff_ne.mpr c5
      have c5b1 : (a0_0 != 1) = true := bne_iff_ne.mpr c5
      by_cases c8 : a0_0 = 2
      · rw [if_pos c8] at H
        have c8b0 : (a0_0 == 2) = true := beq_iff_eq.mpr c8
        have c8b1 : (a0_0 != 2) = false := bne_eq_false_iff_eq.mpr c8
        clear c8
        obtain rfl := Option.some.inj H
        go_enter Try.func50, Try.ntmps50
        go_wp2_with (first | ((with_reducible refine gate_dst (N := 2) rfl ?_); (try (refine gate_guard (by rfl) ?_; dsimp only)); refine box_event ?hg (N := 2) ?hd (cs := #[.int .i64 a0_0, .string a0_1, .int .i64 a0_2, .slice A0_3 l0_3.length c0_3]) (t := 24) ?hr ?_; (case hd => rfl); (case hg => rfl); (case hr => first | (go_simp; done) | (go_simp; rfl)); intro gb361 hg w9 hbox hb; have n0_ := Aside0.mk (below_step (by repeat (first | (with_reducible first | exact HB.out | apply below_alloc | apply pw_below_drewN | apply below_drew1) | exact HB.out)) hb); have n1_ := Aside0.mk (hbox); have n2_ := Aside0.mk ((by rw [hg]; exact (below_size (by repeat (first | (with_reducible first | exact HB.out | apply below_alloc | apply pw_below_drewN | apply below_drew1) | exact HB.out))) : w.heap.size ≤ gb361)); have n3_ := Aside0.mk ((by rw [hg]; exact (below_size (by repeat (first | (with_reducible first | exact HB.out | apply below_alloc | apply pw_below_drewN | apply below_drew1) | exact HB.out))) : w.heap.size ≤ gb361)); clear HB; have HB := n0_; have BK361 := n1_; have GW361 := n2_; have GE361 := n3_; clear n0_ n1_ n2_ n3_; clear hb hbox hg; have hcz10_0 : w9.cell? ⟨gb361, 0, none⟩ = some (.int .i64 a0_0) := (blk_cell BK361.out 0).trans rfl; have hcz10_1 : w9.cell? ⟨gb361, 1, none⟩ = some (.string a0_1) := (blk_cell BK361.out 1).trans rfl; have hcz10_2 : w9.cell? ⟨gb361, 2, none⟩ = some (.int .i64 a0_2) := (blk_cell BK361.out 2).trans rfl; have hcz10_3 : w9.cell? ⟨gb361, 3, none⟩ = some (.slice A0_3 l0_3.length c0_3) := (blk_cell BK361.out 3).trans rfl; have hfz10_0 := blk_frozen BK361.out 0; have hfz10_1 := blk_frozen BK361.out 1; have hfz10_2 := blk_frozen BK361.out 2; have hfz10_3 := blk_frozen BK361.out 3))
        go_ret
        exact ⟨by first | rfl | (simp [errW_none, errW_some] <;> rfl) | (simp [*, errW_none, errW_some] <;> rfl), by repeat (first | (with_reducible first | exact HB.out | apply below_alloc | apply pw_below_drewN | apply below_drew1 | refine below_set ?_ GE361.out) | exact HB.out)⟩
      · rw [if_neg c8] at H
        have c8b0 : (a0_0 == 2) = false := beq_eq_false_iff_ne.mpr c8
        have c8b1 : (a0_0 != 2) = true := bne_iff_ne.mpr c8
        by_cases c11 : a0_0 = 3
        · rw [if_pos c11] at H
          have c11b0 : (a0_0 == 3) = true := beq_iff_eq.mpr c11
          have c11b1 : (a0_0 != 3) = false := bne_eq_false_iff_eq.mpr c11
          clear c11
          obtain rfl := Option.some.inj H
          go_enter Try.func50, Try.ntmps50
          go_wp2_with (first | ((with_reducible refine gate_dst (N := 2) rfl ?_); (try (refine gate_guard (by rfl) ?_; dsimp only)); refine box_event ?hg (N := 2) ?hd (cs := #[.int .i64 a0_0, .string a0_1, .int .i64 a0_2, .slice A0_3 l0_3.length c0_3]) (t := 24) ?hr ?_; (case hd => rfl); (case hg => rfl); (case hr => first | (go_simp; done) | (go_simp; rfl)); intro gb361 hg w12 hbox hb; have n0_ := Aside0.mk (below_step (by repeat (first | (with_reducible first | exact HB.out | apply below_alloc | apply pw_below_drewN | apply below_drew1) | exact HB.out)) hb); have n1_ := Aside0.mk (hbox); have n2_ := Aside0.mk ((by rw [hg]; exact (below_size (by repeat (first | (with_reducible first | exact HB.out | apply below_alloc | apply pw_below_drewN | apply below_drew1) | exact HB.out))) : w.heap.size ≤ gb361)); have n3_ := Aside0.mk ((by rw [hg]; exact (below_size (by repeat (first | (with_reducible first | exact HB.out | apply below_alloc | apply pw_below_drewN | apply below_drew1) | exact HB.out))) : w.heap.size ≤ gb361)); clear HB; have HB := n0_; have BK361 := n1_; have GW361 := n2_; have GE361 := n3_; clear n0_ n1_ n2_ n3_; clear hb hbox hg; have hcz13_0 : w12.cell? ⟨gb361, 0, none⟩ = some (.int .i64 a0_0) := (blk_cell BK361.out 0).trans rfl; have hcz13_1 : w12.cell? ⟨gb361, 1, none⟩ = some (.string a0_1) := (blk_cell BK361.out 1).trans rfl; have hcz13_2 : w12.cell? ⟨gb361, 2, none⟩ = some (.int .i64 a0_2) := (blk_cell BK361.out 2).trans rfl; have hcz13_3 : w12.cell? ⟨gb361, 3, none⟩ = some (.slice A0_3 l0_3.length c0_3) := (blk_cell BK361.out 3).trans rfl; have hfz13_0 := blk_frozen BK361.out 0; have hfz13_1 := blk_frozen BK361.out 1; have hfz13_2 := blk_frozen BK361.out 2; have hfz13_3 := blk_frozen BK361.out 3))
          go_ret
          exact ⟨by first | rfl | (simp [errW_none, errW_some] <;> rfl) | (simp [*, errW_none, errW_some] <;> rfl), by repeat (first | (with_reducible first | exact HB.out | apply below_alloc | apply pw_below_drewN | apply below_drew1 | refine below_set ?_ GE361.out) | exact HB.out)⟩
        · rw [if_neg c11] at H
          have c11b0 : (a0_0 == 3) = false := beq_eq_false_iff_ne.mpr c11
          have c11b1 : (a0_0 != 3) = true := bne_iff_ne.mpr c11
          by_cases c14 : a0_0 = 4
          · rw [if_pos c14] at H
            have c14b0 : (a0_0 == 4) = true := beq_iff_eq.mpr c14
            have c14b1 : (a0_0 != 4) = false := bne_eq_false_iff_eq.mpr c14
            clear c14
            have HC15 := Aside0.mk H
            clear H
            go_enter Try.func50, Try.ntmps50
            go_upto_region 11 with (first | ((with_reducible refine gate_dst (N := 2) rfl ?_); (try (refine gate_guard (by rfl) ?_; dsimp only)); refine box_event ?hg (N := 2) ?hd (cs := #[.int .i64 a0_0, .string a0_1, .int .i64 a0_2, .slice A0_3 l0_3.length c0_3]) (t := 24) ?hr ?_; (case hd => rfl); (case hg => rfl); (case hr => first | (go_simp; done) | (go_simp; rfl)); intro gb361 hg w16 hbox hb; have n0_ := Aside0.mk (below_step (by repeat (first | (with_reducible first | exact HB.out | apply below_alloc | apply pw_below_drewN | apply below_drew1) | exact HB.out)) hb); have n1_ := Aside0.mk (hbox); have n2_ := Aside0.mk ((by rw [hg]; exact (below_size (by repeat (first | (with_reducible first | exact HB.out | apply below_alloc | apply pw_below_drewN | apply below_drew1) | exact HB.out))) : w.heap.size ≤ gb361)); have n3_ := Aside0.mk ((by rw [hg]; exact (below_size (by repeat (first | (with_reducible first | exact HB.out | apply below_alloc | apply pw_below_drewN | apply below_drew1) | exact HB.out))) : w.heap.size ≤ gb361)); clear HB; have HB := n0_; have BK361 := n1_; have GW361 := n2_; have GE361 := n3_; clear n0_ n1_ n2_ n3_; clear hb hbox hg; have hcz17_0 : w16.cell? ⟨gb361, 0, none⟩ = some (.int .i64 a0_0) := (blk_cell BK361.out 0).trans rfl; have hcz17_1 : w16.cell? ⟨gb361, 1, none⟩ = some (.string a0_1) := (blk_cell BK361.out 1).trans rfl; have hcz17_2 : w16.cell? ⟨gb361, 2, none⟩ = some (.int .i64 a0_2) := (blk_cell BK361.out 2).trans rfl; have hcz17_3 : w16.cell? ⟨gb361, 3, none⟩ = some (.slice A0_3 l0_3.length c0_3) := (blk_cell BK361.out 3).trans rfl; have hfz17_0 := blk_frozen BK361.out 0; have hfz17_1 := blk_frozen BK361.out 1; have hfz17_2 := blk_frozen BK361.out 2; have hfz17_3 := blk_frozen BK361.out 3))
            (try simp only [Act.put, List.setIfInBounds_toArray, List.set_cons_zero, List.set_cons_succ])
            go_cut [40] (fun v40 wc => ∃ (kq : Nat) (x40_14 : Bool), v40 = .bool x40_14 ∧ Aside0 (pythiaref07_plain.j0 kq a1 x40_14 a0_0 a0_1 a0_2 l0_3 = some r) ∧ Aside0 (kq ≤ k) ∧ Aside0 (wc.heap[gb361]? = some (.cells #[.int .i64 a0_0, .string a0_1, .int .i64 a0_2, (.slice A0_3 l0_3.length c0_3)] 24 (0, 0))) ∧ Aside0 (Below w.heap.size w wc))
            case first =>
              have H := HC15.out
              clear HC15
              by_cases c18 : (a0_1.size : Int) > 64
              · rw [if_pos c18] at H
                have c18b0 : decide (64 < (a0_1.size : Int)) = true := decide_eq_true c18
                have c18b1 : decide (64 < a0_1.size) = true := decide_eq_true (by omega)
                clear c18
                (first | rw [c18b0] | (simp only [i64_w, i32_w]; rw [c18b0]) | skip)
                have H' := Aside0.mk H
                clear H
                have hcz19_0 : w16.cell? ⟨gb361, 0, none⟩ = some (.int .i64 a0_0) := (blk_cell BK361.out 0).trans rfl
                have hcz19_1 : w16.cell? ⟨gb361, 1, none⟩ = some (.string a0_1) := (blk_cell BK361.out 1).trans rfl
                have hcz19_2 : w16.cell? ⟨gb361, 2, none⟩ = some (.int .i64 a0_2) := (blk_cell BK361.out 2).trans rfl
                have hcz19_3 : w16.cell? ⟨gb361, 3, none⟩ = some (.slice A0_3 l0_3.length c0_3) := (blk_cell BK361.out 3).trans rfl
                have hfz19_0 := blk_frozen BK361.out 0
                have hfz19_1 := blk_frozen BK361.out 1
                have hfz19_2 := blk_frozen BK361.out 2
                have hfz19_3 := blk_frozen BK361.out 3
                go_wp2
                go_meet
                case rel => exact ⟨_, (true), (by first | rfl | (simp; done) | (simp [*]; done)), H', ⟨by first | omega | exact Nat.le_refl _⟩, ⟨by (with_reducible repeat (first | refine blk_drewN ?_ _ | refine blk_drew ?_ | refine blk_alloc ?_ _)); exact BK361.out⟩, ⟨by repeat (first | (with_reducible first | exact HB.out | apply below_alloc | apply pw_below_drewN | apply below_drew1 | refine below_set ?_ GE361.out) | exact HB.out)⟩⟩
              · rw [if_neg c18] at H
                have c18b0 : decide (64 < (a0_1.size : Int)) = false := decide_eq_false c18
                have c18b1 : decide (64 < a0_1.size) = false := decide_eq_false (by omega)
                clear c18
                (first | rw [c18b0] | (simp only [i64_w, i32_w]; rw [c18b0]) | skip)
                by_cases c20 : (l0_3.length : Int) < 1
                · rw [if_pos c20] at H
                  have c20b0 : decide ((l0_3.length : Int) < 1) = true := decide_eq_true c20
                  have c20b1 : decide (l0_3.length < 1) = true := decide_eq_true (by omega)
                  clear c20
                  have H' := Aside0.mk H
                  clear H
                  have hcz21_0 : w16.cell? ⟨gb361, 0, none⟩ = some (.int .i64 a0_0) := (blk_cell BK361.out 0).trans rfl
                  have hcz21_1 : w16.cell? ⟨gb361, 1, none⟩ = some (.string a0_1) := (blk_cell BK361.out 1).trans rfl
                  have hcz21_2 : w16.cell? ⟨gb361, 2, none⟩ = some (.int .i64 a0_2) := (blk_cell BK361.out 2).trans rfl
                  have hcz21_3 : w16.cell? ⟨gb361, 3, none⟩ = some (.slice A0_3 l0_3.length c0_3) := (blk_cell BK361.out 3).trans rfl
                  have hfz21_0 := blk_frozen BK361.out 0
                  have hfz21_1 := blk_frozen BK361.out 1
                  have hfz21_2 := blk_frozen BK361.out 2
                  have hfz21_3 := blk_frozen BK361.out 3
                  go_wp2
                  go_meet
                  case rel => exact ⟨_, (true), (by first | rfl | (simp; done) | (simp [*]; done)), H', ⟨by first | omega | exact Nat.le_refl _⟩, ⟨by (with_reducible repeat (first | refine blk_drewN ?_ _ | refine blk_drew ?_ | refine blk_alloc ?_ _)); exact BK361.out⟩, ⟨by repeat (first | (with_reducible first | exact HB.out | apply below_alloc | apply pw_below_drewN | apply below_drew1 | refine below_set ?_ GE361.out) | exact HB.out)⟩⟩
                · rw [if_neg c20] at H
                  have c20b0 : decide ((l0_3.length : Int) < 1) = false := decide_eq_false c20
                  have c20b1 : decide (l0_3.length < 1) = false := decide_eq_false (by omega)
                  clear c20
                  have H' := Aside0.mk H
                  clear H
                  have hcz22_0 : w16.cell? ⟨gb361, 0, none⟩ = some (.int .i64 a0_0) := (blk_cell BK361.out 0).trans rfl
                  have hcz22_1 : w16.cell? ⟨gb361, 1, none⟩ = some (.string a0_1) := (blk_cell BK361.out 1).trans rfl
                  have hcz22_2 : w16.cell? ⟨gb361, 2, none⟩ = some (.int .i64 a0_2) := (blk_cell BK361.out 2).trans rfl
                  have hcz22_3 : w16.cell? ⟨gb361, 3, none⟩ = some (.slice A0_3 l0_3.length c0_3) := (blk_cell BK361.out 3).trans rfl
                  have hfz22_0 := blk_frozen BK361.out 0
                  have hfz22_1 := blk_frozen BK361.out 1
                  have hfz22_2 := blk_frozen BK361.out 2
                  have hfz22_3 := blk_frozen BK361.out 3
                  go_wp2
                  go_meet
                  case rel => exact ⟨_, (decide ((l0_3.length : Int) > 8)), (by first | rfl | (simp; done) | (simp [*]; done)), H', ⟨by first | omega | exact Nat.le_refl _⟩, ⟨by (with_reducible repeat (first | refine blk_drewN ?_ _ | refine blk_drew ?_ | refine blk_alloc ?_ _)); exact BK361.out⟩, ⟨by repeat (first | (with_reducible first | exact HB.out | apply below_alloc | apply pw_below_drewN | apply below_drew1 | refine below_set ?_ GE361.out) | exact HB.out)⟩⟩
            case rest =>
              clear HC15
              try clear c1
              try clear c2
              try clear p2
              try clear c3
              try clear c3b0
              try clear c5
              try clear c5b0
              try clear c5b1
              try clear c8
              try clear c8b0
              try clear c8b1
              try clear c11
              try clear c11b0
              try clear c11b1
              try clear c14
              try clear c14b0
              try clear c14b1
              try clear c18
              try clear c18b0
              try clear c18b1
              try clear c20
              try clear c20b0
              try clear c20b1
              try clear hcz10_0
              try clear hcz10_1
              try clear hcz10_2
              try clear hcz10_3
              try clear hcz13_0
              try clear hcz13_1
              try clear hcz13_2
              try clear hcz13_3
              try clear hcz17_0
              try clear hcz17_1
              try clear hcz17_2
              try clear hcz17_3
              try clear hcz19_0
              try clear hcz19_1
              try clear hcz19_2
              try clear hcz19_3
              try clear hcz21_0
              try clear hcz21_1
              try clear hcz21_2
              try clear hcz21_3
              try clear hcz22_0
              try clear hcz22_1
              try clear hcz22_2
              try clear hcz22_3
              try clear hcz7_0
              try clear hcz7_1
              try clear hcz7_2
              try clear hcz7_3
              try clear hfz10_0
              try clear hfz10_1
              try clear hfz10_2
              try clear hfz10_3
              try clear hfz13_0
              try clear hfz13_1
              try clear hfz13_2
              try clear hfz13_3
              try clear hfz17_0
              try clear hfz17_1
              try clear hfz17_2
              try clear hfz17_3
              try clear hfz19_0
              try clear hfz19_1
              try clear hfz19_2
              try clear hfz19_3
              try clear hfz21_0
              try clear hfz21_1
              try clear hfz21_2
              try clear hfz21_3
              try clear hfz22_0
              try clear hfz22_1
              try clear hfz22_2
              try clear hfz22_3
              try clear hfz7_0
              try clear hfz7_1
              try clear hfz7_2
              try clear hfz7_3
              obtain ⟨kq, x40_14, rfl, HA, HJ14, BK361, HB⟩ := hcut
              cases kq with
              | zero => exact absurd HA.out (by simp [pythiaref07_plain.j0])
              | succ kj14 =>
                have H := HA.out
                clear HA
                simp only [pythiaref07_plain.j0] at H
                by_cases c23 : x40_14 = true
                · subst c23
                  have H1 : (some false) = some r := by rw [if_pos rfl] at H; exact H
                  clear H
                  have H := H1
                  clear H1
                  obtain rfl := Option.some.inj H
                  go_wp2
                  go_ret
                  exact ⟨by first | rfl | (simp [errW_none, errW_some] <;> rfl) | (simp [*, errW_none, errW_some] <;> rfl), by repeat (first | (with_reducible first | exact HB.out | apply below_alloc | apply pw_below_drewN | apply below_drew1 | refine below_set ?_ GE361.out) | exact HB.out)⟩
                · replace c23 := Bool.eq_false_iff.mpr c23
                  subst c23
                  have H1 : (pythiaref07_plain.l0 kj14 a1 0 a0_0 a0_1 a0_2 l0_3) = some r := by rw [if_neg (show ¬ (false = true) by decide)] at H; exact H
                  clear H
                  have H := H1
                  clear H1
                  have H' := Aside0.mk H
                  clear H
                  go_wp2
                  go_loopg [5] kj14 (fun kq v5 w' => ∃ (x5_2 : Int), v5 = .int .i64 x5_2 ∧ Aside0 (pythiaref07_plain.l0 kq a1 x5_2 a0_0 a0_1 a0_2 l0_3 = some r) ∧ Aside0 (kq ≤ kj14) ∧ Aside0 (w'.heap[gb361]? = some (.cells #[.int .i64 a0_0, .string a0_1, .int .i64 a0_2, (.slice A0_3 l0_3.length c0_3)] 24 (0, 0))) ∧ Aside0 (Below w.heap.size w w'))
                  case atStart => exact ⟨(0), (by first | rfl | (simp; done) | (simp [*]; done)), H', ⟨Nat.le_refl _⟩, ⟨by (with_reducible repeat (first | refine blk_drewN ?_ _ | refine blk_drew ?_ | refine blk_alloc ?_ _)); exact BK361.out⟩, ⟨by repeat (first | (with_reducible first | exact HB.out | apply below_alloc | apply pw_below_drewN | apply below_drew1 | refine below_set ?_ GE361.out) | exact HB.out)⟩⟩
                  case round =>
                    clear H'
                    try clear c1
                    try clear c2
                    try clear p2
                    try clear c3
                    try clear c3b0
                    try clear c5
                    try clear c5b0
                    try clear c5b1
                    try clear c8
                    try clear c8b0
                    try clear c8b1
                    try clear c11
                    try clear c11b0
                    try clear c11b1
                    try clear c14
                    try clear c14b0
                    try clear c14b1
                    try clear c18
                    try clear c18b0
                    try clear c18b1
                    try clear c20
                    try clear c20b0
                    try clear c20b1
                    try clear c23
                    try clear hcz10_0
                    try clear hcz10_1
                    try clear hcz10_2
                    try clear hcz10_3
                    try clear hcz13_0
                    try clear hcz13_1
                    try clear hcz13_2
                    try clear hcz13_3
                    try clear hcz17_0
                    try clear hcz17_1
                    try clear hcz17_2
                    try clear hcz17_3
                    try clear hcz19_0
                    try clear hcz19_1
                    try clear hcz19_2
                    try clear hcz19_3
                    try clear hcz21_0
                    try clear hcz21_1
                    try clear hcz21_2
                    try clear hcz21_3
                    try clear hcz22_0
                    try clear hcz22_1
                    try clear hcz22_2
                    try clear hcz22_3
                    try clear hcz7_0
                    try clear hcz7_1
                    try clear hcz7_2
                    try clear hcz7_3
                    try clear hfz10_0
                    try clear hfz10_1
                    try clear hfz10_2
                    try clear hfz10_3
                    try clear hfz13_0
                    try clear hfz13_1
                    try clear hfz13_2
                    try clear hfz13_3
                    try clear hfz17_0
                    try clear hfz17_1
                    try clear hfz17_2
                    try clear hfz17_3
                    try clear hfz19_0
                    try clear hfz19_1
                    try clear hfz19_2
                    try clear hfz19_3
                    try clear hfz21_0
                    try clear hfz21_1
                    try clear hfz21_2
                    try clear hfz21_3
                    try clear hfz22_0
                    try clear hfz22_1
                    try clear hfz22_2
                    try clear hfz22_3
                    try clear hfz7_0
                    try clear hfz7_1
                    try clear hfz7_2
                    try clear hfz7_3
                    try clear p2
                    obtain ⟨x5_2, rfl, HA, HK2, BK361, HB⟩ := hrel
                    cases gk with
                    | zero => exact absurd HA.out (by simp [pythiaref07_plain.l0])
                    | succ k2 =>
                      have H := HA.out
                      clear HA
                      simp only [pythiaref07_plain.l0] at H
                      by_cases c24 : x5_2 < (l0_3.length : Int)
                      · rw [if_pos c24] at H
                        have c24b0 : decide (x5_2 < (l0_3.length : Int)) = true := decide_eq_true c24
                        clear c24
                        by_cases c25 : 0 ≤ x5_2
                        · rw [if_pos c25] at H
                          have c25b0 : decide (0 ≤ x5_2) = true := decide_eq_true c25
                          clear c25
                          replace H := Option.bind_eq_some_iff.mp H
                          obtain ⟨t363, A260, H⟩ := H
                          replace H : (if t363 = true then (pythiaref07_plain.l0 k2 a1 (wrap64 (x5_2 + 1)) a0_0 a0_1 a0_2 l0_3) else (some false)) = some r := H
                          have A26 := Aside0.mk A260
                          clear A260
                          by_cases c27 : t363 = true
                          · subst c27
                            have H1 : (pythiaref07_plain.l0 k2 a1 (wrap64 (x5_2 + 1)) a0_0 a0_1 a0_2 l0_3) = some r := by rw [if_pos rfl] at H; exact H
                            clear H
                            have H := H1
                            clear H1
                            have H' := Aside0.mk H
                            clear H
                            have hcz28_0 : wr.cell? ⟨gb361, 0, none⟩ = some (.int .i64 a0_0) := (blk_cell BK361.out 0).trans rfl
                            have hcz28_1 : wr.cell? ⟨gb361, 1, none⟩ = some (.string a0_1) := (blk_cell BK361.out 1).trans rfl
                            have hcz28_2 : wr.cell? ⟨gb361, 2, none⟩ = some (.int .i64 a0_2) := (blk_cell BK361.out 2).trans rfl
                            have hcz28_3 : wr.cell? ⟨gb361, 3, none⟩ = some (.slice A0_3 l0_3.length c0_3) := (blk_cell BK361.out 3).trans rfl
                            have hfz28_0 := blk_frozen BK361.out 0
                            have hfz28_1 := blk_frozen BK361.out 1
                            have hfz28_2 := blk_frozen BK361.out 2
                            have hfz28_3 := blk_frozen BK361.out 3
                            have p362 : 0 ≤ (x5_2 : Int) := of_decide_eq_true (by first | (with_reducible assumption) | assumption)
                            have q362 : x5_2 < (l0_3.length : Int) := of_decide_eq_true (by first | (with_reducible assumption) | assumption)
                            obtain ⟨ad362, A362_3, c362_3, e362, hx362_0, hx362_1, hx362_2, hx362_3, hl362_3, hi362_3⟩ := at_T24 HR0_3.out x5_2 p362 q362
                            cases e362
                            replace hx362_0 := (HB.out.cell (World.block_lt_of_cell? w _ hx362_0)).trans hx362_0
                            replace hx362_1 := (HB.out.cell (World.block_lt_of_cell? w _ hx362_1)).trans hx362_1
                            replace hx362_2 := (HB.out.cell (World.block_lt_of_cell? w _ hx362_2)).trans hx362_2
                            replace hx362_3 := (HB.out.cell (World.block_lt_of_cell? w _ hx362_3)).trans hx362_3
                            have HR362_3 := Aside0.mk hi362_3
                            have HC362_3 := Aside0.mk hl362_3
                            clear hi362_3 hl362_3
                            replace p362 := eq_true p362
                            replace q362 := eq_true q362
                            go_wp2_with (first | ((with_reducible refine gate_callee (f := 50) rfl ?_); refine goesL_ (some 55) rfl rfl Try.func50 (by kernel_rfl) rfl #[.agg #[.int .i64 ((rd_T24 l0_3 x5_2).f0), .string ((rd_T24 l0_3 x5_2).f1), .int .i64 ((rd_T24 l0_3 x5_2).f2), .slice A362_3 ((rd_T24 l0_3 x5_2).f3).length c362_3], .int .i64 (wrap64 (a1 - 1))] rfl (by (try simp only [List.map_toArray, List.map_cons, List.map_nil]); first | done | rfl | (simp only [List.length_drop, List.length_take]; rfl)) ?_; (with_reducible refine (ih k2 (by have := HJ14.out; have := HK2.out; omega) ((rd_T24 l0_3 x5_2).f0) ((rd_T24 l0_3 x5_2).f1) ((rd_T24 l0_3 x5_2).f2) _ _ ((rd_T24 l0_3 x5_2).f3) (wrap64 (a1 - 1)) true _ ?side1 ?side2 A26.out).mono ?_); (case side1 => repeat (first | exact (Kd.C_below HR362_3.out HB.out) | (with_reducible refine Kd.C_alloc ?_ _) | (with_reducible refine Kd.C_drewN ?_ _) | (with_reducible refine Kd.C_drew ?_))); (case side2 => exact HC362_3.out); rintro e w29 ⟨rfl, hb⟩; refine ⟨_, rfl, ?_⟩; have n0_ := Aside0.mk (blk_below (g := gb361) (o := .cells #[.int .i64 a0_0, .string a0_1, .int .i64 a0_2, .slice (some ad362) l0_3.length c0_3] 24 (0, 0)) (by (with_reducible repeat (first | refine blk_drewN ?_ _ | refine blk_drew ?_ | refine blk_alloc ?_ _)); exact BK361.out) hb); have n1_ := Aside0.mk (below_step (by repeat (first | (with_reducible first | exact HB.out | apply below_alloc | apply pw_below_drewN | apply below_drew1 | refine below_set ?_ GE361.out) | exact HB.out)) hb); clear BK361; clear HB; have BK361 := n0_; have HB := n1_; clear n0_ n1_; (try clear hb); (try clear hb2); (try clear hk); (try clear hi)))
                            go_roundg k2
                            case measure => have := HJ14.out; have := HK2.out; omega
                            case rel => exact ⟨(wrap64 (x5_2 + 1)), (by first | rfl | (simp; done) | (simp [*]; done)), H', ⟨by have := HJ14.out; have := HK2.out; omega⟩, ⟨by (with_reducible repeat (first | refine blk_drewN ?_ _ | refine blk_drew ?_ | refine blk_alloc ?_ _)); exact BK361.out⟩, ⟨by repeat (first | (with_reducible first | exact HB.out | apply below_alloc | apply pw_below_drewN | apply below_drew1 | refine below_set ?_ GE361.out) | exact HB.out)⟩⟩
                          · replace c27 := Bool.eq_false_iff.mpr c27
                            subst c27
                            have H1 : (some false) = some r := by rw [if_neg (show ¬ (false = true) by decide)] at H; exact H
                            clear H
                            have H := H1
                            clear H1
                            obtain rfl := Option.some.inj H
                            have hcz30_0 : wr.cell? ⟨gb361, 0, none⟩ = some (.int .i64 a0_0) := (blk_cell BK361.out 0).trans rfl
                            have hcz30_1 : wr.cell? ⟨gb361, 1, none⟩ = some (.string a0_1) := (blk_cell BK361.out 1).trans rfl
                            have hcz30_2 : wr.cell? ⟨gb361, 2, none⟩ = some (.int .i64 a0_2) := (blk_cell BK361.out 2).trans rfl
                            have hcz30_3 : wr.cell? ⟨gb361, 3, none⟩ = some (.slice A0_3 l0_3.length c0_3) := (blk_cell BK361.out 3).trans rfl
                            have hfz30_0 := blk_frozen BK361.out 0
                            have hfz30_1 := blk_frozen BK361.out 1
                            have hfz30_2 := blk_frozen BK361.out 2
                            have hfz30_3 := blk_frozen BK361.out 3
                            have p362 : 0 ≤ (x5_2 : Int) := of_decide_eq_true (by first | (with_reducible assumption) | assumption)
                            have q362 : x5_2 < (l0_3.length : Int) := of_decide_eq_true (by first | (with_reducible assumption) | assumption)
                            obtain ⟨ad362, A362_3, c362_3, e362, hx362_0, hx362_1, hx362_2, hx362_3, hl362_3, hi362_3⟩ := at_T24 HR0_3.out x5_2 p362 q362
                            cases e362
                            replace hx362_0 := (HB.out.cell (World.block_lt_of_cell? w _ hx362_0)).trans hx362_0
                            replace hx362_1 := (HB.out.cell (World.block_lt_of_cell? w _ hx362_1)).trans hx362_1
                            replace hx362_2 := (HB.out.cell (World.block_lt_of_cell? w _ hx362_2)).trans hx362_2
                            replace hx362_3 := (HB.out.cell (World.block_lt_of_cell? w _ hx362_3)).trans hx362_3
                            have HR362_3 := Aside0.mk hi362_3
                            have HC362_3 := Aside0.mk hl362_3
                            clear hi362_3 hl362_3
                            replace p362 := eq_true p362
                            replace q362 := eq_true q362
                            go_wp2_with (first | ((with_reducible refine gate_callee (f := 50) rfl ?_); refine goesL_ (some 55) rfl rfl Try.func50 (by kernel_rfl) rfl #[.agg #[.int .i64 ((rd_T24 l0_3 x5_2).f0), .string ((rd_T24 l0_3 x5_2).f1), .int .i64 ((rd_T24 l0_3 x5_2).f2), .slice A362_3 ((rd_T24 l0_3 x5_2).f3).length c362_3], .int .i64 (wrap64 (a1 - 1))] rfl (by (try simp only [List.map_toArray, List.map_cons, List.map_nil]); first | done | rfl | (simp only [List.length_drop, List.length_take]; rfl)) ?_; (with_reducible refine (ih k2 (by have := HJ14.out; have := HK2.out; omega) ((rd_T24 l0_3 x5_2).f0) ((rd_T24 l0_3 x5_2).f1) ((rd_T24 l0_3 x5_2).f2) _ _ ((rd_T24 l0_3 x5_2).f3) (wrap64 (a1 - 1)) false _ ?side1 ?side2 A26.out).mono ?_); (case side1 => repeat (first | exact (Kd.C_below HR362_3.out HB.out) | (with_reducible refine Kd.C_alloc ?_ _) | (with_reducible refine Kd.C_drewN ?_ _) | (with_reducible refine Kd.C_drew ?_))); (case side2 => exact HC362_3.out); rintro e w31 ⟨rfl, hb⟩; refine ⟨_, rfl, ?_⟩; have n0_ := Aside0.mk (blk_below (g := gb361) (o := .cells #[.int .i64 a0_0, .string a0_1, .int .i64 a0_2, .slice (some ad362) l0_3.length c0_3] 24 (0, 0)) (by (with_reducible repeat (first | refine blk_drewN ?_ _ | refine blk_drew ?_ | refine blk_alloc ?_ _)); exact BK361.out) hb); have n1_ := Aside0.mk (below_step (by repeat (first | (with_reducible first | exact HB.out | apply below_alloc | apply pw_below_drewN | apply below_drew1 | refine below_set ?_ GE361.out) | exact HB.out)) hb); clear BK361; clear HB; have BK361 := n0_; have HB := n1_; clear n0_ n1_; (try clear hb); (try clear hb2); (try clear hk); (try clear hi)))
                            go_ret
                            exact ⟨by first | rfl | (simp [errW_none, errW_some] <;> rfl) | (simp [*, errW_none, errW_some] <;> rfl), by repeat (first | (with_reducible first | exact HB.out | apply below_alloc | apply pw_below_drewN | apply below_drew1 | refine below_set ?_ GE361.out) | exact HB.out)⟩
                        · rw [if_neg c25] at H
                          exact absurd H (by simp)
                      · rw [if_neg c24] at H
                        have c24b0 : decide (x5_2 < (l0_3.length : Int)) = false := decide_eq_false c24
                        clear c24
                        obtain rfl := Option.some.inj H
                        have hcz32_0 : wr.cell? ⟨gb361, 0, none⟩ = some (.int .i64 a0_0) := (blk_cell BK361.out 0).trans rfl
                        have hcz32_1 : wr.cell? ⟨gb361, 1, none⟩ = some (.string a0_1) := (blk_cell BK361.out 1).trans rfl
                        have hcz32_2 : wr.cell? ⟨gb361, 2, none⟩ = some (.int .i64 a0_2) := (blk_cell BK361.out 2).trans rfl
                        have hcz32_3 : wr.cell? ⟨gb361, 3, none⟩ = some (.slice A0_3 l0_3.length c0_3) := (blk_cell BK361.out 3).trans rfl
                        have hfz32_0 := blk_frozen BK361.out 0
                        have hfz32_1 := blk_frozen BK361.out 1
                        have hfz32_2 := blk_frozen BK361.out 2
                        have hfz32_3 := blk_frozen BK361.out 3
                        go_wp2
                        go_ret
                        exact ⟨by first | rfl | (simp [errW_none, errW_some] <;> rfl) | (simp [*, errW_none, errW_some] <;> rfl), by repeat (first | (with_reducible first | exact HB.out | apply below_alloc | apply pw_below_drewN | apply below_drew1 | refine below_set ?_ GE361.out) | exact HB.out)⟩
          · rw [if_neg c14] at H
            have c14b0 : (a0_0 == 4) = false := beq_eq_false_iff_ne.mpr c14
            have c14b1 : (a0_0 != 4) = true := bne_iff_ne.mpr c14
            obtain rfl := Option.some.inj H
            go_enter Try.func50, Try.ntmps50
            go_wp2_with (first | ((with_reducible refine gate_dst (N := 2) rfl ?_); (try (refine gate_guard (by rfl) ?_; dsimp only)); refine box_event ?hg (N := 2) ?hd (cs := #[.int .i64 a0_0, .string a0_1, .int .i64 a0_2, .slice A0_3 l0_3.length c0_3]) (t := 24) ?hr ?_; (case hd => rfl); (case hg => rfl); (case hr => first | (go_simp; done) | (go_simp; rfl)); intro gb361 hg w33 hbox hb; have n0_ := Aside0.mk (below_step (by repeat (first | (with_reducible first | exact HB.out | apply below_alloc | apply pw_below_drewN | apply below_drew1) | exact HB.out)) hb); have n1_ := Aside0.mk (hbox); have n2_ := Aside0.mk ((by rw [hg]; exact (below_size (by repeat (first | (with_reducible first | exact HB.out | apply below_alloc | apply pw_below_drewN | apply below_drew1) | exact HB.out))) : w.heap.size ≤ gb361)); have n3_ := Aside0.mk ((by rw [hg]; exact (below_size (by repeat (first | (with_reducible first | exact HB.out | apply below_alloc | apply pw_below_drewN | apply below_drew1) | exact HB.out))) : w.heap.size ≤ gb361)); clear HB; have HB := n0_; have BK361 := n1_; have GW361 := n2_; have GE361 := n3_; clear n0_ n1_ n2_ n3_; clear hb hbox hg; have hcz34_0 : w33.cell? ⟨gb361, 0, none⟩ = some (.int .i64 a0_0) := (blk_cell BK361.out 0).trans rfl; have hcz34_1 : w33.cell? ⟨gb361, 1, none⟩ = some (.string a0_1) := (blk_cell BK361.out 1).trans rfl; have hcz34_2 : w33.cell? ⟨gb361, 2, none⟩ = some (.int .i64 a0_2) := (blk_cell BK361.out 2).trans rfl; have hcz34_3 : w33.cell? ⟨gb361, 3, none⟩ = some (.slice A0_3 l0_3.length c0_3) := (blk_cell BK361.out 3).trans rfl; have hfz34_0 := blk_frozen BK361.out 0; have hfz34_1 := blk_frozen BK361.out 1; have hfz34_2 := blk_frozen BK361.out 2; have hfz34_3 := blk_frozen BK361.out 3))
            go_ret
            exact ⟨by first | rfl | (simp [errW_none, errW_some] <;> rfl) | (simp [*, errW_none, errW_some] <;> rfl), by repeat (first | (with_reducible first | exact HB.out | apply below_alloc | apply pw_below_drewN | apply below_drew1 | refine below_set ?_ GE361.out) | exact HB.out)⟩

/-! ### pythiaref07_Right: function 14 -/
def pythiaref07_Right.f (k : Nat) (a0_0 : Int) (a0_1 : ByteArray) (a0_2 : Int) (l0_3 : List (S24)) : Option (Bool) := (pythiaref07_Size.f k a0_0 a0_1 a0_2 l0_3 2000).bind fun t365 => (if t365 ≤ 2000 then ((pythiaref07_Depth.f k a0_0 a0_1 a0_2 l0_3 101).bind fun t366 => (if t366 ≤ 100 then ((pythiaref07_plain.f k a0_0 a0_1 a0_2 l0_3 100).bind fun t367 => (some t367)) else (some false))) else (some false))
theorem pythiaref07_Right.mono : ∀ a0 a1 a2 a3 k, LeO (pythiaref07_Right.f k a0 a1 a2 a3) (pythiaref07_Right.f (k + 1) a0 a1 a2 a3) := by
  intro a0 a1 a2 a3 k
  unfold pythiaref07_Right.f
  repeat' first
      | (with_reducible exact pythiaref07_Depth.mono _ _ _ _ _ _)
      | (with_reducible exact pythiaref07_Size.mono _ _ _ _ _ _)
      | (with_reducible exact pythiaref07_plain.mono _ _ _ _ _ _)
      | (with_reducible exact LeO.refl _)
      | (with_reducible exact LeO.none _)
      | (with_reducible refine LeO.ite ?_ ?_)
      | (with_reducible refine LeO.bind ?_ (fun _ => ?_))
      | exact pythiaref07_Depth.mono _ _ _ _ _ _
      | exact pythiaref07_Size.mono _ _ _ _ _ _
      | exact pythiaref07_plain.mono _ _ _ _ _ _
      | exact LeO.none _
      | refine LeO.ite ?_ ?_
      | refine LeO.bind ?_ (fun _ => ?_)
set_option maxHeartbeats 8000000 in
set_option maxRecDepth 100000 in
theorem pythiaref07_Right.calls (k : Nat) (a0_0 : Int) (a0_1 : ByteArray) (a0_2 : Int) (A0_3 : Option Addr) (c0_3 : Nat) (l0_3 : List (S24)) (r : Bool) (w : World) (hr0_3 : Kd.C k24 w A0_3 l0_3.length l0_3) (hc0_3 : l0_3.length ≤ c0_3) (h : pythiaref07_Right.f k a0_0 a0_1 a0_2 l0_3 = some r) :
    Calls Try.prog 14 #[.agg #[.int .i64 a0_0, .string a0_1, .int .i64 a0_2, .slice A0_3 l0_3.length c0_3]] w fun e w' => e = .returned (.bool r) ∧ Below w.heap.size w w' := by
  have hu24 := Try.underlying24
  have HR0_3 := Aside0.mk hr0_3
  have HC0_3 := Aside0.mk hc0_3
  clear hr0_3 hc0_3
  have HB := Aside0.mk (Below.refl w.heap.size w)
  have H : ((pythiaref07_Size.f k a0_0 a0_1 a0_2 l0_3 2000).bind fun t365 => (if t365 ≤ 2000 then ((pythiaref07_Depth.f k a0_0 a0_1 a0_2 l0_3 101).bind fun t366 => (if t366 ≤ 100 then ((pythiaref07_plain.f k a0_0 a0_1 a0_2 l0_3 100).bind fun t367 => (some t367)) else (some false))) else (some false))) = some r := h
  clear h
  replace H := Option.bind_eq_some_iff.mp H
  obtain ⟨t365, A20, H⟩ := H
  replace H : (if t365 ≤ 2000 then ((pythiaref07_Depth.f k a0_0 a0_1 a0_2 l0_3 101).bind fun t366 => (if t366 ≤ 100 then ((pythiaref07_plain.f k a0_0 a0_1 a0_2 l0_3 100).bind fun t367 => (some t367)) else (some false))) else (some false)) = some r := H
  have A2 := Aside0.mk A20
  clear A20
  by_cases c3 : t365 ≤ 2000
  · rw [if_pos c3] at H
    have c3b0 : decide (t365 ≤ 2000) = true := decide_eq_true c3
    clear c3
    replace H := Option.bind_eq_some_iff.mp H
    obtain ⟨t366, A40, H⟩ := H
    replace H : (if t366 ≤ 100 then ((pythiaref07_plain.f k a0_0 a0_1 a0_2 l0_3 100).bind fun t367 => (some t367)) else (some false)) = some r := H
    have A4 := Aside0.mk A40
    clear A40
    by_cases c5 : t366 ≤ 100
    · rw [if_pos c5] at H
      have c5b0 : decide (t366 ≤ 100) = true := decide_eq_true c5
      clear c5
      replace H := Option.bind_eq_some_iff.mp H
      obtain ⟨t367, A60, H⟩ := H
      replace H : (some t367) = some r := H
      have A6 := Aside0.mk A60
      clear A60
      obtain rfl := Option.some.inj H
      go_enter Try.func14, Try.ntmps14
      go_wp2_with (first | ((with_reducible refine gate_dst (N := 1) rfl ?_); refine box_event ?hg (N := 1) ?hd (cs := #[.int .i64 a0_0, .string a0_1, .int .i64 a0_2, .slice A0_3 l0_3.length c0_3]) (t := 24) ?hr ?_; (case hd => rfl); (case hg => rfl); (case hr => first | (go_simp; done) | (go_simp; rfl)); intro gb364 hg w7 hbox hb; have n0_ := Aside0.mk (below_step (by repeat (first | (with_reducible first | exact HB.out | apply below_alloc | apply pw_below_drewN | apply below_drew1) | exact HB.out)) hb); have n1_ := Aside0.mk (hbox); have n2_ := Aside0.mk ((by rw [hg]; exact (below_size (by repeat (first | (with_reducible first | exact HB.out | apply below_alloc | apply pw_below_drewN | apply below_drew1) | exact HB.out))) : w.heap.size ≤ gb364)); have n3_ := Aside0.mk ((by rw [hg]; exact (below_size (by repeat (first | (with_reducible first | exact HB.out | apply below_alloc | apply pw_below_drewN | apply below_drew1) | exact HB.out))) : w.heap.size ≤ gb364)); clear HB; have HB := n0_; have BK364 := n1_; have GW364 := n2_; have GE364 := n3_; clear n0_ n1_ n2_ n3_; clear hb hbox hg; have hcz8_0 : w7.cell? ⟨gb364, 0, none⟩ = some (.int .i64 a0_0) := (blk_cell BK364.out 0).trans rfl; have hcz8_1 : w7.cell? ⟨gb364, 1, none⟩ = some (.string a0_1) := (blk_cell BK364.out 1).trans rfl; have hcz8_2 : w7.cell? ⟨gb364, 2, none⟩ = some (.int .i64 a0_2) := (blk_cell BK364.out 2).trans rfl; have hcz8_3 : w7.cell? ⟨gb364, 3, none⟩ = some (.slice A0_3 l0_3.length c0_3) := (blk_cell BK364.out 3).trans rfl; have hfz8_0 := blk_frozen BK364.out 0; have hfz8_1 := blk_frozen BK364.out 1; have hfz8_2 := blk_frozen BK364.out 2; have hfz8_3 := blk_frozen BK364.out 3) | ((with_reducible refine gate_callee (f := 22) rfl ?_); refine goesL_ (some 4) rfl rfl Try.func22 (by kernel_rfl) rfl #[.agg #[.int .i64 a0_0, .string a0_1, .int .i64 a0_2, .slice A0_3 l0_3.length c0_3], .int .i64 2000] rfl (by (try simp only [List.map_toArray, List.map_cons, List.map_nil]); first | done | rfl | (simp only [List.length_drop, List.length_take]; rfl)) ?_; (with_reducible refine (pythiaref07_Size.calls k a0_0 a0_1 a0_2 _ _ l0_3 2000 t365 _ ?side1 ?side2 A2.out).mono ?_); (case side1 => repeat (first | exact (Kd.C_below HR0_3.out HB.out) | (with_reducible refine Kd.C_alloc ?_ _) | (with_reducible refine Kd.C_drewN ?_ _) | (with_reducible refine Kd.C_drew ?_))); (case side2 => exact HC0_3.out); rintro e w9 ⟨rfl, hb⟩; refine ⟨_, rfl, ?_⟩; have n0_ := Aside0.mk (blk_below (g := gb364) (o := .cells #[.int .i64 a0_0, .string a0_1, .int .i64 a0_2, .slice A0_3 l0_3.length c0_3] 24 (0, 0)) (by (with_reducible repeat (first | refine blk_drewN ?_ _ | refine blk_drew ?_ | refine blk_alloc ?_ _)); exact BK364.out) hb); have n1_ := Aside0.mk (below_step (by repeat (first | (with_reducible first | exact HB.out | apply below_alloc | apply pw_below_drewN | apply below_drew1 | refine below_set ?_ GE364.out) | exact HB.out)) hb); clear BK364; clear HB; have BK364 := n0_; have HB := n1_; clear n0_ n1_; (try clear hb); (try clear hb2); (try clear hk); (try clear hi); have hcz10_0 : w9.cell? ⟨gb364, 0, none⟩ = some (.int .i64 a0_0) := (blk_cell BK364.out 0).trans rfl; have hcz10_1 : w9.cell? ⟨gb364, 1, none⟩ = some (.string a0_1) := (blk_cell BK364.out 1).trans rfl; have hcz10_2 : w9.cell? ⟨gb364, 2, none⟩ = some (.int .i64 a0_2) := (blk_cell BK364.out 2).trans rfl; have hcz10_3 : w9.cell? ⟨gb364, 3, none⟩ = some (.slice A0_3 l0_3.length c0_3) := (blk_cell BK364.out 3).trans rfl; have hfz10_0 := blk_frozen BK364.out 0; have hfz10_1 := blk_frozen BK364.out 1; have hfz10_2 := blk_frozen BK364.out 2; have hfz10_3 := blk_frozen BK364.out 3) | (go_at_call 23; (with_reducible refine (pythiaref07_Depth.calls k a0_0 a0_1 a0_2 _ _ l0_3 101 t366 _ ?side1 ?side2 A4.out).mono ?_); (case side1 => repeat (first | exact (Kd.C_below HR0_3.out HB.out) | (with_reducible refine Kd.C_alloc ?_ _) | (with_reducible refine Kd.C_drewN ?_ _) | (with_reducible refine Kd.C_drew ?_))); (case side2 => exact HC0_3.out); rintro e w11 ⟨rfl, hb⟩; have n0_ := Aside0.mk (blk_below (g := gb364) (o := .cells #[.int .i64 a0_0, .string a0_1, .int .i64 a0_2, .slice A0_3 l0_3.length c0_3] 24 (0, 0)) (by (with_reducible repeat (first | refine blk_drewN ?_ _ | refine blk_drew ?_ | refine blk_alloc ?_ _)); exact BK364.out) hb); have n1_ := Aside0.mk (below_step (by repeat (first | (with_reducible first | exact HB.out | apply below_alloc | apply pw_below_drewN | apply below_drew1 | refine below_set ?_ GE364.out) | exact HB.out)) hb); clear BK364; clear HB; have BK364 := n0_; have HB := n1_; clear n0_ n1_; (try clear hb); (try clear hb2); (try clear hk); (try clear hi); have hcz12_0 : w11.cell? ⟨gb364, 0, none⟩ = some (.int .i64 a0_0) := (blk_cell BK364.out 0).trans rfl; have hcz12_1 : w11.cell? ⟨gb364, 1, none⟩ = some (.string a0_1) := (blk_cell BK364.out 1).trans rfl; have hcz12_2 : w11.cell? ⟨gb364, 2, none⟩ = some (.int .i64 a0_2) := (blk_cell BK364.out 2).trans rfl; have hcz12_3 : w11.cell? ⟨gb364, 3, none⟩ = some (.slice A0_3 l0_3.length c0_3) := (blk_cell BK364.out 3).trans rfl; have hfz12_0 := blk_frozen BK364.out 0; have hfz12_1 := blk_frozen BK364.out 1; have hfz12_2 := blk_frozen BK364.out 2; have hfz12_3 := blk_frozen BK364.out 3) | (go_at_call 50; (with_reducible refine (pythiaref07_plain.calls k a0_0 a0_1 a0_2 _ _ l0_3 100 t367 _ ?side1 ?side2 A6.out).mono ?_); (case side1 => repeat (first | exact (Kd.C_below HR0_3.out HB.out) | (with_reducible refine Kd.C_alloc ?_ _) | (with_reducible refine Kd.C_drewN ?_ _) | (with_reducible refine Kd.C_drew ?_))); (case side2 => exact HC0_3.out); rintro e w13 ⟨rfl, hb⟩; have n0_ := Aside0.mk (blk_below (g := gb364) (o := .cells #[.int .i64 a0_0, .string a0_1, .int .i64 a0_2, .slice A0_3 l0_3.length c0_3] 24 (0, 0)) (by (with_reducible repeat (first | refine blk_drewN ?_ _ | refine blk_drew ?_ | refine blk_alloc ?_ _)); exact BK364.out) hb); have n1_ := Aside0.mk (below_step (by repeat (first | (with_reducible first | exact HB.out | apply below_alloc | apply pw_below_drewN | apply below_drew1 | refine below_set ?_ GE364.out) | exact HB.out)) hb); clear BK364; clear HB; have BK364 := n0_; have HB := n1_; clear n0_ n1_; (try clear hb); (try clear hb2); (try clear hk); (try clear hi)))
      go_ret
      exact ⟨by first | rfl | (simp [errW_none, errW_some] <;> rfl) | (simp [*, errW_none, errW_some] <;> rfl), by repeat (first | (with_reducible first | exact HB.out | apply below_alloc | apply pw_below_drewN | apply below_drew1 | refine below_set ?_ GE364.out) | exact HB.out)⟩
    · rw [if_neg c5] at H
      have c5b0 : decide (t366 ≤ 100) = false := decide_eq_false c5
      clear c5
      obtain rfl := Option.some.inj H
      go_enter Try.func14, Try.ntmps14
      go_wp2_with (first | ((with_reducible refine gate_dst (N := 1) rfl ?_); refine box_event ?hg (N := 1) ?hd (cs := #[.int .i64 a0_0, .string a0_1, .int .i64 a0_2, .slice A0_3 l0_3.length c0_3]) (t := 24) ?hr ?_; (case hd => rfl); (case hg => rfl); (case hr => first | (go_simp; done) | (go_simp; rfl)); intro gb364 hg w14 hbox hb; have n0_ := Aside0.mk (below_step (by repeat (first | (with_reducible first | exact HB.out | apply below_alloc | apply pw_below_drewN | apply below_drew1) | exact HB.out)) hb); have n1_ := Aside0.mk (hbox); have n2_ := Aside0.mk ((by rw [hg]; exact (below_size (by repeat (first | (with_reducible first | exact HB.out | apply below_alloc | apply pw_below_drewN | apply below_drew1) | exact HB.out))) : w.heap.size ≤ gb364)); have n3_ := Aside0.mk ((by rw [hg]; exact (below_size (by repeat (first | (with_reducible first | exact HB.out | apply below_alloc | apply pw_below_drewN | apply below_drew1) | exact HB.out))) : w.heap.size ≤ gb364)); clear HB; have HB := n0_; have BK364 := n1_; have GW364 := n2_; have GE364 := n3_; clear n0_ n1_ n2_ n3_; clear hb hbox hg; have hcz15_0 : w14.cell? ⟨gb364, 0, none⟩ = some (.int .i64 a0_0) := (blk_cell BK364.out 0).trans rfl; have hcz15_1 : w14.cell? ⟨gb364, 1, none⟩ = some (.string a0_1) := (blk_cell BK364.out 1).trans rfl; have hcz15_2 : w14.cell? ⟨gb364, 2, none⟩ = some (.int .i64 a0_2) := (blk_cell BK364.out 2).trans rfl; have hcz15_3 : w14.cell? ⟨gb364, 3, none⟩ = some (.slice A0_3 l0_3.length c0_3) := (blk_cell BK364.out 3).trans rfl; have hfz15_0 := blk_frozen BK364.out 0; have hfz15_1 := blk_frozen BK364.out 1; have hfz15_2 := blk_frozen BK364.out 2; have hfz15_3 := blk_frozen BK364.out 3) | ((with_reducible refine gate_callee (f := 22) rfl ?_); refine goesL_ (some 4) rfl rfl Try.func22 (by kernel_rfl) rfl #[.agg #[.int .i64 a0_0, .string a0_1, .int .i64 a0_2, .slice A0_3 l0_3.length c0_3], .int .i64 2000] rfl (by (try simp only [List.map_toArray, List.map_cons, List.map_nil]); first | done | rfl | (simp only [List.length_drop, List.length_take]; rfl)) ?_; (with_reducible refine (pythiaref07_Size.calls k a0_0 a0_1 a0_2 _ _ l0_3 2000 t365 _ ?side1 ?side2 A2.out).mono ?_); (case side1 => repeat (first | exact (Kd.C_below HR0_3.out HB.out) | (with_reducible refine Kd.C_alloc ?_ _) | (with_reducible refine Kd.C_drewN ?_ _) | (with_reducible refine Kd.C_drew ?_))); (case side2 => exact HC0_3.out); rintro e w16 ⟨rfl, hb⟩; refine ⟨_, rfl, ?_⟩; have n0_ := Aside0.mk (blk_below (g := gb364) (o := .cells #[.int .i64 a0_0, .string a0_1, .int .i64 a0_2, .slice A0_3 l0_3.length c0_3] 24 (0, 0)) (by (with_reducible repeat (first | refine blk_drewN ?_ _ | refine blk_drew ?_ | refine blk_alloc ?_ _)); exact BK364.out) hb); have n1_ := Aside0.mk (below_step (by repeat (first | (with_reducible first | exact HB.out | apply below_alloc | apply pw_below_drewN | apply below_drew1 | refine below_set ?_ GE364.out) | exact HB.out)) hb); clear BK364; clear HB; have BK364 := n0_; have HB := n1_; clear n0_ n1_; (try clear hb); (try clear hb2); (try clear hk); (try clear hi); have hcz17_0 : w16.cell? ⟨gb364, 0, none⟩ = some (.int .i64 a0_0) := (blk_cell BK364.out 0).trans rfl; have hcz17_1 : w16.cell? ⟨gb364, 1, none⟩ = some (.string a0_1) := (blk_cell BK364.out 1).trans rfl; have hcz17_2 : w16.cell? ⟨gb364, 2, none⟩ = some (.int .i64 a0_2) := (blk_cell BK364.out 2).trans rfl; have hcz17_3 : w16.cell? ⟨gb364, 3, none⟩ = some (.slice A0_3 l0_3.length c0_3) := (blk_cell BK364.out 3).trans rfl; have hfz17_0 := blk_frozen BK364.out 0; have hfz17_1 := blk_frozen BK364.out 1; have hfz17_2 := blk_frozen BK364.out 2; have hfz17_3 := blk_frozen BK364.out 3) | (go_at_call 23; (with_reducible refine (pythiaref07_Depth.calls k a0_0 a0_1 a0_2 _ _ l0_3 101 t366 _ ?side1 ?side2 A4.out).mono ?_); (case side1 => repeat (first | exact (Kd.C_below HR0_3.out HB.out) | (with_reducible refine Kd.C_alloc ?_ _) | (with_reducible refine Kd.C_drewN ?_ _) | (with_reducible refine Kd.C_drew ?_))); (case side2 => exact HC0_3.out); rintro e w18 ⟨rfl, hb⟩; have n0_ := Aside0.mk (blk_below (g := gb364) (o := .cells #[.int .i64 a0_0, .string a0_1, .int .i64 a0_2, .slice A0_3 l0_3.length c0_3] 24 (0, 0)) (by (with_reducible repeat (first | refine blk_drewN ?_ _ | refine blk_drew ?_ | refine blk_alloc ?_ _)); exact BK364.out) hb); have n1_ := Aside0.mk (below_step (by repeat (first | (with_reducible first | exact HB.out | apply below_alloc | apply pw_below_drewN | apply below_drew1 | refine below_set ?_ GE364.out) | exact HB.out)) hb); clear BK364; clear HB; have BK364 := n0_; have HB := n1_; clear n0_ n1_; (try clear hb); (try clear hb2); (try clear hk); (try clear hi)))
      go_ret
      exact ⟨by first | rfl | (simp [errW_none, errW_some] <;> rfl) | (simp [*, errW_none, errW_some] <;> rfl), by repeat (first | (with_reducible first | exact HB.out | apply below_alloc | apply pw_below_drewN | apply below_drew1 | refine below_set ?_ GE364.out) | exact HB.out)⟩
  · rw [if_neg c3] at H
    have c3b0 : decide (t365 ≤ 2000) = false := decide_eq_false c3
    clear c3
    obtain rfl := Option.some.inj H
    go_enter Try.func14, Try.ntmps14
    go_wp2_with (first | ((with_reducible refine gate_dst (N := 1) rfl ?_); refine box_event ?hg (N := 1) ?hd (cs := #[.int .i64 a0_0, .string a0_1, .int .i64 a0_2, .slice A0_3 l0_3.length c0_3]) (t := 24) ?hr ?_; (case hd => rfl); (case hg => rfl); (case hr => first | (go_simp; done) | (go_simp; rfl)); intro gb364 hg w19 hbox hb; have n0_ := Aside0.mk (below_step (by repeat (first | (with_reducible first | exact HB.out | apply below_alloc | apply pw_below_drewN | apply below_drew1) | exact HB.out)) hb); have n1_ := Aside0.mk (hbox); have n2_ := Aside0.mk ((by rw [hg]; exact (below_size (by repeat (first | (with_reducible first | exact HB.out | apply below_alloc | apply pw_below_drewN | apply below_drew1) | exact HB.out))) : w.heap.size ≤ gb364)); have n3_ := Aside0.mk ((by rw [hg]; exact (below_size (by repeat (first | (with_reducible first | exact HB.out | apply below_alloc | apply pw_below_drewN | apply below_drew1) | exact HB.out))) : w.heap.size ≤ gb364)); clear HB; have HB := n0_; have BK364 := n1_; have GW364 := n2_; have GE364 := n3_; clear n0_ n1_ n2_ n3_; clear hb hbox hg; have hcz20_0 : w19.cell? ⟨gb364, 0, none⟩ = some (.int .i64 a0_0) := (blk_cell BK364.out 0).trans rfl; have hcz20_1 : w19.cell? ⟨gb364, 1, none⟩ = some (.string a0_1) := (blk_cell BK364.out 1).trans rfl; have hcz20_2 : w19.cell? ⟨gb364, 2, none⟩ = some (.int .i64 a0_2) := (blk_cell BK364.out 2).trans rfl; have hcz20_3 : w19.cell? ⟨gb364, 3, none⟩ = some (.slice A0_3 l0_3.length c0_3) := (blk_cell BK364.out 3).trans rfl; have hfz20_0 := blk_frozen BK364.out 0; have hfz20_1 := blk_frozen BK364.out 1; have hfz20_2 := blk_frozen BK364.out 2; have hfz20_3 := blk_frozen BK364.out 3) | ((with_reducible refine gate_callee (f := 22) rfl ?_); refine goesL_ (some 4) rfl rfl Try.func22 (by kernel_rfl) rfl #[.agg #[.int .i64 a0_0, .string a0_1, .int .i64 a0_2, .slice A0_3 l0_3.length c0_3], .int .i64 2000] rfl (by (try simp only [List.map_toArray, List.map_cons, List.map_nil]); first | done | rfl | (simp only [List.length_drop, List.length_take]; rfl)) ?_; (with_reducible refine (pythiaref07_Size.calls k a0_0 a0_1 a0_2 _ _ l0_3 2000 t365 _ ?side1 ?side2 A2.out).mono ?_); (case side1 => repeat (first | exact (Kd.C_below HR0_3.out HB.out) | (with_reducible refine Kd.C_alloc ?_ _) | (with_reducible refine Kd.C_drewN ?_ _) | (with_reducible refine Kd.C_drew ?_))); (case side2 => exact HC0_3.out); rintro e w21 ⟨rfl, hb⟩; refine ⟨_, rfl, ?_⟩; have n0_ := Aside0.mk (blk_below (g := gb364) (o := .cells #[.int .i64 a0_0, .string a0_1, .int .i64 a0_2, .slice A0_3 l0_3.length c0_3] 24 (0, 0)) (by (with_reducible repeat (first | refine blk_drewN ?_ _ | refine blk_drew ?_ | refine blk_alloc ?_ _)); exact BK364.out) hb); have n1_ := Aside0.mk (below_step (by repeat (first | (with_reducible first | exact HB.out | apply below_alloc | apply pw_below_drewN | apply below_drew1 | refine below_set ?_ GE364.out) | exact HB.out)) hb); clear BK364; clear HB; have BK364 := n0_; have HB := n1_; clear n0_ n1_; (try clear hb); (try clear hb2); (try clear hk); (try clear hi)))
    go_ret
    exact ⟨by first | rfl | (simp [errW_none, errW_some] <;> rfl) | (simp [*, errW_none, errW_some] <;> rfl), by repeat (first | (with_reducible first | exact HB.out | apply below_alloc | apply pw_below_drewN | apply below_drew1 | refine below_set ?_ GE364.out) | exact HB.out)⟩

end Go.Proofs.Ytpnkaggkedepeaa.PTermTells
