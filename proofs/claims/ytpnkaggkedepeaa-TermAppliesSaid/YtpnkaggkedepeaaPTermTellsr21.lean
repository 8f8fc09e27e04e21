/- What print.sh wrote for functions of the document (r21.py). -/
import Derived.Test.YtpnkaggkedepeaaPTermTellsr0
import Derived.Test.YtpnkaggkedepeaaPTermTellsr10
import Derived.Test.YtpnkaggkedepeaaPTermTellsr11
import Derived.Test.YtpnkaggkedepeaaPTermTellsr20
namespace Go.Proofs.Ytpnkaggkedepeaa.PTermTells
open Go.RowKit Go.Proofs.YtpnkaggkedepeaaW.PrintWords Go.Proofs.YtpnkaggkedepeaaW.PrintLast Go.Proofs.YtpnkaggkedepeaaW.PrintMore
attribute [local go_sem] max2_int min2_int max_two min_two max_three min_three max_four min_four   -- for this text's walks alone
set_option linter.unusedVariables false
set_option linter.unusedSimpArgs false

theorem k24_openF {W : World} {ok : Nat → Prop} {x : S24} {cs : List Value} (h : Kd.FK k24 W ok x cs) : ∃ A3 c3, cs = [.int .i64 x.f0, .string x.f1, .int .i64 x.f2, .slice A3 x.f3.length c3] ∧ x.f3.length ≤ c3 ∧ Kd.F k24 W ok A3 x.f3.length x.f3 := by
  obtain ⟨A3, c3, rfl, l3, _⟩ := k24_open (Kd.FK_now h)
  exact ⟨A3, c3, rfl, l3, (fun W' hW => by obtain ⟨A3_, c3_, he, l3_, g3_⟩ := k24_open (h W' hW); injection (Option.some.inj (show some (Value.slice A3 x.f3.length c3) = some (Value.slice A3_ x.f3.length c3_) from congrArg (fun l => l[3]?) he)) with ha_ _ _; rw [ha_]; exact g3_)⟩

theorem k24_mkF (W : World) (ok : Nat → Prop) (x : S24) {A3 : Option Addr} {c3 : Nat} (l3 : x.f3.length ≤ c3) (g3 : Kd.F k24 W ok A3 x.f3.length x.f3) : Kd.FK k24 W ok x [.int .i64 x.f0, .string x.f1, .int .i64 x.f2, .slice A3 x.f3.length c3] := fun W2 hW => k24_mk W2 x l3 (g3 W2 hW)

/-! ### pythiaref07_List: function 41 -/
def pythiaref07_List.l0 : Nat → List (S24) → Int → Int → ByteArray → Int → List (S24) → Option (Int × ByteArray × Int × (List (S24)))
  | 0, _, _, _, _, _, _ => none
  | k + 1, x0, x6, x468000, x468001, x468002, x468003 => if x6 ≥ 0 then (if 0 ≤ x6 then (if x6 < (x0.length : Int) then ((pythiaref07_C.f (⟨#[46]⟩ : ByteArray) (([(⟨(rd_T24 x0 x6).f0, (rd_T24 x0 x6).f1, (rd_T24 x0 x6).f2, (rd_T24 x0 x6).f3⟩ : S24), (⟨x468000, x468001, x468002, x468003⟩ : S24)] : List (S24)))).bind fun bt472 => (pythiaref07_List.l0 k x0 (wrap64 (x6 - 1)) bt472.1 bt472.2.1 bt472.2.2.1 bt472.2.2.2)) else (none)) else (none)) else (some (x468000, x468001, x468002, x468003))
def pythiaref07_List.f (k : Nat) (l0 : List (S24)) (a1_0 : Int) (a1_1 : ByteArray) (a1_2 : Int) (l1_3 : List (S24)) : Option (Int × ByteArray × Int × (List (S24))) := pythiaref07_List.l0 k l0 (wrap64 ((l0.length : Int) - 1)) a1_0 a1_1 a1_2 l1_3
theorem pythiaref07_List.mono_l : ∀ k, (∀ y0 y1 y2 y3 y4 y5, LeO (pythiaref07_List.l0 k y0 y1 y2 y3 y4 y5) (pythiaref07_List.l0 (k + 1) y0 y1 y2 y3 y4 y5))
  | 0 => fun _ _ _ _ _ _ r h => by simp [pythiaref07_List.l0] at h
  | k + 1 => by
    have ih0 := pythiaref07_List.mono_l k
    · intro y0 y1 y2 y3 y4 y5
      unfold pythiaref07_List.l0
      repeat' first
      | (with_reducible exact ih0 _ _ _ _ _ _)
      | (with_reducible exact LeO.refl _)
      | (with_reducible exact LeO.none _)
      | (with_reducible refine LeO.ite ?_ ?_)
      | (with_reducible refine LeO.bind ?_ (fun _ => ?_))
      | exact ih0 _ _ _ _ _ _
      | exact LeO.none _
      | refine LeO.ite ?_ ?_
      | refine LeO.bind ?_ (fun _ => ?_)
theorem pythiaref07_List.mono : ∀ a0 a1 a2 a3 a4 k, LeO (pythiaref07_List.f k a0 a1 a2 a3 a4) (pythiaref07_List.f (k + 1) a0 a1 a2 a3 a4) := by
  intro a0 a1 a2 a3 a4 k
  have ih0 := pythiaref07_List.mono_l k
  unfold pythiaref07_List.f
  repeat' first
      | (with_reducible exact ih0 _ _ _ _ _ _)
      | (with_reducible exact LeO.refl _)
      | (with_reducible exact LeO.none _)
      | (with_reducible refine LeO.ite ?_ ?_)
      | (with_reducible refine LeO.bind ?_ (fun _ => ?_))
      | exact ih0 _ _ _ _ _ _
      | exact LeO.none _
      | refine LeO.ite ?_ ?_
      | refine LeO.bind ?_ (fun _ => ?_)
def pythiaref07_List.T5 : Bool × List (List Nat × List Nat) := (true, [([], []), ([], []), ([0, 1], [0, 1]), ([2], [2]), ([], []), ([3, 4], [3, 4]), ([5], [5]), ([6, 6, 0, 1, 2, 3, 4, 5, 6], [6])])
def pythiaref07_List.B5 : List Nat := [0, 0, 3, 7, 0, 31, 63, 127]
theorem pythiaref07_List.tab5 : rtab .any (opsOf Try.f41 5) = pythiaref07_List.T5 := by kernel_rfl
theorem pythiaref07_List.bits5 : waitsOk pythiaref07_List.T5.2 pythiaref07_List.B5 = true := by kernel_rfl
set_option maxHeartbeats 8000000 in
set_option maxRecDepth 100000 in
theorem pythiaref07_List.calls (k : Nat) (P0_ : Nat → Prop) (A0 : Option Addr) (c0 : Nat) (l0 : List (S24)) (a1_0 : Int) (a1_1 : ByteArray) (a1_2 : Int) (P1_3_ : Nat → Prop) (A1_3 : Option Addr) (c1_3 : Nat) (l1_3 : List (S24)) (r1 : Int) (r2 : ByteArray) (r3 : Int) (r4 : List (S24)) (w : World) (hs0 : Kd.V k24 24 w w.heap.size (fun k_ => P0_ k_) (.slice A0 l0.length c0) l0) (hs1_3 : Kd.V k24 24 w w.heap.size (fun k_ => P1_3_ k_) (.slice A1_3 l1_3.length c1_3) l1_3) (h : pythiaref07_List.f k l0 a1_0 a1_1 a1_2 l1_3 = some (r1, r2, r3, r4)) :
    Calls Try.prog 41 #[.slice A0 l0.length c0, .agg #[.int .i64 a1_0, .string a1_1, .int .i64 a1_2, .slice A1_3 l1_3.length c1_3]] w fun e w' => ∃ v3_ : Value, e = .returned (.agg #[.int .i64 r1, .string r2, .int .i64 r3, v3_]) ∧ Kd.V k24 24 w' w.heap.size (fun k_ => ((P0_ k_ ∨ P1_3_ k_) ∨ w.heap.size ≤ k_)) v3_ r4 ∧ Below w.heap.size w w' := by
  have hu24 := Try.underlying24
  have HO0 := Aside0.mk (show Kd.V k24 24 w w.heap.size (fun k_ => ((P0_ k_ ∨ P1_3_ k_) ∨ w.heap.size ≤ k_)) (.slice A0 l0.length c0) l0 from Kd.V_mono hs0 (fun k_ hk => .inl (.inl hk)))
  have HO1_3 := Aside0.mk (show Kd.V k24 24 w w.heap.size (fun k_ => ((P0_ k_ ∨ P1_3_ k_) ∨ w.heap.size ≤ k_)) (.slice A1_3 l1_3.length c1_3) l1_3 from Kd.V_mono hs1_3 (fun k_ hk => .inl (.inr hk)))
  have HB := Aside0.mk (Below.refl w.heap.size w)
  have H : (pythiaref07_List.l0 k l0 (wrap64 ((l0.length : Int) - 1)) a1_0 a1_1 a1_2 l1_3) = some (r1, r2, r3, r4) := h
  clear h
  have H' := Aside0.mk H
  clear H
  go_enter Try.func41, Try.ntmps41
  go_wp2_with (first | ((with_reducible refine gate_dst (N := 3) rfl ?_); refine box_event ?hg (N := 3) ?hd (cs := #[.int .i64 a1_0, .string a1_1, .int .i64 a1_2, .slice A1_3 l1_3.length c1_3]) (t := 24) ?hr ?_; (case hd => rfl); (case hg => rfl); (case hr => first | (go_simp; done) | (go_simp; rfl)); intro gb465 hg w3 hbox hb; have n0_ := Aside0.mk (Kd.V_below (Kd.V_elderB (by (with_reducible repeat (first | apply Kd.V_alloc | apply Kd.V_drewN | apply Kd.V_drew)); exact HO0.out) gb465 (Nat.le_of_eq hg.symm)) hb); have n1_ := Aside0.mk (Kd.V_below (Kd.V_elderB (by (with_reducible repeat (first | apply Kd.V_alloc | apply Kd.V_drewN | apply Kd.V_drew)); exact HO1_3.out) gb465 (Nat.le_of_eq hg.symm)) hb); have n2_ := Aside0.mk (below_step (by repeat (first | (with_reducible first | exact HB.out | apply below_alloc | apply pw_below_drewN | apply below_drew1) | exact HB.out)) hb); have n3_ := Aside0.mk (hbox); have n4_ := Aside0.mk ((by rw [hg]; exact (below_size (by repeat (first | (with_reducible first | exact HB.out | apply below_alloc | apply pw_below_drewN | apply below_drew1) | exact HB.out))) : w.heap.size ≤ gb465)); have n5_ := Aside0.mk ((by rw [hg]; exact (below_size (by repeat (first | (with_reducible first | exact HB.out | apply below_alloc | apply pw_below_drewN | apply below_drew1) | exact HB.out))) : w.heap.size ≤ gb465)); clear HO0; clear HO1_3; clear HB; have HO0 := n0_; have HO1_3 := n1_; have HB := n2_; have BK465 := n3_; have GW465 := n4_; have GE465 := n5_; clear n0_ n1_ n2_ n3_ n4_ n5_; clear hb hbox hg) | ((with_reducible refine gate_dst (N := 4) rfl ?_); refine box_event ?hg (N := 4) ?hd (cs := #[.int .i64 0, .string (⟨#[]⟩ : ByteArray), .int .i64 0, .slice none 0 0]) (t := 24) ?hr ?_; (case hd => rfl); (case hg => rfl); (case hr => first | (go_simp; done) | (go_simp; rfl)); intro gb466 hg w4 hbox hb; have n0_ := Aside0.mk (Kd.V_below (Kd.V_elderB (by (with_reducible repeat (first | apply Kd.V_alloc | apply Kd.V_drewN | apply Kd.V_drew)); exact HO0.out) gb466 (Nat.le_of_eq hg.symm)) hb); have n1_ := Aside0.mk (Kd.V_below (Kd.V_elderB (by (with_reducible repeat (first | apply Kd.V_alloc | apply Kd.V_drewN | apply Kd.V_drew)); exact HO1_3.out) gb466 (Nat.le_of_eq hg.symm)) hb); have n2_ := Aside0.mk (blk_below (g := gb465) (o := .cells #[.int .i64 a1_0, .string a1_1, .int .i64 a1_2, .slice A1_3 l1_3.length c1_3] 24 (0, 0)) (by (with_reducible repeat (first | refine blk_drewN ?_ _ | refine blk_drew ?_ | refine blk_alloc ?_ _)); exact BK465.out) hb); have n3_ := Aside0.mk (below_step (by repeat (first | (with_reducible first | exact HB.out | apply below_alloc | apply pw_below_drewN | apply below_drew1 | refine below_set ?_ GE465.out) | exact HB.out)) hb); have n4_ := Aside0.mk (hbox); have n5_ := Aside0.mk ((by rw [hg]; exact (below_size (by repeat (first | (with_reducible first | exact HB.out | apply below_alloc | apply pw_below_drewN | apply below_drew1 | refine below_set ?_ GE465.out) | exact HB.out))) : w.heap.size ≤ gb466)); have n6_ := Aside0.mk ((by rw [hg]; exact (below_size (by repeat (first | (with_reducible first | exact HB.out | apply below_alloc | apply pw_below_drewN | apply below_drew1 | refine below_set ?_ GE465.out) | exact HB.out))) : w.heap.size ≤ gb466)); have n7_ := Aside0.mk ((by rw [hg]; exact Nat.ne_of_lt (blk_lt (g := gb465) (o := .cells #[.int .i64 a1_0, .string a1_1, .int .i64 a1_2, .slice A1_3 l1_3.length c1_3] 24 (0, 0)) (by (with_reducible repeat (first | refine blk_drewN ?_ _ | refine blk_drew ?_ | refine blk_alloc ?_ _)); exact BK465.out)) : gb465 ≠ gb466)); have n8_ := Aside0.mk ((by rw [hg]; exact Nat.ne_of_gt (blk_lt (g := gb465) (o := .cells #[.int .i64 a1_0, .string a1_1, .int .i64 a1_2, .slice A1_3 l1_3.length c1_3] 24 (0, 0)) (by (with_reducible repeat (first | refine blk_drewN ?_ _ | refine blk_drew ?_ | refine blk_alloc ?_ _)); exact BK465.out)) : gb466 ≠ gb465)); clear HO0; clear HO1_3; clear BK465; clear HB; have HO0 := n0_; have HO1_3 := n1_; have BK465 := n2_; have HB := n3_; have BK466 := n4_; have GW466 := n5_; have GE466 := n6_; have NB465_466 := n7_; have NB466_465 := n8_; clear n0_ n1_ n2_ n3_ n4_ n5_ n6_ n7_ n8_; clear hb hbox hg; have hnb5 := NB465_466.out; have hnc5 := NB466_465.out; have hcz6_0 : w4.cell? ⟨gb465, 0, none⟩ = some (.int .i64 a1_0) := (blk_cell BK465.out 0).trans rfl; have hcz6_1 : w4.cell? ⟨gb465, 1, none⟩ = some (.string a1_1) := (blk_cell BK465.out 1).trans rfl; have hcz6_2 : w4.cell? ⟨gb465, 2, none⟩ = some (.int .i64 a1_2) := (blk_cell BK465.out 2).trans rfl; have hcz6_3 : w4.cell? ⟨gb465, 3, none⟩ = some (.slice A1_3 l1_3.length c1_3) := (blk_cell BK465.out 3).trans rfl; have hfz6_0 := blk_frozen BK465.out 0; have hfz6_1 := blk_frozen BK465.out 1; have hfz6_2 := blk_frozen BK465.out 2; have hfz6_3 := blk_frozen BK465.out 3) | ((with_reducible refine gate_dst (N := 5) rfl ?_); refine box_event ?hg (N := 5) ?hd (cs := #[.int .i64 0, .string (⟨#[]⟩ : ByteArray), .int .i64 0, .slice none 0 0]) (t := 24) ?hr ?_; (case hd => rfl); (case hg => rfl); (case hr => first | (go_simp; done) | (go_simp; rfl)); intro gb467 hg w7 hbox hb; have n0_ := Aside0.mk (Kd.V_below (Kd.V_elderB (by (with_reducible repeat (first | apply Kd.V_alloc | apply Kd.V_drewN | apply Kd.V_drew)); exact HO0.out) gb467 (Nat.le_of_eq hg.symm)) hb); have n1_ := Aside0.mk (Kd.V_below (Kd.V_elderB (by (with_reducible repeat (first | apply Kd.V_alloc | apply Kd.V_drewN | apply Kd.V_drew)); exact HO1_3.out) gb467 (Nat.le_of_eq hg.symm)) hb); have n2_ := Aside0.mk (blk_below (g := gb465) (o := .cells #[.int .i64 a1_0, .string a1_1, .int .i64 a1_2, .slice A1_3 l1_3.length c1_3] 24 (0, 0)) (by (with_reducible repeat (first | refine blk_drewN ?_ _ | refine blk_drew ?_ | refine blk_alloc ?_ _)); exact BK465.out) hb); have n3_ := Aside0.mk (blk_below (g := gb466) (o := .cells #[.int .i64 0, .string (⟨#[]⟩ : ByteArray), .int .i64 0, .slice none 0 0] 24 (0, 0)) (by (with_reducible repeat (first | refine blk_drewN ?_ _ | refine blk_drew ?_ | refine blk_alloc ?_ _)); exact BK466.out) hb); have n4_ := Aside0.mk (below_step (by repeat (first | (with_reducible first | exact HB.out | apply below_alloc | apply pw_below_drewN | apply below_drew1 | refine below_set ?_ GE465.out | refine below_set ?_ GE466.out) | exact HB.out)) hb); have n5_ := Aside0.mk (hbox); have n6_ := Aside0.mk ((by rw [hg]; exact (below_size (by repeat (first | (with_reducible first | exact HB.out | apply below_alloc | apply pw_below_drewN | apply below_drew1 | refine below_set ?_ GE465.out | refine below_set ?_ GE466.out) | exact HB.out))) : w.heap.size ≤ gb467)); have n7_ := Aside0.mk ((by rw [hg]; exact (below_size (by repeat (first | (with_reducible first | exact HB.out | apply below_alloc | apply pw_below_drewN | apply below_drew1 | refine below_set ?_ GE465.out | refine below_set ?_ GE466.out) | exact HB.out))) : w.heap.size ≤ gb467)); have n8_ := Aside0.mk ((by rw [hg]; exact Nat.ne_of_lt (blk_lt (g := gb465) (o := .cells #[.int .i64 a1_0, .string a1_1, .int .i64 a1_2, .slice A1_3 l1_3.length c1_3] 24 (0, 0)) (by (with_reducible repeat (first | refine blk_drewN ?_ _ | refine blk_drew ?_ | refine blk_alloc ?_ _)); exact BK465.out)) : gb465 ≠ gb467)); have n9_ := Aside0.mk ((by rw [hg]; exact Nat.ne_of_gt (blk_lt (g := gb465) (o := .cells #[.int .i64 a1_0, .string a1_1, .int .i64 a1_2, .slice A1_3 l1_3.length c1_3] 24 (0, 0)) (by (with_reducible repeat (first | refine blk_drewN ?_ _ | refine blk_drew ?_ | refine blk_alloc ?_ _)); exact BK465.out)) : gb467 ≠ gb465)); have n10_ := Aside0.mk ((by rw [hg]; exact Nat.ne_of_lt (blk_lt (g := gb466) (o := .cells #[.int .i64 0, .string (⟨#[]⟩ : ByteArray), .int .i64 0, .slice none 0 0] 24 (0, 0)) (by (with_reducible repeat (first | refine blk_drewN ?_ _ | refine blk_drew ?_ | refine blk_alloc ?_ _)); exact BK466.out)) : gb466 ≠ gb467)); have n11_ := Aside0.mk ((by rw [hg]; exact Nat.ne_of_gt (blk_lt (g := gb466) (o := .cells #[.int .i64 0, .string (⟨#[]⟩ : ByteArray), .int .i64 0, .slice none 0 0] 24 (0, 0)) (by (with_reducible repeat (first | refine blk_drewN ?_ _ | refine blk_drew ?_ | refine blk_alloc ?_ _)); exact BK466.out)) : gb467 ≠ gb466)); clear HO0; clear HO1_3; clear BK465; clear BK466; clear HB; have HO0 := n0_; have HO1_3 := n1_; have BK465 := n2_; have BK466 := n3_; have HB := n4_; have BK467 := n5_; have GW467 := n6_; have GE467 := n7_; have NB465_467 := n8_; have NB467_465 := n9_; have NB466_467 := n10_; have NB467_466 := n11_; clear n0_ n1_ n2_ n3_ n4_ n5_ n6_ n7_ n8_ n9_ n10_ n11_; clear hb hbox hg; have hnb8 := NB467_465.out; have hnc8 := NB465_467.out; have hnb9 := NB467_466.out; have hnc9 := NB466_467.out; have hcz10_0 : w7.cell? ⟨gb467, 0, none⟩ = some (.int .i64 0) := (blk_cell BK467.out 0).trans rfl; have hcz10_1 : w7.cell? ⟨gb467, 1, none⟩ = some (.string (⟨#[]⟩ : ByteArray)) := (blk_cell BK467.out 1).trans rfl; have hcz10_2 : w7.cell? ⟨gb467, 2, none⟩ = some (.int .i64 0) := (blk_cell BK467.out 2).trans rfl; have hcz10_3 : w7.cell? ⟨gb467, 3, none⟩ = some (.slice none 0 0) := (blk_cell BK467.out 3).trans rfl; have hfz10_0 := blk_frozen BK467.out 0; have hfz10_1 := blk_frozen BK467.out 1; have hfz10_2 := blk_frozen BK467.out 2; have hfz10_3 := blk_frozen BK467.out 3))
  go_loopg [6] k (fun kq v6 w' => ∃ (x6_1 : Int) (x468000_1 : Int) (x468001_1 : ByteArray) (x468002_1 : Int) (x468003_1 : List (S24)) (u468003 : Value), v6 = .int .i64 x6_1 ∧ Aside0 (pythiaref07_List.l0 kq l0 x6_1 x468000_1 x468001_1 x468002_1 x468003_1 = some (r1, r2, r3, r4)) ∧ Aside0 (kq ≤ k) ∧ Aside0 (Kd.V k24 24 w' w.heap.size (fun k_ => ((P0_ k_ ∨ P1_3_ k_) ∨ w.heap.size ≤ k_) ∧ k_ ≠ gb465 ∧ k_ ≠ gb466 ∧ k_ ≠ gb467) (.slice A0 l0.length c0) l0) ∧ Aside0 (Kd.V k24 24 w' w.heap.size (fun k_ => ((P0_ k_ ∨ P1_3_ k_) ∨ w.heap.size ≤ k_) ∧ k_ ≠ gb465 ∧ k_ ≠ gb466 ∧ k_ ≠ gb467) (.slice A1_3 l1_3.length c1_3) l1_3) ∧ Aside0 (Kd.V k24 24 w' w.heap.size (fun k_ => ((P0_ k_ ∨ P1_3_ k_) ∨ w.heap.size ≤ k_) ∧ k_ ≠ gb465 ∧ k_ ≠ gb466 ∧ k_ ≠ gb467) u468003 x468003_1) ∧ Aside0 (w'.heap[gb465]? = some (.cells #[.int .i64 a1_0, .string a1_1, .int .i64 a1_2, (.slice A1_3 l1_3.length c1_3)] 24 (0, 0))) ∧ Aside0 (w'.heap[gb466]? = some (.cells #[.int .i64 0, .string (⟨#[]⟩ : ByteArray), .int .i64 0, (.slice none 0 0)] 24 (0, 0))) ∧ Aside0 (w'.heap[gb467]? = some (.cells #[.int .i64 x468000_1, .string x468001_1, .int .i64 x468002_1, u468003] 24 (0, 0))) ∧ Aside0 (Below w.heap.size w w'))
  case atStart => exact ⟨(wrap64 ((l0.length : Int) - 1)), (a1_0), (a1_1), (a1_2), (l1_3), (.slice A1_3 l1_3.length c1_3), (by first | rfl | (simp; done) | (simp [*]; done)), H', ⟨Nat.le_refl _⟩, ⟨by (with_reducible repeat (first | apply Kd.V_alloc | apply Kd.V_drewN | apply Kd.V_drew)); exact Kd.V_mono (Kd.V_far (p := ⟨gb467, 3, none⟩) (Kd.V_far (p := ⟨gb467, 2, none⟩) (Kd.V_far (p := ⟨gb467, 1, none⟩) (Kd.V_far (p := ⟨gb467, 0, none⟩) (Kd.V_mono HO0.out (fun k_ hk => (⟨hk, hk.2⟩ : _ ∧ k_ ≠ gb467))) (fun _ hk => hk.2) (.int .i64 a1_0)) (fun _ hk => hk.2) (.string a1_1)) (fun _ hk => hk.2) (.int .i64 a1_2)) (fun _ hk => hk.2) (.slice A1_3 l1_3.length c1_3)) (fun _ hk => ⟨hk.1.1.1.1, ⟨hk.1.1.1.2, ⟨hk.1.1.2, hk.1.2⟩⟩⟩)⟩, ⟨by (with_reducible repeat (first | apply Kd.V_alloc | apply Kd.V_drewN | apply Kd.V_drew)); exact Kd.V_mono (Kd.V_far (p := ⟨gb467, 3, none⟩) (Kd.V_far (p := ⟨gb467, 2, none⟩) (Kd.V_far (p := ⟨gb467, 1, none⟩) (Kd.V_far (p := ⟨gb467, 0, none⟩) (Kd.V_mono HO1_3.out (fun k_ hk => (⟨hk, hk.2⟩ : _ ∧ k_ ≠ gb467))) (fun _ hk => hk.2) (.int .i64 a1_0)) (fun _ hk => hk.2) (.string a1_1)) (fun _ hk => hk.2) (.int .i64 a1_2)) (fun _ hk => hk.2) (.slice A1_3 l1_3.length c1_3)) (fun _ hk => ⟨hk.1.1.1.1, ⟨hk.1.1.1.2, ⟨hk.1.1.2, hk.1.2⟩⟩⟩)⟩, ⟨by (with_reducible repeat (first | apply Kd.V_alloc | apply Kd.V_drewN | apply Kd.V_drew)); exact Kd.V_mono (Kd.V_far (p := ⟨gb467, 3, none⟩) (Kd.V_far (p := ⟨gb467, 2, none⟩) (Kd.V_far (p := ⟨gb467, 1, none⟩) (Kd.V_far (p := ⟨gb467, 0, none⟩) (Kd.V_mono HO1_3.out (fun k_ hk => (⟨hk, hk.2⟩ : _ ∧ k_ ≠ gb467))) (fun _ hk => hk.2) (.int .i64 a1_0)) (fun _ hk => hk.2) (.string a1_1)) (fun _ hk => hk.2) (.int .i64 a1_2)) (fun _ hk => hk.2) (.slice A1_3 l1_3.length c1_3)) (fun _ hk => ⟨hk.1.1.1.1, ⟨hk.1.1.1.2, ⟨hk.1.1.2, hk.1.2⟩⟩⟩)⟩, ⟨by (with_reducible repeat (first | refine blk_drewN ?_ _ | refine blk_drew ?_ | refine blk_alloc ?_ _)); refine blk_far ?_ NB465_467.out _; (with_reducible repeat (first | refine blk_drewN ?_ _ | refine blk_drew ?_ | refine blk_alloc ?_ _)); refine blk_far ?_ NB465_467.out _; (with_reducible repeat (first | refine blk_drewN ?_ _ | refine blk_drew ?_ | refine blk_alloc ?_ _)); refine blk_far ?_ NB465_467.out _; (with_reducible repeat (first | refine blk_drewN ?_ _ | refine blk_drew ?_ | refine blk_alloc ?_ _)); refine blk_far ?_ NB465_467.out _; (with_reducible repeat (first | refine blk_drewN ?_ _ | refine blk_drew ?_ | refine blk_alloc ?_ _)); exact BK465.out⟩, ⟨by (with_reducible repeat (first | refine blk_drewN ?_ _ | refine blk_drew ?_ | refine blk_alloc ?_ _)); refine blk_far ?_ NB466_467.out _; (with_reducible repeat (first | refine blk_drewN ?_ _ | refine blk_drew ?_ | refine blk_alloc ?_ _)); refine blk_far ?_ NB466_467.out _; (with_reducible repeat (first | refine blk_drewN ?_ _ | refine blk_drew ?_ | refine blk_alloc ?_ _)); refine blk_far ?_ NB466_467.out _; (with_reducible repeat (first | refine blk_drewN ?_ _ | refine blk_drew ?_ | refine blk_alloc ?_ _)); refine blk_far ?_ NB466_467.out _; (with_reducible repeat (first | refine blk_drewN ?_ _ | refine blk_drew ?_ | refine blk_alloc ?_ _)); exact BK466.out⟩, ⟨by (with_reducible repeat (first | refine blk_drewN ?_ _ | refine blk_drew ?_ | refine blk_alloc ?_ _)); refine blk_put (cs := #[.int .i64 a1_0, .string a1_1, .int .i64 a1_2, .slice none 0 0]) ?_ 3 _ rfl; (with_reducible repeat (first | refine blk_drewN ?_ _ | refine blk_drew ?_ | refine blk_alloc ?_ _)); refine blk_put (cs := #[.int .i64 a1_0, .string a1_1, .int .i64 0, .slice none 0 0]) ?_ 2 _ rfl; (with_reducible repeat (first | refine blk_drewN ?_ _ | refine blk_drew ?_ | refine blk_alloc ?_ _)); refine blk_put (cs := #[.int .i64 a1_0, .string (⟨#[]⟩ : ByteArray), .int .i64 0, .slice none 0 0]) ?_ 1 _ rfl; (with_reducible repeat (first | refine blk_drewN ?_ _ | refine blk_drew ?_ | refine blk_alloc ?_ _)); refine blk_put (cs := #[.int .i64 0, .string (⟨#[]⟩ : ByteArray), .int .i64 0, .slice none 0 0]) ?_ 0 _ rfl; (with_reducible repeat (first | refine blk_drewN ?_ _ | refine blk_drew ?_ | refine blk_alloc ?_ _)); exact BK467.out⟩, ⟨by repeat (first | (with_reducible first | exact HB.out | apply below_alloc | apply pw_below_drewN | apply below_drew1 | refine below_set ?_ GE465.out | refine below_set ?_ GE466.out | refine below_set ?_ GE467.out) | exact HB.out)⟩⟩
  case round =>
    clear H'
    try clear c1
    try clear p2
    try clear c4
    try clear c5
    try clear p6
    try clear c8
    try clear c9
    try clear hcz10_0
    try clear hcz10_1
    try clear hcz10_2
    try clear hcz10_3
    try clear hcz6_0
    try clear hcz6_1
    try clear hcz6_2
    try clear hcz6_3
    try clear hfz10_0
    try clear hfz10_1
    try clear hfz10_2
    try clear hfz10_3
    try clear hfz6_0
    try clear hfz6_1
    try clear hfz6_2
    try clear hfz6_3
    obtain ⟨x6_1, x468000_1, x468001_1, x468002_1, x468003_1, u468003, rfl, HA, HK1, HO_0, HO_466003, HO_468003, BK465, BK466, BK467, HB⟩ := hrel
    cases gk with
    | zero => exact absurd HA.out (by simp [pythiaref07_List.l0])
    | succ k1 =>
      have H := HA.out
      clear HA
      simp only [pythiaref07_List.l0] at H
      by_cases c11 : x6_1 ≥ 0
      · rw [if_pos c11] at H
        have c11b0 : decide (0 ≤ x6_1) = true := decide_eq_true c11
        clear c11
        by_cases c12 : 0 ≤ x6_1
        · rw [if_pos c12] at H
          have c12b0 : decide (0 ≤ x6_1) = true := decide_eq_true c12
          clear c12
          by_cases c13 : x6_1 < (l0.length : Int)
          · rw [if_pos c13] at H
            have c13b0 : decide (x6_1 < (l0.length : Int)) = true := decide_eq_true c13
            clear c13
            obtain ⟨y469, hy469⟩ : ∃ y_ : List (S24), y_ = (([(⟨(rd_T24 l0 x6_1).f0, (rd_T24 l0 x6_1).f1, (rd_T24 l0 x6_1).f2, (rd_T24 l0 x6_1).f3⟩ : S24), (⟨x468000_1, x468001_1, x468002_1, x468003_1⟩ : S24)] : List (S24))) := ⟨_, rfl⟩
            replace H : ((pythiaref07_C.f (⟨#[46]⟩ : ByteArray) y469).bind fun bt472 => (pythiaref07_List.l0 k1 l0 (wrap64 (x6_1 - 1)) bt472.1 bt472.2.1 bt472.2.2.1 bt472.2.2.2)) = some (r1, r2, r3, r4) := by first | (rw [hy469]; with_reducible exact H) | (have H2_ := (Option.bind_some _ _).symm.trans H; rw [hy469]; with_reducible exact H2_) | (have H2_ := (Option.bind_some _ _).symm.trans H; with_reducible exact H2_) | with_reducible exact H | (rw [hy469]; exact H) | exact H
            have Ny469 := Aside0.mk hy469
            clear hy469
            replace H := Option.bind_eq_some_iff.mp H
            obtain ⟨⟨t472, t473, t474, t475⟩, A140, H⟩ := H
            replace H : (pythiaref07_List.l0 k1 l0 (wrap64 (x6_1 - 1)) t472 t473 t474 t475) = some (r1, r2, r3, r4) := H
            have A14 := Aside0.mk A140
            clear A140
            have H' := Aside0.mk H
            clear H
            try go_wp2
            have n0_ := Aside0.mk (Kd.V_drew HO_0.out)
            have n1_ := Aside0.mk (Kd.V_drew HO_466003.out)
            have n2_ := Aside0.mk (Kd.V_drew HO_468003.out)
            have n3_ := Aside0.mk (blk_drew BK465.out)
            have n4_ := Aside0.mk (blk_drew BK466.out)
            have n5_ := Aside0.mk (blk_drew BK467.out)
            have n6_ := Aside0.mk (below_drew1 HB.out)
            clear HO_0
            clear HO_466003
            clear HO_468003
            clear BK465
            clear BK466
            clear BK467
            clear HB
            have HO_0 := n0_
            have HO_466003 := n1_
            have HO_468003 := n2_
            have BK465 := n3_
            have BK466 := n4_
            have BK467 := n5_
            have HB := n6_
            clear n0_ n1_ n2_ n3_ n4_ n5_ n6_
            have p468 : 0 ≤ (x6_1 : Int) := of_decide_eq_true (by first | (with_reducible assumption) | assumption)
            have q468 : x6_1 < (l0.length : Int) := of_decide_eq_true (by first | (with_reducible assumption) | assumption)
            obtain ⟨ad468, A468_3, c468_3, e468, hx468_0, hx468_1, hx468_2, hx468_3, hl468_3, hi468_3⟩ := at_T24 (Kd.V_reads' HO_0.out).2.2 x6_1 p468 q468
            cases e468
            obtain ⟨ce468, hce468, hMe468, hcc468⟩ := Kd.V_get HO_0.out z24 x6_1 p468 (by first | exact q468 | exact of_decide_eq_true (by first | (with_reducible assumption) | assumption) | (have e_ := (Kd.V_reads' HO_0.out).1; omega))
            obtain ⟨ua468_3, uc468_3, rfl, ul468_3, ge468_3⟩ := k24_openF hMe468
            have hv468_3 := hcc468 3 _ rfl
            rw [add_field _ _ 3 (by omega)] at hv468_3
            replace hv468_3 := Option.some.inj (hv468_3.symm.trans hx468_3)
            injection hv468_3 with hva_ hvn_ hvc_
            rw [hva_] at ge468_3
            rw [hvc_] at ul468_3
            have HL468_3 := Aside0.mk (show Kd.V k24 24 _ w.heap.size _ _ ((rd_T24 l0 x6_1).f3) from Kd.V_mk ul468_3 ge468_3)
            clear hva_ hvn_ hvc_ ge468_3 ul468_3
            clear hcc468 hce468
            have HR468_3 := Aside0.mk hi468_3
            have HC468_3 := Aside0.mk hl468_3
            clear hi468_3 hl468_3
            replace p468 := eq_true p468
            replace q468 := eq_true q468
            obtain ⟨Ao16, co16, eo16⟩ := Kd.V_slice HO_468003.out
            (first | subst eo16 | (injection eo16 with f1_ f2_ f3_; have f4_ := f1_.symm; have f5_ := f3_.symm; clear f1_ f2_ f3_; subst f4_; subst f5_))
            refine start_ (n := 8) (S := fun w' => w'.cell? ⟨gb467, 0, none⟩ = some (.int .i64 x468000_1) ∧ w'.cell? ⟨gb467, 1, none⟩ = some (.string x468001_1) ∧ w'.cell? ⟨gb467, 2, none⟩ = some (.int .i64 x468002_1) ∧ w'.cell? ⟨gb467, 3, none⟩ = some (.slice Ao16 x468003_1.length co16) ∧ w'.cell? (ad468.add ((x6_1).toNat * 4)) = some (.int .i64 ((rd_T24 l0 x6_1).f0)) ∧ w'.cell? ⟨(ad468.add ((x6_1).toNat * 4)).block, (ad468.add ((x6_1).toNat * 4)).off + 1, none⟩ = some (.string ((rd_T24 l0 x6_1).f1)) ∧ w'.cell? ⟨(ad468.add ((x6_1).toNat * 4)).block, (ad468.add ((x6_1).toNat * 4)).off + 2, none⟩ = some (.int .i64 ((rd_T24 l0 x6_1).f2)) ∧ w'.cell? ⟨(ad468.add ((x6_1).toNat * 4)).block, (ad468.add ((x6_1).toNat * 4)).off + 3, none⟩ = some (.slice A468_3 ((rd_T24 l0 x6_1).f3).length c468_3)) (ds := [7]) #[false, false, false, false, false, false, false, false] (by kernel_rfl) rfl rfl ⟨(blk_cell BK467.out 0).trans rfl, (blk_cell BK467.out 1).trans rfl, (blk_cell BK467.out 2).trans rfl, (blk_cell BK467.out 3).trans rfl, hx468_0, hx468_1, hx468_2, hx468_3⟩ (fun hHeld => ?_); refine with_tabW pythiaref07_List.tab5 pythiaref07_List.bits5 (fun HT_ HW_ => ?_)
            generalize wr.drew = w15 at HO_0 HO_466003 HO_468003 BK465 BK466 BK467 HB HL468_3 HR468_3 hx468_0 hx468_1 hx468_2 hx468_3 hHeld ⊢
            refine pure_ (i := 0) (N := some 15) (v := ?_) (a' := ?_) #[true, false, false, false, false, false, false, false] rfl rfl (any_of HT_.out (by kernel_rfl)) (fun _ _ _ h => h) (Or.inl ⟨by rfl, ?_⟩) ?_ ?_
            rotate_left
            · intro w'
              go_simp
              with_reducible rfl
            rotate_left
            · simp only [Act.put, List.setIfInBounds_toArray, List.set_cons_zero, List.set_cons_succ, i64_w, i32_w]
              rfl
            refine pure_ (i := 1) (N := some 16) (v := ?_) (a' := ?_) #[true, true, false, false, false, false, false, false] rfl rfl (any_of HT_.out (by kernel_rfl)) (fun _ _ _ h => h) (Or.inl ⟨by rfl, ?_⟩) ?_ ?_
            rotate_left
            · intro w'
              go_simp
              with_reducible rfl
            rotate_left
            · simp only [Act.put, List.setIfInBounds_toArray, List.set_cons_zero, List.set_cons_succ, i64_w, i32_w]
              rfl
            refine pure_ (i := 2) (N := some 17) (v := ?_) (a' := ?_) #[true, true, true, false, false, false, false, false] rfl rfl (any_of HT_.out (by kernel_rfl)) (fun _ _ _ h => h) (Or.inl ⟨by rfl, ?_⟩) ?_ ?_
            rotate_left
            · intro w'
              go_simp
              with_reducible rfl
            rotate_left
            · simp only [Act.put, List.setIfInBounds_toArray, List.set_cons_zero, List.set_cons_succ, i64_w, i32_w]
              rfl
            refine take_ (i := 3) (N := some 18) (v := ?_) (a' := ?_) #[true, true, true, true, false, false, false, false] rfl rfl (take_ofW HT_.out HW_.out (by kernel_rfl)) (fun _ _ _ h => h) (Or.inl ⟨by rfl, ?_⟩) hHeld ?_ ?_
            rotate_left
            · rintro w' ⟨s0, s1, s2, s3, s4, s5, s6, s7⟩
              go_simp
              with_reducible rfl
            rotate_left
            · simp only [Act.put, List.setIfInBounds_toArray, List.set_cons_zero, List.set_cons_succ, i64_w, i32_w]
              rfl
            refine take_ (i := 4) (N := some 19) (v := ?_) (a' := ?_) #[true, true, true, true, true, false, false, false] rfl rfl (take_ofW HT_.out HW_.out (by kernel_rfl)) (fun _ _ _ h => h) (Or.inl ⟨by rfl, ?_⟩) hHeld ?_ ?_
            rotate_left
            · rintro w' ⟨s0, s1, s2, s3, s4, s5, s6, s7⟩
              go_simp
              with_reducible rfl
            rotate_left
            · simp only [Act.put, List.setIfInBounds_toArray, List.set_cons_zero, List.set_cons_succ, i64_w, i32_w]
              rfl
            refine one_ (i := 5) (N := some 20) #[true, true, true, true, true, true, false, false] rfl rfl (one_of HT_.out (by kernel_rfl)) (by decide) (fun K hK => ?_)
            refine Kd.N_lit_step k24 _ 24 ?hg (N' := 20) ?hd (xs := ([(⟨(rd_T24 l0 x6_1).f0, (rd_T24 l0 x6_1).f1, (rd_T24 l0 x6_1).f2, (rd_T24 l0 x6_1).f3⟩ : S24), (⟨x468000_1, x468001_1, x468002_1, x468003_1⟩ : S24)] : List (S24))) (inner := [.int .i64 ((rd_T24 l0 x6_1).f0), .string ((rd_T24 l0 x6_1).f1), .int .i64 ((rd_T24 l0 x6_1).f2), .slice A468_3 ((rd_T24 l0 x6_1).f3).length c468_3, .int .i64 x468000_1, .string x468001_1, .int .i64 x468002_1, .slice Ao16 x468003_1.length co16]) (ok := (fun k_ => ((P0_ k_ ∨ P1_3_ k_) ∨ w.heap.size ≤ k_) ∧ k_ ≠ gb465 ∧ k_ ≠ gb466 ∧ k_ ≠ gb467)) (okp := (fun k_ => ((P0_ k_ ∨ P1_3_ k_) ∨ w.heap.size ≤ k_) ∧ k_ ≠ gb465 ∧ k_ ≠ gb466 ∧ k_ ≠ gb467)) ?hr ?hp (fun _ hk => hk) ((show ∀ k_, w15.heap.size ≤ k_ → (fun k_ => ((P0_ k_ ∨ P1_3_ k_) ∨ w.heap.size ≤ k_) ∧ k_ ≠ gb465 ∧ k_ ≠ gb466 ∧ k_ ≠ gb467) k_ from fun k_ hk => ⟨(.inr (Nat.le_trans (below_size (by repeat (first | (with_reducible first | exact HB.out | apply below_alloc | apply pw_below_drewN | apply below_drew1 | refine below_set ?_ GE465.out | refine below_set ?_ GE466.out | refine below_set ?_ GE467.out) | exact HB.out))) hk)), Kd.freshB (g := gb465) (o := .cells #[.int .i64 a1_0, .string a1_1, .int .i64 a1_2, .slice A1_3 l1_3.length c1_3] 24 (0, 0)) (by (with_reducible repeat (first | refine blk_drewN ?_ _ | refine blk_drew ?_ | refine blk_alloc ?_ _)); exact BK465.out) k_ hk, Kd.freshB (g := gb466) (o := .cells #[.int .i64 0, .string (⟨#[]⟩ : ByteArray), .int .i64 0, .slice none 0 0] 24 (0, 0)) (by (with_reducible repeat (first | refine blk_drewN ?_ _ | refine blk_drew ?_ | refine blk_alloc ?_ _)); exact BK466.out) k_ hk, Kd.freshB (g := gb467) (o := .cells #[.int .i64 x468000_1, .string x468001_1, .int .i64 x468002_1, .slice Ao16 x468003_1.length co16] 24 (0, 0)) (by (with_reducible repeat (first | refine blk_drewN ?_ _ | refine blk_drew ?_ | refine blk_alloc ?_ _)); exact BK467.out) k_ hk⟩) _ (Nat.le_refl _)) (Below.refl _ _) (Nat.le_refl _) (by simp) ?_; (case hd => rfl); (case hg => rfl); (case hr => first | (go_simp; done) | (go_simp; rfl)); (case hp => exact (Reps.c4 (show Kd.FK k24 _ _ (⟨(rd_T24 l0 x6_1).f0, (rd_T24 l0 x6_1).f1, (rd_T24 l0 x6_1).f2, (rd_T24 l0 x6_1).f3⟩ : S24) [.int .i64 ((rd_T24 l0 x6_1).f0), .string ((rd_T24 l0 x6_1).f1), .int .i64 ((rd_T24 l0 x6_1).f2), .slice A468_3 ((rd_T24 l0 x6_1).f3).length c468_3] from (k24_mkF _ _ (⟨(rd_T24 l0 x6_1).f0, (rd_T24 l0 x6_1).f1, (rd_T24 l0 x6_1).f2, (rd_T24 l0 x6_1).f3⟩ : S24) (Kd.V_reads' (Kd.V_mono (ok' := (fun k_ => ((P0_ k_ ∨ P1_3_ k_) ∨ w.heap.size ≤ k_) ∧ k_ ≠ gb465 ∧ k_ ≠ gb466 ∧ k_ ≠ gb467)) (HL468_3.out) (fun k_ hk => ⟨hk.1, ⟨hk.2.1, ⟨hk.2.2.1, hk.2.2.2⟩⟩⟩))).2.1 (Kd.V_F (Kd.V_mono (ok' := (fun k_ => ((P0_ k_ ∨ P1_3_ k_) ∨ w.heap.size ≤ k_) ∧ k_ ≠ gb465 ∧ k_ ≠ gb466 ∧ k_ ≠ gb467)) (HL468_3.out) (fun k_ hk => ⟨hk.1, ⟨hk.2.1, ⟨hk.2.2.1, hk.2.2.2⟩⟩⟩))))) (Reps.c4 (show Kd.FK k24 _ _ (⟨x468000_1, x468001_1, x468002_1, x468003_1⟩ : S24) [.int .i64 x468000_1, .string x468001_1, .int .i64 x468002_1, .slice Ao16 x468003_1.length co16] from (k24_mkF _ _ (⟨x468000_1, x468001_1, x468002_1, x468003_1⟩ : S24) (Kd.V_reads' (Kd.V_mono (ok' := (fun k_ => ((P0_ k_ ∨ P1_3_ k_) ∨ w.heap.size ≤ k_) ∧ k_ ≠ gb465 ∧ k_ ≠ gb466 ∧ k_ ≠ gb467)) (HO_468003.out) (fun k_ hk => ⟨hk.1, ⟨hk.2.1, ⟨hk.2.2.1, hk.2.2.2⟩⟩⟩))).2.1 (Kd.V_F (Kd.V_mono (ok' := (fun k_ => ((P0_ k_ ∨ P1_3_ k_) ∨ w.heap.size ≤ k_) ∧ k_ ≠ gb465 ∧ k_ ≠ gb466 ∧ k_ ≠ gb467)) (HO_468003.out) (fun k_ hk => ⟨hk.1, ⟨hk.2.1, ⟨hk.2.2.1, hk.2.2.2⟩⟩⟩))))) (Reps.none _ _))))
            intro v470 w17 ho18 hb hg_ hnew_
            have HS4_ := (hb.cell (World.block_lt_of_cell? _ _ (hHeld.2.2.2.2.1))).trans (hHeld.2.2.2.2.1)
            have HS5_ := (hb.cell (World.block_lt_of_cell? _ _ (hHeld.2.2.2.2.2.1))).trans (hHeld.2.2.2.2.2.1)
            have HS6_ := (hb.cell (World.block_lt_of_cell? _ _ (hHeld.2.2.2.2.2.2.1))).trans (hHeld.2.2.2.2.2.2.1)
            have HS7_ := (hb.cell (World.block_lt_of_cell? _ _ (hHeld.2.2.2.2.2.2.2))).trans (hHeld.2.2.2.2.2.2.2)
            clear hg_ hnew_
            (first | rw [← Ny469.out] at ho18 | (simp only [Int.reduceToNat] at ho18; rw [← Ny469.out] at ho18))
            have n0_ := Aside0.mk (Kd.V_elder' (by (with_reducible repeat (first | apply Kd.V_alloc | apply Kd.V_drewN | apply Kd.V_drew)); exact HO_0.out) (Kd.N_base ho18) hb)
            have n1_ := Aside0.mk (Kd.V_elder' (by (with_reducible repeat (first | apply Kd.V_alloc | apply Kd.V_drewN | apply Kd.V_drew)); exact HO_466003.out) (Kd.N_base ho18) hb)
            have n2_ := Aside0.mk (Kd.V_elder' (by (with_reducible repeat (first | apply Kd.V_alloc | apply Kd.V_drewN | apply Kd.V_drew)); exact HO_468003.out) (Kd.N_base ho18) hb)
            have n3_ := Aside0.mk (Kd.V_elder' (by (with_reducible repeat (first | apply Kd.V_alloc | apply Kd.V_drewN | apply Kd.V_drew)); exact HL468_3.out) (Kd.N_base ho18) hb)
            have n4_ := Aside0.mk (Kd.N_lower ho18 (below_size (by repeat (first | (with_reducible first | exact HB.out | apply below_alloc | apply pw_below_drewN | apply below_drew1 | refine below_set ?_ GE465.out | refine below_set ?_ GE466.out | refine below_set ?_ GE467.out) | exact HB.out))))
            have n5_ := Aside0.mk (blk_below (g := gb465) (o := .cells #[.int .i64 a1_0, .string a1_1, .int .i64 a1_2, .slice A1_3 l1_3.length c1_3] 24 (0, 0)) (by (with_reducible repeat (first | refine blk_drewN ?_ _ | refine blk_drew ?_ | refine blk_alloc ?_ _)); exact BK465.out) hb)
            have n6_ := Aside0.mk (blk_below (g := gb466) (o := .cells #[.int .i64 0, .string (⟨#[]⟩ : ByteArray), .int .i64 0, .slice none 0 0] 24 (0, 0)) (by (with_reducible repeat (first | refine blk_drewN ?_ _ | refine blk_drew ?_ | refine blk_alloc ?_ _)); exact BK466.out) hb)
            have n7_ := Aside0.mk (blk_below (g := gb467) (o := .cells #[.int .i64 x468000_1, .string x468001_1, .int .i64 x468002_1, .slice Ao16 x468003_1.length co16] 24 (0, 0)) (by (with_reducible repeat (first | refine blk_drewN ?_ _ | refine blk_drew ?_ | refine blk_alloc ?_ _)); exact BK467.out) hb)
            have n8_ := Aside0.mk (Kd.C_below (by repeat (first | (with_reducible exact HR468_3.out) | (with_reducible refine Kd.C_alloc ?_ _) | (with_reducible refine Kd.C_drewN ?_ _) | (with_reducible refine Kd.C_drew ?_) | exact HR468_3.out)) hb)
            have n9_ := Aside0.mk (below_step (by repeat (first | (with_reducible first | exact HB.out | apply below_alloc | apply pw_below_drewN | apply below_drew1 | refine below_set ?_ GE465.out | refine below_set ?_ GE466.out | refine below_set ?_ GE467.out) | exact HB.out)) hb)
            clear HO_0
            clear HO_466003
            clear HO_468003
            clear HL468_3
            clear BK465
            clear BK466
            clear BK467
            clear HR468_3
            clear HB
            have HO_0 := n0_
            have HO_466003 := n1_
            have HO_468003 := n2_
            have HL468_3 := n3_
            have HO471 := n4_
            have BK465 := n5_
            have BK466 := n6_
            have BK467 := n7_
            have HR468_3 := n8_
            have HB := n9_
            clear n0_ n1_ n2_ n3_ n4_ n5_ n6_ n7_ n8_ n9_
            clear hb ho18
            obtain ⟨Ao19, co19, eo19⟩ := Kd.N_slice HO471.out
            (first | subst eo19 | (injection eo19 with f1_ f2_ f3_; have f4_ := f1_.symm; have f5_ := f3_.symm; clear f1_ f2_ f3_; subst f4_; subst f5_))
            refine hK.out _ _ ⟨(blk_cell BK467.out 0).trans rfl, (blk_cell BK467.out 1).trans rfl, (blk_cell BK467.out 2).trans rfl, (blk_cell BK467.out 3).trans rfl, HS4_, HS5_, HS6_, HS7_⟩ (fun hHeld => ?_)
            clear hK K
            refine norm_ (a' := ?_) ?_ ?_
            rotate_left
            · show Act.put _ (some 20) _ = _
              simp only [Act.put, List.setIfInBounds_toArray, List.set_cons_zero, List.set_cons_succ, i64_w, i32_w]
              rfl
            refine one_ (i := 6) (N := some 21) #[true, true, true, true, true, true, true, false] rfl rfl (one_of HT_.out (by kernel_rfl)) (by decide) (fun K hK => ?_)
            refine goes_ Try.func47 (by kernel_rfl) rfl #[.string (⟨#[46]⟩ : ByteArray), .slice Ao19 y469.length co19] (by rfl) rfl rfl (by (try simp only [List.map_toArray, List.map_cons, List.map_nil]); first | done | rfl | (simp only [List.length_drop, List.length_take]; rfl)) ?_
            with_reducible refine (pythiaref07_C.calls (⟨#[46]⟩ : ByteArray) (fun k_ => (((P0_ k_ ∨ P1_3_ k_) ∨ w.heap.size ≤ k_) ∧ (k_ ≠ gb465 ∧ (k_ ≠ gb466 ∧ k_ ≠ gb467)))) _ _ y469 t472 t473 t474 t475 _ ?side1 A14.out).mono ?_
            (case side1 => exact Kd.N_V (HO471.out))
            rintro e w20 ⟨v476, rfl, ho0, hb⟩
            have HS4_ := (hb.cell (World.block_lt_of_cell? _ _ (hHeld.2.2.2.2.1))).trans (hHeld.2.2.2.2.1)
            have HS5_ := (hb.cell (World.block_lt_of_cell? _ _ (hHeld.2.2.2.2.2.1))).trans (hHeld.2.2.2.2.2.1)
            have HS6_ := (hb.cell (World.block_lt_of_cell? _ _ (hHeld.2.2.2.2.2.2.1))).trans (hHeld.2.2.2.2.2.2.1)
            have HS7_ := (hb.cell (World.block_lt_of_cell? _ _ (hHeld.2.2.2.2.2.2.2))).trans (hHeld.2.2.2.2.2.2.2)
            refine ⟨_, rfl, ?_⟩
            have n0_ := Aside0.mk (Kd.V_below (by (with_reducible repeat (first | apply Kd.V_alloc | apply Kd.V_drewN | apply Kd.V_drew)); exact HO_0.out) hb)
            have n1_ := Aside0.mk (Kd.V_below (by (with_reducible repeat (first | apply Kd.V_alloc | apply Kd.V_drewN | apply Kd.V_drew)); exact HO_466003.out) hb)
            have n2_ := Aside0.mk (Kd.V_below (by (with_reducible repeat (first | apply Kd.V_alloc | apply Kd.V_drewN | apply Kd.V_drew)); exact HO_468003.out) hb)
            have n3_ := Aside0.mk (Kd.V_below (by (with_reducible repeat (first | apply Kd.V_alloc | apply Kd.V_drewN | apply Kd.V_drew)); exact HL468_3.out) hb)
            have n4_ := Aside0.mk (Kd.N_below (by (with_reducible repeat (first | apply Kd.N_alloc | apply Kd.N_drewN | apply Kd.N_drew)); exact HO471.out) hb)
            have n5_ := Aside0.mk (Kd.V_lower (Kd.V_mono (ok' := fun k_ => ((P0_ k_ ∨ P1_3_ k_) ∨ w.heap.size ≤ k_) ∧ k_ ≠ gb465 ∧ k_ ≠ gb466 ∧ k_ ≠ gb467) ho0 (fun k_ hk_ => ⟨Or.elim hk_ (fun hs_ => hs_.1) (fun hn_ => (.inr (Nat.le_trans (below_size (by repeat (first | (with_reducible first | exact HB.out | apply below_alloc | apply pw_below_drewN | apply below_drew1 | refine below_set ?_ GE465.out | refine below_set ?_ GE466.out | refine below_set ?_ GE467.out) | exact HB.out))) hn_))), Or.elim hk_ (fun hs_ => hs_.2.1) (fun hn_ => (Kd.freshB (g := gb465) (o := .cells #[.int .i64 a1_0, .string a1_1, .int .i64 a1_2, .slice A1_3 l1_3.length c1_3] 24 (0, 0)) (by (with_reducible repeat (first | refine blk_drewN ?_ _ | refine blk_drew ?_ | refine blk_alloc ?_ _)); exact BK465.out) k_ hn_)), Or.elim hk_ (fun hs_ => hs_.2.2.1) (fun hn_ => (Kd.freshB (g := gb466) (o := .cells #[.int .i64 0, .string (⟨#[]⟩ : ByteArray), .int .i64 0, .slice none 0 0] 24 (0, 0)) (by (with_reducible repeat (first | refine blk_drewN ?_ _ | refine blk_drew ?_ | refine blk_alloc ?_ _)); exact BK466.out) k_ hn_)), Or.elim hk_ (fun hs_ => hs_.2.2.2) (fun hn_ => (Kd.freshB (g := gb467) (o := .cells #[.int .i64 x468000_1, .string x468001_1, .int .i64 x468002_1, .slice Ao16 x468003_1.length co16] 24 (0, 0)) (by (with_reducible repeat (first | refine blk_drewN ?_ _ | refine blk_drew ?_ | refine blk_alloc ?_ _)); exact BK467.out) k_ hn_))⟩)) (below_size (by repeat (first | (with_reducible first | exact HB.out | apply below_alloc | apply pw_below_drewN | apply below_drew1 | refine below_set ?_ GE465.out | refine below_set ?_ GE466.out | refine below_set ?_ GE467.out) | exact HB.out))))
            have n6_ := Aside0.mk (blk_below (g := gb465) (o := .cells #[.int .i64 a1_0, .string a1_1, .int .i64 a1_2, .slice A1_3 l1_3.length c1_3] 24 (0, 0)) (by (with_reducible repeat (first | refine blk_drewN ?_ _ | refine blk_drew ?_ | refine blk_alloc ?_ _)); exact BK465.out) hb)
            have n7_ := Aside0.mk (blk_below (g := gb466) (o := .cells #[.int .i64 0, .string (⟨#[]⟩ : ByteArray), .int .i64 0, .slice none 0 0] 24 (0, 0)) (by (with_reducible repeat (first | refine blk_drewN ?_ _ | refine blk_drew ?_ | refine blk_alloc ?_ _)); exact BK466.out) hb)
            have n8_ := Aside0.mk (blk_below (g := gb467) (o := .cells #[.int .i64 x468000_1, .string x468001_1, .int .i64 x468002_1, .slice Ao16 x468003_1.length co16] 24 (0, 0)) (by (with_reducible repeat (first | refine blk_drewN ?_ _ | refine blk_drew ?_ | refine blk_alloc ?_ _)); exact BK467.out) hb)
            have n9_ := Aside0.mk (Kd.C_below (by repeat (first | (with_reducible exact HR468_3.out) | (with_reducible refine Kd.C_alloc ?_ _) | (with_reducible refine Kd.C_drewN ?_ _) | (with_reducible refine Kd.C_drew ?_) | exact HR468_3.out)) hb)
            have n10_ := Aside0.mk (below_step (by repeat (first | (with_reducible first | exact HB.out | apply below_alloc | apply pw_below_drewN | apply below_drew1 | refine below_set ?_ GE465.out | refine below_set ?_ GE466.out | refine below_set ?_ GE467.out) | exact HB.out)) hb)
            clear HO_0
            clear HO_466003
            clear HO_468003
            clear HL468_3
            clear HO471
            clear BK465
            clear BK466
            clear BK467
            clear HR468_3
            clear HB
            have HO_0 := n0_
            have HO_466003 := n1_
            have HO_468003 := n2_
            have HL468_3 := n3_
            have HO471 := n4_
            have HO477 := n5_
            have BK465 := n6_
            have BK466 := n7_
            have BK467 := n8_
            have HR468_3 := n9_
            have HB := n10_
            clear n0_ n1_ n2_ n3_ n4_ n5_ n6_ n7_ n8_ n9_ n10_
            (try clear hb)
            (try clear hb2)
            (try clear hk)
            (try clear hi)
            (try clear ho0)
            obtain ⟨Ao24, co24, eo24⟩ := Kd.V_slice HO477.out
            (first | subst eo24 | (injection eo24 with f1_ f2_ f3_; have f4_ := f1_.symm; have f5_ := f3_.symm; clear f1_ f2_ f3_; subst f4_; subst f5_))
            refine hK.out _ _ ⟨(blk_cell BK467.out 0).trans rfl, (blk_cell BK467.out 1).trans rfl, (blk_cell BK467.out 2).trans rfl, (blk_cell BK467.out 3).trans rfl, HS4_, HS5_, HS6_, HS7_⟩ (fun hHeld => ?_)
            clear hK K
            refine norm_ (a' := ?_) ?_ ?_
            rotate_left
            · show Act.put _ (some 21) _ = _
              simp only [Act.put, List.setIfInBounds_toArray, List.set_cons_zero, List.set_cons_succ, i64_w, i32_w]
              rfl
            refine last_ (i := 7) (N := none) #[true, true, true, true, true, true, true, true] rfl rfl (one_of HT_.out (by kernel_rfl)) (by decide) (fun K hK => ?_)
            have hs21 : w20.cell? ⟨gb467, 0, none⟩ = some (.int .i64 x468000_1) := (blk_cell BK467.out 0).trans rfl
            have hfs21 := blk_frozen BK467.out 0
            have hns21_0 := NB465_467.out
            have hns21_1 := NB466_467.out
            have hms21_0 := NB467_465.out
            have hms21_1 := NB467_466.out
            have hs22 : w20.cell? ⟨gb467, 1, none⟩ = some (.string x468001_1) := (blk_cell BK467.out 1).trans rfl
            have hfs22 := blk_frozen BK467.out 1
            have hns22_0 := NB465_467.out
            have hns22_1 := NB466_467.out
            have hms22_0 := NB467_465.out
            have hms22_1 := NB467_466.out
            have hs23 : w20.cell? ⟨gb467, 2, none⟩ = some (.int .i64 x468002_1) := (blk_cell BK467.out 2).trans rfl
            have hfs23 := blk_frozen BK467.out 2
            have hns23_0 := NB465_467.out
            have hns23_1 := NB466_467.out
            have hms23_0 := NB467_465.out
            have hms23_1 := NB467_466.out
            have hs25 : w20.cell? ⟨gb467, 3, none⟩ = some (.slice Ao16 x468003_1.length co16) := (blk_cell BK467.out 3).trans rfl
            have hfs25 := blk_frozen BK467.out 3
            have hns25_0 := NB465_467.out
            have hns25_1 := NB466_467.out
            have hms25_0 := NB467_465.out
            have hms25_1 := NB467_466.out
            refine skip_ (w1 := ?_) (by rfl) rfl ?_ ?_
            rotate_left
            · go_simp
              rfl
            refine hK.out _ _ ?_
            clear hK K
            refine done_ (done_of HT_.out (by kernel_rfl)) ?_
            try go_wp2
            go_roundg k1
            case measure => have := HK1.out; omega
            case rel => exact ⟨(wrap64 (x6_1 - 1)), (t472), (t473), (t474), (t475), (.slice Ao24 t475.length co24), (by first | rfl | (simp; done) | (simp [*]; done)), H', ⟨by have := HK1.out; omega⟩, ⟨by (with_reducible repeat (first | apply Kd.V_alloc | apply Kd.V_drewN | apply Kd.V_drew)); exact Kd.V_mono (Kd.V_far (p := ⟨gb467, 3, none⟩) (Kd.V_far (p := ⟨gb467, 2, none⟩) (Kd.V_far (p := ⟨gb467, 1, none⟩) (Kd.V_far (p := ⟨gb467, 0, none⟩) (Kd.V_mono HO_0.out (fun k_ hk => (⟨hk, hk.1.2.2.2⟩ : _ ∧ k_ ≠ gb467))) (fun _ hk => hk.2) (.int .i64 t472)) (fun _ hk => hk.2) (.string t473)) (fun _ hk => hk.2) (.int .i64 t474)) (fun _ hk => hk.2) (.slice Ao24 t475.length co24)) (fun _ hk => ⟨hk.1.1.1, ⟨hk.1.1.2.1, ⟨hk.1.1.2.2.1, hk.1.1.2.2.2⟩⟩⟩)⟩, ⟨by (with_reducible repeat (first | apply Kd.V_alloc | apply Kd.V_drewN | apply Kd.V_drew)); exact Kd.V_mono (Kd.V_far (p := ⟨gb467, 3, none⟩) (Kd.V_far (p := ⟨gb467, 2, none⟩) (Kd.V_far (p := ⟨gb467, 1, none⟩) (Kd.V_far (p := ⟨gb467, 0, none⟩) (Kd.V_mono HO_466003.out (fun k_ hk => (⟨hk, hk.1.2.2.2⟩ : _ ∧ k_ ≠ gb467))) (fun _ hk => hk.2) (.int .i64 t472)) (fun _ hk => hk.2) (.string t473)) (fun _ hk => hk.2) (.int .i64 t474)) (fun _ hk => hk.2) (.slice Ao24 t475.length co24)) (fun _ hk => ⟨hk.1.1.1, ⟨hk.1.1.2.1, ⟨hk.1.1.2.2.1, hk.1.1.2.2.2⟩⟩⟩)⟩, ⟨by (with_reducible repeat (first | apply Kd.V_alloc | apply Kd.V_drewN | apply Kd.V_drew)); exact Kd.V_mono (Kd.V_far (p := ⟨gb467, 3, none⟩) (Kd.V_far (p := ⟨gb467, 2, none⟩) (Kd.V_far (p := ⟨gb467, 1, none⟩) (Kd.V_far (p := ⟨gb467, 0, none⟩) (Kd.V_mono HO477.out (fun k_ hk => (⟨hk, hk.2.2.2⟩ : _ ∧ k_ ≠ gb467))) (fun _ hk => hk.2) (.int .i64 t472)) (fun _ hk => hk.2) (.string t473)) (fun _ hk => hk.2) (.int .i64 t474)) (fun _ hk => hk.2) (.slice Ao24 t475.length co24)) (fun _ hk => ⟨hk.1.1, ⟨hk.1.2.1, ⟨hk.1.2.2.1, hk.1.2.2.2⟩⟩⟩)⟩, ⟨by (with_reducible repeat (first | refine blk_drewN ?_ _ | refine blk_drew ?_ | refine blk_alloc ?_ _)); refine blk_far ?_ NB465_467.out _; (with_reducible repeat (first | refine blk_drewN ?_ _ | refine blk_drew ?_ | refine blk_alloc ?_ _)); refine blk_far ?_ NB465_467.out _; (with_reducible repeat (first | refine blk_drewN ?_ _ | refine blk_drew ?_ | refine blk_alloc ?_ _)); refine blk_far ?_ NB465_467.out _; (with_reducible repeat (first | refine blk_drewN ?_ _ | refine blk_drew ?_ | refine blk_alloc ?_ _)); refine blk_far ?_ NB465_467.out _; (with_reducible repeat (first | refine blk_drewN ?_ _ | refine blk_drew ?_ | refine blk_alloc ?_ _)); exact BK465.out⟩, ⟨by (with_reducible repeat (first | refine blk_drewN ?_ _ | refine blk_drew ?_ | refine blk_alloc ?_ _)); refine blk_far ?_ NB466_467.out _; (with_reducible repeat (first | refine blk_drewN ?_ _ | refine blk_drew ?_ | refine blk_alloc ?_ _)); refine blk_far ?_ NB466_467.out _; (with_reducible repeat (first | refine blk_drewN ?_ _ | refine blk_drew ?_ | refine blk_alloc ?_ _)); refine blk_far ?_ NB466_467.out _; (with_reducible repeat (first | refine blk_drewN ?_ _ | refine blk_drew ?_ | refine blk_alloc ?_ _)); refine blk_far ?_ NB466_467.out _; (with_reducible repeat (first | refine blk_drewN ?_ _ | refine blk_drew ?_ | refine blk_alloc ?_ _)); exact BK466.out⟩, ⟨by (with_reducible repeat (first | refine blk_drewN ?_ _ | refine blk_drew ?_ | refine blk_alloc ?_ _)); refine blk_put (cs := #[.int .i64 t472, .string t473, .int .i64 t474, .slice Ao16 x468003_1.length co16]) ?_ 3 _ rfl; (with_reducible repeat (first | refine blk_drewN ?_ _ | refine blk_drew ?_ | refine blk_alloc ?_ _)); refine blk_put (cs := #[.int .i64 t472, .string t473, .int .i64 x468002_1, .slice Ao16 x468003_1.length co16]) ?_ 2 _ rfl; (with_reducible repeat (first | refine blk_drewN ?_ _ | refine blk_drew ?_ | refine blk_alloc ?_ _)); refine blk_put (cs := #[.int .i64 t472, .string x468001_1, .int .i64 x468002_1, .slice Ao16 x468003_1.length co16]) ?_ 1 _ rfl; (with_reducible repeat (first | refine blk_drewN ?_ _ | refine blk_drew ?_ | refine blk_alloc ?_ _)); refine blk_put (cs := #[.int .i64 x468000_1, .string x468001_1, .int .i64 x468002_1, .slice Ao16 x468003_1.length co16]) ?_ 0 _ rfl; (with_reducible repeat (first | refine blk_drewN ?_ _ | refine blk_drew ?_ | refine blk_alloc ?_ _)); exact BK467.out⟩, ⟨by repeat (first | (with_reducible first | exact HB.out | apply below_alloc | apply pw_below_drewN | apply below_drew1 | refine below_set ?_ GE465.out | refine below_set ?_ GE466.out | refine below_set ?_ GE467.out) | exact HB.out)⟩⟩
          · rw [if_neg c13] at H
            exact absurd H (by simp)
        · rw [if_neg c12] at H
          exact absurd H (by simp)
      · rw [if_neg c11] at H
        have c11b0 : decide (0 ≤ x6_1) = false := decide_eq_false c11
        clear c11
        simp only [Option.some.injEq, Prod.mk.injEq] at H
        obtain ⟨rfl, rfl, rfl, rfl⟩ := H
        have hnb26 := NB467_465.out
        have hnc26 := NB465_467.out
        have hnb27 := NB467_466.out
        have hnc27 := NB466_467.out
        have hcz28_0 : wr.cell? ⟨gb467, 0, none⟩ = some (.int .i64 x468000_1) := (blk_cell BK467.out 0).trans rfl
        have hcz28_1 : wr.cell? ⟨gb467, 1, none⟩ = some (.string x468001_1) := (blk_cell BK467.out 1).trans rfl
        have hcz28_2 : wr.cell? ⟨gb467, 2, none⟩ = some (.int .i64 x468002_1) := (blk_cell BK467.out 2).trans rfl
        have hcz28_3 : wr.cell? ⟨gb467, 3, none⟩ = some (u468003) := (blk_cell BK467.out 3).trans rfl
        have hfz28_0 := blk_frozen BK467.out 0
        have hfz28_1 := blk_frozen BK467.out 1
        have hfz28_2 := blk_frozen BK467.out 2
        have hfz28_3 := blk_frozen BK467.out 3
        have hnb29 := NB466_465.out
        have hnc29 := NB465_466.out
        have hcz30_0 : wr.cell? ⟨gb466, 0, none⟩ = some (.int .i64 0) := (blk_cell BK466.out 0).trans rfl
        have hcz30_1 : wr.cell? ⟨gb466, 1, none⟩ = some (.string (⟨#[]⟩ : ByteArray)) := (blk_cell BK466.out 1).trans rfl
        have hcz30_2 : wr.cell? ⟨gb466, 2, none⟩ = some (.int .i64 0) := (blk_cell BK466.out 2).trans rfl
        have hcz30_3 : wr.cell? ⟨gb466, 3, none⟩ = some (.slice none 0 0) := (blk_cell BK466.out 3).trans rfl
        have hfz30_0 := blk_frozen BK466.out 0
        have hfz30_1 := blk_frozen BK466.out 1
        have hfz30_2 := blk_frozen BK466.out 2
        have hfz30_3 := blk_frozen BK466.out 3
        obtain ⟨Ao31, co31, eo31⟩ := Kd.V_slice HO_468003.out
        subst eo31
        go_wp2
        refine bodyPost_ret (results_cell_row rfl _ _ gb466 24 #[.int .i64 x468000_1, .string x468001_1, .int .i64 x468002_1, .slice Ao31 x468003_1.length co31] (0, 0) _ rfl (by (with_reducible repeat (first | refine blk_drewN ?_ _ | refine blk_drew ?_ | refine blk_alloc ?_ _)); refine blk_put (cs := #[.int .i64 x468000_1, .string x468001_1, .int .i64 x468002_1, .slice none 0 0]) ?_ 3 _ rfl; (with_reducible repeat (first | refine blk_drewN ?_ _ | refine blk_drew ?_ | refine blk_alloc ?_ _)); refine blk_put (cs := #[.int .i64 x468000_1, .string x468001_1, .int .i64 0, .slice none 0 0]) ?_ 2 _ rfl; (with_reducible repeat (first | refine blk_drewN ?_ _ | refine blk_drew ?_ | refine blk_alloc ?_ _)); refine blk_put (cs := #[.int .i64 x468000_1, .string (⟨#[]⟩ : ByteArray), .int .i64 0, .slice none 0 0]) ?_ 1 _ rfl; (with_reducible repeat (first | refine blk_drewN ?_ _ | refine blk_drew ?_ | refine blk_alloc ?_ _)); refine blk_put (cs := #[.int .i64 0, .string (⟨#[]⟩ : ByteArray), .int .i64 0, .slice none 0 0]) ?_ 0 _ rfl; (with_reducible repeat (first | refine blk_drewN ?_ _ | refine blk_drew ?_ | refine blk_alloc ?_ _)); exact BK466.out) Try.underlying24 rfl (by kernel_rfl)) rfl ?_
        exact ⟨_, by first | rfl | (simp [errW_none, errW_some] <;> rfl) | (simp [*, errW_none, errW_some] <;> rfl), by (with_reducible repeat (first | apply Kd.V_alloc | apply Kd.V_drewN | apply Kd.V_drew)); exact Kd.V_mono (Kd.V_far (p := ⟨gb466, 3, none⟩) (Kd.V_far (p := ⟨gb466, 2, none⟩) (Kd.V_far (p := ⟨gb466, 1, none⟩) (Kd.V_far (p := ⟨gb466, 0, none⟩) (Kd.V_mono HO_468003.out (fun k_ hk => (⟨hk, hk.2.2.1⟩ : _ ∧ k_ ≠ gb466))) (fun _ hk => hk.2) (.int .i64 x468000_1)) (fun _ hk => hk.2) (.string x468001_1)) (fun _ hk => hk.2) (.int .i64 x468002_1)) (fun _ hk => hk.2) (.slice Ao31 x468003_1.length co31)) (fun _ hk => hk.1.1), by repeat (first | (with_reducible first | exact HB.out | apply below_alloc | apply pw_below_drewN | apply below_drew1 | refine below_set ?_ GE465.out | refine below_set ?_ GE466.out | refine below_set ?_ GE467.out) | exact HB.out)⟩


/-! ### pythiaref07_Items: function 42 -/
def pythiaref07_Items.l0 : Nat → List (S24) → Int → ByteArray → Int → List (S24) → Option ((List (S24)) × Int × ByteArray × Int × (List (S24)))
  | 0, _, _, _, _, _ => none
  | k + 1, x4, x479000, x479001, x479002, x479003 => if x479000 = 4 then (if x479001.toList = ([46] : List UInt8) then (if (x479003.length : Int) = 2 then (if 0 < (x479003.length : Int) then (if x4.length < 2513169434916 then (if 1 < (x479003.length : Int) then (pythiaref07_Items.l0 k (x4 ++ [(⟨(rd_T24 x479003 0).f0, (rd_T24 x479003 0).f1, (rd_T24 x479003 0).f2, (rd_T24 x479003 0).f3⟩ : S24)]) ((rd_T24 x479003 1).f0) ((rd_T24 x479003 1).f1) ((rd_T24 x479003 1).f2) ((rd_T24 x479003 1).f3)) else (none)) else (none)) else (none)) else (some (x4, x479000, x479001, x479002, x479003))) else (some (x4, x479000, x479001, x479002, x479003))) else (some (x4, x479000, x479001, x479002, x479003))
def pythiaref07_Items.f (k : Nat) (a0_0 : Int) (a0_1 : ByteArray) (a0_2 : Int) (l0_3 : List (S24)) : Option ((List (S24)) × Int × ByteArray × Int × (List (S24))) := pythiaref07_Items.l0 k (([] : List (S24))) a0_0 a0_1 a0_2 l0_3
theorem pythiaref07_Items.mono_l : ∀ k, (∀ y0 y1 y2 y3 y4, LeO (pythiaref07_Items.l0 k y0 y1 y2 y3 y4) (pythiaref07_Items.l0 (k + 1) y0 y1 y2 y3 y4))
  | 0 => fun _ _ _ _ _ r h => by simp [pythiaref07_Items.l0] at h
  | k + 1 => by
    have ih0 := pythiaref07_Items.mono_l k
    · intro y0 y1 y2 y3 y4
      unfold pythiaref07_Items.l0
      repeat' first
      | (with_reducible exact ih0 _ _ _ _ _)
      | (with_reducible exact LeO.refl _)
      | (with_reducible exact LeO.none _)
      | (with_reducible refine LeO.ite ?_ ?_)
      | (with_reducible refine LeO.bind ?_ (fun _ => ?_))
      | exact ih0 _ _ _ _ _
      | exact LeO.none _
      | refine LeO.ite ?_ ?_
      | refine LeO.bind ?_ (fun _ => ?_)
theorem pythiaref07_Items.mono : ∀ a0 a1 a2 a3 k, LeO (pythiaref07_Items.f k a0 a1 a2 a3) (pythiaref07_Items.f (k + 1) a0 a1 a2 a3) := by
  intro a0 a1 a2 a3 k
  have ih0 := pythiaref07_Items.mono_l k
  unfold pythiaref07_Items.f
  repeat' first
      | (with_reducible exact ih0 _ _ _ _ _)
      | (with_reducible exact LeO.refl _)
      | (with_reducible exact LeO.none _)
      | (with_reducible refine LeO.ite ?_ ?_)
      | (with_reducible refine LeO.bind ?_ (fun _ => ?_))
      | exact ih0 _ _ _ _ _
      | exact LeO.none _
      | refine LeO.ite ?_ ?_
      | refine LeO.bind ?_ (fun _ => ?_)
set_option maxHeartbeats 8000000 in
set_option maxRecDepth 100000 in
theorem pythiaref07_Items.calls (k : Nat) (a0_0 : Int) (a0_1 : ByteArray) (a0_2 : Int) (P0_3_ : Nat → Prop) (A0_3 : Option Addr) (c0_3 : Nat) (l0_3 : List (S24)) (r1 : List (S24)) (r2 : Int) (r3 : ByteArray) (r4 : Int) (r5 : List (S24)) (w : World) (hs0_3 : Kd.V k24 24 w w.heap.size (fun k_ => P0_3_ k_) (.slice A0_3 l0_3.length c0_3) l0_3) (h : pythiaref07_Items.f k a0_0 a0_1 a0_2 l0_3 = some (r1, r2, r3, r4, r5)) :
    Calls Try.prog 42 #[.agg #[.int .i64 a0_0, .string a0_1, .int .i64 a0_2, .slice A0_3 l0_3.length c0_3]] w fun e w' => ∃ v0_ v4_ : Value, e = .returned (.tuple #[v0_, .agg #[.int .i64 r2, .string r3, .int .i64 r4, v4_]]) ∧ Kd.N k24 24 w' w.heap.size (fun k_ => (P0_3_ k_ ∨ w.heap.size ≤ k_)) v0_ r1 ∧ Kd.V k24 24 w' w.heap.size (fun k_ => (P0_3_ k_ ∨ w.heap.size ≤ k_) ∧ some k_ ≠ (v0_ : Value).ownBlock) v4_ r5 ∧ Below w.heap.size w w' := by
  have hu24 := Try.underlying24
  have HO0_3 := Aside0.mk (show Kd.V k24 24 w w.heap.size (fun k_ => (P0_3_ k_ ∨ w.heap.size ≤ k_)) (.slice A0_3 l0_3.length c0_3) l0_3 from Kd.V_mono hs0_3 (fun k_ hk => .inl hk))
  have HB := Aside0.mk (Below.refl w.heap.size w)
  have H : (pythiaref07_Items.l0 k (([] : List (S24))) a0_0 a0_1 a0_2 l0_3) = some (r1, r2, r3, r4, r5) := h
  clear h
  obtain ⟨y480, hy480⟩ : ∃ y_ : List (S24), y_ = (([] : List (S24))) := ⟨_, rfl⟩
  replace H : (pythiaref07_Items.l0 k y480 a0_0 a0_1 a0_2 l0_3) = some (r1, r2, r3, r4, r5) := by first | (rw [hy480]; with_reducible exact H) | (have H2_ := (Option.bind_some _ _).symm.trans H; rw [hy480]; with_reducible exact H2_) | (have H2_ := (Option.bind_some _ _).symm.trans H; with_reducible exact H2_) | with_reducible exact H | (rw [hy480]; exact H) | exact H
  have Ny480 := Aside0.mk hy480
  clear hy480
  have H' := Aside0.mk H
  clear H
  go_enter Try.func42, Try.ntmps42
  go_wp2_with (first | ((with_reducible refine gate_dst (N := 1) rfl ?_); (try (refine gate_guard (by rfl) ?_; dsimp only)); refine box_event ?hg (N := 1) ?hd (cs := #[.int .i64 a0_0, .string a0_1, .int .i64 a0_2, .slice A0_3 l0_3.length c0_3]) (t := 24) ?hr ?_; (case hd => rfl); (case hg => rfl); (case hr => first | (go_simp; done) | (go_simp; rfl)); intro gb478 hg w2 hbox hb; have n0_ := Aside0.mk (Kd.V_below (Kd.V_elderB (by (with_reducible repeat (first | apply Kd.V_alloc | apply Kd.V_drewN | apply Kd.V_drew)); exact HO0_3.out) gb478 (Nat.le_of_eq hg.symm)) hb); have n1_ := Aside0.mk (below_step (by repeat (first | (with_reducible first | exact HB.out | apply below_alloc | apply pw_below_drewN | apply below_drew1) | exact HB.out)) hb); have n2_ := Aside0.mk (hbox); have n3_ := Aside0.mk ((by rw [hg]; exact (below_size (by repeat (first | (with_reducible first | exact HB.out | apply below_alloc | apply pw_below_drewN | apply below_drew1) | exact HB.out))) : w.heap.size ≤ gb478)); have n4_ := Aside0.mk ((by rw [hg]; exact (below_size (by repeat (first | (with_reducible first | exact HB.out | apply below_alloc | apply pw_below_drewN | apply below_drew1) | exact HB.out))) : w.heap.size ≤ gb478)); clear HO0_3; clear HB; have HO0_3 := n0_; have HB := n1_; have BK478 := n2_; have GW478 := n3_; have GE478 := n4_; clear n0_ n1_ n2_ n3_ n4_; clear hb hbox hg) | ((with_reducible refine gate_dst (N := 3) rfl ?_); (try (refine gate_guard (by rfl) ?_; dsimp only)); refine box_event ?hg (N := 3) ?hd (cs := #[.int .i64 0, .string (⟨#[]⟩ : ByteArray), .int .i64 0, .slice none 0 0]) (t := 24) ?hr ?_; (case hd => rfl); (case hg => rfl); (case hr => first | (go_simp; done) | (go_simp; rfl)); intro gb479 hg w3 hbox hb; have n0_ := Aside0.mk (Kd.V_below (Kd.V_elderB (by (with_reducible repeat (first | apply Kd.V_alloc | apply Kd.V_drewN | apply Kd.V_drew)); exact HO0_3.out) gb479 (Nat.le_of_eq hg.symm)) hb); have n1_ := Aside0.mk (blk_below (g := gb478) (o := .cells #[.int .i64 a0_0, .string a0_1, .int .i64 a0_2, .slice A0_3 l0_3.length c0_3] 24 (0, 0)) (by (with_reducible repeat (first | refine blk_drewN ?_ _ | refine blk_drew ?_ | refine blk_alloc ?_ _)); exact BK478.out) hb); have n2_ := Aside0.mk (below_step (by repeat (first | (with_reducible first | exact HB.out | apply below_alloc | apply pw_below_drewN | apply below_drew1 | refine below_set ?_ GE478.out) | exact HB.out)) hb); have n3_ := Aside0.mk (hbox); have n4_ := Aside0.mk ((by rw [hg]; exact (below_size (by repeat (first | (with_reducible first | exact HB.out | apply below_alloc | apply pw_below_drewN | apply below_drew1 | refine below_set ?_ GE478.out) | exact HB.out))) : w.heap.size ≤ gb479)); have n5_ := Aside0.mk ((by rw [hg]; exact (below_size (by repeat (first | (with_reducible first | exact HB.out | apply below_alloc | apply pw_below_drewN | apply below_drew1 | refine below_set ?_ GE478.out) | exact HB.out))) : w.heap.size ≤ gb479)); have n6_ := Aside0.mk ((by rw [hg]; exact Nat.ne_of_lt (blk_lt (g := gb478) (o := .cells #[.int .i64 a0_0, .string a0_1, .int .i64 a0_2, .slice A0_3 l0_3.length c0_3] 24 (0, 0)) (by (with_reducible repeat (first | refine blk_drewN ?_ _ | refine blk_drew ?_ | refine blk_alloc ?_ _)); exact BK478.out)) : gb478 ≠ gb479)); have n7_ := Aside0.mk ((by rw [hg]; exact Nat.ne_of_gt (blk_lt (g := gb478) (o := .cells #[.int .i64 a0_0, .string a0_1, .int .i64 a0_2, .slice A0_3 l0_3.length c0_3] 24 (0, 0)) (by (with_reducible repeat (first | refine blk_drewN ?_ _ | refine blk_drew ?_ | refine blk_alloc ?_ _)); exact BK478.out)) : gb479 ≠ gb478)); clear HO0_3; clear BK478; clear HB; have HO0_3 := n0_; have BK478 := n1_; have HB := n2_; have BK479 := n3_; have GW479 := n4_; have GE479 := n5_; have NB478_479 := n6_; have NB479_478 := n7_; clear n0_ n1_ n2_ n3_ n4_ n5_ n6_ n7_; clear hb hbox hg) | ((with_reducible refine gate_dst (N := 5) rfl ?_); (try (refine gate_guard (by rfl) ?_; dsimp only)); refine Kd.N_lit k24 _ 24 ?hg (N' := 5) ?hd (xs := ([] : List (S24))) (inner := []) (ok := (fun k_ => (P0_3_ k_ ∨ w.heap.size ≤ k_) ∧ k_ ≠ gb478 ∧ k_ ≠ gb479)) (okp := (fun k_ => (P0_3_ k_ ∨ w.heap.size ≤ k_) ∧ k_ ≠ gb478 ∧ k_ ≠ gb479)) ?hr ?hp (fun _ hk => hk) ((show ∀ k_, w3.heap.size ≤ k_ → (fun k_ => (P0_3_ k_ ∨ w.heap.size ≤ k_) ∧ k_ ≠ gb478 ∧ k_ ≠ gb479) k_ from fun k_ hk => ⟨(.inr (Nat.le_trans (below_size (by repeat (first | (with_reducible first | exact HB.out | apply below_alloc | apply pw_below_drewN | apply below_drew1 | refine below_set ?_ GE478.out | refine below_set ?_ GE479.out) | exact HB.out))) hk)), Kd.freshB (g := gb478) (o := .cells #[.int .i64 a0_0, .string a0_1, .int .i64 a0_2, .slice A0_3 l0_3.length c0_3] 24 (0, 0)) (by (with_reducible repeat (first | refine blk_drewN ?_ _ | refine blk_drew ?_ | refine blk_alloc ?_ _)); exact BK478.out) k_ hk, Kd.freshB (g := gb479) (o := .cells #[.int .i64 0, .string (⟨#[]⟩ : ByteArray), .int .i64 0, .slice none 0 0] 24 (0, 0)) (by (with_reducible repeat (first | refine blk_drewN ?_ _ | refine blk_drew ?_ | refine blk_alloc ?_ _)); exact BK479.out) k_ hk⟩) _ (Nat.le_refl _)) (Below.refl _ _) (Nat.le_refl _) (by simp) ?_; (case hd => rfl); (case hg => rfl); (case hr => first | (go_simp; done) | (go_simp; rfl)); (case hp => exact (Reps.none _ _)); intro v481 w4 ho5 hb hg_ hnew_; clear hg_ hnew_; (first | rw [← Ny480.out] at ho5 | (simp only [Int.reduceToNat] at ho5; rw [← Ny480.out] at ho5)); have n0_ := Aside0.mk (Kd.V_elder' (by (with_reducible repeat (first | apply Kd.V_alloc | apply Kd.V_drewN | apply Kd.V_drew)); exact HO0_3.out) (Kd.N_base ho5) hb); have n1_ := Aside0.mk (Kd.N_lower ho5 (below_size (by repeat (first | (with_reducible first | exact HB.out | apply below_alloc | apply pw_below_drewN | apply below_drew1 | refine below_set ?_ GE478.out | refine below_set ?_ GE479.out) | exact HB.out)))); have n2_ := Aside0.mk (blk_below (g := gb478) (o := .cells #[.int .i64 a0_0, .string a0_1, .int .i64 a0_2, .slice A0_3 l0_3.length c0_3] 24 (0, 0)) (by (with_reducible repeat (first | refine blk_drewN ?_ _ | refine blk_drew ?_ | refine blk_alloc ?_ _)); exact BK478.out) hb); have n3_ := Aside0.mk (blk_below (g := gb479) (o := .cells #[.int .i64 0, .string (⟨#[]⟩ : ByteArray), .int .i64 0, .slice none 0 0] 24 (0, 0)) (by (with_reducible repeat (first | refine blk_drewN ?_ _ | refine blk_drew ?_ | refine blk_alloc ?_ _)); exact BK479.out) hb); have n4_ := Aside0.mk (below_step (by repeat (first | (with_reducible first | exact HB.out | apply below_alloc | apply pw_below_drewN | apply below_drew1 | refine below_set ?_ GE478.out | refine below_set ?_ GE479.out) | exact HB.out)) hb); clear HO0_3; clear BK478; clear BK479; clear HB; have HO0_3 := n0_; have HO482 := n1_; have BK478 := n2_; have BK479 := n3_; have HB := n4_; clear n0_ n1_ n2_ n3_ n4_; clear hb ho5))
  go_loopg [4] k (fun kq v4 w' => ∃ (x4_1 : List (S24)) (x479000_1 : Int) (x479001_1 : ByteArray) (x479002_1 : Int) (x479003_1 : List (S24)) (u479003 : Value), Aside0 (pythiaref07_Items.l0 kq x4_1 x479000_1 x479001_1 x479002_1 x479003_1 = some (r1, r2, r3, r4, r5)) ∧ Aside0 (kq ≤ k) ∧ Aside0 (Kd.N k24 24 w' w.heap.size (fun k_ => (P0_3_ k_ ∨ w.heap.size ≤ k_) ∧ k_ ≠ gb478 ∧ k_ ≠ gb479) v4 x4_1) ∧ Aside0 (Kd.V k24 24 w' w.heap.size (fun k_ => (P0_3_ k_ ∨ w.heap.size ≤ k_) ∧ some k_ ≠ (v4 : Value).ownBlock ∧ k_ ≠ gb478 ∧ k_ ≠ gb479) u479003 x479003_1) ∧ Aside0 (w'.heap[gb478]? = some (.cells #[.int .i64 x479000_1, .string x479001_1, .int .i64 x479002_1, u479003] 24 (0, 0))) ∧ Aside0 (w'.heap[gb479]? = some (.cells #[.int .i64 0, .string (⟨#[]⟩ : ByteArray), .int .i64 0, (.slice none 0 0)] 24 (0, 0))) ∧ Aside0 (Below w.heap.size w w'))
  case atStart => exact ⟨(y480), (a0_0), (a0_1), (a0_2), (l0_3), (.slice A0_3 l0_3.length c0_3), H', ⟨Nat.le_refl _⟩, ⟨by (with_reducible repeat (first | apply Kd.N_alloc | apply Kd.N_drewN | apply Kd.N_drew)); exact HO482.out⟩, ⟨by (with_reducible repeat (first | apply Kd.V_alloc | apply Kd.V_drewN | apply Kd.V_drew)); exact Kd.V_mono HO0_3.out (fun _ hk => ⟨hk.1.1.1, ⟨hk.2, ⟨hk.1.1.2, hk.1.2⟩⟩⟩)⟩, ⟨by (with_reducible repeat (first | refine blk_drewN ?_ _ | refine blk_drew ?_ | refine blk_alloc ?_ _)); exact BK478.out⟩, ⟨by (with_reducible repeat (first | refine blk_drewN ?_ _ | refine blk_drew ?_ | refine blk_alloc ?_ _)); exact BK479.out⟩, ⟨by repeat (first | (with_reducible first | exact HB.out | apply below_alloc | apply pw_below_drewN | apply below_drew1 | refine below_set ?_ GE478.out | refine below_set ?_ GE479.out) | exact HB.out)⟩⟩
  case round =>
    clear H'
    try clear p2
    try clear c4
    obtain ⟨x4_1, x479000_1, x479001_1, x479002_1, x479003_1, u479003, HA, HK1, HO_4, HO_479003, BK478, BK479, HB⟩ := hrel
    cases gk with
    | zero => exact absurd HA.out (by simp [pythiaref07_Items.l0])
    | succ k1 =>
      have H := HA.out
      clear HA
      simp only [pythiaref07_Items.l0] at H
      by_cases c6 : x479000_1 = 4
      · rw [if_pos c6] at H
        have c6b0 : (x479000_1 == 4) = true := beq_iff_eq.mpr c6
        have c6b1 : (x479000_1 != 4) = false := bne_eq_false_iff_eq.mpr c6
        clear c6
        by_cases c7 : x479001_1.toList = ([46] : List UInt8)
        · rw [if_pos c7] at H
          have c7b0 : (x479001_1.toList == ([46] : List UInt8)) = true := beq_iff_eq.mpr c7
          have c7b1 : (x479001_1.toList != ([46] : List UInt8)) = false := bne_eq_false_iff_eq.mpr c7
          clear c7
          by_cases c8 : (x479003_1.length : Int) = 2
          · rw [if_pos c8] at H
            have c8b0 : ((x479003_1.length : Int) == 2) = true := beq_iff_eq.mpr c8
            have c8b1 : ((x479003_1.length : Int) != 2) = false := bne_eq_false_iff_eq.mpr c8
            clear c8
            by_cases c9 : 0 < (x479003_1.length : Int)
            · rw [if_pos c9] at H
              have c9b0 : decide (0 < (x479003_1.length : Int)) = true := decide_eq_true c9
              have c9b1 : decide (0 < x479003_1.length) = true := decide_eq_true (by omega)
              clear c9
              by_cases c10 : x4_1.length < 2513169434916
              · rw [if_pos c10] at H
                have LMc10 := Aside0.mk c10
                clear c10
                obtain ⟨y484, hy484⟩ : ∃ y_ : List (S24), y_ = (x4_1 ++ [(⟨(rd_T24 x479003_1 0).f0, (rd_T24 x479003_1 0).f1, (rd_T24 x479003_1 0).f2, (rd_T24 x479003_1 0).f3⟩ : S24)]) := ⟨_, rfl⟩
                replace H : (if 1 < (x479003_1.length : Int) then (pythiaref07_Items.l0 k1 y484 ((rd_T24 x479003_1 1).f0) ((rd_T24 x479003_1 1).f1) ((rd_T24 x479003_1 1).f2) ((rd_T24 x479003_1 1).f3)) else (none)) = some (r1, r2, r3, r4, r5) := by first | (rw [hy484]; with_reducible exact H) | (have H2_ := (Option.bind_some _ _).symm.trans H; rw [hy484]; with_reducible exact H2_) | (have H2_ := (Option.bind_some _ _).symm.trans H; with_reducible exact H2_) | with_reducible exact H | (rw [hy484]; exact H) | exact H
                have Ny484 := Aside0.mk hy484
                clear hy484
                by_cases c11 : 1 < (x479003_1.length : Int)
                · rw [if_pos c11] at H
                  have c11b0 : decide (1 < (x479003_1.length : Int)) = true := decide_eq_true c11
                  have c11b1 : decide (1 < x479003_1.length) = true := decide_eq_true (by omega)
                  clear c11
                  have H' := Aside0.mk H
                  clear H
                  have hnb12 := NB478_479.out
                  have hnc12 := NB479_478.out
                  have hcz13_0 : wr.cell? ⟨gb478, 0, none⟩ = some (.int .i64 x479000_1) := (blk_cell BK478.out 0).trans rfl
                  have hcz13_1 : wr.cell? ⟨gb478, 1, none⟩ = some (.string x479001_1) := (blk_cell BK478.out 1).trans rfl
                  have hcz13_2 : wr.cell? ⟨gb478, 2, none⟩ = some (.int .i64 x479002_1) := (blk_cell BK478.out 2).trans rfl
                  have hcz13_3 : wr.cell? ⟨gb478, 3, none⟩ = some (u479003) := (blk_cell BK478.out 3).trans rfl
                  have hfz13_0 := blk_frozen BK478.out 0
                  have hfz13_1 := blk_frozen BK478.out 1
                  have hfz13_2 := blk_frozen BK478.out 2
                  have hfz13_3 := blk_frozen BK478.out 3
                  obtain ⟨Ao14, co14, eo14⟩ := Kd.V_slice HO_479003.out
                  subst eo14
                  have p483 : 0 ≤ (0 : Int) := (by omega)
                  have q483 : 0 < (x479003_1.length : Int) := of_decide_eq_true (by first | (with_reducible assumption) | assumption)
                  obtain ⟨ad483, A483_3, c483_3, e483, hx483_0, hx483_1, hx483_2, hx483_3, hl483_3, hi483_3⟩ := at_T24 (Kd.V_reads' HO_479003.out).2.2 0 p483 q483
                  cases e483
                  obtain ⟨ce483, hce483, hMe483, hcc483⟩ := Kd.V_get HO_479003.out z24 0 p483 (by first | exact q483 | exact of_decide_eq_true (by first | (with_reducible assumption) | assumption) | (have e_ := (Kd.V_reads' HO_479003.out).1; omega))
                  obtain ⟨ua483_3, uc483_3, rfl, ul483_3, ge483_3⟩ := k24_openF hMe483
                  have hv483_3 := hcc483 3 _ rfl
                  rw [add_field _ _ 3 (by omega)] at hv483_3
                  replace hv483_3 := Option.some.inj (hv483_3.symm.trans hx483_3)
                  injection hv483_3 with hva_ hvn_ hvc_
                  rw [hva_] at ge483_3
                  rw [hvc_] at ul483_3
                  have HL483_3 := Aside0.mk (show Kd.V k24 24 _ w.heap.size _ _ ((rd_T24 x479003_1 0).f3) from Kd.V_mk ul483_3 ge483_3)
                  clear hva_ hvn_ hvc_ ge483_3 ul483_3
                  clear hcc483 hce483
                  have qi483 : (0 < x479003_1.length) = True := eq_true (by omega)
                  (try rw [show ((0 : Int)).toNat = 0 from rfl] at hx483_0)
                  (try rw [show 0 * 4 = 0 from rfl] at hx483_0)
                  (try rw [Addr.add_zero'] at hx483_0)
                  (try rw [show ((0 : Int)).toNat = 0 from rfl] at hx483_1)
                  (try rw [show 0 * 4 = 0 from rfl] at hx483_1)
                  (try rw [Addr.add_zero'] at hx483_1)
                  (try rw [show ((0 : Int)).toNat = 0 from rfl] at hx483_2)
                  (try rw [show 0 * 4 = 0 from rfl] at hx483_2)
                  (try rw [Addr.add_zero'] at hx483_2)
                  (try rw [show ((0 : Int)).toNat = 0 from rfl] at hx483_3)
                  (try rw [show 0 * 4 = 0 from rfl] at hx483_3)
                  (try rw [Addr.add_zero'] at hx483_3)
                  have HR483_3 := Aside0.mk hi483_3
                  have HC483_3 := Aside0.mk hl483_3
                  clear hi483_3 hl483_3
                  replace p483 := eq_true p483
                  replace q483 := eq_true q483
                  go_wp2_with (first | ((with_reducible refine gate_builtin (b := .append) (xs := #[.tmp 20, .tmp 25]) rfl ?_); (try (refine gate_guard (by rfl) ?_; dsimp only)); at_builtin; refine Kd.N_append k24 (w0 := w) w.heap.size rfl (.tmp 20) (.tmp 25) 22 24 (.agg #[(.int .i64 0), (.string ⟨#[]⟩), (.int .i64 0), (.slice none 0 0)]) 56 rfl Try.underlying22 info24 rfl (by decide) (by omega) u4 x4_1 (⟨(rd_T24 x479003_1 0).f0, (rd_T24 x479003_1 0).f1, (rd_T24 x479003_1 0).f2, (rd_T24 x479003_1 0).f3⟩ : S24) [.int .i64 ((rd_T24 x479003_1 0).f0), .string ((rd_T24 x479003_1 0).f1), .int .i64 ((rd_T24 x479003_1 0).f2), .slice A483_3 ((rd_T24 x479003_1 0).f3).length c483_3] (fun k_ => (P0_3_ k_ ∨ w.heap.size ≤ k_) ∧ k_ ≠ gb478 ∧ k_ ≠ gb479) (fun k_ => ((fun k_ => (P0_3_ k_ ∨ w.heap.size ≤ k_) ∧ k_ ≠ gb478 ∧ k_ ≠ gb479)) k_ ∧ some k_ ≠ (u4 : Value).ownBlock) rfl rfl ?aP (fun _ hk => hk) ?aF ?aO ?aB ?aS ?aL ?_; (case aP => exact (k24_mkF _ _ (⟨(rd_T24 x479003_1 0).f0, (rd_T24 x479003_1 0).f1, (rd_T24 x479003_1 0).f2, (rd_T24 x479003_1 0).f3⟩ : S24) (Kd.V_reads' (Kd.V_mono (ok' := (fun k_ => ((fun k_ => (P0_3_ k_ ∨ w.heap.size ≤ k_) ∧ k_ ≠ gb478 ∧ k_ ≠ gb479)) k_ ∧ some k_ ≠ (u4 : Value).ownBlock)) (HL483_3.out) (fun k_ hk => ⟨⟨hk.1, ⟨hk.2.2.1, hk.2.2.2⟩⟩, hk.2.1⟩))).2.1 (Kd.V_F (Kd.V_mono (ok' := (fun k_ => ((fun k_ => (P0_3_ k_ ∨ w.heap.size ≤ k_) ∧ k_ ≠ gb478 ∧ k_ ≠ gb479)) k_ ∧ some k_ ≠ (u4 : Value).ownBlock)) (HL483_3.out) (fun k_ hk => ⟨⟨hk.1, ⟨hk.2.2.1, hk.2.2.2⟩⟩, hk.2.1⟩))))); (case aB => exact (by repeat (first | (with_reducible first | exact HB.out | apply below_alloc | apply pw_below_drewN | apply below_drew1 | refine below_set ?_ GE478.out | refine below_set ?_ GE479.out) | exact HB.out))); (case aF => exact (fun k_ hk => ⟨(.inr (Nat.le_trans (below_size (by repeat (first | (with_reducible first | exact HB.out | apply below_alloc | apply pw_below_drewN | apply below_drew1 | refine below_set ?_ GE478.out | refine below_set ?_ GE479.out) | exact HB.out))) hk)), Kd.freshB (g := gb478) (o := .cells #[.int .i64 x479000_1, .string x479001_1, .int .i64 x479002_1, .slice (some ad483) x479003_1.length co14] 24 (0, 0)) (by (with_reducible repeat (first | refine blk_drewN ?_ _ | refine blk_drew ?_ | refine blk_alloc ?_ _)); exact BK478.out) k_ hk, Kd.freshB (g := gb479) (o := .cells #[.int .i64 0, .string (⟨#[]⟩ : ByteArray), .int .i64 0, .slice none 0 0] 24 (0, 0)) (by (with_reducible repeat (first | refine blk_drewN ?_ _ | refine blk_drew ?_ | refine blk_alloc ?_ _)); exact BK479.out) k_ hk⟩)); (case aO => exact (by (with_reducible repeat (first | apply Kd.N_alloc | apply Kd.N_drewN | apply Kd.N_drew)); exact HO_4.out)); (case aS => exact (below_size (by repeat (first | (with_reducible first | exact HB.out | apply below_alloc | apply pw_below_drewN | apply below_drew1 | refine below_set ?_ GE478.out | refine below_set ?_ GE479.out) | exact HB.out)))); (case aL => have := LMc10.out; omega); intro v485 w15 ho hb hg hat; rw [← Ny484.out] at ho; have n0_ := Aside0.mk (Kd.V_afterv (ok := (fun k_ => (P0_3_ k_ ∨ w.heap.size ≤ k_) ∧ k_ ≠ gb478 ∧ k_ ≠ gb479)) (by (with_reducible repeat (first | apply Kd.V_alloc | apply Kd.V_drewN | apply Kd.V_drew)); exact Kd.V_mono HO_479003.out (fun _ hk => ⟨⟨hk.1, ⟨hk.2.2.1, hk.2.2.2⟩⟩, hk.2.1⟩)) hg hat); have n1_ := Aside0.mk (blk_grown (g := gb478) (o := .cells #[.int .i64 x479000_1, .string x479001_1, .int .i64 x479002_1, .slice (some ad483) x479003_1.length co14] 24 (0, 0)) (by (with_reducible repeat (first | refine blk_drewN ?_ _ | refine blk_drew ?_ | refine blk_alloc ?_ _)); exact BK478.out) hg (Kd.N_away HO_4.out (fun _ hk => hk.2.1))); have n2_ := Aside0.mk (blk_grown (g := gb479) (o := .cells #[.int .i64 0, .string (⟨#[]⟩ : ByteArray), .int .i64 0, .slice none 0 0] 24 (0, 0)) (by (with_reducible repeat (first | refine blk_drewN ?_ _ | refine blk_drew ?_ | refine blk_alloc ?_ _)); exact BK479.out) hg (Kd.N_away HO_4.out (fun _ hk => hk.2.2))); have n3_ := Aside0.mk (Kd.V_afterv (ok := (fun k_ => (P0_3_ k_ ∨ w.heap.size ≤ k_) ∧ k_ ≠ gb478 ∧ k_ ≠ gb479)) (by (with_reducible repeat (first | apply Kd.V_alloc | apply Kd.V_drewN | apply Kd.V_drew)); exact Kd.V_mono HL483_3.out (fun _ hk => ⟨⟨hk.1, ⟨hk.2.2.1, hk.2.2.2⟩⟩, hk.2.1⟩)) hg hat); have n4_ := Aside0.mk (hb); have n5_ := Aside0.mk (ho); clear HO_479003; clear BK478; clear BK479; clear HL483_3; clear HB; clear HO_4; have HO_479003 := n0_; have BK478 := n1_; have BK479 := n2_; have HL483_3 := n3_; have HB := n4_; have HO486 := n5_; clear n0_ n1_ n2_ n3_ n4_ n5_; clear ho hb hg hat; have hcz16_0 : w15.cell? ⟨gb478, 0, none⟩ = some (.int .i64 x479000_1) := (blk_cell BK478.out 0).trans rfl; have hcz16_1 : w15.cell? ⟨gb478, 1, none⟩ = some (.string x479001_1) := (blk_cell BK478.out 1).trans rfl; have hcz16_2 : w15.cell? ⟨gb478, 2, none⟩ = some (.int .i64 x479002_1) := (blk_cell BK478.out 2).trans rfl; have hcz16_3 : w15.cell? ⟨gb478, 3, none⟩ = some (.slice (some ad483) x479003_1.length co14) := (blk_cell BK478.out 3).trans rfl; have hfz16_0 := blk_frozen BK478.out 0; have hfz16_1 := blk_frozen BK478.out 1; have hfz16_2 := blk_frozen BK478.out 2; have hfz16_3 := blk_frozen BK478.out 3; have p487 : 0 ≤ (1 : Int) := (by omega); have q487 : 1 < (x479003_1.length : Int) := of_decide_eq_true (by first | (with_reducible assumption) | assumption); obtain ⟨ad487, A487_3, c487_3, e487, hx487_0, hx487_1, hx487_2, hx487_3, hl487_3, hi487_3⟩ := at_T24 (Kd.V_reads' HO_479003.out).2.2 1 p487 q487; obtain rfl : ad483 = ad487 := (by injection e487); obtain ⟨ce487, hce487, hMe487, hcc487⟩ := Kd.V_get HO_479003.out z24 1 p487 (by first | exact q487 | exact of_decide_eq_true (by first | (with_reducible assumption) | assumption) | (have e_ := (Kd.V_reads' HO_479003.out).1; omega)); obtain ⟨ua487_3, uc487_3, rfl, ul487_3, ge487_3⟩ := k24_openF hMe487; have hv487_3 := hcc487 3 _ rfl; rw [add_field _ _ 3 (by omega)] at hv487_3; replace hv487_3 := Option.some.inj (hv487_3.symm.trans hx487_3); injection hv487_3 with hva_ hvn_ hvc_; rw [hva_] at ge487_3; rw [hvc_] at ul487_3; have HL487_3 := Aside0.mk (show Kd.V k24 24 _ w.heap.size _ _ ((rd_T24 x479003_1 1).f3) from Kd.V_mk ul487_3 ge487_3); clear hva_ hvn_ hvc_ ge487_3 ul487_3; clear hcc487 hce487; (try simp only [show (1 : Int).toNat = 1 from rfl, Nat.reduceMul, Nat.reduceEqDiff, Go.Addr.add, ↓reduceIte] at hx487_0); (try simp only [show (1 : Int).toNat = 1 from rfl, Nat.reduceMul, Nat.reduceEqDiff, Go.Addr.add, ↓reduceIte] at hx487_1); (try simp only [show (1 : Int).toNat = 1 from rfl, Nat.reduceMul, Nat.reduceEqDiff, Go.Addr.add, ↓reduceIte] at hx487_2); (try simp only [show (1 : Int).toNat = 1 from rfl, Nat.reduceMul, Nat.reduceEqDiff, Go.Addr.add, ↓reduceIte] at hx487_3); have qi487 : (1 < x479003_1.length) = True := eq_true (by omega); (try rw [show ((1 : Int)).toNat = 1 from rfl] at hx487_0); (try rw [show 1 * 4 = 4 from rfl] at hx487_0); (try rw [show ((1 : Int)).toNat = 1 from rfl] at hx487_1); (try rw [show 1 * 4 = 4 from rfl] at hx487_1); (try rw [show ((1 : Int)).toNat = 1 from rfl] at hx487_2); (try rw [show 1 * 4 = 4 from rfl] at hx487_2); (try rw [show ((1 : Int)).toNat = 1 from rfl] at hx487_3); (try rw [show 1 * 4 = 4 from rfl] at hx487_3); have HR487_3 := Aside0.mk hi487_3; have HC487_3 := Aside0.mk hl487_3; clear hi487_3 hl487_3; replace p487 := eq_true p487; replace q487 := eq_true q487))
                  go_roundg k1
                  case measure => have := HK1.out; omega
                  case rel => exact ⟨(y484), ((rd_T24 x479003_1 1).f0), ((rd_T24 x479003_1 1).f1), ((rd_T24 x479003_1 1).f2), ((rd_T24 x479003_1 1).f3), (.slice A487_3 ((rd_T24 x479003_1 1).f3).length c487_3), H', ⟨by have := HK1.out; omega⟩, ⟨by (with_reducible repeat (first | apply Kd.N_alloc | apply Kd.N_drewN | apply Kd.N_drew)); exact Kd.N_mono (Kd.N_far (p := ⟨gb478, 3, none⟩) (Kd.N_far (p := ⟨gb478, 2, none⟩) (Kd.N_far (p := ⟨gb478, 1, none⟩) (Kd.N_far (p := ⟨gb478, 0, none⟩) (Kd.N_mono HO486.out (fun k_ hk => (⟨hk, hk.2.1⟩ : _ ∧ k_ ≠ gb478))) (fun _ hk => hk.2) (.int .i64 ((rd_T24 x479003_1 1).f0))) (fun _ hk => hk.2) (.string ((rd_T24 x479003_1 1).f1))) (fun _ hk => hk.2) (.int .i64 ((rd_T24 x479003_1 1).f2))) (fun _ hk => hk.2) (.slice A487_3 ((rd_T24 x479003_1 1).f3).length c487_3)) (fun _ hk => ⟨hk.1.1, ⟨hk.1.2.1, hk.1.2.2⟩⟩)⟩, ⟨by (with_reducible repeat (first | apply Kd.V_alloc | apply Kd.V_drewN | apply Kd.V_drew)); exact Kd.V_mono (Kd.V_far (p := ⟨gb478, 3, none⟩) (Kd.V_far (p := ⟨gb478, 2, none⟩) (Kd.V_far (p := ⟨gb478, 1, none⟩) (Kd.V_far (p := ⟨gb478, 0, none⟩) (Kd.V_mono HL487_3.out (fun k_ hk => (⟨hk, hk.1.2.1⟩ : _ ∧ k_ ≠ gb478))) (fun _ hk => hk.2) (.int .i64 ((rd_T24 x479003_1 1).f0))) (fun _ hk => hk.2) (.string ((rd_T24 x479003_1 1).f1))) (fun _ hk => hk.2) (.int .i64 ((rd_T24 x479003_1 1).f2))) (fun _ hk => hk.2) (.slice A487_3 ((rd_T24 x479003_1 1).f3).length c487_3)) (fun _ hk => ⟨hk.1.1.1, ⟨hk.1.2, ⟨hk.1.1.2.1, hk.1.1.2.2⟩⟩⟩)⟩, ⟨by (with_reducible repeat (first | refine blk_drewN ?_ _ | refine blk_drew ?_ | refine blk_alloc ?_ _)); refine blk_put (cs := #[.int .i64 ((rd_T24 x479003_1 1).f0), .string ((rd_T24 x479003_1 1).f1), .int .i64 ((rd_T24 x479003_1 1).f2), .slice (some ad483) x479003_1.length co14]) ?_ 3 _ rfl; (with_reducible repeat (first | refine blk_drewN ?_ _ | refine blk_drew ?_ | refine blk_alloc ?_ _)); refine blk_put (cs := #[.int .i64 ((rd_T24 x479003_1 1).f0), .string ((rd_T24 x479003_1 1).f1), .int .i64 x479002_1, .slice (some ad483) x479003_1.length co14]) ?_ 2 _ rfl; (with_reducible repeat (first | refine blk_drewN ?_ _ | refine blk_drew ?_ | refine blk_alloc ?_ _)); refine blk_put (cs := #[.int .i64 ((rd_T24 x479003_1 1).f0), .string x479001_1, .int .i64 x479002_1, .slice (some ad483) x479003_1.length co14]) ?_ 1 _ rfl; (with_reducible repeat (first | refine blk_drewN ?_ _ | refine blk_drew ?_ | refine blk_alloc ?_ _)); refine blk_put (cs := #[.int .i64 x479000_1, .string x479001_1, .int .i64 x479002_1, .slice (some ad483) x479003_1.length co14]) ?_ 0 _ rfl; (with_reducible repeat (first | refine blk_drewN ?_ _ | refine blk_drew ?_ | refine blk_alloc ?_ _)); exact BK478.out⟩, ⟨by (with_reducible repeat (first | refine blk_drewN ?_ _ | refine blk_drew ?_ | refine blk_alloc ?_ _)); refine blk_far ?_ NB479_478.out _; (with_reducible repeat (first | refine blk_drewN ?_ _ | refine blk_drew ?_ | refine blk_alloc ?_ _)); refine blk_far ?_ NB479_478.out _; (with_reducible repeat (first | refine blk_drewN ?_ _ | refine blk_drew ?_ | refine blk_alloc ?_ _)); refine blk_far ?_ NB479_478.out _; (with_reducible repeat (first | refine blk_drewN ?_ _ | refine blk_drew ?_ | refine blk_alloc ?_ _)); refine blk_far ?_ NB479_478.out _; (with_reducible repeat (first | refine blk_drewN ?_ _ | refine blk_drew ?_ | refine blk_alloc ?_ _)); exact BK479.out⟩, ⟨by repeat (first | (with_reducible first | exact HB.out | apply below_alloc | apply pw_below_drewN | apply below_drew1 | refine below_set ?_ GE478.out | refine below_set ?_ GE479.out) | exact HB.out)⟩⟩
                · rw [if_neg c11] at H
                  exact absurd H (by simp)
              · rw [if_neg c10] at H
                exact absurd H (by simp)
            · rw [if_neg c9] at H
              exact absurd H (by simp)
          · rw [if_neg c8] at H
            have c8b0 : ((x479003_1.length : Int) == 2) = false := beq_eq_false_iff_ne.mpr c8
            have c8b1 : ((x479003_1.length : Int) != 2) = true := bne_iff_ne.mpr c8
            simp only [Option.some.injEq, Prod.mk.injEq] at H
            obtain ⟨rfl, rfl, rfl, rfl, rfl⟩ := H
            have hnb17 := NB478_479.out
            have hnc17 := NB479_478.out
            have hcz18_0 : wr.cell? ⟨gb478, 0, none⟩ = some (.int .i64 x479000_1) := (blk_cell BK478.out 0).trans rfl
            have hcz18_1 : wr.cell? ⟨gb478, 1, none⟩ = some (.string x479001_1) := (blk_cell BK478.out 1).trans rfl
            have hcz18_2 : wr.cell? ⟨gb478, 2, none⟩ = some (.int .i64 x479002_1) := (blk_cell BK478.out 2).trans rfl
            have hcz18_3 : wr.cell? ⟨gb478, 3, none⟩ = some (u479003) := (blk_cell BK478.out 3).trans rfl
            have hfz18_0 := blk_frozen BK478.out 0
            have hfz18_1 := blk_frozen BK478.out 1
            have hfz18_2 := blk_frozen BK478.out 2
            have hfz18_3 := blk_frozen BK478.out 3
            obtain ⟨Ao19, co19, eo19⟩ := Kd.V_slice HO_479003.out
            subst eo19
            try go_wp2
            have n0_ := Aside0.mk (Kd.N_drew HO_4.out)
            have n1_ := Aside0.mk (Kd.V_drew HO_479003.out)
            have n2_ := Aside0.mk (blk_drew BK478.out)
            have n3_ := Aside0.mk (blk_drew BK479.out)
            have n4_ := Aside0.mk (below_drew1 HB.out)
            clear HO_4
            clear HO_479003
            clear BK478
            clear BK479
            clear HB
            have HO_4 := n0_
            have HO_479003 := n1_
            have BK478 := n2_
            have BK479 := n3_
            have HB := n4_
            clear n0_ n1_ n2_ n3_ n4_
            refine start_ (n := 4) (S := fun w' => w'.cell? ⟨gb478, 0, none⟩ = some (.int .i64 x479000_1) ∧ w'.cell? ⟨gb478, 1, none⟩ = some (.string x479001_1) ∧ w'.cell? ⟨gb478, 2, none⟩ = some (.int .i64 x479002_1) ∧ w'.cell? ⟨gb478, 3, none⟩ = some (.slice Ao19 x479003_1.length co19)) (ds := []) #[false, false, false, false] (by kernel_rfl) rfl rfl ⟨(blk_cell BK478.out 0).trans rfl, (blk_cell BK478.out 1).trans rfl, (blk_cell BK478.out 2).trans rfl, (blk_cell BK478.out 3).trans rfl⟩ (fun hHeld => ?_)
            generalize wr.drew = w20 at HO_4 HO_479003 BK478 BK479 HB hHeld ⊢
            refine pure_ (i := 0) (N := some 31) (v := ?_) (a' := ?_) #[true, false, false, false] rfl rfl (by kernel_rfl) (fun _ _ _ h => h) (Or.inl ⟨by rfl, ?_⟩) ?_ ?_
            rotate_left
            · intro w'
              go_simp
              with_reducible rfl
            rotate_left
            · simp only [Act.put, List.setIfInBounds_toArray, List.set_cons_zero, List.set_cons_succ, i64_w, i32_w]
              rfl
            refine pure_ (i := 2) (N := some 2) (v := ?_) (a' := ?_) #[true, false, true, false] rfl rfl (by kernel_rfl) (fun _ _ _ h => h) (Or.inl ⟨by rfl, ?_⟩) ?_ ?_
            rotate_left
            · intro w'
              go_simp
              with_reducible rfl
            rotate_left
            · simp only [Act.put, List.setIfInBounds_toArray, List.set_cons_zero, List.set_cons_succ, i64_w, i32_w]
              rfl
            refine take_ (i := 1) (N := some 32) (v := ?_) (a' := ?_) #[true, true, true, false] rfl rfl (by kernel_rfl) (fun _ _ _ h => h) (Or.inl ⟨by rfl, ?_⟩) hHeld ?_ ?_
            rotate_left
            · rintro w' ⟨s0, s1, s2, s3⟩
              go_simp
              with_reducible rfl
            rotate_left
            · simp only [Act.put, List.setIfInBounds_toArray, List.set_cons_zero, List.set_cons_succ, i64_w, i32_w]
              rfl
            refine one_ (i := 3) (N := none) #[true, true, true, true] rfl rfl (by kernel_rfl) (by decide) (fun K hK => ?_)
            have hs21 : w20.cell? ⟨gb479, 0, none⟩ = some (.int .i64 0) := (blk_cell BK479.out 0).trans rfl
            have hfs21 := blk_frozen BK479.out 0
            have hns21_0 := NB478_479.out
            have hms21_0 := NB479_478.out
            have hs22 : w20.cell? ⟨gb479, 1, none⟩ = some (.string (⟨#[]⟩ : ByteArray)) := (blk_cell BK479.out 1).trans rfl
            have hfs22 := blk_frozen BK479.out 1
            have hns22_0 := NB478_479.out
            have hms22_0 := NB479_478.out
            have hs23 : w20.cell? ⟨gb479, 2, none⟩ = some (.int .i64 0) := (blk_cell BK479.out 2).trans rfl
            have hfs23 := blk_frozen BK479.out 2
            have hns23_0 := NB478_479.out
            have hms23_0 := NB479_478.out
            have hs24 : w20.cell? ⟨gb479, 3, none⟩ = some (.slice none 0 0) := (blk_cell BK479.out 3).trans rfl
            have hfs24 := blk_frozen BK479.out 3
            have hns24_0 := NB478_479.out
            have hms24_0 := NB479_478.out
            refine skip_ (w1 := ?_) (by rfl) rfl ?_ ?_
            rotate_left
            · go_simp
              rfl
            refine hK.out _ _ ⟨((cell_far (p := ⟨gb479, _, none⟩) NB478_479.out _).trans (((cell_far (p := ⟨gb479, _, none⟩) NB478_479.out _).trans (((cell_far (p := ⟨gb479, _, none⟩) NB478_479.out _).trans (((cell_far (p := ⟨gb479, _, none⟩) NB478_479.out _).trans (hHeld.1)))))))), ((cell_far (p := ⟨gb479, _, none⟩) NB478_479.out _).trans (((cell_far (p := ⟨gb479, _, none⟩) NB478_479.out _).trans (((cell_far (p := ⟨gb479, _, none⟩) NB478_479.out _).trans (((cell_far (p := ⟨gb479, _, none⟩) NB478_479.out _).trans (hHeld.2.1)))))))), ((cell_far (p := ⟨gb479, _, none⟩) NB478_479.out _).trans (((cell_far (p := ⟨gb479, _, none⟩) NB478_479.out _).trans (((cell_far (p := ⟨gb479, _, none⟩) NB478_479.out _).trans (((cell_far (p := ⟨gb479, _, none⟩) NB478_479.out _).trans (hHeld.2.2.1)))))))), ((cell_far (p := ⟨gb479, _, none⟩) NB478_479.out _).trans (((cell_far (p := ⟨gb479, _, none⟩) NB478_479.out _).trans (((cell_far (p := ⟨gb479, _, none⟩) NB478_479.out _).trans (((cell_far (p := ⟨gb479, _, none⟩) NB478_479.out _).trans (hHeld.2.2.2))))))))⟩ (fun hHeld => ?_)
            clear hK K
            refine done_ (by kernel_rfl) ?_
            try go_wp2
            refine bodyPost_ret (results_tc rfl _ _ gb479 24 #[.int .i64 x479000_1, .string x479001_1, .int .i64 x479002_1, .slice Ao19 x479003_1.length co19] (0, 0) _ rfl (by (with_reducible repeat (first | refine blk_drewN ?_ _ | refine blk_drew ?_ | refine blk_alloc ?_ _)); refine blk_put (cs := #[.int .i64 x479000_1, .string x479001_1, .int .i64 x479002_1, .slice none 0 0]) ?_ 3 _ rfl; (with_reducible repeat (first | refine blk_drewN ?_ _ | refine blk_drew ?_ | refine blk_alloc ?_ _)); refine blk_put (cs := #[.int .i64 x479000_1, .string x479001_1, .int .i64 0, .slice none 0 0]) ?_ 2 _ rfl; (with_reducible repeat (first | refine blk_drewN ?_ _ | refine blk_drew ?_ | refine blk_alloc ?_ _)); refine blk_put (cs := #[.int .i64 x479000_1, .string (⟨#[]⟩ : ByteArray), .int .i64 0, .slice none 0 0]) ?_ 1 _ rfl; (with_reducible repeat (first | refine blk_drewN ?_ _ | refine blk_drew ?_ | refine blk_alloc ?_ _)); refine blk_put (cs := #[.int .i64 0, .string (⟨#[]⟩ : ByteArray), .int .i64 0, .slice none 0 0]) ?_ 0 _ rfl; (with_reducible repeat (first | refine blk_drewN ?_ _ | refine blk_drew ?_ | refine blk_alloc ?_ _)); exact BK479.out) Try.underlying24 rfl (by kernel_rfl)) rfl ?_
            exact ⟨_, _, by first | rfl | (simp [errW_none, errW_some] <;> rfl) | (simp [*, errW_none, errW_some] <;> rfl), by (with_reducible repeat (first | apply Kd.N_alloc | apply Kd.N_drewN | apply Kd.N_drew)); exact Kd.N_mono (Kd.N_far (p := ⟨gb479, 3, none⟩) (Kd.N_far (p := ⟨gb479, 2, none⟩) (Kd.N_far (p := ⟨gb479, 1, none⟩) (Kd.N_far (p := ⟨gb479, 0, none⟩) (Kd.N_mono HO_4.out (fun k_ hk => (⟨hk, hk.2.2⟩ : _ ∧ k_ ≠ gb479))) (fun _ hk => hk.2) (.int .i64 x479000_1)) (fun _ hk => hk.2) (.string x479001_1)) (fun _ hk => hk.2) (.int .i64 x479002_1)) (fun _ hk => hk.2) (.slice Ao19 x479003_1.length co19)) (fun _ hk => hk.1.1), by (with_reducible repeat (first | apply Kd.V_alloc | apply Kd.V_drewN | apply Kd.V_drew)); exact Kd.V_mono (Kd.V_far (p := ⟨gb479, 3, none⟩) (Kd.V_far (p := ⟨gb479, 2, none⟩) (Kd.V_far (p := ⟨gb479, 1, none⟩) (Kd.V_far (p := ⟨gb479, 0, none⟩) (Kd.V_mono HO_479003.out (fun k_ hk => (⟨hk, hk.2.2.2⟩ : _ ∧ k_ ≠ gb479))) (fun _ hk => hk.2) (.int .i64 x479000_1)) (fun _ hk => hk.2) (.string x479001_1)) (fun _ hk => hk.2) (.int .i64 x479002_1)) (fun _ hk => hk.2) (.slice Ao19 x479003_1.length co19)) (fun _ hk => ⟨hk.1.1, hk.1.2.1⟩), by repeat (first | (with_reducible first | exact HB.out | apply below_alloc | apply pw_below_drewN | apply below_drew1 | refine below_set ?_ GE478.out | refine below_set ?_ GE479.out) | exact HB.out)⟩
        · rw [if_neg c7] at H
          have c7b0 : (x479001_1.toList == ([46] : List UInt8)) = false := beq_eq_false_iff_ne.mpr c7
          have c7b1 : (x479001_1.toList != ([46] : List UInt8)) = true := bne_iff_ne.mpr c7
          simp only [Option.some.injEq, Prod.mk.injEq] at H
          obtain ⟨rfl, rfl, rfl, rfl, rfl⟩ := H
          have hnb25 := NB478_479.out
          have hnc25 := NB479_478.out
          have hcz26_0 : wr.cell? ⟨gb478, 0, none⟩ = some (.int .i64 x479000_1) := (blk_cell BK478.out 0).trans rfl
          have hcz26_1 : wr.cell? ⟨gb478, 1, none⟩ = some (.string x479001_1) := (blk_cell BK478.out 1).trans rfl
          have hcz26_2 : wr.cell? ⟨gb478, 2, none⟩ = some (.int .i64 x479002_1) := (blk_cell BK478.out 2).trans rfl
          have hcz26_3 : wr.cell? ⟨gb478, 3, none⟩ = some (u479003) := (blk_cell BK478.out 3).trans rfl
          have hfz26_0 := blk_frozen BK478.out 0
          have hfz26_1 := blk_frozen BK478.out 1
          have hfz26_2 := blk_frozen BK478.out 2
          have hfz26_3 := blk_frozen BK478.out 3
          try go_wp2
          have n0_ := Aside0.mk (Kd.N_drew HO_4.out)
          have n1_ := Aside0.mk (Kd.V_drew HO_479003.out)
          have n2_ := Aside0.mk (blk_drew BK478.out)
          have n3_ := Aside0.mk (blk_drew BK479.out)
          have n4_ := Aside0.mk (below_drew1 HB.out)
          clear HO_4
          clear HO_479003
          clear BK478
          clear BK479
          clear HB
          have HO_4 := n0_
          have HO_479003 := n1_
          have BK478 := n2_
          have BK479 := n3_
          have HB := n4_
          clear n0_ n1_ n2_ n3_ n4_
          obtain ⟨Ao31, co31, eo31⟩ := Kd.V_slice HO_479003.out
          (first | subst eo31 | (injection eo31 with f1_ f2_ f3_; have f4_ := f1_.symm; have f5_ := f3_.symm; clear f1_ f2_ f3_; subst f4_; subst f5_))
          refine start_ (n := 4) (S := fun w' => w'.cell? ⟨gb478, 0, none⟩ = some (.int .i64 x479000_1) ∧ w'.cell? ⟨gb478, 1, none⟩ = some (.string x479001_1) ∧ w'.cell? ⟨gb478, 2, none⟩ = some (.int .i64 x479002_1) ∧ w'.cell? ⟨gb478, 3, none⟩ = some (.slice Ao31 x479003_1.length co31)) (ds := []) #[false, false, false, false] (by kernel_rfl) rfl rfl ⟨(blk_cell BK478.out 0).trans rfl, (blk_cell BK478.out 1).trans rfl, (blk_cell BK478.out 2).trans rfl, (blk_cell BK478.out 3).trans rfl⟩ (fun hHeld => ?_)
          generalize wr.drew = w27 at HO_4 HO_479003 BK478 BK479 HB hHeld ⊢
          refine pure_ (i := 0) (N := some 31) (v := ?_) (a' := ?_) #[true, false, false, false] rfl rfl (by kernel_rfl) (fun _ _ _ h => h) (Or.inl ⟨by rfl, ?_⟩) ?_ ?_
          rotate_left
          · intro w'
            go_simp
            with_reducible rfl
          rotate_left
          · simp only [Act.put, List.setIfInBounds_toArray, List.set_cons_zero, List.set_cons_succ, i64_w, i32_w]
            rfl
          refine pure_ (i := 2) (N := some 2) (v := ?_) (a' := ?_) #[true, false, true, false] rfl rfl (by kernel_rfl) (fun _ _ _ h => h) (Or.inl ⟨by rfl, ?_⟩) ?_ ?_
          rotate_left
          · intro w'
            go_simp
            with_reducible rfl
          rotate_left
          · simp only [Act.put, List.setIfInBounds_toArray, List.set_cons_zero, List.set_cons_succ, i64_w, i32_w]
            rfl
          refine take_ (i := 1) (N := some 32) (v := ?_) (a' := ?_) #[true, true, true, false] rfl rfl (by kernel_rfl) (fun _ _ _ h => h) (Or.inl ⟨by rfl, ?_⟩) hHeld ?_ ?_
          rotate_left
          · rintro w' ⟨s0, s1, s2, s3⟩
            go_simp
            with_reducible rfl
          rotate_left
          · simp only [Act.put, List.setIfInBounds_toArray, List.set_cons_zero, List.set_cons_succ, i64_w, i32_w]
            rfl
          refine one_ (i := 3) (N := none) #[true, true, true, true] rfl rfl (by kernel_rfl) (by decide) (fun K hK => ?_)
          have hs28 : w27.cell? ⟨gb479, 0, none⟩ = some (.int .i64 0) := (blk_cell BK479.out 0).trans rfl
          have hfs28 := blk_frozen BK479.out 0
          have hns28_0 := NB478_479.out
          have hms28_0 := NB479_478.out
          have hs29 : w27.cell? ⟨gb479, 1, none⟩ = some (.string (⟨#[]⟩ : ByteArray)) := (blk_cell BK479.out 1).trans rfl
          have hfs29 := blk_frozen BK479.out 1
          have hns29_0 := NB478_479.out
          have hms29_0 := NB479_478.out
          have hs30 : w27.cell? ⟨gb479, 2, none⟩ = some (.int .i64 0) := (blk_cell BK479.out 2).trans rfl
          have hfs30 := blk_frozen BK479.out 2
          have hns30_0 := NB478_479.out
          have hms30_0 := NB479_478.out
          have hs32 : w27.cell? ⟨gb479, 3, none⟩ = some (.slice none 0 0) := (blk_cell BK479.out 3).trans rfl
          have hfs32 := blk_frozen BK479.out 3
          have hns32_0 := NB478_479.out
          have hms32_0 := NB479_478.out
          refine skip_ (w1 := ?_) (by rfl) rfl ?_ ?_
          rotate_left
          · go_simp
            rfl
          refine hK.out _ _ ⟨((cell_far (p := ⟨gb479, _, none⟩) NB478_479.out _).trans (((cell_far (p := ⟨gb479, _, none⟩) NB478_479.out _).trans (((cell_far (p := ⟨gb479, _, none⟩) NB478_479.out _).trans (((cell_far (p := ⟨gb479, _, none⟩) NB478_479.out _).trans (hHeld.1)))))))), ((cell_far (p := ⟨gb479, _, none⟩) NB478_479.out _).trans (((cell_far (p := ⟨gb479, _, none⟩) NB478_479.out _).trans (((cell_far (p := ⟨gb479, _, none⟩) NB478_479.out _).trans (((cell_far (p := ⟨gb479, _, none⟩) NB478_479.out _).trans (hHeld.2.1)))))))), ((cell_far (p := ⟨gb479, _, none⟩) NB478_479.out _).trans (((cell_far (p := ⟨gb479, _, none⟩) NB478_479.out _).trans (((cell_far (p := ⟨gb479, _, none⟩) NB478_479.out _).trans (((cell_far (p := ⟨gb479, _, none⟩) NB478_479.out _).trans (hHeld.2.2.1)))))))), ((cell_far (p := ⟨gb479, _, none⟩) NB478_479.out _).trans (((cell_far (p := ⟨gb479, _, none⟩) NB478_479.out _).trans (((cell_far (p := ⟨gb479, _, none⟩) NB478_479.out _).trans (((cell_far (p := ⟨gb479, _, none⟩) NB478_479.out _).trans (hHeld.2.2.2))))))))⟩ (fun hHeld => ?_)
          clear hK K
          refine done_ (by kernel_rfl) ?_
          try go_wp2
          refine bodyPost_ret (results_tc rfl _ _ gb479 24 #[.int .i64 x479000_1, .string x479001_1, .int .i64 x479002_1, .slice Ao31 x479003_1.length co31] (0, 0) _ rfl (by (with_reducible repeat (first | refine blk_drewN ?_ _ | refine blk_drew ?_ | refine blk_alloc ?_ _)); refine blk_put (cs := #[.int .i64 x479000_1, .string x479001_1, .int .i64 x479002_1, .slice none 0 0]) ?_ 3 _ rfl; (with_reducible repeat (first | refine blk_drewN ?_ _ | refine blk_drew ?_ | refine blk_alloc ?_ _)); refine blk_put (cs := #[.int .i64 x479000_1, .string x479001_1, .int .i64 0, .slice none 0 0]) ?_ 2 _ rfl; (with_reducible repeat (first | refine blk_drewN ?_ _ | refine blk_drew ?_ | refine blk_alloc ?_ _)); refine blk_put (cs := #[.int .i64 x479000_1, .string (⟨#[]⟩ : ByteArray), .int .i64 0, .slice none 0 0]) ?_ 1 _ rfl; (with_reducible repeat (first | refine blk_drewN ?_ _ | refine blk_drew ?_ | refine blk_alloc ?_ _)); refine blk_put (cs := #[.int .i64 0, .string (⟨#[]⟩ : ByteArray), .int .i64 0, .slice none 0 0]) ?_ 0 _ rfl; (with_reducible repeat (first | refine blk_drewN ?_ _ | refine blk_drew ?_ | refine blk_alloc ?_ _)); exact BK479.out) Try.underlying24 rfl (by kernel_rfl)) rfl ?_
          exact ⟨_, _, by first | rfl | (simp [errW_none, errW_some] <;> rfl) | (simp [*, errW_none, errW_some] <;> rfl), by (with_reducible repeat (first | apply Kd.N_alloc | apply Kd.N_drewN | apply Kd.N_drew)); exact Kd.N_mono (Kd.N_far (p := ⟨gb479, 3, none⟩) (Kd.N_far (p := ⟨gb479, 2, none⟩) (Kd.N_far (p := ⟨gb479, 1, none⟩) (Kd.N_far (p := ⟨gb479, 0, none⟩) (Kd.N_mono HO_4.out (fun k_ hk => (⟨hk, hk.2.2⟩ : _ ∧ k_ ≠ gb479))) (fun _ hk => hk.2) (.int .i64 x479000_1)) (fun _ hk => hk.2) (.string x479001_1)) (fun _ hk => hk.2) (.int .i64 x479002_1)) (fun _ hk => hk.2) (.slice Ao31 x479003_1.length co31)) (fun _ hk => hk.1.1), by (with_reducible repeat (first | apply Kd.V_alloc | apply Kd.V_drewN | apply Kd.V_drew)); exact Kd.V_mono (Kd.V_far (p := ⟨gb479, 3, none⟩) (Kd.V_far (p := ⟨gb479, 2, none⟩) (Kd.V_far (p := ⟨gb479, 1, none⟩) (Kd.V_far (p := ⟨gb479, 0, none⟩) (Kd.V_mono HO_479003.out (fun k_ hk => (⟨hk, hk.2.2.2⟩ : _ ∧ k_ ≠ gb479))) (fun _ hk => hk.2) (.int .i64 x479000_1)) (fun _ hk => hk.2) (.string x479001_1)) (fun _ hk => hk.2) (.int .i64 x479002_1)) (fun _ hk => hk.2) (.slice Ao31 x479003_1.length co31)) (fun _ hk => ⟨hk.1.1, hk.1.2.1⟩), by repeat (first | (with_reducible first | exact HB.out | apply below_alloc | apply pw_below_drewN | apply below_drew1 | refine below_set ?_ GE478.out | refine below_set ?_ GE479.out) | exact HB.out)⟩
      · rw [if_neg c6] at H
        have c6b0 : (x479000_1 == 4) = false := beq_eq_false_iff_ne.mpr c6
        have c6b1 : (x479000_1 != 4) = true := bne_iff_ne.mpr c6
        simp only [Option.some.injEq, Prod.mk.injEq] at H
        obtain ⟨rfl, rfl, rfl, rfl, rfl⟩ := H
        have hnb33 := NB478_479.out
        have hnc33 := NB479_478.out
        have hcz34_0 : wr.cell? ⟨gb478, 0, none⟩ = some (.int .i64 x479000_1) := (blk_cell BK478.out 0).trans rfl
        have hcz34_1 : wr.cell? ⟨gb478, 1, none⟩ = some (.string x479001_1) := (blk_cell BK478.out 1).trans rfl
        have hcz34_2 : wr.cell? ⟨gb478, 2, none⟩ = some (.int .i64 x479002_1) := (blk_cell BK478.out 2).trans rfl
        have hcz34_3 : wr.cell? ⟨gb478, 3, none⟩ = some (u479003) := (blk_cell BK478.out 3).trans rfl
        have hfz34_0 := blk_frozen BK478.out 0
        have hfz34_1 := blk_frozen BK478.out 1
        have hfz34_2 := blk_frozen BK478.out 2
        have hfz34_3 := blk_frozen BK478.out 3
        try go_wp2
        have n0_ := Aside0.mk (Kd.N_drew HO_4.out)
        have n1_ := Aside0.mk (Kd.V_drew HO_479003.out)
        have n2_ := Aside0.mk (blk_drew BK478.out)
        have n3_ := Aside0.mk (blk_drew BK479.out)
        have n4_ := Aside0.mk (below_drew1 HB.out)
        clear HO_4
        clear HO_479003
        clear BK478
        clear BK479
        clear HB
        have HO_4 := n0_
        have HO_479003 := n1_
        have BK478 := n2_
        have BK479 := n3_
        have HB := n4_
        clear n0_ n1_ n2_ n3_ n4_
        obtain ⟨Ao39, co39, eo39⟩ := Kd.V_slice HO_479003.out
        (first | subst eo39 | (injection eo39 with f1_ f2_ f3_; have f4_ := f1_.symm; have f5_ := f3_.symm; clear f1_ f2_ f3_; subst f4_; subst f5_))
        refine start_ (n := 4) (S := fun w' => w'.cell? ⟨gb478, 0, none⟩ = some (.int .i64 x479000_1) ∧ w'.cell? ⟨gb478, 1, none⟩ = some (.string x479001_1) ∧ w'.cell? ⟨gb478, 2, none⟩ = some (.int .i64 x479002_1) ∧ w'.cell? ⟨gb478, 3, none⟩ = some (.slice Ao39 x479003_1.length co39)) (ds := []) #[false, false, false, false] (by kernel_rfl) rfl rfl ⟨(blk_cell BK478.out 0).trans rfl, (blk_cell BK478.out 1).trans rfl, (blk_cell BK478.out 2).trans rfl, (blk_cell BK478.out 3).trans rfl⟩ (fun hHeld => ?_)
        generalize wr.drew = w35 at HO_4 HO_479003 BK478 BK479 HB hHeld ⊢
        refine pure_ (i := 0) (N := some 31) (v := ?_) (a' := ?_) #[true, false, false, false] rfl rfl (by kernel_rfl) (fun _ _ _ h => h) (Or.inl ⟨by rfl, ?_⟩) ?_ ?_
        rotate_left
        · intro w'
          go_simp
          with_reducible rfl
        rotate_left
        · simp only [Act.put, List.setIfInBounds_toArray, List.set_cons_zero, List.set_cons_succ, i64_w, i32_w]
          rfl
        refine pure_ (i := 2) (N := some 2) (v := ?_) (a' := ?_) #[true, false, true, false] rfl rfl (by kernel_rfl) (fun _ _ _ h => h) (Or.inl ⟨by rfl, ?_⟩) ?_ ?_
        rotate_left
        · intro w'
          go_simp
          with_reducible rfl
        rotate_left
        · simp only [Act.put, List.setIfInBounds_toArray, List.set_cons_zero, List.set_cons_succ, i64_w, i32_w]
          rfl
        refine take_ (i := 1) (N := some 32) (v := ?_) (a' := ?_) #[true, true, true, false] rfl rfl (by kernel_rfl) (fun _ _ _ h => h) (Or.inl ⟨by rfl, ?_⟩) hHeld ?_ ?_
        rotate_left
        · rintro w' ⟨s0, s1, s2, s3⟩
          go_simp
          with_reducible rfl
        rotate_left
        · simp only [Act.put, List.setIfInBounds_toArray, List.set_cons_zero, List.set_cons_succ, i64_w, i32_w]
          rfl
        refine one_ (i := 3) (N := none) #[true, true, true, true] rfl rfl (by kernel_rfl) (by decide) (fun K hK => ?_)
        have hs36 : w35.cell? ⟨gb479, 0, none⟩ = some (.int .i64 0) := (blk_cell BK479.out 0).trans rfl
        have hfs36 := blk_frozen BK479.out 0
        have hns36_0 := NB478_479.out
        have hms36_0 := NB479_478.out
        have hs37 : w35.cell? ⟨gb479, 1, none⟩ = some (.string (⟨#[]⟩ : ByteArray)) := (blk_cell BK479.out 1).trans rfl
        have hfs37 := blk_frozen BK479.out 1
        have hns37_0 := NB478_479.out
        have hms37_0 := NB479_478.out
        have hs38 : w35.cell? ⟨gb479, 2, none⟩ = some (.int .i64 0) := (blk_cell BK479.out 2).trans rfl
        have hfs38 := blk_frozen BK479.out 2
        have hns38_0 := NB478_479.out
        have hms38_0 := NB479_478.out
        have hs40 : w35.cell? ⟨gb479, 3, none⟩ = some (.slice none 0 0) := (blk_cell BK479.out 3).trans rfl
        have hfs40 := blk_frozen BK479.out 3
        have hns40_0 := NB478_479.out
        have hms40_0 := NB479_478.out
        refine skip_ (w1 := ?_) (by rfl) rfl ?_ ?_
        rotate_left
        · go_simp
          rfl
        refine hK.out _ _ ⟨((cell_far (p := ⟨gb479, _, none⟩) NB478_479.out _).trans (((cell_far (p := ⟨gb479, _, none⟩) NB478_479.out _).trans (((cell_far (p := ⟨gb479, _, none⟩) NB478_479.out _).trans (((cell_far (p := ⟨gb479, _, none⟩) NB478_479.out _).trans (hHeld.1)))))))), ((cell_far (p := ⟨gb479, _, none⟩) NB478_479.out _).trans (((cell_far (p := ⟨gb479, _, none⟩) NB478_479.out _).trans (((cell_far (p := ⟨gb479, _, none⟩) NB478_479.out _).trans (((cell_far (p := ⟨gb479, _, none⟩) NB478_479.out _).trans (hHeld.2.1)))))))), ((cell_far (p := ⟨gb479, _, none⟩) NB478_479.out _).trans (((cell_far (p := ⟨gb479, _, none⟩) NB478_479.out _).trans (((cell_far (p := ⟨gb479, _, none⟩) NB478_479.out _).trans (((cell_far (p := ⟨gb479, _, none⟩) NB478_479.out _).trans (hHeld.2.2.1)))))))), ((cell_far (p := ⟨gb479, _, none⟩) NB478_479.out _).trans (((cell_far (p := ⟨gb479, _, none⟩) NB478_479.out _).trans (((cell_far (p := ⟨gb479, _, none⟩) NB478_479.out _).trans (((cell_far (p := ⟨gb479, _, none⟩) NB478_479.out _).trans (hHeld.2.2.2))))))))⟩ (fun hHeld => ?_)
        clear hK K
        refine done_ (by kernel_rfl) ?_
        try go_wp2
        refine bodyPost_ret (results_tc rfl _ _ gb479 24 #[.int .i64 x479000_1, .string x479001_1, .int .i64 x479002_1, .slice Ao39 x479003_1.length co39] (0, 0) _ rfl (by (with_reducible repeat (first | refine blk_drewN ?_ _ | refine blk_drew ?_ | refine blk_alloc ?_ _)); refine blk_put (cs := #[.int .i64 x479000_1, .string x479001_1, .int .i64 x479002_1, .slice none 0 0]) ?_ 3 _ rfl; (with_reducible repeat (first | refine blk_drewN ?_ _ | refine blk_drew ?_ | refine blk_alloc ?_ _)); refine blk_put (cs := #[.int .i64 x479000_1, .string x479001_1, .int .i64 0, .slice none 0 0]) ?_ 2 _ rfl; (with_reducible repeat (first | refine blk_drewN ?_ _ | refine blk_drew ?_ | refine blk_alloc ?_ _)); refine blk_put (cs := #[.int .i64 x479000_1, .string (⟨#[]⟩ : ByteArray), .int .i64 0, .slice none 0 0]) ?_ 1 _ rfl; (with_reducible repeat (first | refine blk_drewN ?_ _ | refine blk_drew ?_ | refine blk_alloc ?_ _)); refine blk_put (cs := #[.int .i64 0, .string (⟨#[]⟩ : ByteArray), .int .i64 0, .slice none 0 0]) ?_ 0 _ rfl; (with_reducible repeat (first | refine blk_drewN ?_ _ | refine blk_drew ?_ | refine blk_alloc ?_ _)); exact BK479.out) Try.underlying24 rfl (by kernel_rfl)) rfl ?_
        exact ⟨_, _, by first | rfl | (simp [errW_none, errW_some] <;> rfl) | (simp [*, errW_none, errW_some] <;> rfl), by (with_reducible repeat (first | apply Kd.N_alloc | apply Kd.N_drewN | apply Kd.N_drew)); exact Kd.N_mono (Kd.N_far (p := ⟨gb479, 3, none⟩) (Kd.N_far (p := ⟨gb479, 2, none⟩) (Kd.N_far (p := ⟨gb479, 1, none⟩) (Kd.N_far (p := ⟨gb479, 0, none⟩) (Kd.N_mono HO_4.out (fun k_ hk => (⟨hk, hk.2.2⟩ : _ ∧ k_ ≠ gb479))) (fun _ hk => hk.2) (.int .i64 x479000_1)) (fun _ hk => hk.2) (.string x479001_1)) (fun _ hk => hk.2) (.int .i64 x479002_1)) (fun _ hk => hk.2) (.slice Ao39 x479003_1.length co39)) (fun _ hk => hk.1.1), by (with_reducible repeat (first | apply Kd.V_alloc | apply Kd.V_drewN | apply Kd.V_drew)); exact Kd.V_mono (Kd.V_far (p := ⟨gb479, 3, none⟩) (Kd.V_far (p := ⟨gb479, 2, none⟩) (Kd.V_far (p := ⟨gb479, 1, none⟩) (Kd.V_far (p := ⟨gb479, 0, none⟩) (Kd.V_mono HO_479003.out (fun k_ hk => (⟨hk, hk.2.2.2⟩ : _ ∧ k_ ≠ gb479))) (fun _ hk => hk.2) (.int .i64 x479000_1)) (fun _ hk => hk.2) (.string x479001_1)) (fun _ hk => hk.2) (.int .i64 x479002_1)) (fun _ hk => hk.2) (.slice Ao39 x479003_1.length co39)) (fun _ hk => ⟨hk.1.1, hk.1.2.1⟩), by repeat (first | (with_reducible first | exact HB.out | apply below_alloc | apply pw_below_drewN | apply below_drew1 | refine below_set ?_ GE478.out | refine below_set ?_ GE479.out) | exact HB.out)⟩


/-! ### pythiaref07_SameAll: function 43 -/
def pythiaref07_SameAll.l0 : Nat → List (S24) → List (S24) → Int → Option (Bool)
  | 0, _, _, _ => none
  | k + 1, x0, x1, x5 => if x5 < (x0.length : Int) then (if 0 ≤ x5 then (if x5 < (x1.length : Int) then ((pythiaref07_Same.f k ((rd_T24 x0 x5).f0) ((rd_T24 x0 x5).f1) ((rd_T24 x0 x5).f2) ((rd_T24 x0 x5).f3) ((rd_T24 x1 x5).f0) ((rd_T24 x1 x5).f1) ((rd_T24 x1 x5).f2) ((rd_T24 x1 x5).f3)).bind fun t490 => (if t490 = true then (pythiaref07_SameAll.l0 k x0 x1 (wrap64 (x5 + 1))) else (some false))) else (none)) else (none)) else (some true)
def pythiaref07_SameAll.f (k : Nat) (l0 : List (S24)) (l1 : List (S24)) : Option (Bool) := if (l0.length : Int) = (l1.length : Int) then (pythiaref07_SameAll.l0 k l0 l1 0) else (some false)
theorem pythiaref07_SameAll.mono_l : ∀ k, (∀ y0 y1 y2, LeO (pythiaref07_SameAll.l0 k y0 y1 y2) (pythiaref07_SameAll.l0 (k + 1) y0 y1 y2))
  | 0 => fun _ _ _ r h => by simp [pythiaref07_SameAll.l0] at h
  | k + 1 => by
    have ih0 := pythiaref07_SameAll.mono_l k
    · intro y0 y1 y2
      unfold pythiaref07_SameAll.l0
      repeat' first
      | (with_reducible exact ih0 _ _ _)
      | (with_reducible exact pythiaref07_Same.mono _ _ _ _ _ _ _ _ _)
      | (with_reducible exact LeO.refl _)
      | (with_reducible exact LeO.none _)
      | (with_reducible refine LeO.ite ?_ ?_)
      | (with_reducible refine LeO.bind ?_ (fun _ => ?_))
      | exact ih0 _ _ _
      | exact pythiaref07_Same.mono _ _ _ _ _ _ _ _ _
      | exact LeO.none _
      | refine LeO.ite ?_ ?_
      | refine LeO.bind ?_ (fun _ => ?_)
theorem pythiaref07_SameAll.mono : ∀ a0 a1 k, LeO (pythiaref07_SameAll.f k a0 a1) (pythiaref07_SameAll.f (k + 1) a0 a1) := by
  intro a0 a1 k
  have ih0 := pythiaref07_SameAll.mono_l k
  unfold pythiaref07_SameAll.f
  repeat' first
      | (with_reducible exact ih0 _ _ _)
      | (with_reducible exact pythiaref07_Same.mono _ _ _ _ _ _ _ _ _)
      | (with_reducible exact LeO.refl _)
      | (with_reducible exact LeO.none _)
      | (with_reducible refine LeO.ite ?_ ?_)
      | (with_reducible refine LeO.bind ?_ (fun _ => ?_))
      | exact ih0 _ _ _
      | exact pythiaref07_Same.mono _ _ _ _ _ _ _ _ _
      | exact LeO.none _
      | refine LeO.ite ?_ ?_
      | refine LeO.bind ?_ (fun _ => ?_)
def pythiaref07_SameAll.T6 : Bool × List (List Nat × List Nat) := (true, [([], []), ([], []), ([0, 1], [0, 1]), ([2], [2]), ([], []), ([], []), ([4, 5], [4, 5]), ([6], [6]), ([3, 7], [3, 7]), ([8], [8])])
def pythiaref07_SameAll.B6 : List Nat := [0, 0, 3, 7, 0, 0, 48, 112, 255, 511]
theorem pythiaref07_SameAll.tab6 : rtab .any (opsOf Try.f43 6) = pythiaref07_SameAll.T6 := by kernel_rfl
theorem pythiaref07_SameAll.bits6 : waitsOk pythiaref07_SameAll.T6.2 pythiaref07_SameAll.B6 = true := by kernel_rfl
set_option maxHeartbeats 8000000 in
set_option maxRecDepth 100000 in
theorem pythiaref07_SameAll.calls (k : Nat) (A0 : Option Addr) (c0 : Nat) (l0 : List (S24)) (A1 : Option Addr) (c1 : Nat) (l1 : List (S24)) (r : Bool) (w : World) (hr0 : Kd.C k24 w A0 l0.length l0) (hc0 : l0.length ≤ c0) (hr1 : Kd.C k24 w A1 l1.length l1) (hc1 : l1.length ≤ c1) (h : pythiaref07_SameAll.f k l0 l1 = some r) :
    Calls Try.prog 43 #[.slice A0 l0.length c0, .slice A1 l1.length c1] w fun e w' => e = .returned (.bool r) ∧ Below w.heap.size w w' := by
  have hu24 := Try.underlying24
  have HR0 := Aside0.mk hr0
  have HC0 := Aside0.mk hc0
  clear hr0 hc0
  have HR1 := Aside0.mk hr1
  have HC1 := Aside0.mk hc1
  clear hr1 hc1
  have HB := Aside0.mk (Below.refl w.heap.size w)
  have H : (if (l0.length : Int) = (l1.length : Int) then (pythiaref07_SameAll.l0 k l0 l1 0) else (some false)) = some r := h
  clear h
  by_cases c3 : (l0.length : Int) = (l1.length : Int)
  · rw [if_pos c3] at H
    have c3b0 : ((l0.length : Int) == (l1.length : Int)) = true := beq_iff_eq.mpr c3
    have c3b1 : ((l0.length : Int) != (l1.length : Int)) = false := bne_eq_false_iff_eq.mpr c3
    have c3b2 : (l0.length == l1.length) = true := by first | simpa using c3 | (simp at c3 ⊢; omega)
    clear c3
    have H' := Aside0.mk H
    clear H
    go_enter Try.func43, Try.ntmps43
    go_wp2
    go_loopg [5] k (fun kq v5 w' => ∃ (x5_1 : Int), v5 = .int .i64 x5_1 ∧ Aside0 (pythiaref07_SameAll.l0 kq l0 l1 x5_1 = some r) ∧ Aside0 (kq ≤ k) ∧ Aside0 (Below w.heap.size w w'))
    case atStart => exact ⟨(0), (by first | rfl | (simp; done) | (simp [*]; done)), H', ⟨Nat.le_refl _⟩, ⟨by repeat (first | (with_reducible first | exact HB.out | apply below_alloc | apply pw_below_drewN | apply below_drew1) | exact HB.out)⟩⟩
    case round =>
      clear H'
      try clear c1
      try clear p2
      try clear c3
      try clear c3b0
      try clear c3b1
      try clear c3b2
      obtain ⟨x5_1, rfl, HA, HK1, HB⟩ := hrel
      cases gk with
      | zero => exact absurd HA.out (by simp [pythiaref07_SameAll.l0])
      | succ k1 =>
        have H := HA.out
        clear HA
        simp only [pythiaref07_SameAll.l0] at H
        by_cases c4 : x5_1 < (l0.length : Int)
        · rw [if_pos c4] at H
          have c4b0 : decide (x5_1 < (l0.length : Int)) = true := decide_eq_true c4
          clear c4
          by_cases c5 : 0 ≤ x5_1
          · rw [if_pos c5] at H
            have c5b0 : decide (0 ≤ x5_1) = true := decide_eq_true c5
            clear c5
            by_cases c6 : x5_1 < (l1.length : Int)
            · rw [if_pos c6] at H
              have c6b0 : decide (x5_1 < (l1.length : Int)) = true := decide_eq_true c6
              clear c6
              replace H := Option.bind_eq_some_iff.mp H
              obtain ⟨t490, A70, H⟩ := H
              replace H : (if t490 = true then (pythiaref07_SameAll.l0 k1 l0 l1 (wrap64 (x5_1 + 1))) else (some false)) = some r := H
              have A7 := Aside0.mk A70
              clear A70
              by_cases c8 : t490 = true
              · subst c8
                have H1 : (pythiaref07_SameAll.l0 k1 l0 l1 (wrap64 (x5_1 + 1))) = some r := by rw [if_pos rfl] at H; exact H
                clear H
                have H := H1
                clear H1
                have H' := Aside0.mk H
                clear H
                try go_wp2
                have n0_ := Aside0.mk (below_drew1 HB.out)
                clear HB
                have HB := n0_
                clear n0_
                have p488 : 0 ≤ (x5_1 : Int) := of_decide_eq_true (by first | (with_reducible assumption) | assumption)
                have q488 : x5_1 < (l0.length : Int) := of_decide_eq_true (by first | (with_reducible assumption) | assumption)
                obtain ⟨ad488, A488_3, c488_3, e488, hx488_0, hx488_1, hx488_2, hx488_3, hl488_3, hi488_3⟩ := at_T24 HR0.out x5_1 p488 q488
                have hw488_3 := hx488_3
                have hw488_2 := hx488_2
                have hw488_1 := hx488_1
                have hw488_0 := hx488_0
                cases e488
                replace hx488_0 := (HB.out.cell (World.block_lt_of_cell? w _ hx488_0)).trans hx488_0
                replace hx488_1 := (HB.out.cell (World.block_lt_of_cell? w _ hx488_1)).trans hx488_1
                replace hx488_2 := (HB.out.cell (World.block_lt_of_cell? w _ hx488_2)).trans hx488_2
                replace hx488_3 := (HB.out.cell (World.block_lt_of_cell? w _ hx488_3)).trans hx488_3
                have HR488_3 := Aside0.mk hi488_3
                have HC488_3 := Aside0.mk hl488_3
                clear hi488_3 hl488_3
                replace p488 := eq_true p488
                replace q488 := eq_true q488
                have p489 : 0 ≤ (x5_1 : Int) := of_decide_eq_true (by first | (with_reducible assumption) | assumption)
                have q489 : x5_1 < (l1.length : Int) := of_decide_eq_true (by first | (with_reducible assumption) | assumption)
                obtain ⟨ad489, A489_3, c489_3, e489, hx489_0, hx489_1, hx489_2, hx489_3, hl489_3, hi489_3⟩ := at_T24 HR1.out x5_1 p489 q489
                have hw489_3 := hx489_3
                have hw489_2 := hx489_2
                have hw489_1 := hx489_1
                have hw489_0 := hx489_0
                cases e489
                replace hx489_0 := (HB.out.cell (World.block_lt_of_cell? w _ hx489_0)).trans hx489_0
                replace hx489_1 := (HB.out.cell (World.block_lt_of_cell? w _ hx489_1)).trans hx489_1
                replace hx489_2 := (HB.out.cell (World.block_lt_of_cell? w _ hx489_2)).trans hx489_2
                replace hx489_3 := (HB.out.cell (World.block_lt_of_cell? w _ hx489_3)).trans hx489_3
                have HR489_3 := Aside0.mk hi489_3
                have HC489_3 := Aside0.mk hl489_3
                clear hi489_3 hl489_3
                replace p489 := eq_true p489
                replace q489 := eq_true q489
                refine start_ (n := 10) (S := fun w' => w'.cell? (ad488.add ((x5_1).toNat * 4)) = some (.int .i64 ((rd_T24 l0 x5_1).f0)) ∧ w'.cell? ⟨(ad488.add ((x5_1).toNat * 4)).block, (ad488.add ((x5_1).toNat * 4)).off + 1, none⟩ = some (.string ((rd_T24 l0 x5_1).f1)) ∧ w'.cell? ⟨(ad488.add ((x5_1).toNat * 4)).block, (ad488.add ((x5_1).toNat * 4)).off + 2, none⟩ = some (.int .i64 ((rd_T24 l0 x5_1).f2)) ∧ w'.cell? ⟨(ad488.add ((x5_1).toNat * 4)).block, (ad488.add ((x5_1).toNat * 4)).off + 3, none⟩ = some (.slice A488_3 ((rd_T24 l0 x5_1).f3).length c488_3) ∧ w'.cell? (ad489.add ((x5_1).toNat * 4)) = some (.int .i64 ((rd_T24 l1 x5_1).f0)) ∧ w'.cell? ⟨(ad489.add ((x5_1).toNat * 4)).block, (ad489.add ((x5_1).toNat * 4)).off + 1, none⟩ = some (.string ((rd_T24 l1 x5_1).f1)) ∧ w'.cell? ⟨(ad489.add ((x5_1).toNat * 4)).block, (ad489.add ((x5_1).toNat * 4)).off + 2, none⟩ = some (.int .i64 ((rd_T24 l1 x5_1).f2)) ∧ w'.cell? ⟨(ad489.add ((x5_1).toNat * 4)).block, (ad489.add ((x5_1).toNat * 4)).off + 3, none⟩ = some (.slice A489_3 ((rd_T24 l1 x5_1).f3).length c489_3)) (ds := []) #[false, false, false, false, false, false, false, false, false, false] (by kernel_rfl) rfl rfl ⟨((HB.out.cell (World.block_lt_of_cell? w _ hw488_0)).trans hw488_0), ((HB.out.cell (World.block_lt_of_cell? w _ hw488_1)).trans hw488_1), ((HB.out.cell (World.block_lt_of_cell? w _ hw488_2)).trans hw488_2), ((HB.out.cell (World.block_lt_of_cell? w _ hw488_3)).trans hw488_3), ((HB.out.cell (World.block_lt_of_cell? w _ hw489_0)).trans hw489_0), ((HB.out.cell (World.block_lt_of_cell? w _ hw489_1)).trans hw489_1), ((HB.out.cell (World.block_lt_of_cell? w _ hw489_2)).trans hw489_2), ((HB.out.cell (World.block_lt_of_cell? w _ hw489_3)).trans hw489_3)⟩ (fun hHeld => ?_); refine with_tabW pythiaref07_SameAll.tab6 pythiaref07_SameAll.bits6 (fun HT_ HW_ => ?_)
                generalize wr.drew = w9 at HB HR488_3 HR489_3 hx488_0 hx488_1 hx488_2 hx488_3 hx489_0 hx489_1 hx489_2 hx489_3 hHeld ⊢
                refine pure_ (i := 0) (N := some 17) (v := ?_) (a' := ?_) #[true, false, false, false, false, false, false, false, false, false] rfl rfl (any_of HT_.out (by kernel_rfl)) (fun _ _ _ h => h) (Or.inl ⟨by rfl, ?_⟩) ?_ ?_
                rotate_left
                · intro w'
                  go_simp
                  with_reducible rfl
                rotate_left
                · simp only [Act.put, List.setIfInBounds_toArray, List.set_cons_zero, List.set_cons_succ, i64_w, i32_w]
                  rfl
                refine pure_ (i := 1) (N := some 18) (v := ?_) (a' := ?_) #[true, true, false, false, false, false, false, false, false, false] rfl rfl (any_of HT_.out (by kernel_rfl)) (fun _ _ _ h => h) (Or.inl ⟨by rfl, ?_⟩) ?_ ?_
                rotate_left
                · intro w'
                  go_simp
                  with_reducible rfl
                rotate_left
                · simp only [Act.put, List.setIfInBounds_toArray, List.set_cons_zero, List.set_cons_succ, i64_w, i32_w]
                  rfl
                refine pure_ (i := 2) (N := some 19) (v := ?_) (a' := ?_) #[true, true, true, false, false, false, false, false, false, false] rfl rfl (any_of HT_.out (by kernel_rfl)) (fun _ _ _ h => h) (Or.inl ⟨by rfl, ?_⟩) ?_ ?_
                rotate_left
                · intro w'
                  go_simp
                  with_reducible rfl
                rotate_left
                · simp only [Act.put, List.setIfInBounds_toArray, List.set_cons_zero, List.set_cons_succ, i64_w, i32_w]
                  rfl
                refine pure_ (i := 4) (N := some 21) (v := ?_) (a' := ?_) #[true, true, true, false, true, false, false, false, false, false] rfl rfl (any_of HT_.out (by kernel_rfl)) (fun _ _ _ h => h) (Or.inl ⟨by rfl, ?_⟩) ?_ ?_
                rotate_left
                · intro w'
                  go_simp
                  with_reducible rfl
                rotate_left
                · simp only [Act.put, List.setIfInBounds_toArray, List.set_cons_zero, List.set_cons_succ, i64_w, i32_w]
                  rfl
                refine pure_ (i := 5) (N := some 22) (v := ?_) (a' := ?_) #[true, true, true, false, true, true, false, false, false, false] rfl rfl (any_of HT_.out (by kernel_rfl)) (fun _ _ _ h => h) (Or.inl ⟨by rfl, ?_⟩) ?_ ?_
                rotate_left
                · intro w'
                  go_simp
                  with_reducible rfl
                rotate_left
                · simp only [Act.put, List.setIfInBounds_toArray, List.set_cons_zero, List.set_cons_succ, i64_w, i32_w]
                  rfl
                refine pure_ (i := 6) (N := some 23) (v := ?_) (a' := ?_) #[true, true, true, false, true, true, true, false, false, false] rfl rfl (any_of HT_.out (by kernel_rfl)) (fun _ _ _ h => h) (Or.inl ⟨by rfl, ?_⟩) ?_ ?_
                rotate_left
                · intro w'
                  go_simp
                  with_reducible rfl
                rotate_left
                · simp only [Act.put, List.setIfInBounds_toArray, List.set_cons_zero, List.set_cons_succ, i64_w, i32_w]
                  rfl
                refine take_ (i := 3) (N := some 20) (v := ?_) (a' := ?_) #[true, true, true, true, true, true, true, false, false, false] rfl rfl (take_ofW HT_.out HW_.out (by kernel_rfl)) (fun _ _ _ h => h) (Or.inl ⟨by rfl, ?_⟩) hHeld ?_ ?_
                rotate_left
                · rintro w' ⟨s0, s1, s2, s3, s4, s5, s6, s7⟩
                  go_simp
                  with_reducible rfl
                rotate_left
                · simp only [Act.put, List.setIfInBounds_toArray, List.set_cons_zero, List.set_cons_succ, i64_w, i32_w]
                  rfl
                refine take_ (i := 7) (N := some 24) (v := ?_) (a' := ?_) #[true, true, true, true, true, true, true, true, false, false] rfl rfl (take_ofW HT_.out HW_.out (by kernel_rfl)) (fun _ _ _ h => h) (Or.inl ⟨by rfl, ?_⟩) hHeld ?_ ?_
                rotate_left
                · rintro w' ⟨s0, s1, s2, s3, s4, s5, s6, s7⟩
                  go_simp
                  with_reducible rfl
                rotate_left
                · simp only [Act.put, List.setIfInBounds_toArray, List.set_cons_zero, List.set_cons_succ, i64_w, i32_w]
                  rfl
                refine one_ (i := 8) (N := some 25) #[true, true, true, true, true, true, true, true, true, false] rfl rfl (one_of HT_.out (by kernel_rfl)) (by decide) (fun K hK => ?_)
                refine goes_ Try.func40 (by kernel_rfl) rfl #[.agg #[.int .i64 ((rd_T24 l0 x5_1).f0), .string ((rd_T24 l0 x5_1).f1), .int .i64 ((rd_T24 l0 x5_1).f2), .slice A488_3 ((rd_T24 l0 x5_1).f3).length c488_3], .agg #[.int .i64 ((rd_T24 l1 x5_1).f0), .string ((rd_T24 l1 x5_1).f1), .int .i64 ((rd_T24 l1 x5_1).f2), .slice A489_3 ((rd_T24 l1 x5_1).f3).length c489_3]] (by rfl) rfl rfl (by (try simp only [List.map_toArray, List.map_cons, List.map_nil]); first | done | rfl | (simp only [List.length_drop, List.length_take]; rfl)) ?_
                with_reducible refine (pythiaref07_Same.calls k1 ((rd_T24 l0 x5_1).f0) ((rd_T24 l0 x5_1).f1) ((rd_T24 l0 x5_1).f2) _ _ ((rd_T24 l0 x5_1).f3) ((rd_T24 l1 x5_1).f0) ((rd_T24 l1 x5_1).f1) ((rd_T24 l1 x5_1).f2) _ _ ((rd_T24 l1 x5_1).f3) true _ ?side1 ?side2 ?side3 ?side4 A7.out).mono ?_
                (case side1 => repeat (first | exact (Kd.C_below HR488_3.out HB.out) | (with_reducible refine Kd.C_alloc ?_ _) | (with_reducible refine Kd.C_drewN ?_ _) | (with_reducible refine Kd.C_drew ?_)))
                (case side2 => exact HC488_3.out)
                (case side3 => repeat (first | exact (Kd.C_below HR489_3.out HB.out) | (with_reducible refine Kd.C_alloc ?_ _) | (with_reducible refine Kd.C_drewN ?_ _) | (with_reducible refine Kd.C_drew ?_)))
                (case side4 => exact HC489_3.out)
                rintro e w10 ⟨rfl, hb⟩
                refine ⟨_, rfl, ?_⟩
                have n0_ := Aside0.mk (below_step (by repeat (first | (with_reducible first | exact HB.out | apply below_alloc | apply pw_below_drewN | apply below_drew1) | exact HB.out)) hb)
                clear HB
                have HB := n0_
                clear n0_
                (try clear hb)
                (try clear hb2)
                (try clear hk)
                (try clear hi)
                refine hK.out _ _ ⟨((HB.out.cell (World.block_lt_of_cell? w _ hw488_0)).trans hw488_0), ((HB.out.cell (World.block_lt_of_cell? w _ hw488_1)).trans hw488_1), ((HB.out.cell (World.block_lt_of_cell? w _ hw488_2)).trans hw488_2), ((HB.out.cell (World.block_lt_of_cell? w _ hw488_3)).trans hw488_3), ((HB.out.cell (World.block_lt_of_cell? w _ hw489_0)).trans hw489_0), ((HB.out.cell (World.block_lt_of_cell? w _ hw489_1)).trans hw489_1), ((HB.out.cell (World.block_lt_of_cell? w _ hw489_2)).trans hw489_2), ((HB.out.cell (World.block_lt_of_cell? w _ hw489_3)).trans hw489_3)⟩ (fun hHeld => ?_)
                clear hK K
                refine norm_ (a' := ?_) ?_ ?_
                rotate_left
                · show Act.put _ (some 25) _ = _
                  simp only [Act.put, List.setIfInBounds_toArray, List.set_cons_zero, List.set_cons_succ, i64_w, i32_w]
                  rfl
                refine pure_ (i := 9) (N := some 26) (v := ?_) (a' := ?_) #[true, true, true, true, true, true, true, true, true, true] rfl rfl (any_of HT_.out (by kernel_rfl)) (fun _ _ _ h => h) (Or.inl ⟨by rfl, ?_⟩) ?_ ?_
                rotate_left
                · intro w'
                  go_simp
                  with_reducible rfl
                rotate_left
                · simp only [Act.put, List.setIfInBounds_toArray, List.set_cons_zero, List.set_cons_succ, i64_w, i32_w]
                  rfl
                refine done_ (done_of HT_.out (by kernel_rfl)) ?_
                try go_wp2
                go_roundg k1
                case measure => have := HK1.out; omega
                case rel => exact ⟨(wrap64 (x5_1 + 1)), (by first | rfl | (simp; done) | (simp [*]; done)), H', ⟨by have := HK1.out; omega⟩, ⟨by repeat (first | (with_reducible first | exact HB.out | apply below_alloc | apply pw_below_drewN | apply below_drew1) | exact HB.out)⟩⟩
              · replace c8 := Bool.eq_false_iff.mpr c8
                subst c8
                have H1 : (some false) = some r := by rw [if_neg (show ¬ (false = true) by decide)] at H; exact H
                clear H
                have H := H1
                clear H1
                obtain rfl := Option.some.inj H
                try go_wp2
                have n0_ := Aside0.mk (below_drew1 HB.out)
                clear HB
                have HB := n0_
                clear n0_
                have p488 : 0 ≤ (x5_1 : Int) := of_decide_eq_true (by first | (with_reducible assumption) | assumption)
                have q488 : x5_1 < (l0.length : Int) := of_decide_eq_true (by first | (with_reducible assumption) | assumption)
                obtain ⟨ad488, A488_3, c488_3, e488, hx488_0, hx488_1, hx488_2, hx488_3, hl488_3, hi488_3⟩ := at_T24 HR0.out x5_1 p488 q488
                have hw488_3 := hx488_3
                have hw488_2 := hx488_2
                have hw488_1 := hx488_1
                have hw488_0 := hx488_0
                cases e488
                replace hx488_0 := (HB.out.cell (World.block_lt_of_cell? w _ hx488_0)).trans hx488_0
                replace hx488_1 := (HB.out.cell (World.block_lt_of_cell? w _ hx488_1)).trans hx488_1
                replace hx488_2 := (HB.out.cell (World.block_lt_of_cell? w _ hx488_2)).trans hx488_2
                replace hx488_3 := (HB.out.cell (World.block_lt_of_cell? w _ hx488_3)).trans hx488_3
                have HR488_3 := Aside0.mk hi488_3
                have HC488_3 := Aside0.mk hl488_3
                clear hi488_3 hl488_3
                replace p488 := eq_true p488
                replace q488 := eq_true q488
                have p489 : 0 ≤ (x5_1 : Int) := of_decide_eq_true (by first | (with_reducible assumption) | assumption)
                have q489 : x5_1 < (l1.length : Int) := of_decide_eq_true (by first | (with_reducible assumption) | assumption)
                obtain ⟨ad489, A489_3, c489_3, e489, hx489_0, hx489_1, hx489_2, hx489_3, hl489_3, hi489_3⟩ := at_T24 HR1.out x5_1 p489 q489
                have hw489_3 := hx489_3
                have hw489_2 := hx489_2
                have hw489_1 := hx489_1
                have hw489_0 := hx489_0
                cases e489
                replace hx489_0 := (HB.out.cell (World.block_lt_of_cell? w _ hx489_0)).trans hx489_0
                replace hx489_1 := (HB.out.cell (World.block_lt_of_cell? w _ hx489_1)).trans hx489_1
                replace hx489_2 := (HB.out.cell (World.block_lt_of_cell? w _ hx489_2)).trans hx489_2
                replace hx489_3 := (HB.out.cell (World.block_lt_of_cell? w _ hx489_3)).trans hx489_3
                have HR489_3 := Aside0.mk hi489_3
                have HC489_3 := Aside0.mk hl489_3
                clear hi489_3 hl489_3
                replace p489 := eq_true p489
                replace q489 := eq_true q489
                refine start_ (n := 10) (S := fun w' => w'.cell? (ad488.add ((x5_1).toNat * 4)) = some (.int .i64 ((rd_T24 l0 x5_1).f0)) ∧ w'.cell? ⟨(ad488.add ((x5_1).toNat * 4)).block, (ad488.add ((x5_1).toNat * 4)).off + 1, none⟩ = some (.string ((rd_T24 l0 x5_1).f1)) ∧ w'.cell? ⟨(ad488.add ((x5_1).toNat * 4)).block, (ad488.add ((x5_1).toNat * 4)).off + 2, none⟩ = some (.int .i64 ((rd_T24 l0 x5_1).f2)) ∧ w'.cell? ⟨(ad488.add ((x5_1).toNat * 4)).block, (ad488.add ((x5_1).toNat * 4)).off + 3, none⟩ = some (.slice A488_3 ((rd_T24 l0 x5_1).f3).length c488_3) ∧ w'.cell? (ad489.add ((x5_1).toNat * 4)) = some (.int .i64 ((rd_T24 l1 x5_1).f0)) ∧ w'.cell? ⟨(ad489.add ((x5_1).toNat * 4)).block, (ad489.add ((x5_1).toNat * 4)).off + 1, none⟩ = some (.string ((rd_T24 l1 x5_1).f1)) ∧ w'.cell? ⟨(ad489.add ((x5_1).toNat * 4)).block, (ad489.add ((x5_1).toNat * 4)).off + 2, none⟩ = some (.int .i64 ((rd_T24 l1 x5_1).f2)) ∧ w'.cell? ⟨(ad489.add ((x5_1).toNat * 4)).block, (ad489.add ((x5_1).toNat * 4)).off + 3, none⟩ = some (.slice A489_3 ((rd_T24 l1 x5_1).f3).length c489_3)) (ds := []) #[false, false, false, false, false, false, false, false, false, false] (by kernel_rfl) rfl rfl ⟨((HB.out.cell (World.block_lt_of_cell? w _ hw488_0)).trans hw488_0), ((HB.out.cell (World.block_lt_of_cell? w _ hw488_1)).trans hw488_1), ((HB.out.cell (World.block_lt_of_cell? w _ hw488_2)).trans hw488_2), ((HB.out.cell (World.block_lt_of_cell? w _ hw488_3)).trans hw488_3), ((HB.out.cell (World.block_lt_of_cell? w _ hw489_0)).trans hw489_0), ((HB.out.cell (World.block_lt_of_cell? w _ hw489_1)).trans hw489_1), ((HB.out.cell (World.block_lt_of_cell? w _ hw489_2)).trans hw489_2), ((HB.out.cell (World.block_lt_of_cell? w _ hw489_3)).trans hw489_3)⟩ (fun hHeld => ?_); refine with_tabW pythiaref07_SameAll.tab6 pythiaref07_SameAll.bits6 (fun HT_ HW_ => ?_)
                generalize wr.drew = w11 at HB HR488_3 HR489_3 hx488_0 hx488_1 hx488_2 hx488_3 hx489_0 hx489_1 hx489_2 hx489_3 hHeld ⊢
                refine pure_ (i := 0) (N := some 17) (v := ?_) (a' := ?_) #[true, false, false, false, false, false, false, false, false, false] rfl rfl (any_of HT_.out (by kernel_rfl)) (fun _ _ _ h => h) (Or.inl ⟨by rfl, ?_⟩) ?_ ?_
                rotate_left
                · intro w'
                  go_simp
                  with_reducible rfl
                rotate_left
                · simp only [Act.put, List.setIfInBounds_toArray, List.set_cons_zero, List.set_cons_succ, i64_w, i32_w]
                  rfl
                refine pure_ (i := 1) (N := some 18) (v := ?_) (a' := ?_) #[true, true, false, false, false, false, false, false, false, false] rfl rfl (any_of HT_.out (by kernel_rfl)) (fun _ _ _ h => h) (Or.inl ⟨by rfl, ?_⟩) ?_ ?_
                rotate_left
                · intro w'
                  go_simp
                  with_reducible rfl
                rotate_left
                · simp only [Act.put, List.setIfInBounds_toArray, List.set_cons_zero, List.set_cons_succ, i64_w, i32_w]
                  rfl
                refine pure_ (i := 2) (N := some 19) (v := ?_) (a' := ?_) #[true, true, true, false, false, false, false, false, false, false] rfl rfl (any_of HT_.out (by kernel_rfl)) (fun _ _ _ h => h) (Or.inl ⟨by rfl, ?_⟩) ?_ ?_
                rotate_left
                · intro w'
                  go_simp
                  with_reducible rfl
                rotate_left
                · simp only [Act.put, List.setIfInBounds_toArray, List.set_cons_zero, List.set_cons_succ, i64_w, i32_w]
                  rfl
                refine pure_ (i := 4) (N := some 21) (v := ?_) (a' := ?_) #[true, true, true, false, true, false, false, false, false, false] rfl rfl (any_of HT_.out (by kernel_rfl)) (fun _ _ _ h => h) (Or.inl ⟨by rfl, ?_⟩) ?_ ?_
                rotate_left
                · intro w'
                  go_simp
                  with_reducible rfl
                rotate_left
                · simp only [Act.put, List.setIfInBounds_toArray, List.set_cons_zero, List.set_cons_succ, i64_w, i32_w]
                  rfl
                refine pure_ (i := 5) (N := some 22) (v := ?_) (a' := ?_) #[true, true, true, false, true, true, false, false, false, false] rfl rfl (any_of HT_.out (by kernel_rfl)) (fun _ _ _ h => h) (Or.inl ⟨by rfl, ?_⟩) ?_ ?_
                rotate_left
                · intro w'
                  go_simp
                  with_reducible rfl
                rotate_left
                · simp only [Act.put, List.setIfInBounds_toArray, List.set_cons_zero, List.set_cons_succ, i64_w, i32_w]
                  rfl
                refine pure_ (i := 6) (N := some 23) (v := ?_) (a' := ?_) #[true, true, true, false, true, true, true, false, false, false] rfl rfl (any_of HT_.out (by kernel_rfl)) (fun _ _ _ h => h) (Or.inl ⟨by rfl, ?_⟩) ?_ ?_
                rotate_left
                · intro w'
                  go_simp
                  with_reducible rfl
                rotate_left
                · simp only [Act.put, List.setIfInBounds_toArray, List.set_cons_zero, List.set_cons_succ, i64_w, i32_w]
                  rfl
                refine take_ (i := 3) (N := some 20) (v := ?_) (a' := ?_) #[true, true, true, true, true, true, true, false, false, false] rfl rfl (take_ofW HT_.out HW_.out (by kernel_rfl)) (fun _ _ _ h => h) (Or.inl ⟨by rfl, ?_⟩) hHeld ?_ ?_
                rotate_left
                · rintro w' ⟨s0, s1, s2, s3, s4, s5, s6, s7⟩
                  go_simp
                  with_reducible rfl
                rotate_left
                · simp only [Act.put, List.setIfInBounds_toArray, List.set_cons_zero, List.set_cons_succ, i64_w, i32_w]
                  rfl
                refine take_ (i := 7) (N := some 24) (v := ?_) (a' := ?_) #[true, true, true, true, true, true, true, true, false, false] rfl rfl (take_ofW HT_.out HW_.out (by kernel_rfl)) (fun _ _ _ h => h) (Or.inl ⟨by rfl, ?_⟩) hHeld ?_ ?_
                rotate_left
                · rintro w' ⟨s0, s1, s2, s3, s4, s5, s6, s7⟩
                  go_simp
                  with_reducible rfl
                rotate_left
                · simp only [Act.put, List.setIfInBounds_toArray, List.set_cons_zero, List.set_cons_succ, i64_w, i32_w]
                  rfl
                refine one_ (i := 8) (N := some 25) #[true, true, true, true, true, true, true, true, true, false] rfl rfl (one_of HT_.out (by kernel_rfl)) (by decide) (fun K hK => ?_)
                refine goes_ Try.func40 (by kernel_rfl) rfl #[.agg #[.int .i64 ((rd_T24 l0 x5_1).f0), .string ((rd_T24 l0 x5_1).f1), .int .i64 ((rd_T24 l0 x5_1).f2), .slice A488_3 ((rd_T24 l0 x5_1).f3).length c488_3], .agg #[.int .i64 ((rd_T24 l1 x5_1).f0), .string ((rd_T24 l1 x5_1).f1), .int .i64 ((rd_T24 l1 x5_1).f2), .slice A489_3 ((rd_T24 l1 x5_1).f3).length c489_3]] (by rfl) rfl rfl (by (try simp only [List.map_toArray, List.map_cons, List.map_nil]); first | done | rfl | (simp only [List.length_drop, List.length_take]; rfl)) ?_
                with_reducible refine (pythiaref07_Same.calls k1 ((rd_T24 l0 x5_1).f0) ((rd_T24 l0 x5_1).f1) ((rd_T24 l0 x5_1).f2) _ _ ((rd_T24 l0 x5_1).f3) ((rd_T24 l1 x5_1).f0) ((rd_T24 l1 x5_1).f1) ((rd_T24 l1 x5_1).f2) _ _ ((rd_T24 l1 x5_1).f3) false _ ?side1 ?side2 ?side3 ?side4 A7.out).mono ?_
                (case side1 => repeat (first | exact (Kd.C_below HR488_3.out HB.out) | (with_reducible refine Kd.C_alloc ?_ _) | (with_reducible refine Kd.C_drewN ?_ _) | (with_reducible refine Kd.C_drew ?_)))
                (case side2 => exact HC488_3.out)
                (case side3 => repeat (first | exact (Kd.C_below HR489_3.out HB.out) | (with_reducible refine Kd.C_alloc ?_ _) | (with_reducible refine Kd.C_drewN ?_ _) | (with_reducible refine Kd.C_drew ?_)))
                (case side4 => exact HC489_3.out)
                rintro e w12 ⟨rfl, hb⟩
                refine ⟨_, rfl, ?_⟩
                have n0_ := Aside0.mk (below_step (by repeat (first | (with_reducible first | exact HB.out | apply below_alloc | apply pw_below_drewN | apply below_drew1) | exact HB.out)) hb)
                clear HB
                have HB := n0_
                clear n0_
                (try clear hb)
                (try clear hb2)
                (try clear hk)
                (try clear hi)
                refine hK.out _ _ ⟨((HB.out.cell (World.block_lt_of_cell? w _ hw488_0)).trans hw488_0), ((HB.out.cell (World.block_lt_of_cell? w _ hw488_1)).trans hw488_1), ((HB.out.cell (World.block_lt_of_cell? w _ hw488_2)).trans hw488_2), ((HB.out.cell (World.block_lt_of_cell? w _ hw488_3)).trans hw488_3), ((HB.out.cell (World.block_lt_of_cell? w _ hw489_0)).trans hw489_0), ((HB.out.cell (World.block_lt_of_cell? w _ hw489_1)).trans hw489_1), ((HB.out.cell (World.block_lt_of_cell? w _ hw489_2)).trans hw489_2), ((HB.out.cell (World.block_lt_of_cell? w _ hw489_3)).trans hw489_3)⟩ (fun hHeld => ?_)
                clear hK K
                refine norm_ (a' := ?_) ?_ ?_
                rotate_left
                · show Act.put _ (some 25) _ = _
                  simp only [Act.put, List.setIfInBounds_toArray, List.set_cons_zero, List.set_cons_succ, i64_w, i32_w]
                  rfl
                refine pure_ (i := 9) (N := some 26) (v := ?_) (a' := ?_) #[true, true, true, true, true, true, true, true, true, true] rfl rfl (any_of HT_.out (by kernel_rfl)) (fun _ _ _ h => h) (Or.inl ⟨by rfl, ?_⟩) ?_ ?_
                rotate_left
                · intro w'
                  go_simp
                  with_reducible rfl
                rotate_left
                · simp only [Act.put, List.setIfInBounds_toArray, List.set_cons_zero, List.set_cons_succ, i64_w, i32_w]
                  rfl
                refine done_ (done_of HT_.out (by kernel_rfl)) ?_
                try go_wp2
                go_ret
                exact ⟨by first | rfl | (simp [errW_none, errW_some] <;> rfl) | (simp [*, errW_none, errW_some] <;> rfl), by repeat (first | (with_reducible first | exact HB.out | apply below_alloc | apply pw_below_drewN | apply below_drew1) | exact HB.out)⟩
            · rw [if_neg c6] at H
              exact absurd H (by simp)
          · rw [if_neg c5] at H
            exact absurd H (by simp)
        · rw [if_neg c4] at H
          have c4b0 : decide (x5_1 < (l0.length : Int)) = false := decide_eq_false c4
          clear c4
          obtain rfl := Option.some.inj H
          go_wp2
          go_ret
          exact ⟨by first | rfl | (simp [errW_none, errW_some] <;> rfl) | (simp [*, errW_none, errW_some] <;> rfl), by repeat (first | (with_reducible first | exact HB.out | apply below_alloc | apply pw_below_drewN | apply below_drew1) | exact HB.out)⟩
  · rw [if_neg c3] at H
    have c3b0 : ((l0.length : Int) == (l1.length : Int)) = false := beq_eq_false_iff_ne.mpr c3
    have c3b1 : ((l0.length : Int) != (l1.length : Int)) = true := bne_iff_ne.mpr c3
    have c3b2 : (l0.length == l1.length) = false := by first | simpa using c3 | (simp at c3 ⊢; omega)
    obtain rfl := Option.some.inj H
    go_enter Try.func43, Try.ntmps43
    go_wp2
    go_ret
    exact ⟨by first | rfl | (simp [errW_none, errW_some] <;> rfl) | (simp [*, errW_none, errW_some] <;> rfl), by repeat (first | (with_reducible first | exact HB.out | apply below_alloc | apply pw_below_drewN | apply below_drew1) | exact HB.out)⟩

end Go.Proofs.Ytpnkaggkedepeaa.PTermTells
