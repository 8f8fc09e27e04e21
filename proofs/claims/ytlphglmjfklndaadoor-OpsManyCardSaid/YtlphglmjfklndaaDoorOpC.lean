/- Add. -/
import Derived.Test.YtlphglmjfklndaaDoorOpB
import Derived.Test.YtlphglmjfklndaaDoorPOpsApartr2
import Derived.Deep.RegionWith
import Derived.Deep.CutRange
import Derived.StillTailTactics
namespace Go.Proofs.YtlphglmjfklndaaDoor
set_option linter.unusedVariables false
open Go.RowKit Go.Maps Go.Proofs.YtlphglmjfklndaaDoorW.PrintWords Go.Proofs.YtlphglmjfklndaaDoorW.PrintLast Go.Proofs.YtlphglmjfklndaaDoorW.PrintMore Go.Proofs.YtlphglmjfklndaaDoor.POpsApart Go.Extern

theorem after_f (ty : Int) : ops_after.f ty = some (aftT ty) := by
  unfold ops_after.f aftT
  by_cases h : ty = 4
  · subst h; rfl
  · rw [if_neg h]
    have : (ty == 4) = false := by simpa using h
    rw [this]
    rfl
theorem after_at (ty : Int) (w : World) : Calls Tryd.prog 20 #[.int .i64 ty] w fun e w' => e = .returned (.bool (aftT ty)) ∧ Below w.heap.size w w' :=
  (ops_after.calls ty (aftT ty) w (after_f ty)).mono fun e w' ⟨he, nd, hw⟩ => ⟨he, by rw [hw]; exact pw_below_drewN (Below.refl _ _) nd⟩
/-- Has an operator of this type one argument, ahead of it? -/
def postT (ty : Int) : Bool := ty == 6 || ty == 7
theorem post_f (ty : Int) : ops_postfix.f ty = some (postT ty) := by
  unfold ops_postfix.f postT
  by_cases h : ty = 6
  · subst h; rfl
  · rw [if_neg h]
    have : (ty == 6) = false := by simpa using h
    rw [this]
    rfl

theorem post_at (ty : Int) (w : World) (n : Nat) : Calls Tryd.prog 28 #[.int .i64 ty] (w.drewN n) fun e w' => e = .returned (.bool (postT ty)) ∧ ∃ m, w' = w.drewN m :=
  Calls.quiet_of ((ops_postfix.calls ty (postT ty) (w.drewN n) (post_f ty)).mono fun e w' ⟨he, nd, hw⟩ => ⟨he, nd, hw⟩)

/-- Names that are never operators. -/
def badN (b : ByteArray) : Bool := b.toList == [44] || (b.toList == [124] || (b.toList == [91, 93] || b.toList == [123, 125]))
/-- What Add does. -/
def addT (o : S27) (L : List S27) : Int × List S27 :=
  if o.f1 < 1 ∨ 7 < o.f1 ∨ o.f2 < 0 ∨ 1200 < o.f2 then (1, L)
  else if o.f0.toList.isEmpty = true ∨ 64 < o.f0.size then (2, L)
  else if badN o.f0 = true then (90, L)
  else match getO (keyO o) L with
    | some q => if postT q.f1 ≠ postT o.f1 then (90, L) else if o.f2 = 0 then (0, remO (keyO o) L) else (0, o :: remO (keyO o) L)
    | none => if o.f2 = 0 then (0, remO (keyO o) L) else if 200 ≤ L.length then (3, L) else (0, o :: remO (keyO o) L)

set_option maxHeartbeats 4000000 in
set_option maxRecDepth 100000 in
theorem Add_any (w : World) (p m : Nat) (L : List S27) (o : S27) (h : TabV w p m L) (hn : o.f0.size ≤ maxLen) :
    Calls Tryd.prog 10 #[.pointer (some ⟨p, 0, none⟩), .agg #[.string o.f0, .int .i64 o.f1, .int .i64 o.f2]] w fun e w' => e = .returned (.int .i64 (addT o L).1) ∧ TabV w' p m (addT o L).2 ∧ w.grownBy w' (some m) := by
  obtain ⟨Y, hY⟩ : ∃ Y, Y = addT o L := ⟨_, rfl⟩
  rw [← hY]
  unfold addT at hY
  have hk := key_of (aftT o.f1) hn
  have hB0 := below_alloc (Below.refl w.heap.size w) (.cells #[.string o.f0, .int .i64 o.f1, .int .i64 o.f2] 27)
  have kO := blk_new w (.cells #[.string o.f0, .int .i64 o.f1, .int .i64 o.f2] 27)
  go_enter Tryd.func10, Tryd.ntmps10
  go_upto_region 1 with (fail)
  generalize w.alloc (.cells #[.string o.f0, .int .i64 o.f1, .int .i64 o.f2] 27) = w1 at hB0 kO ⊢
  have o0 : w1.cell? ⟨w.heap.size, 0, none⟩ = some (.string o.f0) := blk_cell kO 0
  have o1 : w1.cell? ⟨w.heap.size, 1, none⟩ = some (.int .i64 o.f1) := blk_cell kO 1
  have lO := blk_lt kO
  go_cut [5] from 5 to 13 (fun v wx => ∃ g, v = .pointer (some ⟨g, 0, none⟩) ∧ wx.heap[g]? = some (.cells #[.string o.f0, .bool (aftT o.f1)] 52 (0, 0)) ∧ Below w1.heap.size w1 wx ∧ w1.heap.size ≤ g)
  case first =>
    go_region_with (go_at_call 20; refine (after_at o.f1 _).mono ?_; rintro e w5 ⟨rfl, hb5⟩; have hX : Below w1.heap.size w1 w5 := (by first | exact below_step (Below.drew (Below.refl _ _)) hb5 | exact below_step (below_alloc (Below.drew (Below.refl _ _)) _) hb5); have p0 : w5.cell? ⟨w.heap.size, 0, none⟩ = some (.string o.f0) := blk_cell (blk_below kO hX) 0; have p1 : w5.cell? ⟨w.heap.size, 1, none⟩ = some (.int .i64 o.f1) := blk_cell (blk_below kO hX) 1; have lB : w.heap.size < w5.heap.size := blk_lt (blk_below kO hX); (first | (have kA := blk_below (blk_new w1.drew (.cells #[.string ⟨#[]⟩, .bool false] 52)) hb5; have a0 : w5.cell? ⟨w1.heap.size, 0, none⟩ = some (.string ⟨#[]⟩) := blk_cell kA 0; have a1 : w5.cell? ⟨w1.heap.size, 1, none⟩ = some (.bool false) := blk_cell kA 1; have f0 : w5.frozen? ⟨w1.heap.size, 0, none⟩ = false := blk_frozen kA 0; have f1 : w5.frozen? ⟨w1.heap.size, 1, none⟩ = false := blk_frozen kA 1; have lA : w1.heap.size < w5.heap.size := blk_lt kA) | skip))
    all_goals
      go_wp2
      go_meet
      case rel =>
        first
          | exact ⟨_, rfl, blk_new _ _, below_alloc hX _, hX.size⟩
          | exact ⟨w1.heap.size, rfl, by simpa using blk_set (blk_set kA 0 (.string o.f0)) 1 (.bool (aftT o.f1)), below_set (below_set hX (Nat.le_refl _)) (Nat.le_refl _), Nat.le_refl _⟩
  case rest =>
  obtain ⟨g, rfl, kK, hBc, hg⟩ := hcut
  have hTc : TabV wc p m L := (h.below hB0).below hBc
  have kOc := blk_below kO hBc
  clear o0 o1 lO kO
  have hlook : ∀ W, TabV W p m L → ∃ q, optO (getO (keyO o) L) = q ∧ (Instr.lookup 42 (.map (some m)) (.agg #[.string o.f0, .bool (aftT o.f1)]) true).run Tryd.prog W = .ok (.tuple #[.agg #[.string q.f0, .int .i64 q.f1, .int .i64 q.f2], .bool (getO (keyO o) L).isSome]) W := fun W hW => by
    obtain ⟨v, ps, hr, hv⟩ := hW.own.look_ok K52 Tryd.underlying42 (Tryd.zeroValue27 W) (zd := .held (.agg #[.string ⟨#[]⟩, .int .i64 0, .int .i64 0])) (zp := []) rfl hk
    rw [lookO hW.tab rfl hv, tdat_has hW.tab] at hr
    exact ⟨_, rfl, hr⟩
  obtain ⟨q, hq, l1⟩ := hlook wc.drew (hTc.below (Below.drew (Below.refl _ _)))
  obtain ⟨q2, hq2, l2⟩ := hlook (wc.alloc (.cells #[.string ⟨#[]⟩, .int .i64 0, .int .i64 0] 27)).drew (hTc.below (Below.drew (below_alloc (Below.refl _ _) _)))
  obtain rfl : q = q2 := hq.symm.trans hq2
  clear hlook hq2
  generalize hsm : (getO (keyO o) L).isSome = sm at l1 l2
  have c0 : wc.cell? ⟨p, 0, none⟩ = some (.map (some m)) := blk_cell hTc.blk 0
  have k0 : wc.cell? ⟨g, 0, none⟩ = some (.string o.f0) := blk_cell kK 0
  have k1 : wc.cell? ⟨g, 1, none⟩ = some (.bool (aftT o.f1)) := blk_cell kK 1
  have lp := hTc.plt
  have lg := blk_lt kK
  go_upto_region 2 with (fail)
  go_cut [6, 7] from 6 to 22 (fun v6 v7 wx => ∃ g6, v6 = .pointer (some ⟨g6, 0, none⟩) ∧ v7 = .bool sm ∧ wx.heap[g6]? = some (.cells #[.string q.f0, .int .i64 q.f1, .int .i64 q.f2] 27 (0, 0)) ∧ Below wc.heap.size wc wx)
  case first =>
    go_region
    all_goals
      go_wp2
      go_meet
      case rel => exact ⟨_, rfl, rfl, blk_new wc _, (below_alloc (Below.refl _ _) _).drew⟩
  case rest =>
  obtain ⟨g6, rfl, rfl, k6, hB6⟩ := hcut
  have hTd := hTc.below hB6
  have kKd := blk_below kK hB6
  have kOd := blk_below kOc hB6
  have hBd : Below w.heap.size w wc := by
    have a := below_step hB0 hBc
    exact below_step a hB6
  clear l1 l2 c0 k0 k1 lp lg hTc kK kOc hB6 hBc hB0 hg
  have o0 : wc.cell? ⟨w.heap.size, 0, none⟩ = some (.string o.f0) := blk_cell kOd 0
  have o1 : wc.cell? ⟨w.heap.size, 1, none⟩ = some (.int .i64 o.f1) := blk_cell kOd 1
  have o2 : wc.cell? ⟨w.heap.size, 2, none⟩ = some (.int .i64 o.f2) := blk_cell kOd 2
  have hend : ∀ r, Y = (r, L) → (Ending.returned (Value.int .i64 r) = .returned (.int .i64 Y.1) ∧ TabV wc p m Y.2 ∧ w.grownBy wc (some m)) := fun r hr => by
    rw [hr]
    exact ⟨rfl, hTd, grown_of_below hBd _⟩
  -- the type and the precedence
  go_upto_region 3 with (fail)
  go_cut [23] from 23 to 41 (fun v wx => v = .bool (decide (o.f1 < 1 ∨ 7 < o.f1 ∨ o.f2 < 0 ∨ 1200 < o.f2)) ∧ wx = wc)
  case first =>
    by_cases a1 : o.f1 < 1
    · have d1 : decide (o.f1 < 1) = true := decide_eq_true a1
      have dd : decide (o.f1 < 1 ∨ 7 < o.f1 ∨ o.f2 < 0 ∨ 1200 < o.f2) = true := decide_eq_true (.inl a1)
      go_wp2
      go_meet
      case rel => exact ⟨by rw [dd], rfl⟩
    have d1 : decide (o.f1 < 1) = false := decide_eq_false a1
    by_cases a2 : 7 < o.f1
    · have d2 : decide (7 < o.f1) = true := decide_eq_true a2
      have dd : decide (o.f1 < 1 ∨ 7 < o.f1 ∨ o.f2 < 0 ∨ 1200 < o.f2) = true := decide_eq_true (.inr (.inl a2))
      go_wp2
      go_meet
      case rel => exact ⟨by rw [dd], rfl⟩
    have d2 : decide (7 < o.f1) = false := decide_eq_false a2
    by_cases a3 : o.f2 < 0
    · have d3 : decide (o.f2 < 0) = true := decide_eq_true a3
      have dd : decide (o.f1 < 1 ∨ 7 < o.f1 ∨ o.f2 < 0 ∨ 1200 < o.f2) = true := decide_eq_true (.inr (.inr (.inl a3)))
      go_wp2
      go_meet
      case rel => exact ⟨by rw [dd], rfl⟩
    have d3 : decide (o.f2 < 0) = false := decide_eq_false a3
    by_cases a4 : 1200 < o.f2
    · have d4 : decide (1200 < o.f2) = true := decide_eq_true a4
      have dd : decide (o.f1 < 1 ∨ 7 < o.f1 ∨ o.f2 < 0 ∨ 1200 < o.f2) = true := decide_eq_true (.inr (.inr (.inr a4)))
      go_wp2
      go_meet
      case rel => exact ⟨by rw [dd], rfl⟩
    have d4 : decide (1200 < o.f2) = false := decide_eq_false a4
    have dd : decide (o.f1 < 1 ∨ 7 < o.f1 ∨ o.f2 < 0 ∨ 1200 < o.f2) = false := decide_eq_false (by omega)
    go_wp2
    go_meet
    case rel => exact ⟨by rw [dd], rfl⟩
  case rest =>
  obtain ⟨rfl, rfl⟩ := hcut
  by_cases h1 : o.f1 < 1 ∨ 7 < o.f1 ∨ o.f2 < 0 ∨ 1200 < o.f2
  · rw [decide_eq_true h1]
    go_wp2
    go_ret
    exact hend 1 (by rw [hY, if_pos h1])
  rw [decide_eq_false h1]
  rw [if_neg h1] at hY
  -- the name's length
  go_upto_region 5 with (fail)
  go_cut [42] from 42 to 51 (fun v wx => v = .bool (decide (o.f0.toList.isEmpty = true ∨ 64 < o.f0.size)) ∧ wx = wc)
  case first =>
    by_cases a1 : o.f0.toList.isEmpty = true
    · have d1 := a1
      have dd : decide (o.f0.toList.isEmpty = true ∨ 64 < o.f0.size) = true := decide_eq_true (.inl a1)
      go_wp2
      go_meet
      case rel => exact ⟨by rw [dd], rfl⟩
    have d1 : o.f0.toList.isEmpty = false := by simpa using a1
    by_cases a2 : 64 < o.f0.size
    · have d2 : decide ((64 : Int) < (o.f0.size : Int)) = true := decide_eq_true (by omega)
      have dd : decide (o.f0.toList.isEmpty = true ∨ 64 < o.f0.size) = true := decide_eq_true (.inr a2)
      go_wp2
      go_meet
      case rel => exact ⟨by rw [dd], rfl⟩
    have d2 : decide ((64 : Int) < (o.f0.size : Int)) = false := decide_eq_false (by omega)
    have dd : decide (o.f0.toList.isEmpty = true ∨ 64 < o.f0.size) = false := decide_eq_false (fun h => h.elim a1 a2)
    go_wp2
    go_meet
    case rel => exact ⟨by rw [dd], rfl⟩
  case rest =>
  obtain ⟨rfl, rfl⟩ := hcut
  by_cases h2 : o.f0.toList.isEmpty = true ∨ 64 < o.f0.size
  · rw [decide_eq_true h2]
    go_wp2
    go_ret
    exact hend 2 (by rw [hY, if_pos h2])
  rw [decide_eq_false h2]
  rw [if_neg h2] at hY
  have hn64 : o.f0.size ≤ 64 := by omega
  -- the names that are none
  go_upto_region 7 with (fail)
  go_cut [52] from 52 to 70 (fun v wx => v = .bool (badN o.f0) ∧ wx = wc)
  case first =>
    cases b1 : (o.f0.toList == [44]) with
    | true =>
      have dd : badN o.f0 = true := by unfold badN; rw [b1]; rfl
      go_wp2
      go_meet
      case rel => exact ⟨by rw [dd], rfl⟩
    | false =>
    cases b2 : (o.f0.toList == [124]) with
    | true =>
      have dd : badN o.f0 = true := by unfold badN; rw [b1, b2]; rfl
      go_wp2
      go_meet
      case rel => exact ⟨by rw [dd], rfl⟩
    | false =>
    cases b3 : (o.f0.toList == [91, 93]) with
    | true =>
      have dd : badN o.f0 = true := by unfold badN; rw [b1, b2, b3]; rfl
      go_wp2
      go_meet
      case rel => exact ⟨by rw [dd], rfl⟩
    | false =>
      have dd : badN o.f0 = (o.f0.toList == [123, 125]) := by unfold badN; rw [b1, b2, b3]; rfl
      go_wp2
      go_meet
      case rel => exact ⟨by rw [dd], rfl⟩
  case rest =>
  obtain ⟨rfl, rfl⟩ := hcut
  cases h3 : badN o.f0 with
  | true =>
    rw [if_pos h3] at hY
    go_wp2
    go_ret
    exact hend 90 hY
  | false =>
  rw [if_neg (by rw [h3]; decide)] at hY
  -- is it of the other sort?
  go_upto_region 9 with (fail)
  have hY2 : Y = if (sm && (postT q.f1 != postT o.f1)) = true then (90, L) else if o.f2 = 0 then (0, remO (keyO o) L) else if (!sm && decide (200 ≤ L.length)) = true then (3, L) else (0, o :: remO (keyO o) L) := by
    rw [hY]
    cases hg : getO (keyO o) L with
    | none =>
      rw [hg] at hsm
      rw [← hsm]
      simp
    | some r =>
      rw [hg] at hsm hq
      obtain rfl : r = q := hq
      rw [← hsm]
      simp
  clear hY hq
  have q1 : wc.cell? ⟨g6, 1, none⟩ = some (.int .i64 q.f1) := blk_cell k6 1
  go_cut [71] from 71 to 81 (fun v wx => v = .bool (sm && (postT q.f1 != postT o.f1)) ∧ ∃ nd, wx = wc.drewN nd)
  case first =>
    cases sm with
    | false =>
      go_quiet (fail)
      go_wp2
      go_meet
      case rel => exact ⟨rfl, _, rfl⟩
    | true =>
      go_quiet (first | (go_at_call 28; exact post_at q.f1 _ _) | (go_at_call 28; exact post_at o.f1 _ _))
      go_wp2
      go_meet
      case rel => exact ⟨rfl, _, rfl⟩
  case rest =>
  obtain ⟨rfl, nd, rfl⟩ := hcut
  have hBn := pw_below_drewN (Below.refl wc.heap.size wc) nd
  have hTe := hTd.below hBn
  have kKe := blk_below kKd hBn
  have kOe := blk_below kOd hBn
  have hBe := below_step hBd hBn
  clear o0 o1 o2 q1 k6 hTd kKd kOd hBd hBn hend
  generalize wc.drewN nd = we at hTe kKe kOe hBe ⊢
  have hend : ∀ r, Y = (r, L) → (Ending.returned (Value.int .i64 r) = .returned (.int .i64 Y.1) ∧ TabV we p m Y.2 ∧ w.grownBy we (some m)) := fun r hr => by
    rw [hr]
    exact ⟨rfl, hTe, grown_of_below hBe _⟩
  cases hpb : (sm && (postT q.f1 != postT o.f1)) with
  | true =>
    rw [if_pos hpb] at hY2
    go_wp2
    go_ret
    exact hend 90 hY2
  | false =>
  rw [if_neg (by rw [hpb]; decide)] at hY2
  have o2 : we.cell? ⟨w.heap.size, 2, none⟩ = some (.int .i64 o.f2) := blk_cell kOe 2
  by_cases hz : o.f2 = 0
  · rw [if_pos hz] at hY2
    have z1 : (o.f2 == 0) = true := by simpa using hz
    go_upto_region 12 with (fail)
    have hTf := hTe.below (Below.drew (Below.refl _ _))
    have kKf := blk_below kKe (Below.drew (Below.refl _ _))
    have hBf := hBe.drew
    refine wp_region_still_tail 5 (by kernel_rfl) (by kernel_rfl) ?_
    change wpStill _ _ we.drew (fun a' => wpList _ _ _ _ a' we.drew) _ _
    generalize we.drew = wf at hTf kKf hBf ⊢
    have c0 : wf.cell? ⟨p, 0, none⟩ = some (.map (some m)) := blk_cell hTf.blk 0
    have k0 : wf.cell? ⟨g, 0, none⟩ = some (.string o.f0) := blk_cell kKf 0
    have k1 : wf.cell? ⟨g, 1, none⟩ = some (.bool (aftT o.f1)) := blk_cell kKf 1
    simp only [List.take_succ_cons, List.take_zero, List.drop_succ_cons, List.drop_zero]
    repeat still_step
    refine wpStill_nil ?_
    go_wp2_with (at_delete; refine wpList_delete_own _ rfl (.tmp 89) (.tmp 90) 42 52 rfl 27 K52 Tryd.underlying42 rawE m L.length (tdat L) rfl hTf.own _ _ rfl hk ?_; intro w9 hown9 hturn9)
    rw [tdat_del hTf.tab] at hown9
    obtain ⟨r1, r2, r3⟩ := hTf.turned hown9 hturn9 (hTf.tab.rem _) (Nat.le_trans (List.length_filter_le _ _) hTf.len)
    go_ret
    rw [hY2]
    exact ⟨rfl, r1, grown_trans (grown_of_below hBf _) hturn9.grown⟩
  rw [if_neg hz] at hY2
  have z1 : (o.f2 == 0) = false := by simpa using hz
  -- is there room?
  go_upto_region 14 with (fail)
  have c0 : we.cell? ⟨p, 0, none⟩ = some (.map (some m)) := blk_cell hTe.blk 0
  go_cut [91] from 91 to 101 (fun v wx => v = .bool (!sm && decide (200 ≤ L.length)) ∧ wx = we)
  case first =>
    cases sm with
    | true =>
      go_wp2
      go_meet
      case rel => exact ⟨rfl, rfl⟩
    | false =>
      have hlen : (Builtin.len_ #[42] 3 #[.map (some m)]).run Tryd.prog we = .ok (.int .i64 L.length) we := by
        have := hTe.own.len Tryd.underlying42 3
        rwa [tdat_size] at this
      go_wp2
      go_meet
      case rel => exact ⟨by simp; omega, rfl⟩
  case rest =>
  obtain ⟨rfl, rfl⟩ := hcut
  cases hmany : (!sm && decide (200 ≤ L.length)) with
  | true =>
    rw [if_pos hmany] at hY2
    go_wp2
    go_ret
    exact hend 3 hY2
  | false =>
  rw [if_neg (by rw [hmany]; decide)] at hY2
  go_upto_region 16 with (fail)
  have hTf := hTe.below (Below.drew (Below.refl _ _))
  have kKf := blk_below kKe (Below.drew (Below.refl _ _))
  have kOf := blk_below kOe (Below.drew (Below.refl _ _))
  have hBf := hBe.drew
  clear c0 o2
  refine wp_region_still_tail 6 (by kernel_rfl) (by kernel_rfl) ?_
  change wpStill _ _ wc.drew (fun a' => wpList _ _ _ _ a' wc.drew) _ _
  generalize wc.drew = wf at hTf kKf kOf hBf ⊢
  have c0 : wf.cell? ⟨p, 0, none⟩ = some (.map (some m)) := blk_cell hTf.blk 0
  have k0 : wf.cell? ⟨g, 0, none⟩ = some (.string o.f0) := blk_cell kKf 0
  have k1 : wf.cell? ⟨g, 1, none⟩ = some (.bool (aftT o.f1)) := blk_cell kKf 1
  have o0 : wf.cell? ⟨w.heap.size, 0, none⟩ = some (.string o.f0) := blk_cell kOf 0
  have o1 : wf.cell? ⟨w.heap.size, 1, none⟩ = some (.int .i64 o.f1) := blk_cell kOf 1
  have o2 : wf.cell? ⟨w.heap.size, 2, none⟩ = some (.int .i64 o.f2) := blk_cell kOf 2
  have hlen := hTf.len
  simp only [List.take_succ_cons, List.take_zero, List.drop_succ_cons, List.drop_zero]
  repeat still_step
  refine wpStill_nil ?_
  go_wp2_with (at_mapUpdate; refine wpList_mapUpdate_in _ rfl (.tmp 105) (.tmp 106) (.tmp 107) 42 rfl 52 27 K52 Tryd.underlying42 rawE m L.length (tdat L) rfl hTf.own (by unfold maxLen; omega) _ _ _ rfl rfl hk (.held (.agg #[.string o.f0, .int .i64 o.f1, .int .i64 o.f2])) [] rfl ?_; intro w9 hown9 hturn9)
  have hput := tdat_put hTf.tab o (by omega)
  unfold keyO encO at hput
  rw [hput] at hown9
  have hn200 : (o :: remO (keyO o) L).length ≤ 200 := by
    rw [List.length_cons]
    cases hs : sm with
    | true =>
      rw [hs] at hsm
      obtain ⟨r, hr⟩ := Option.isSome_iff_exists.1 hsm
      have := len_rem hTf.tab hr
      omega
    | false =>
      rw [hs] at hmany
      have h1 : ¬ 200 ≤ L.length := by simpa using hmany
      have := List.length_filter_le (fun x => !decide (keyO x = keyO o)) L
      unfold remO
      omega
  obtain ⟨r1, r2, r3⟩ := hTf.turned hown9 hturn9 (hTf.tab.put o (by omega)) hn200
  go_ret
  rw [hY2]
  exact ⟨rfl, r1, grown_trans (grown_of_below hBf _) hturn9.grown⟩

end Go.Proofs.YtlphglmjfklndaaDoor
