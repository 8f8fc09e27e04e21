/- The document's example of operators, alive. -/
import Derived.Test.YtlphglmjfklndaaDoorOpN
import Derived.Test.YtlphglmjfklndaaDoorOpH
import Derived.Test.YtlphglmjfklndaaDoorOpD
import Derived.Test.YtlphglmjfklndaaDoorPOpsApartr9
namespace Go.Proofs.YtlphglmjfklndaaDoor
set_option linter.unusedVariables false
open Go.RowKit Go.Shelf Go.Maps Go.Proofs.YtlphglmjfklndaaDoorW.PrintWords Go.Proofs.YtlphglmjfklndaaDoorW.PrintLast Go.Proofs.YtlphglmjfklndaaDoorW.PrintMore Go.Proofs.YtlphglmjfklndaaDoor.POpsApart Go.Extern

/-- The greatest precedences of the arguments. -/
def sidesT (ty p : Int) : Int × Int :=
  if p < 1 ∨ 1200 < p then (-1, -1) else if ty = 1 then (p - 1, p - 1) else if ty = 2 then (p - 1, p) else if ty = 3 then (p, p - 1)
  else if ty = 4 then (-1, p) else if ty = 5 then (-1, p - 1) else if ty = 6 then (p - 1, -1) else if ty = 7 then (p, -1) else (-1, -1)
theorem sides_f (s : ByteArray) (ty p : Int) : ops_Sides.f 1 s ty p = some (sidesT ty p) := by
  unfold ops_Sides.f sidesT
  simp only [ops_Sides.j0]
  by_cases h1 : p < 1
  · simp [h1]
  by_cases h2 : 1200 < p
  · simp [h1, h2]
  have hw : wrap64 (p - 1) = p - 1 := by unfold wrap64; omega
  have hd : decide (p > 1200) = false := decide_eq_false (by omega)
  rw [if_neg h1, hd, if_neg (by decide), hw, if_neg (show ¬ (p < 1 ∨ 1200 < p) by omega)]
  repeat' split
  all_goals first | rfl | omega
theorem refSides_f (s : ByteArray) (ty p : Int) : pythiaref09_Sides.f 1 s ty p = some (sidesT ty p) := by
  unfold pythiaref09_Sides.f sidesT
  simp only [pythiaref09_Sides.j0]
  by_cases h1 : p < 1
  · simp [h1]
  by_cases h2 : 1200 < p
  · simp [h1, h2]
  have hw : wrap64 (p - 1) = p - 1 := by unfold wrap64; omega
  have hd : decide (p > 1200) = false := decide_eq_false (by omega)
  rw [if_neg h1, hd, if_neg (by decide), hw, if_neg (show ¬ (p < 1 ∨ 1200 < p) by omega)]
  repeat' split
  all_goals first | rfl | omega
theorem Sides_at (s : ByteArray) (ty p : Int) (w : World) : Calls Tryd.prog 13 #[.agg #[.string s, .int .i64 ty, .int .i64 p]] w fun e w' => e = .returned (.tuple #[.int .i64 (sidesT ty p).1, .int .i64 (sidesT ty p).2]) ∧ Below w.heap.size w w' :=
  ops_Sides.calls 1 s ty p _ _ w (sides_f s ty p)
theorem refSides_at (s : ByteArray) (ty p : Int) (w : World) : Calls Tryd.prog 14 #[.agg #[.string s, .int .i64 ty, .int .i64 p]] w fun e w' => e = .returned (.tuple #[.int .i64 (sidesT ty p).1, .int .i64 (sidesT ty p).2]) ∧ Below w.heap.size w w' :=
  pythiaref09_Sides.calls 1 s ty p _ _ w (refSides_f s ty p)

/-! ### What a new table has -/
theorem L0_pre : getO (kc ⟨#[45]⟩ false) L0 = some ⟨⟨#[45]⟩, 4, 200⟩ := by kernel_rfl
theorem L0_aft : getO (kc ⟨#[45]⟩ true) L0 = some ⟨⟨#[45]⟩, 3, 500⟩ := by kernel_rfl
theorem L0_len : L0.length = 39 := by kernel_rfl
theorem add1 : (addT ⟨⟨#[102, 111, 111]⟩, 6, 100⟩ L0) = (0, ⟨⟨#[102, 111, 111]⟩, 6, 100⟩ :: L0) := by kernel_rfl
theorem add2 : (addT ⟨⟨#[102, 111, 111]⟩, 1, 200⟩ (⟨⟨#[102, 111, 111]⟩, 6, 100⟩ :: L0)) = (90, ⟨⟨#[102, 111, 111]⟩, 6, 100⟩ :: L0) := by kernel_rfl

/-- The length of All. -/
theorem All_len {xs : List S27} {L : List S27} (h : xs.Perm L) : xs.length = L.length := h.length_eq
theorem row_slice {W : World} {base : Nat} {v : Value} {n : Nat} {xs : List Value} (h : W.ownsRow base 27 3 v n xs) : ∃ A cap, v = .slice A n cap := by
  rcases h.2 with ⟨hv, h0⟩ | ⟨g, cap, cur, hv, _⟩
  · exact ⟨none, 0, by rw [hv, h0]⟩
  · exact ⟨_, _, hv⟩

set_option maxHeartbeats 4000000 in
set_option maxRecDepth 100000 in
theorem alive_any (w : World) : Calls Tryd.prog 8 #[] w fun e w' => e = .returned (.bool true) ∧ Below w.heap.size w w' := by
  have hN := New_any w
  have hsz : (⟨#[45]⟩ : ByteArray).size ≤ maxLen := by decide
  have e45 : (⟨#[45]⟩ : ByteArray) = ⟨#[45]⟩ := rfl
  obtain ⟨d, hd⟩ : ∃ d : ByteArray, d = ⟨#[45]⟩ := ⟨_, rfl⟩
  go_enter Tryd.func8, Tryd.ntmps8
  go_wp2_with fail
  refine hN.mono ?_
  rintro e w1 ⟨rfl, hT1, hB1⟩
  clear hN
  have hP := Prefix_any w1 _ _ L0 ⟨#[45]⟩ hT1 hsz
  rw [L0_pre] at hP
  dsimp only [optO, Option.getD, encO, Option.isSome] at hP
  go_wp2_with fail
  refine hP.mono ?_
  rintro e w2 ⟨rfl, hB2⟩
  clear hP
  have hB2' := hB1.trans (hB2.mono hB1.size)
  have hT2 := hT1.below hB2
  have hw2 := hT2.plt
  clear hT1 hB1 hB2
  have kP := blk_new w2 (.cells #[.string ⟨#[45]⟩, .int .i64 4, .int .i64 200] 27)
  have hA := After_any (w2.alloc (.cells #[.string ⟨#[45]⟩, .int .i64 4, .int .i64 200] 27)) _ _ L0 ⟨#[45]⟩ (hT2.below (below_alloc (Below.refl _ _) _)) hsz
  rw [L0_aft] at hA
  dsimp only [optO, Option.getD, encO, Option.isSome] at hA
  have hB3 := below_alloc hB2' (.cells #[.string ⟨#[45]⟩, .int .i64 4, .int .i64 200] 27)
  go_wp2_with fail
  refine hA.mono ?_
  rintro e w3 ⟨rfl, hb3⟩
  have hw3 := hb3.size
  rw [World.size_alloc] at hw3
  clear hA
  have hT3 := (hT2.below (below_alloc (Below.refl _ _) (.cells #[.string ⟨#[45]⟩, .int .i64 4, .int .i64 200] 27))).below hb3
  have kP3 := blk_below kP hb3
  have hB4 := hB3.trans (hb3.mono hB3.size)
  clear hT2 hB2' hB3 hb3 kP
  have kA := blk_new w3 (.cells #[.string ⟨#[45]⟩, .int .i64 3, .int .i64 500] 27)
  have kP4 := blk_alloc kP3 (.cells #[.string ⟨#[45]⟩, .int .i64 3, .int .i64 500] 27)
  have hT4 := hT3.below (below_alloc (Below.refl _ _) (.cells #[.string ⟨#[45]⟩, .int .i64 3, .int .i64 500] 27))
  have hB5 := below_alloc hB4 (.cells #[.string ⟨#[45]⟩, .int .i64 3, .int .i64 500] 27)
  clear hT3 hB4 kP3
  have a0 := blk_cell kA 0
  have a1 := blk_cell kA 1
  have a2 := blk_cell kA 2
  have hS := Sides_at ⟨#[45]⟩ 3 500 (w3.alloc (.cells #[.string ⟨#[45]⟩, .int .i64 3, .int .i64 500] 27))
  rw [show sidesT 3 500 = (500, 499) by decide] at hS
  go_wp2_with fail
  refine hS.mono ?_
  rintro e w4 ⟨rfl, hb4⟩
  clear hS a0 a1 a2
  have hT5 := hT4.below hb4
  have hB6 := hB5.trans (hb4.mono hB5.size)
  have kA5 := blk_below kA hb4
  have kP5 := blk_below kP4 hb4
  clear hT4 hB5 hb4 kA kP4
  have hF := Add_any w4 _ _ L0 ⟨⟨#[102, 111, 111]⟩, 6, 100⟩ hT5 (by decide)
  rw [add1] at hF
  go_wp2_with fail
  refine hF.mono ?_
  rintro e w5 ⟨rfl, hT6, hg5⟩
  clear hF
  have kb5 : ∀ k, k < w4.heap.size → k ≠ w.heap.size → w5.heap[k]? = w4.heap[k]? := fun k hk hne => hg5.block k hk (fun e => hne (Option.some.inj e))
  have hB7 := hB6.grown hg5 hB6.size (fun k e => by cases e; exact Nat.le_refl _)
  have hwl := hT5.plt
  have kA6 := (kb5 _ (blk_lt kA5) (by omega)).trans kA5
  have kP6 := (kb5 _ (blk_lt kP5) (by omega)).trans kP5
  clear hT5 hB6 hg5 kb5 kA5 kP5
  have hF := Add_any w5 _ _ _ ⟨⟨#[102, 111, 111]⟩, 1, 200⟩ hT6 (by decide)
  rw [add2] at hF
  go_wp2_with fail
  refine hF.mono ?_
  rintro e w6 ⟨rfl, hT7, hg6⟩
  clear hF
  have kb6 : ∀ k, k < w5.heap.size → k ≠ w.heap.size → w6.heap[k]? = w5.heap[k]? := fun k hk hne => hg6.block k hk (fun e => hne (Option.some.inj e))
  have hB8 := hB7.grown hg6 hB7.size (fun k e => by cases e; exact Nat.le_refl _)
  have kA7 := (kb6 _ (blk_lt kA6) (by omega)).trans kA6
  have kP7 := (kb6 _ (blk_lt kP6) (by omega)).trans kP6
  clear hT6 hB7 hg6 kb6 kA6 kP6
  have hC := Clone_any w6 _ _ _ hT7
  go_wp2_with fail
  refine hC.mono ?_
  rintro e w7 ⟨rfl, hTc, hb7⟩
  clear hC
  have hT8 := hT7.below hb7
  have hB9 := hB8.trans (hb7.mono hB8.size)
  have a2 := blk_cell (blk_below kA7 hb7) 2
  have a1 := blk_cell (blk_below kP7 hb7) 1
  clear hT7 hB8 hb7 kA7 kP7
  have hA1 := All_any w7 _ _ _ hTc (by simp)
  go_wp2_with fail
  refine hA1.mono ?_
  rintro e w8 ⟨v, ys, rfl, _, _, hrow, hb8⟩
  obtain ⟨A, cap, rfl⟩ := row_slice hrow
  clear hA1 a1 a2
  have hA2 := All_any w8 _ _ _ (hT8.below hb8) (by simp)
  go_wp2_with fail
  refine hA2.mono ?_
  rintro e w9 ⟨v, ys2, rfl, _, _, hrow2, hb9⟩
  obtain ⟨A2, cap2, rfl⟩ := row_slice hrow2
  clear hA2
  have hA3 := All_any w9 _ _ _ ((hT8.below hb8).below hb9) (by simp)
  go_wp2_with fail
  refine hA3.mono ?_
  rintro e w10 ⟨v, ys3, rfl, _, _, hrow3, hb10⟩
  obtain ⟨A3, cap3, rfl⟩ := row_slice hrow3
  clear hA3
  have hl : (⟨⟨#[102, 111, 111]⟩, 6, 100⟩ :: L0 : List S27).length = 40 := by rw [List.length_cons, L0_len]
  rw [hl]
  go_wp2
  go_ret
  refine ⟨rfl, ?_⟩
  have s8 := hb8.size
  have s9 := hb9.size
  have s7 := hB9.size
  exact hB9.trans ((hb8.mono s7).trans ((hb9.mono (by omega)).trans (hb10.mono (by omega))))

end Go.Proofs.YtlphglmjfklndaaDoor
