/- How All compares operators. -/
import Derived.Test.YtlphglmjfklndaaDoorOpQ
import Derived.Test.YtlphglmjfklndaaDoorOpE
import Derived.Test.YtlphglmjfklndaaDoorOpShelfP
import Derived.Lib.Bytealg
namespace Go.Proofs.YtlphglmjfklndaaDoor
set_option linter.unusedVariables false
open Go.RowKit Go.Sort Go.Proofs.YtlphglmjfklndaaDoorW.PrintWords Go.Proofs.YtlphglmjfklndaaDoorW.PrintLast Go.Proofs.YtlphglmjfklndaaDoorW.PrintMore Go.Proofs.YtlphglmjfklndaaDoor.POpsApart Go.Extern

/-- strings.Compare. -/
def cmpS (a b : ByteArray) : Int := Lib.compareBytes a.data.toList b.data.toList
/-- cmp.Compare of numbers. -/
def cmpI (a b : Int) : Int := if a < b then -1 else if a > b then 1 else 0

theorem compareString_any (a b : ByteArray) (w : World) : Calls Tryd.prog 34 #[.string a, .string b] w fun e w' => e = .returned (.int .i64 (cmpS a b)) ∧ w' = w := by
  have h := @run_callFunc_extern Tryd.prog 43 _ BytealgCompare.compare Tryd.func43 (by kernel_rfl) (by kernel_rfl) (by kernel_rfl) (by kernel_rfl)
  have h2 := @Lib.run_compareString Tryd.prog a b
  go_enter Tryd.func34, Tryd.ntmps34
  go_wp2
  go_ret
  exact ⟨rfl, rfl⟩
theorem compare_any (a b : ByteArray) (w : World) : Calls Tryd.prog 26 #[.string a, .string b] w fun e w' => e = .returned (.int .i64 (cmpS a b)) ∧ w' = w := by
  have h := compareString_any a b
  go_enter Tryd.func26, Tryd.ntmps26
  go_wp2_with (first | (go_at_call 34; refine (h _).mono ?_; rintro e w' ⟨rfl, rfl⟩))
  go_ret
  exact ⟨rfl, rfl⟩
theorem compareI_any_nan (x : Int) (w : World) : Calls Tryd.prog 35 #[.int .i64 x] w fun e w' => e = .returned (.bool false) ∧ w' = w := by
  go_enter Tryd.func35, Tryd.ntmps35
  go_wp2
  go_ret
  exact ⟨rfl, rfl⟩
theorem compareI_any (x y : Int) (w : World) : Calls Tryd.prog 27 #[.int .i64 x, .int .i64 y] w fun e w' => e = .returned (.int .i64 (cmpI x y)) ∧ w' = w := by
  have h := compareI_any_nan
  unfold cmpI
  by_cases h1 : x < y
  · rw [if_pos h1]
    go_enter Tryd.func27, Tryd.ntmps27
    go_wp2_with (first | (go_at_call 35; refine (h _ _).mono ?_; rintro e w' ⟨rfl, rfl⟩))
    all_goals
      go_ret
      exact ⟨rfl, rfl⟩
  · rw [if_neg h1]
    by_cases h2 : x > y
    · rw [if_pos h2]
      go_enter Tryd.func27, Tryd.ntmps27
      go_wp2_with (first | (go_at_call 35; refine (h _ _).mono ?_; rintro e w' ⟨rfl, rfl⟩))
      all_goals
        go_ret
        exact ⟨rfl, rfl⟩
    · rw [if_neg h2]
      obtain rfl : x = y := by omega
      go_enter Tryd.func27, Tryd.ntmps27
      go_wp2_with (first | (go_at_call 35; refine (h _ _).mono ?_; rintro e w' ⟨rfl, rfl⟩))
      all_goals
        go_ret
        exact ⟨rfl, rfl⟩

/-- cmp.Or of two numbers. -/
theorem or_any (x y : Int) (g : Nat) (w : World) (h0 : w.cell? ⟨g, 0, none⟩ = some (.int .i64 x)) (h1 : w.cell? ⟨g, 1, none⟩ = some (.int .i64 y)) : Calls Tryd.prog 25 #[.slice (some ⟨g, 0, none⟩) 2 2] w fun e w' => e = .returned (.int .i64 (if x = 0 then y else x)) ∧ w' = w := by
  obtain ⟨r, hr⟩ : ∃ r, r = if x = 0 then y else x := ⟨_, rfl⟩
  rw [← hr]
  have HR := Lib.hid hr
  clear hr
  have hn : g < w.heap.size := block_lt_of_cell h0
  go_enter Tryd.func25, Tryd.ntmps25
  go_upto_region 3 with (fail)
  go_loopw [8] (fun p wr => wr = w ∧ ((p = .int .i64 0) ∨ (p = .int .i64 1 ∧ x = 0) ∨ (p = .int .i64 2 ∧ x = 0 ∧ y = 0))) (fun p _ => (2 - intOf p).toNat)
  case atStart => exact ⟨rfl, .inl rfl⟩
  case round =>
    obtain ⟨rfl, rfl | ⟨rfl, rfl⟩ | ⟨rfl, rfl, rfl⟩⟩ := hrel
    · by_cases hx : x = 0
      · subst hx
        go_wp2
        go_roundw
        case rel => simp
        case measure => simp [intOf]
      · have hx' : (x != 0) = true := by simpa using hx
        go_wp2
        go_ret
        exact ⟨by rw [HR.out, if_neg hx]; rfl, rfl⟩
    · by_cases hx : y = 0
      · subst hx
        go_wp2
        go_roundw
        case rel => simp
        case measure => simp [intOf]
      · have hx' : (y != 0) = true := by simpa using hx
        go_wp2
        go_ret
        exact ⟨by rw [HR.out]; simp, rfl⟩
    · go_wp2
      go_ret
      exact ⟨by rw [HR.out]; simp, rfl⟩

/-- An operator's class in All. -/
def clsO (o : S27) : Int := if aftT o.f1 then 1 else 0
theorem class_at (o : S27) (w : World) : Calls Tryd.prog 21 #[encO o] w fun e w' => e = .returned (.int .i64 (clsO o)) ∧ ∃ d os, w' = grow (w.drewN d) os := by
  have kO := blk_new w (.cells #[.string o.f0, .int .i64 o.f1, .int .i64 o.f2] 27)
  unfold clsO encO
  obtain ⟨t, ht⟩ : ∃ t, aftT o.f1 = t := ⟨_, rfl⟩
  rw [ht]
  have hf := after_f o.f1
  rw [ht] at hf
  go_enter Tryd.func21, Tryd.ntmps21
  go_wp2_with (go_at_call 20; refine (ops_after.calls o.f1 t _ hf).mono ?_; rintro e w5 ⟨rfl, nd, rfl⟩)
  all_goals
    go_ret
    refine ⟨rfl, nd, #[.cells #[.string o.f0, .int .i64 o.f1, .int .i64 o.f2] 27 (0, 0)], ?_⟩
    rw [alloc_eq_grow]
    rfl

theorem drewN_grow (w : World) (os : Array Obj) (n : Nat) : (grow w os).drewN n = grow (w.drewN n) os := rfl
theorem drewN_two (w : World) (n m : Nat) : (w.drewN n).drewN m = w.drewN (n + m) := World.drewN_drewN _ _ _
/-- How All compares. -/
def cmpO (a b : S27) : Int := if cmpS a.f0 b.f0 = 0 then cmpI (clsO a) (clsO b) else cmpS a.f0 b.f0

set_option maxHeartbeats 4000000 in
set_option maxRecDepth 100000 in
theorem cmp_at (a b : S27) (cp : Nat) (w : World) (hcp : w.heap[cp]? = some (.cells #[.func (.func 21) #[] #[]] 53 (0, 0))) : Calls Tryd.prog 24 #[encO a, encO b, .pointer (some ⟨cp, 0, none⟩)] w fun e w' => e = .returned (.int .i64 (cmpO a b)) ∧ ∃ d os, w' = grow (w.drewN d) os := by
  obtain ⟨r, hr⟩ : ∃ r, r = cmpO a b := ⟨_, rfl⟩
  rw [← hr]
  unfold cmpO at hr
  have HR := Lib.hid hr
  clear hr
  unfold encO
  obtain ⟨w1, hw1⟩ : ∃ w1, (w.alloc (.cells #[.string a.f0, .int .i64 a.f1, .int .i64 a.f2] 27)).alloc (.cells #[.string b.f0, .int .i64 b.f1, .int .i64 b.f2] 27) = w1 := ⟨_, rfl⟩
  have kA : w1.heap[w.heap.size]? = some (.cells #[.string a.f0, .int .i64 a.f1, .int .i64 a.f2] 27 (0, 0)) := by rw [← hw1]; exact blk_alloc (blk_new w _) _
  have kB : w1.heap[w.heap.size + 1]? = some (.cells #[.string b.f0, .int .i64 b.f1, .int .i64 b.f2] 27 (0, 0)) := by rw [← hw1]; have := blk_new (w.alloc (.cells #[.string a.f0, .int .i64 a.f1, .int .i64 a.f2] 27)) (.cells #[.string b.f0, .int .i64 b.f1, .int .i64 b.f2] 27); rwa [World.size_alloc] at this
  have kC : w1.heap[cp]? = some (.cells #[.func (.func 21) #[] #[]] 53 (0, 0)) := by rw [← hw1]; exact blk_alloc (blk_alloc hcp _) _
  obtain ⟨os0, hG⟩ : ∃ os, w1 = grow w os := ⟨_, by rw [← hw1, alloc_eq_grow, alloc_eq_grow, grow_grow]⟩
  have a0 : ∀ n os, (grow (w1.drewN n) os).cell? ⟨w.heap.size, 0, none⟩ = some (.string a.f0) := fun n os => cell_grown (blk_lt kA) (blk_cell kA 0) n os
  have a1 : ∀ n os, (grow (w1.drewN n) os).cell? ⟨w.heap.size, 1, none⟩ = some (.int .i64 a.f1) := fun n os => cell_grown (blk_lt kA) (blk_cell kA 1) n os
  have a2 : ∀ n os, (grow (w1.drewN n) os).cell? ⟨w.heap.size, 2, none⟩ = some (.int .i64 a.f2) := fun n os => cell_grown (blk_lt kA) (blk_cell kA 2) n os
  have b0 : ∀ n os, (grow (w1.drewN n) os).cell? ⟨w.heap.size + 1, 0, none⟩ = some (.string b.f0) := fun n os => cell_grown (blk_lt kB) (blk_cell kB 0) n os
  have b1 : ∀ n os, (grow (w1.drewN n) os).cell? ⟨w.heap.size + 1, 1, none⟩ = some (.int .i64 b.f1) := fun n os => cell_grown (blk_lt kB) (blk_cell kB 1) n os
  have b2 : ∀ n os, (grow (w1.drewN n) os).cell? ⟨w.heap.size + 1, 2, none⟩ = some (.int .i64 b.f2) := fun n os => cell_grown (blk_lt kB) (blk_cell kB 2) n os
  have c0 : ∀ n os, (grow (w1.drewN n) os).cell? ⟨cp, 0, none⟩ = some (.func (.func 21) #[] #[]) := fun n os => cell_grown (blk_lt kC) (blk_cell kC 0) n os
  have hcs : ∀ n os, Calls Tryd.prog 26 #[.string a.f0, .string b.f0] (grow (w1.drewN n) os) fun e w' => e = .returned (.int .i64 (cmpS a.f0 b.f0)) ∧ ∃ q os', w' = grow ((grow (w1.drewN n) os).drewN q) os' := fun n os => (compare_any _ _ _).mono fun e w' ⟨h1, h2⟩ => ⟨h1, 0, #[], by rw [h2, grow_empty]; rfl⟩
  have hci : ∀ n os, Calls Tryd.prog 27 #[.int .i64 (clsO a), .int .i64 (clsO b)] (grow (w1.drewN n) os) fun e w' => e = .returned (.int .i64 (cmpI (clsO a) (clsO b))) ∧ ∃ q os', w' = grow ((grow (w1.drewN n) os).drewN q) os' := fun n os => (compareI_any _ _ _).mono fun e w' ⟨h1, h2⟩ => ⟨h1, 0, #[], by rw [h2, grow_empty]; rfl⟩
  have hka : ∀ n os, Calls Tryd.prog 21 #[.agg #[.string a.f0, .int .i64 a.f1, .int .i64 a.f2]] (grow (w1.drewN n) os) fun e w' => e = .returned (.int .i64 (clsO a)) ∧ ∃ q os', w' = grow ((grow (w1.drewN n) os).drewN q) os' := fun n os => class_at a _
  have hkb : ∀ n os, Calls Tryd.prog 21 #[.agg #[.string b.f0, .int .i64 b.f1, .int .i64 b.f2]] (grow (w1.drewN n) os) fun e w' => e = .returned (.int .i64 (clsO b)) ∧ ∃ q os', w' = grow ((grow (w1.drewN n) os).drewN q) os' := fun n os => class_at b _
  generalize cmpS a.f0 b.f0 = p at hcs HR
  generalize clsO a = ka at hka hci HR
  generalize clsO b = kb at hkb hci HR
  generalize cmpI ka kb = q at hci HR
  have HG := Lib.hid hG
  clear hG kA kB kC hcp
  go_enter Tryd.func24, Tryd.ntmps24
  go_upto_region 1 with (fail)
  clear hw1
  refine wp_region_grown_tail 12 (by kernel_rfl) (by kernel_rfl) ?_
  simp only [List.take_succ_cons, List.take_zero, List.drop_succ_cons, List.drop_zero]
  repeat (quiet_step (first | (go_at_call 26; exact Calls.grown_of (hcs _ _)) | (go_at_call 27; exact Calls.grown_of (hci _ _)) | exact Calls.grown_of (hka _ _) | exact Calls.grown_of (hkb _ _)))
  refine wpQuiet_nil ?_
  intro _ hw'
  obtain ⟨⟨nq, osq⟩, hw''⟩ := hw'
  subst hw''
  have hcls : grow (w1.drewN nq) osq = grow (w.drewN nq) (os0 ++ osq) := by rw [HG.out, drewN_grow, grow_grow]
  clear a0 a1 a2 b0 b1 b2 c0 hcs hci hka hkb
  rw [hcls]
  have HC := Lib.hid hcls
  clear hcls
  obtain ⟨w2, hw2⟩ : ∃ w2, grow (w.drewN nq) (os0 ++ osq) = w2 := ⟨_, rfl⟩
  rw [hw2]
  have HW2 := Lib.hid hw2
  clear hw2
  have kQ := blk_new w2 (.cells #[.int .i64 p, .int .i64 q] 3)
  have hor := or_any p q w2.heap.size (w2.alloc (.cells #[.int .i64 p, .int .i64 q] 3)) (blk_cell kQ 0) (blk_cell kQ 1)
  rw [← HR.out] at hor
  go_wp2_with (go_at_call 25; refine hor.mono ?_; rintro e w' ⟨rfl, rfl⟩)
  go_ret
  refine ⟨rfl, nq, os0 ++ osq ++ #[.cells #[.int .i64 p, .int .i64 q] 3 (0, 0)], ?_⟩
  rw [alloc_eq_grow, ← HW2.out, grow_grow]

end Go.Proofs.YtlphglmjfklndaaDoor
