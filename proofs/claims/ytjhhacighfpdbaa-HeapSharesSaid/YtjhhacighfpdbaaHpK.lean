/- Vars, out of the texts of the term package. -/
import Derived.Test.YtjhhacighfpdbaaHpM
namespace Go.Proofs.Ytjhhacighfpdbaa
set_option linter.unusedVariables false
open Go.RowKit Go.Maps Go.Proofs.YtjhhacighfpdbaaW.PrintWords Go.Proofs.YtjhhacighfpdbaaW.PrintLast Go.Proofs.YtjhhacighfpdbaaW.PrintMore Go.Proofs.Ytjhhacighfpdbaa.PHeapShares Go.Extern

/-! From TmA. -/

/-! From TmB. -/

/-! From TmC. -/
theorem nodes_ok {t : S28} (h : okT t = true) : nodes t ≤ 2000 := by
  have h1 := meas_nodes t 1 0 h
  have h2 := (meas_b t 1 0 (by omega) (by omega)).ok h
  omega

/-! From TmK. -/
theorem right_call (t : S28) (W : World) (g : Nat) (A : Option Addr) (c : Nat) (hC : Kd.C k28 W A t.f3.length t.f3) (hc : t.f3.length ≤ c) (hb : W.heap[g]? = some (.cells #[.int .i64 t.f0, .string t.f1, .int .i64 t.f2, .slice A t.f3.length c] 28 (0, 0))) :
    Calls Try.prog 41 #[.slice (some ⟨g, 0, none⟩) 1 1] W fun e w' => e = .returned (.bool (okT t)) ∧ Below W.heap.size W w' := by
  have h := right_any [t] W (some ⟨g, 0, none⟩) 1 (C_one hb hc hC) (by simp)
  refine h.mono fun e w' ⟨he, hw⟩ => ⟨by rw [he]; simp, hw⟩


/-! From TmL. -/
/-- A term's variables; none of one that isn't right. -/
def varsOf (t : S28) : List Int := if okT t = true then varsT t [] else []

set_option maxHeartbeats 400000 in
set_option maxRecDepth 100000 in
theorem vars_of (t : S28) (w : World) (A : Option Addr) (c : Nat) (hC : Kd.C k28 w A t.f3.length t.f3) (hc : t.f3.length ≤ c) :
    Calls Try.prog 28 #[.agg #[.int .i64 t.f0, .string t.f1, .int .i64 t.f2, .slice A t.f3.length c]] w fun e w' => ∃ v, e = .returned v ∧ OutAt w' w.heap.size v (varsOf t) ∧ Below w.heap.size w w' := by
  have hr := right_one t w A c hC hc
  have kT := blk_alloc (blk_new w (.cells #[.int .i64 t.f0, .string t.f1, .int .i64 t.f2, .slice A t.f3.length c] 28)) (.cells #[.int .i64 t.f0, .string t.f1, .int .i64 t.f2, .slice A t.f3.length c] 28)
  have hr' := right_call t ((w.alloc (.cells #[.int .i64 t.f0, .string t.f1, .int .i64 t.f2, .slice A t.f3.length c] 28)).alloc (.cells #[.int .i64 t.f0, .string t.f1, .int .i64 t.f2, .slice A t.f3.length c] 28)) (w.heap.size + 1) A c (Kd.C_alloc (Kd.C_alloc hC _) _) hc (by
    have := blk_new (w.alloc (.cells #[.int .i64 t.f0, .string t.f1, .int .i64 t.f2, .slice A t.f3.length c] 28)) (.cells #[.int .i64 t.f0, .string t.f1, .int .i64 t.f2, .slice A t.f3.length c] 28)
    rwa [show (w.alloc (.cells #[.int .i64 t.f0, .string t.f1, .int .i64 t.f2, .slice A t.f3.length c] 28)).heap.size = w.heap.size + 1 by simp] at this)
  clear hr
  have hB1 : Below w.heap.size w ((w.alloc (.cells #[.int .i64 t.f0, .string t.f1, .int .i64 t.f2, .slice A t.f3.length c] 28)).alloc (.cells #[.int .i64 t.f0, .string t.f1, .int .i64 t.f2, .slice A t.f3.length c] 28)) := below_alloc (below_alloc (Below.refl _ _) _) _
  unfold varsOf
  by_cases hk : okT t = true
  · simp only [hk, if_true] at hr' ⊢
    have hnd := nodes_ok hk
    have hcall := fun (W : World) (hB : Below w.heap.size w W) => vars_any _ t rfl w W c A (.slice none 0 0) [] hC hc hB (OutAt.none _ _) (by simp; omega)
    go_enter Try.func28, Try.ntmps28
    go_wp2_with fail
    refine hr'.mono ?_
    rintro e w1 ⟨rfl, hb1⟩
    have kT1 := blk_below kT hb1
    have t0 := blk_cell kT1 0
    have t1 := blk_cell kT1 1
    have t2 := blk_cell kT1 2
    have t3 := blk_cell kT1 3
    have hBw := below_step hB1 hb1
    have h1 := hcall w1 hBw
    clear hb1 hr' kT hB1 hcall
    go_wp2_with fail
    refine h1.mono ?_
    rintro e w2 ⟨v, rfl, hO, hb2⟩
    go_wp2
    go_ret
    exact ⟨_, rfl, hO, hb2⟩
  · have hk' : okT t = false := by simpa using hk
    simp only [hk'] at hr' ⊢
    go_enter Try.func28, Try.ntmps28
    go_wp2_with fail
    refine hr'.mono ?_
    rintro e w1 ⟨rfl, hb1⟩
    have hBw := below_step hB1 hb1
    go_wp2
    go_ret
    exact ⟨_, rfl, OutAt.none _ _, hBw⟩


end Go.Proofs.Ytjhhacighfpdbaa
