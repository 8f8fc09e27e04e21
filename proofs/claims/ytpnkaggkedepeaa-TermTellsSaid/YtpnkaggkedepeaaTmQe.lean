/- The document's functions from a world on; Variant walked. -/
import Derived.Test.YtpnkaggkedepeaaTmQd
namespace Go.Proofs.Ytpnkaggkedepeaa
set_option linter.unusedVariables false
open Go.RowKit Go.Maps Go.Proofs.YtpnkaggkedepeaaW.PrintWords Go.Proofs.YtpnkaggkedepeaaW.PrintLast Go.Proofs.YtpnkaggkedepeaaW.PrintMore Go.Proofs.Ytpnkaggkedepeaa.PTermTells Go.Extern

section
variable {w0 W : World} {t u : S24} {A A' : Option Addr} {c c' : Nat}
theorem rright_at (h : Lies w0 t A c) (hB : Below w0.heap.size w0 W) :
    Calls Try.prog 14 #[.agg #[.int .i64 t.f0, .string t.f1, .int .i64 t.f2, .slice A t.f3.length c]] W fun e w' => e = .returned (.bool (okT t)) ∧ Below w0.heap.size w0 w' := by
  obtain ⟨k, hk⟩ := right_pure t
  exact (pythiaref07_Right.calls k _ _ _ A c _ _ W (h.at hB).C h.le hk).mono fun e w' ⟨a, b⟩ => ⟨a, below_step hB b⟩
theorem rsize_at (h : Lies w0 t A c) (hB : Below w0.heap.size w0 W) {most : Int} (h0 : 0 ≤ most) (h1 : most ≤ 1000000) :
    Calls Try.prog 22 #[.agg #[.int .i64 t.f0, .string t.f1, .int .i64 t.f2, .slice A t.f3.length c], .int .i64 most] W fun e w' => e = .returned (.int .i64 (min (nodes t : Int) (most + 1))) ∧ Below w0.heap.size w0 w' :=
  (pythiaref07_Size.calls (2 * nodes t) _ _ _ A c _ _ _ W (h.at hB).C h.le (size_pure _ t (Nat.lt_succ_self _) _ most h0 h1 (Nat.le_refl _))).mono fun e w' ⟨a, b⟩ => ⟨a, below_step hB b⟩
theorem rdepth_at (h : Lies w0 t A c) (hB : Below w0.heap.size w0 W) {left : Int} (h0 : 0 ≤ left) (h1 : left ≤ 1000000) (hn : nodes t ≤ 1000000) :
    Calls Try.prog 23 #[.agg #[.int .i64 t.f0, .string t.f1, .int .i64 t.f2, .slice A t.f3.length c], .int .i64 left] W fun e w' => e = .returned (.int .i64 (min (dpt t) (left + 1))) ∧ Below w0.heap.size w0 w' :=
  (pythiaref07_Depth.calls (3 * nodes t) _ _ _ A c _ _ _ W (h.at hB).C h.le (depth_pure _ t (Nat.lt_succ_self _) _ left h0 h1 hn (Nat.le_refl _))).mono fun e w' ⟨a, b⟩ => ⟨a, below_step hB b⟩
theorem rorder_at (h : Lies w0 t A c) (k : Lies w0 u A' c') (hB : Below w0.heap.size w0 W) (ht : shT t = true) (hu : shT u = true) :
    Calls Try.prog 26 #[.agg #[.int .i64 t.f0, .string t.f1, .int .i64 t.f2, .slice A t.f3.length c], .agg #[.int .i64 u.f0, .string u.f1, .int .i64 u.f2, .slice A' u.f3.length c']] W fun e w' => e = .returned (.int .i64 (ordT t u)) ∧ Below w0.heap.size w0 w' :=
  (pythiaref07_Order.calls (3 * nodes t) _ _ _ A c _ _ _ _ A' c' _ _ W (h.at hB).C h.le (k.at hB).C k.le (order_pure _ t u (Nat.lt_succ_self _) ht hu _ (Nat.le_refl _))).mono fun e w' ⟨a, b⟩ => ⟨a, below_step hB b⟩
theorem rsame_at (h : Lies w0 t A c) (k : Lies w0 u A' c') (hB : Below w0.heap.size w0 W) (ht : shT t = true) (hu : shT u = true) :
    Calls Try.prog 40 #[.agg #[.int .i64 t.f0, .string t.f1, .int .i64 t.f2, .slice A t.f3.length c], .agg #[.int .i64 u.f0, .string u.f1, .int .i64 u.f2, .slice A' u.f3.length c']] W fun e w' => e = .returned (.bool (decide (ordT t u = 0))) ∧ Below w0.heap.size w0 w' :=
  (pythiaref07_Same.calls (3 * nodes t) _ _ _ A c _ _ _ _ A' c' _ _ W (h.at hB).C h.le (k.at hB).C k.le (by
    unfold pythiaref07_Same.f
    rw [order_pure _ t u (Nat.lt_succ_self _) ht hu _ (Nat.le_refl _)]
    simp only [Option.bind_some]
    congr 1)).mono fun e w' ⟨a, b⟩ => ⟨a, below_step hB b⟩
theorem rrename_at (h : Lies w0 t A c) (hB : Below w0.heap.size w0 W) (ho : okT t = true) {n : Int} (h1 : 1 ≤ n) (h2 : n ≤ 4611686018427387904) :
    Calls Try.prog 39 #[.agg #[.int .i64 t.f0, .string t.f1, .int .i64 t.f2, .slice A t.f3.length c], .int .i64 n] W fun e w' => ∃ A1 c1,
      e = .returned (.tuple #[.agg #[.int .i64 (renS (rnf (varsT t []) n) t).f0, .string (renS (rnf (varsT t []) n) t).f1, .int .i64 (renS (rnf (varsT t []) n) t).f2, .slice A1 (renS (rnf (varsT t []) n) t).f3.length c1], .int .i64 (n + (varsT t []).length)]) ∧ Lies w' (renS (rnf (varsT t []) n) t) A1 c1 ∧ Below W.heap.size W w' :=
  (rren_any t n w0 W A c h hB ho h1 h2).mono fun e w' ⟨v, a, r, b⟩ => by
    obtain ⟨A1, c1, rfl, g1, g2⟩ := Kd.R_reads r
    have hw := wfT_ren h.wf (n := n) (by unfold I64; omega)
    rw [renT_ok ho h1 h2] at hw
    exact ⟨A1, c1, a, ⟨g2, g1, hw⟩, b⟩
theorem variantT_ok (ht : okT t = true) (hu : okT u = true) : variantT t u = decide (ordT (renS (rnf (varsT t []) 1) t) (renS (rnf (varsT u []) 1) u) = 0) := by
  unfold variantT
  rw [ht, hu, renT_ok ht (by decide) (by decide), renT_ok hu (by decide) (by decide)]
  rfl
set_option maxHeartbeats 1000000 in
set_option maxRecDepth 100000 in
theorem rvariant_at (h : Lies w0 t A c) (k : Lies w0 u A' c') (hB : Below w0.heap.size w0 W) (ht : okT t = true) (hu : okT u = true) :
    Calls Try.prog 27 #[.agg #[.int .i64 t.f0, .string t.f1, .int .i64 t.f2, .slice A t.f3.length c], .agg #[.int .i64 u.f0, .string u.f1, .int .i64 u.f2, .slice A' u.f3.length c']] W fun e w' => e = .returned (.bool (variantT t u)) ∧ Below w0.heap.size w0 w' := by
  rw [variantT_ok ht hu]
  have hsx := ((okT_iff _).1 (ok_renS (rnf (varsT t []) 1) ht (fun v hv => (rnf_bounds v hv).1))).1
  have hsy := ((okT_iff _).1 (ok_renS (rnf (varsT u []) 1) hu (fun v hv => (rnf_bounds v hv).1))).1
  have hB2 := below_alloc (below_alloc (Below.refl W.heap.size W) (.cells #[.int .i64 t.f0, .string t.f1, .int .i64 t.f2, .slice A t.f3.length c] 24)) (.cells #[.int .i64 u.f0, .string u.f1, .int .i64 u.f2, .slice A' u.f3.length c'] 24)
  have kA : ((W.alloc (.cells #[.int .i64 t.f0, .string t.f1, .int .i64 t.f2, .slice A t.f3.length c] 24)).alloc (.cells #[.int .i64 u.f0, .string u.f1, .int .i64 u.f2, .slice A' u.f3.length c'] 24)).heap[W.heap.size]? = some (.cells #[.int .i64 t.f0, .string t.f1, .int .i64 t.f2, .slice A t.f3.length c] 24 (0, 0)) := blk_alloc (blk_new W _) _
  have kB := blk_new (W.alloc (.cells #[.int .i64 t.f0, .string t.f1, .int .i64 t.f2, .slice A t.f3.length c] 24)) (.cells #[.int .i64 u.f0, .string u.f1, .int .i64 u.f2, .slice A' u.f3.length c'] 24)
  rw [World.size_alloc] at kB
  have h1 := rrename_at (h.at hB) hB2 ht (n := 1) (by decide) (by decide)
  have h2 := fun (W' : World) (hW : Below W.heap.size W W') => rrename_at (k.at hB) hW hu (n := 1) (by decide) (by decide)
  generalize renS (rnf (varsT t []) 1) t = x at h1 hsx ⊢
  generalize renS (rnf (varsT u []) 1) u = y at h2 hsy ⊢
  go_enter Try.func27, Try.ntmps27
  go_wp2_with fail
  refine h1.mono ?_
  rintro e w1 ⟨X, cx, rfl, LX, b1⟩
  go_upto_region 2 with (fail)
  have b2 := below_alloc (Below.refl w1.heap.size w1) (.cells #[.int .i64 x.f0, .string x.f1, .int .i64 x.f2, .slice X x.f3.length cx] 24)
  have kX := blk_new w1 (.cells #[.int .i64 x.f0, .string x.f1, .int .i64 x.f2, .slice X x.f3.length cx] 24)
  replace LX := LX.at b2
  replace b1 := below_step b1 b2
  replace kB := blk_below kB b1
  have hB3 := below_step hB2 b1
  generalize w1.alloc (.cells #[.int .i64 x.f0, .string x.f1, .int .i64 x.f2, .slice X x.f3.length cx] 24) = w2 at kX LX b1 kB hB3 ⊢
  clear b2
  generalize w1.heap.size = gx at kX ⊢
  have q0 := blk_cell kB 0
  have q1 := blk_cell kB 1
  have q2 := blk_cell kB 2
  have q3 := blk_cell kB 3
  go_wp2_with fail
  refine (h2 _ hB3).mono ?_
  rintro e w3 ⟨Y, cy, rfl, LY, b3⟩
  clear q0 q1 q2 q3
  go_upto_region 3 with (fail)
  have b4 := below_alloc (Below.refl w3.heap.size w3) (.cells #[.int .i64 y.f0, .string y.f1, .int .i64 y.f2, .slice Y y.f3.length cy] 24)
  have kY := blk_new w3 (.cells #[.int .i64 y.f0, .string y.f1, .int .i64 y.f2, .slice Y y.f3.length cy] 24)
  replace LY := LY.at b4
  replace b3 := below_step b3 b4
  replace kX := blk_below kX b3
  replace LX := LX.at b3
  have hB5 := below_step hB3 b3
  generalize w3.alloc (.cells #[.int .i64 y.f0, .string y.f1, .int .i64 y.f2, .slice Y y.f3.length cy] 24) = w4 at kX kY LX LY b3 hB5 ⊢
  clear b4
  generalize w3.heap.size = gy at kY ⊢
  have q0 := blk_cell kX 0
  have q1 := blk_cell kX 1
  have q2 := blk_cell kX 2
  have q3 := blk_cell kX 3
  have r0 := blk_cell kY 0
  have r1 := blk_cell kY 1
  have r2 := blk_cell kY 2
  have r3 := blk_cell kY 3
  clear h1 h2
  go_wp2_with fail
  refine (rsame_at LX LY (Below.refl _ _) hsx hsy).mono ?_
  rintro e w5 ⟨rfl, b5⟩
  go_wp2
  go_ret
  exact ⟨rfl, below_step hB (below_step hB5 b5)⟩
end
end Go.Proofs.Ytpnkaggkedepeaa
