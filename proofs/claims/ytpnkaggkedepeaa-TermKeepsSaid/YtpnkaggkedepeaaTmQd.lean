/- The document's Copy, apply, Rename and Variant, walked. -/
import Derived.Test.YtpnkaggkedepeaaTmQc
import Derived.Test.YtpnkaggkedepeaaTmPl
import Derived.Deep.RegionHeld3
import Derived.Deep.QuietTactic
import Derived.BigQuiet
namespace Go.Proofs.Ytpnkaggkedepeaa
set_option linter.unusedVariables false
open Go.RowKit Go.Maps Go.Proofs.YtpnkaggkedepeaaW.PrintWords Go.Proofs.YtpnkaggkedepeaaW.PrintLast Go.Proofs.YtpnkaggkedepeaaW.PrintMore Go.Proofs.Ytpnkaggkedepeaa.PTermTells Go.Extern

set_option maxHeartbeats 1000000 in
set_option maxRecDepth 100000 in
theorem rcopy_any (t : S24) (w0 w : World) (A : Option Addr) (c : Nat) (hC : Kd.C k24 w0 A t.f3.length t.f3) (hc : t.f3.length ≤ c) (hB : Below w0.heap.size w0 w) (hn : nodes t < 1000000) :
    Calls Try.prog 36 #[.agg #[.int .i64 t.f0, .string t.f1, .int .i64 t.f2, .slice A t.f3.length c]] w fun e w' => ∃ v,
      e = .returned (.agg #[.int .i64 (cpR t).f0, .string (cpR t).f1, .int .i64 (cpR t).f2, v]) ∧ Kd.R k24 24 w' w.heap.size (fun _ => True) v (cpR t).f3 ∧ Below w.heap.size w w' := by
  have hB2 := below_alloc (below_alloc (Below.refl w.heap.size w) (.cells #[.int .i64 t.f0, .string t.f1, .int .i64 t.f2, .slice A t.f3.length c] 24)) (.cells #[.int .i64 0, .string ⟨#[]⟩, .int .i64 0, .slice none 0 0] 24)
  have kR := blk_new (w.alloc (.cells #[.int .i64 t.f0, .string t.f1, .int .i64 t.f2, .slice A t.f3.length c] 24)) (.cells #[.int .i64 0, .string ⟨#[]⟩, .int .i64 0, .slice none 0 0] 24)
  rw [World.size_alloc] at kR
  have hcall := rput_any _ t rfl w0 _ c A hC hc (below_step hB hB2) hn
  generalize cpR t = r at hcall ⊢
  obtain ⟨e0, e1, e2, e3⟩ := r
  simp only at hcall ⊢
  go_enter Try.func36, Try.ntmps36
  go_wp2_with fail
  refine hcall.mono ?_
  rintro e w1 ⟨v, rfl, R, hb⟩
  obtain ⟨A5, c5, rfl, hc5, C5⟩ := Kd.R_reads R
  replace kR := blk_below kR hb
  have hB3 := below_step hB2 hb
  clear hcall hb
  have r0 := blk_cell kR 0
  have r1 := blk_cell kR 1
  have r2 := blk_cell kR 2
  have r3 := blk_cell kR 3
  have fr := fun i => blk_frozen kR i
  have lr := blk_lt kR
  go_wp2
  have kF := res_box kR (.int .i64 e0) (.string e1) (.int .i64 e2) (.slice A5 e3.length c5)
  have hBF : Below w.heap.size w ((((w1.setCell ⟨w.heap.size + 1, 0, none⟩ (.int .i64 e0)).setCell ⟨w.heap.size + 1, 1, none⟩ (.string e1)).setCell ⟨w.heap.size + 1, 2, none⟩ (.int .i64 e2)).setCell ⟨w.heap.size + 1, 3, none⟩ (.slice A5 e3.length c5)) := below_set (below_set (below_set (below_set hB3 (by omega)) (by omega)) (by omega)) (by omega)
  have hRF := R_set4 (g := w.heap.size + 1) (Kd.R_bound R) (fun j hj => by have := hj.2.1; simp at this; omega) (.int .i64 e0) (.string e1) (.int .i64 e2) (.slice A5 e3.length c5)
  generalize ((((w1.setCell ⟨w.heap.size + 1, 0, none⟩ (.int .i64 e0)).setCell ⟨w.heap.size + 1, 1, none⟩ (.string e1)).setCell ⟨w.heap.size + 1, 2, none⟩ (.int .i64 e2)).setCell ⟨w.heap.size + 1, 3, none⟩ (.slice A5 e3.length c5)) = WF at kF hBF hRF ⊢
  have q0 := blk_cell kF 0
  have q1 := blk_cell kF 1
  have q2 := blk_cell kF 2
  have q3 := blk_cell kF 3
  refine bodyPost_ret (v := .agg #[.int .i64 e0, .string e1, .int .i64 e2, .slice A5 e3.length c5]) (by simp [results, Try.results36, go_sem, q0, q1, q2, q3]) rfl ?_
  exact ⟨_, rfl, Kd.R_mono (Kd.R_lower hRF (by simp; omega)) (fun _ _ => trivial), hBF⟩


end Go.Proofs.Ytpnkaggkedepeaa
