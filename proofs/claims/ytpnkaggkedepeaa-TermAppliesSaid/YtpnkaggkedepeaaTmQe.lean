/- The document's functions from a world on; Variant walked. -/
import Derived.Test.YtpnkaggkedepeaaTmQd
namespace Go.Proofs.Ytpnkaggkedepeaa
set_option linter.unusedVariables false
open Go.RowKit Go.Maps Go.Proofs.YtpnkaggkedepeaaW.PrintWords Go.Proofs.YtpnkaggkedepeaaW.PrintLast Go.Proofs.YtpnkaggkedepeaaW.PrintMore Go.Proofs.Ytpnkaggkedepeaa.PTermTells Go.Extern

section
variable {w0 W : World} {t u : S24} {A A' : Option Addr} {c c' : Nat}
theorem rright_at (h : Lies w0 t A c) (hB : Below w0.heap.size w0 W) :
    Calls Try.prog 14 #[.agg #[.int .i64 t.f0, .string t.f1, .int .i64 t.f2, .slice A t.f3.length c]] W fun e w' => e = .returned (.bool (okT t)) ∧ Below w0.heap.size w0 w' := by
  obtain ⟨k, hk⟩ := right_pure t
  exact (pythiaref07_Right.calls k _ _ _ A c _ _ W (h.at hB).C h.le hk).mono fun e w' ⟨a, b⟩ => ⟨a, below_step hB b⟩
theorem rsize_at (h : Lies w0 t A c) (hB : Below w0.heap.size w0 W) {most : Int} (h0 : 0 ≤ most) (h1 : most ≤ 1000000) :
    Calls Try.prog 22 #[.agg #[.int .i64 t.f0, .string t.f1, .int .i64 t.f2, .slice A t.f3.length c], .int .i64 most] W fun e w' => e = .returned (.int .i64 (min (nodes t : Int) (most + 1))) ∧ Below w0.heap.size w0 w' :=
  (pythiaref07_Size.calls (2 * nodes t) _ _ _ A c _ _ _ W (h.at hB).C h.le (size_pure _ t (Nat.lt_succ_self _) _ most h0 h1 (Nat.le_refl _))).mono fun e w' ⟨a, b⟩ => ⟨a, below_step hB b⟩
theorem rsame_at (h : Lies w0 t A c) (k : Lies w0 u A' c') (hB : Below w0.heap.size w0 W) (ht : shT t = true) (hu : shT u = true) :
    Calls Try.prog 40 #[.agg #[.int .i64 t.f0, .string t.f1, .int .i64 t.f2, .slice A t.f3.length c], .agg #[.int .i64 u.f0, .string u.f1, .int .i64 u.f2, .slice A' u.f3.length c']] W fun e w' => e = .returned (.bool (decide (ordT t u = 0))) ∧ Below w0.heap.size w0 w' :=
  (pythiaref07_Same.calls (3 * nodes t) _ _ _ A c _ _ _ _ A' c' _ _ W (h.at hB).C h.le (k.at hB).C k.le (by
    unfold pythiaref07_Same.f
    rw [order_pure _ t u (Nat.lt_succ_self _) ht hu _ (Nat.le_refl _)]
    simp only [Option.bind_some]
    congr 1)).mono fun e w' ⟨a, b⟩ => ⟨a, below_step hB b⟩
theorem rrename_at (h : Lies w0 t A c) (hB : Below w0.heap.size w0 W) (ho : okT t = true) {n : Int} (h1 : 1 ≤ n) (h2 : n ≤ 4611686018427387904) :
    Calls Try.prog 39 #[.agg #[.int .i64 t.f0, .string t.f1, .int .i64 t.f2, .slice A t.f3.length c], .int .i64 n] W fun e w' => ∃ A1 c1,
      e = .returned (.tuple #[.agg #[.int .i64 (renS (rnf (varsT t []) n) t).f0, .string (renS (rnf (varsT t []) n) t).f1, .int .i64 (renS (rnf (varsT t []) n) t).f2, .slice A1 (renS (rnf (varsT t []) n) t).f3.length c1], .int .i64 (n + (varsT t []).length)]) ∧ Lies w' (renS (rnf (varsT t []) n) t) A1 c1 ∧ Below W.heap.size W w' :=
  (rren_any t n w0 W A c h hB ho h1 h2).mono fun e w' ⟨v, a, r, b⟩ => by
    obtain ⟨A1, c1, rfl, g1, g2⟩ := Kd.R_reads r
    have hw := wfT_ren h.wf (n := n) (by unfold I64; omega)
    rw [renT_ok ho h1 h2] at hw
    exact ⟨A1, c1, a, ⟨g2, g1, hw⟩, b⟩
end
end Go.Proofs.Ytpnkaggkedepeaa
