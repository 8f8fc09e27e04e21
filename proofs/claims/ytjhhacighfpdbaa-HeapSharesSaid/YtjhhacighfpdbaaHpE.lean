/- A term that lies in known blocks, wherever else the world is written. -/
import Derived.Test.YtjhhacighfpdbaaHpZ
namespace Go.Proofs.Ytjhhacighfpdbaa
set_option linter.unusedVariables false
open Go.RowKit Go.Maps Go.Proofs.YtjhhacighfpdbaaW.PrintWords Go.Proofs.YtjhhacighfpdbaaW.PrintLast Go.Proofs.YtjhhacighfpdbaaW.PrintMore Go.Proofs.Ytjhhacighfpdbaa.PHeapShares Go.Extern

theorem heap_k24 : Kd.Heap k28 := Kd.heap_fix fun d hd => Kd.heap_iso _ (Kd.heap_pair (Kd.heap_int _) (Kd.heap_pair Kd.heap_string (Kd.heap_pair (Kd.heap_int _) (Kd.heap_slice 28 hd))))

/-- The term lies in the blocks T. -/
structure LF (T : Nat → Prop) (w : World) (t : S28) (A : Option Addr) (c : Nat) : Prop where
  F : Kd.F k28 w T A t.f3.length t.f3
  le : t.f3.length ≤ c
  wf : wfT t

section
variable {T T' : Nat → Prop} {w w' : World} {t : S28} {A : Option Addr} {c : Nat}
theorem LF.lies (h : LF T w t A c) : Lies w t A c := ⟨Kd.F_now h.F, h.le, h.wf⟩
theorem LF.mono (h : LF T w t A c) (hT : ∀ k, T k → T' k) : LF T' w t A c := ⟨Kd.F_mono h.F hT, h.le, h.wf⟩
theorem LF.step (h : LF T w t A c) (hm : ∀ k, T k → k < w.heap.size → w'.heap[k]? = w.heap[k]?) : LF T w' t A c := ⟨Kd.F_step h.F hm, h.le, h.wf⟩
theorem LF.below (h : LF T w t A c) (hB : Below w.heap.size w w') : LF T w' t A c := h.step fun k _ hk => hB.block k hk
theorem LF.fs {S : Nat → Prop} (h : LF T w t A c) (hf : Fs S w w') (hS : ∀ k, S k → ¬ T k) : LF T w' t A c := h.step fun k hk hl => hf.block k hl fun hs => hS k hs hk
theorem Lies.lf {w0 : World} (h : Lies w0 t A c) (hB : Below w0.heap.size w0 w) : LF (fun k => k < w0.heap.size) w t A c := ⟨Kd.F_below (Kd.C_F heap_k24 h.C) hB, h.le, h.wf⟩
theorem LF.of_R {base : Nat} {ok : Nat → Prop} {v : Value} (h : Kd.R k28 28 w base ok v t.f3) (hw : wfT t) : ∃ A c, v = .slice A t.f3.length c ∧ LF ok w t A c := by
  obtain ⟨A, c, rfl, hl, _⟩ := Kd.R_reads h
  exact ⟨A, c, rfl, Kd.R_F h, hl, hw⟩
theorem LF.rd {kd nt : Int} {nm : ByteArray} {xs : List S28} (h : LF T w ⟨kd, nm, nt, xs⟩ A c) (k : Nat) (hk : k < xs.length) :
    ∃ ad A3 c3, A = some ad ∧ w.cell? (ad.add (k * 4)) = some (.int .i64 xs[k].f0) ∧ w.cell? ⟨(ad.add (k * 4)).block, (ad.add (k * 4)).off + 1, none⟩ = some (.string xs[k].f1) ∧
      w.cell? ⟨(ad.add (k * 4)).block, (ad.add (k * 4)).off + 2, none⟩ = some (.int .i64 xs[k].f2) ∧ w.cell? ⟨(ad.add (k * 4)).block, (ad.add (k * 4)).off + 3, none⟩ = some (.slice A3 xs[k].f3.length c3) ∧
      xs[k].f3.length ≤ c3 ∧ Kd.F k28 w T A3 xs[k].f3.length xs[k].f3 := by
  obtain ⟨ad, cs, e, _, hK, hc, _⟩ := Kd.F_get h.F z28 (k : Int) (by omega) (by show (k : Int) < (xs.length : Nat); omega)
  obtain ⟨A3, c3, rfl, l3, g3⟩ := k28_openF hK
  have hrd : (⟨kd, nm, nt, xs⟩ : S28).f3.getD (k : Int).toNat z28 = xs[k] := by simp [List.getD_eq_getElem?_getD, List.getElem?_eq_getElem hk]
  have hc0 : ∀ j u, ([.int .i64 xs[k].f0, .string xs[k].f1, .int .i64 xs[k].f2, .slice A3 xs[k].f3.length c3] : List Value)[j]? = some u → w.cell? (ad.add (k * 4 + j)) = some u := by
    rw [hrd] at hc
    exact hc
  rw [hrd] at l3 g3
  exact ⟨ad, A3, c3, e, hc0 0 _ rfl, by rw [← add_field _ _ 1 (by omega)]; exact hc0 1 _ rfl, by rw [← add_field _ _ 2 (by omega)]; exact hc0 2 _ rfl, by rw [← add_field _ _ 3 (by omega)]; exact hc0 3 _ rfl, l3, g3⟩
end

end Go.Proofs.Ytjhhacighfpdbaa
