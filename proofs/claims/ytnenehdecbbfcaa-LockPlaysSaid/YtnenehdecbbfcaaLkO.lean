/- A slice of calls that came in, as it lies in memory. -/
import Derived.Test.YtnenehdecbbfcaaLkS
import Derived.Deep.Slices
import Derived.Deep.Strs
import Derived.SizedLaws
import Derived.ChangeShapes
import Derived.OpenShut
namespace Go.Proofs.Ytnenehdecbbfcaa
open Go.RowKit Go.Maps Go.Deep Go.ChangeShapes Go.WideShapes

theorem bytes29 : Try.prog.bytesOf 29 = 24 := by kernel_rfl
theorem cells29 : Try.prog.cellsOf 29 = 3 := by kernel_rfl
theorem cells3' : Try.prog.cellsOf 3 = 1 := by kernel_rfl

theorem open_ops {H : Type} {enc : TypeId × Value → H} {W : World} {sp : Nat → Bool} {a : Option Addr} {len cap : Nat} {d : DataW H} {p : List MemPlace} {ts : List TypeId} {ds : List (DataW H)} {j : Nat}
    (h : DataW.Trod enc Try.prog W 0 sp true 22 (.slice a len cap) d p) (hsz : (DataW.weightsEach Try.prog ts ds).all (· ≤ reachBytes) = true) (ht : ts[j]? = some 22) (hd : ds[j]? = some d) : ∃ ops, OpsAt W a len ops := by
  obtain ⟨fuel, hf⟩ := h
  rcases open_slice Try.underlying22 hf with ⟨hcs, _⟩ | ⟨x, l, c, m, n, D, Pl, hcs, _, hl, hm, hmm, hx, hel⟩
  · simp [Value.cells] at hcs
    obtain ⟨rfl, rfl, rfl⟩ := hcs
    exact ⟨[], rfl, by decide, by simp, fun hh => absurd hh (Nat.lt_irrefl _)⟩
  · simp [Value.cells] at hcs
    obtain ⟨rfl, rfl, rfl⟩ := hcs
    obtain ⟨hx, _⟩ := Prod.mk.inj hx
    subst hx
    have z := sized_slice hsz ht hd Try.underlying22
    rw [bytes29, List.length_map, List.length_map, List.length_range, List.length_range] at z
    have hlm : len ≤ m := by rw [hmm]; split <;> omega
    have hone : ∀ i, i < len → ∃ o : Int × Int × Int, (I64 o.1 ∧ I64 o.2.1 ∧ I64 o.2.2) ∧ W.cell? (x.add (i * 3)) = some (.int .i64 o.1) ∧ W.cell? ((x.add (i * 3)).add 1) = some (.int .i64 o.2.1) ∧ W.cell? ((x.add (i * 3)).add 2) = some (.int .i64 o.2.2) := by
      intro i hi
      obtain ⟨cs', hc, ht'⟩ := hel i (by omega)
      rw [cells29] at hc
      obtain ⟨y0, y1, y2, n', _, hlen, t0, t1, t2⟩ := trod_struct3 Try.underlying29 ht'
      rw [cells29] at hlen
      obtain ⟨_, hlen', hcell⟩ := World.cells?_some hc
      match cs', hlen with
      | [u0, u1, u2], _ =>
        simp only [cells3', List.drop_zero, List.drop_succ_cons, List.take_succ_cons, List.take_zero] at t0 t1 t2
        obtain ⟨v0, e0, _, w0⟩ := DataW.trod_int Try.underlying3 t0
        obtain ⟨v1, e1, _, w1⟩ := DataW.trod_int Try.underlying3 t1
        obtain ⟨v2, e2, _, w2⟩ := DataW.trod_int Try.underlying3 t2
        simp at e0 e1 e2
        subst e0 e1 e2
        refine ⟨(v0, v1, v2), ⟨?_, ?_, ?_⟩, ?_, ?_, ?_⟩
        · exact bounds_i64 w0
        · exact bounds_i64 w1
        · exact bounds_i64 w2
        · simpa [Addr.add] using hcell 0 (by omega)
        · simpa using hcell 1 (by omega)
        · simpa using hcell 2 (by omega)
    obtain ⟨f, hfn⟩ := choose_lt hone
    refine ⟨(List.range len).map f, by simp, Nat.le_trans (Nat.mul_le_mul_right _ (by omega)) z, ?_, fun hp => ?_⟩
    · intro o ho
      obtain ⟨i, hi, rfl⟩ := List.mem_map.1 ho
      exact (hfn i (List.mem_range.1 hi)).1
    · obtain ⟨b, off, spot⟩ := x
      have hspot : spot = none := by
        have h0 := (hfn 0 hp).2.1
        have h1 := World.cell?_spot h0
        simpa [Addr.add] using h1
      subst hspot
      have hb : b < W.heap.size := by
        have h1 := World.block_lt_of_cell? _ _ (hfn 0 hp).2.1
        simpa [Addr.add] using h1
      refine ⟨b, off, rfl, hb, fun i hi => ?_⟩
      have hi' : i < len := by simpa using hi
      obtain ⟨_, c0, c1, c2⟩ := hfn i hi'
      rw [add_add] at c1 c2
      rw [add_plain] at c0 c1 c2
      simp only [List.getElem_map, List.getElem_range]
      exact ⟨c0, c1, c2⟩

end Go.Proofs.Ytnenehdecbbfcaa
