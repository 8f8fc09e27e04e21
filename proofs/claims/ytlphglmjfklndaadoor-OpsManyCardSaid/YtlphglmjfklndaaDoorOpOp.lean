/- Operators that came in, as they lie in memory. -/
import Derived.Test.YtlphglmjfklndaaDoorOpAl
import Derived.Deep.Slices
import Derived.Deep.Strs
import Derived.SizedLaws
import Derived.ChangeShapes
import Derived.OpenShut
import Derived.Lib.SmallJoins
namespace Go.Proofs.YtlphglmjfklndaaDoor
set_option linter.unusedVariables false
open Go.RowKit Go.Maps Go.Deep Go.ChangeShapes Go.WideShapes Go.Joins Go.Proofs.YtlphglmjfklndaaDoorW.PrintWords Go.Proofs.YtlphglmjfklndaaDoorW.PrintLast Go.Proofs.YtlphglmjfklndaaDoorW.PrintMore Go.Proofs.YtlphglmjfklndaaDoor.POpsApart

theorem bytes27 : Tryd.prog.bytesOf 27 = 32 := by kernel_rfl
theorem cells27 : Tryd.prog.cellsOf 27 = 3 := by kernel_rfl
theorem cells3' : Tryd.prog.cellsOf 3 = 1 := by kernel_rfl
theorem cells9' : Tryd.prog.cellsOf 9 = 1 := by kernel_rfl
/-- A number of 64 bits. -/
def I64 (x : Int) : Prop := -9223372036854775808 ≤ x ∧ x ≤ 9223372036854775807
/-- An operator as it can come in. -/
def OpW (o : S27) : Prop := o.f0.size ≤ maxLen ∧ I64 o.f1 ∧ I64 o.f2

section
variable {H : Type} {enc : TypeId × Value → H} {W : World} {sp : Nat → Bool}
set_option maxRecDepth 100000 in
theorem op_cells {n : Nat} {cs : List Value} {x : DataW H × List MemPlace} (h : DataW.trod enc Tryd.prog W 0 sp true n 27 cs = some x) : ∃ o : S27, cs = [.string o.f0, .int .i64 o.f1, .int .i64 o.f2] ∧ OpW o := by
  obtain ⟨y0, y1, y2, n', _, hlen, t0, t1, t2⟩ := trod_struct3 Tryd.underlying27 h
  rw [cells27] at hlen
  match cs, hlen with
  | [u0, u1, u2], _ =>
    simp only [cells3', cells9', List.drop_zero, List.drop_succ_cons, List.take_succ_cons, List.take_zero] at t0 t1 t2
    obtain ⟨v0, e0, _, w0⟩ := DataW.trod_string Tryd.underlying9 t0
    obtain ⟨v1, e1, _, w1⟩ := DataW.trod_int Tryd.underlying3 t1
    obtain ⟨v2, e2, _, w2⟩ := DataW.trod_int Tryd.underlying3 t2
    simp at e0 e1 e2
    subst e0 e1 e2
    exact ⟨⟨v0, v1, v2⟩, rfl, w0, bounds_i64 w1, bounds_i64 w2⟩

set_option maxRecDepth 100000 in
theorem open_op {r : Reach} {b0 : Nat} {v : Value} {d : DataW H} {p : List MemPlace} {tys : List TypeId} {ds : List (DataW H)} {j : Nat} (hv : Value.okWide Tryd.prog W r b0 27 v) (h : DataW.Trod enc Tryd.prog W 0 sp true 27 v d p)
    (hsz : (DataW.weightsEach Tryd.prog tys ds).all (· ≤ reachBytes) = true) (ht : tys[j]? = some 27) (hd : ds[j]? = some d) : ∃ o : S27, v = .agg #[.string o.f0, .int .i64 o.f1, .int .i64 o.f2] ∧ OpW o := by
  obtain ⟨cs, rfl, hs⟩ := okWide_struct Tryd.underlying27 hv
  obtain ⟨fuel, hf⟩ := h
  obtain ⟨o, e, hw⟩ := op_cells hf
  refine ⟨o, ?_, hw⟩
  have : cs.toList = [.string o.f0, .int .i64 o.f1, .int .i64 o.f2] := by simpa [Value.cells] using e
  cases cs
  simp only at this
  rw [this]

/-- A row of operators that came in. -/
structure OpsAt (W : World) (a : Option Addr) (len : Nat) (ops : List S27) : Prop where
  leq : len = ops.length
  sz : len * 32 ≤ reachBytes
  C : Kd.C k27 W a ops.length ops
  wf : ∀ o ∈ ops, OpW o

set_option maxRecDepth 100000 in
theorem open_ops {a : Option Addr} {len cap : Nat} {d : DataW H} {p : List MemPlace} {tys : List TypeId} {ds : List (DataW H)} {j : Nat} (h : DataW.Trod enc Tryd.prog W 0 sp true 22 (.slice a len cap) d p)
    (hsz : (DataW.weightsEach Tryd.prog tys ds).all (· ≤ reachBytes) = true) (ht : tys[j]? = some 22) (hd : ds[j]? = some d) : ∃ ops, OpsAt W a len ops ∧ len ≤ cap := by
  obtain ⟨fuel, hf⟩ := h
  rcases open_slice Tryd.underlying22 hf with ⟨hcs, _⟩ | ⟨x, l, c, m, n, D, Pl, hcs, _, hl, hm, hmm, hx, hel⟩
  · simp [Value.cells] at hcs
    obtain ⟨rfl, rfl, rfl⟩ := hcs
    exact ⟨[], ⟨rfl, by decide, Kd.C_nil _ _, fun t ht => by cases ht⟩, Nat.le_refl _⟩
  · simp [Value.cells] at hcs
    obtain ⟨rfl, rfl, rfl⟩ := hcs
    obtain ⟨hx, _⟩ := Prod.mk.inj hx
    subst hx
    have z := sized_slice hsz ht hd Tryd.underlying22
    rw [bytes27, List.length_map, List.length_map, List.length_range, List.length_range] at z
    have hlm : len ≤ m := by rw [hmm]; split <;> omega
    unfold maxLen at hm
    have hone : ∀ i, i < len → ∃ o : S27, OpW o ∧ ∀ j u, [Value.string o.f0, .int .i64 o.f1, .int .i64 o.f2][j]? = some u → W.cell? (x.add (i * 3 + j)) = some u := by
      intro i hi
      obtain ⟨cs', hc, ht'⟩ := hel i (by omega)
      rw [cells27] at hc
      obtain ⟨o, rfl, hw⟩ := op_cells ht'
      obtain ⟨_, hlen', hcell⟩ := World.cells?_some hc
      refine ⟨o, hw, fun j u hj => ?_⟩
      have hjl : j < 3 := by
        have := (List.getElem?_eq_some_iff.1 hj).1
        simpa using this
      have := hcell j (by omega)
      rw [Go.Deep.add_add] at this
      rw [this]
      exact hj
    have hinh : Inhabited S27 := ⟨z27⟩
    obtain ⟨f, hfn⟩ := choose_lt hone
    refine ⟨(List.range len).map f, ⟨by simp, Nat.le_trans (Nat.mul_le_mul_right _ (by omega)) z, ?_, fun o ho => ?_⟩, hl⟩
    · refine ⟨by simp, by simp; omega, fun _ => ⟨x, rfl, fun j p hj => ?_⟩⟩
      have hj' : j < len := by
        have := (List.getElem?_eq_some_iff.1 hj).1
        simpa using this
      have hp : f j = p := by simpa [hj'] using hj
      obtain ⟨hw, hc⟩ := hfn j hj'
      rw [hp] at hc
      exact ⟨_, rfl, k27_mk W p, fun i u hu => hc i u hu⟩
    · obtain ⟨i, hi, rfl⟩ := List.mem_map.1 ho
      exact (hfn i (List.mem_range.1 hi)).1

end
end Go.Proofs.YtlphglmjfklndaaDoor
