/- maps.Clone of a table's map; Clone. -/
import Derived.Test.YtlphglmjfklndaaDoorOpB
import Derived.Shelf.SlMaps.Clone
namespace Go.Proofs.YtlphglmjfklndaaDoor
set_option linter.unusedVariables false
open Go.RowKit Go.Maps Go.Proofs.YtlphglmjfklndaaDoorW.PrintWords Go.Proofs.YtlphglmjfklndaaDoorW.PrintLast Go.Proofs.YtlphglmjfklndaaDoorW.PrintMore Go.Proofs.YtlphglmjfklndaaDoor.POpsApart Go.Extern

set_option maxHeartbeats 2000000 in
set_option maxRecDepth 100000 in
theorem mapsClone_any (b : Nat) (es : Array MapEntry) (clock : Nat) (w : World) (hb : w.heap[b]? = some (.map es clock)) :
    Calls Tryd.prog 29 #[.map (some b)] w fun e w' => e = .returned (.map (some w.heap.size)) ∧ w' = w.alloc (.map es clock) := by
  have hq := fun w => run_eql_map_nil_sl (P := Tryd.prog) w 42 _ _ (some b) Tryd.underlying42
  have h36 : ∃ fn, Tryd.prog.funcs[36]? = some fn ∧ (fn.name == "runtime.NumGoroutine") = false ∧ fn.body.isNone = true ∧ Extern.findNext fn = none ∧ Extern.find fn = some Extern.MapsClone.clone := ⟨_, rfl, by kernel_rfl, by kernel_rfl, by kernel_rfl, by kernel_rfl⟩
  obtain ⟨fn, f1, f2, f3, f4, f5⟩ := h36
  go_enter Tryd.func29, Tryd.ntmps29
  go_wp2
  rw [run_callFunc_extern f1 f2 f3 f4 f5, run_maps_clone_sl w 42 hb]
  simp only [Result.andThen]
  rw [Oper.upon_value]
  go_wp2
  rw [run_typeAssert_map_sl _ 42 20 _ _ _ Tryd.underlying42]
  simp only [Result.andThen]
  rw [Oper.upon_value]
  go_wp2
  go_ret
  exact ⟨rfl, rfl⟩

set_option maxHeartbeats 2000000 in
set_option maxRecDepth 100000 in
theorem Clone_any (w : World) (p m : Nat) (L : List S27) (h : TabV w p m L) :
    Calls Tryd.prog 11 #[.pointer (some ⟨p, 0, none⟩)] w fun e w' => e = .returned (.pointer (some ⟨w.heap.size + 1, 0, none⟩)) ∧ TabV w' (w.heap.size + 1) w.heap.size L ∧ Below w.heap.size w w' := by
  have c0 : w.cell? ⟨p, 0, none⟩ = some (.map (some m)) := blk_cell h.blk 0
  obtain ⟨es, clock, hb, F, hs, hD⟩ := h.own
  have hc := mapsClone_any m es clock w hb
  go_enter Tryd.func11, Tryd.ntmps11
  go_wp2_with fail
  refine hc.mono ?_
  rintro e w1 ⟨rfl, rfl⟩
  clear hc
  go_wp2
  go_ret
  have k1 : (w.alloc (.map es clock)).heap[w.heap.size]? = some (.map es clock) := heap_alloc_new w _
  have k2 : ((w.alloc (.map es clock)).alloc (.cells #[.map (some w.heap.size)] 44)).heap[w.heap.size]? = some (.map es clock) := (below_alloc (Below.refl _ _) _).block _ (by simp) |>.trans k1
  have k3 := blk_new (w.alloc (.map es clock)) (.cells #[.map (some w.heap.size)] 44)
  rw [World.size_alloc] at k3
  exact ⟨rfl, ⟨k3, ⟨es, clock, k2, F, hs, hD⟩, h.tab, h.len⟩, below_alloc (below_alloc (Below.refl _ _) _) _⟩

end Go.Proofs.YtlphglmjfklndaaDoor
