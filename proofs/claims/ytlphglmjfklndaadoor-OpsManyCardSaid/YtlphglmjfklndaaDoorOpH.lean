/- All: the operators in their order, in a row of one's own. -/
import Derived.Test.YtlphglmjfklndaaDoorOpG
import Derived.Laws.EntriesVeiled
namespace Go.Proofs.YtlphglmjfklndaaDoor
set_option linter.unusedVariables false
open Go.RowKit Go.Shelf Go.Proofs.YtlphglmjfklndaaDoorW.PrintWords Go.Proofs.YtlphglmjfklndaaDoorW.PrintLast Go.Proofs.YtlphglmjfklndaaDoorW.PrintMore Go.Proofs.YtlphglmjfklndaaDoor.POpsApart Go.Extern

theorem ownsRow_low {W : World} {base base' : Nat} {e : TypeId} {size : Nat} {v : Value} {k : Nat} {xs : List Value} (h : W.ownsRow base e size v k xs) (hb : base' ≤ base) : W.ownsRow base' e size v k xs :=
  ⟨h.1, h.2.imp id fun ⟨g, cap, cur, h1, h2, h3⟩ => ⟨g, cap, cur, h1, Nat.le_trans hb h2, h3⟩⟩
theorem own_box {W : World} {base : Nat} {xs : List S27} {v : Value} (h : W.ownsRow base 27 3 v xs.length (xs.flatMap opc)) (hv : v = .slice none 0 0 ↔ xs = []) (hx : xs ≠ []) : ∃ g cap, v = .slice (some ⟨g, 0, none⟩) xs.length cap := by
  rcases h.2 with ⟨h0, _⟩ | ⟨g, cap, cur, hv, _⟩
  · exact absurd (hv.1 h0) hx
  · exact ⟨g, cap, hv⟩

set_option maxHeartbeats 1000000 in
set_option maxRecDepth 100000 in
theorem sortedFunc_any (w : World) (base p m Bm cp : Nat) (L : List S27) (h : TabV w p m L) (hne : L ≠ []) (hm : w.heap[Bm]? = some (.cells #[.map (some m)] 42 (0, 0))) (hcp : w.heap[cp]? = some (.cells #[.func (.func 21) #[] #[]] 53 (0, 0))) :
    Calls Tryd.prog 22 #[.func (.func 33) #[] #[.pointer (some ⟨Bm, 0, none⟩)], .func (.func 24) #[] #[.pointer (some ⟨cp, 0, none⟩)]] w fun e w' =>
      ∃ v ys, e = .returned v ∧ ys.Perm L ∧ Ord ys ∧ w'.ownsRow w.heap.size 27 3 v L.length (ys.flatMap opc) ∧ Below w.heap.size w w' := by
  have hseq := values_stops Fence.wide 4 trivial rfl (by omega) Bm m L h.tab w (blk_lt hm) (blk_cell hm 0) h.own
  have hlen := h.len
  have hC := collect_any 33 #[.pointer (some ⟨Bm, 0, none⟩)] (enters_of Tryd.func33 (by kernel_rfl) rfl) _ L.length (by omega) w hseq
  clear hseq
  go_enter Tryd.func22, Tryd.ntmps22
  go_wp2_with fail
  refine hC.mono ?_
  rintro e w1 ⟨v, xs, rfl, hp, hrow, hnil, hB⟩
  have hxl : xs.length = L.length := hp.length_eq
  have hxne : xs ≠ [] := fun e => hne (by subst e; exact (List.Perm.nil_eq hp).symm)
  obtain ⟨g, cap, rfl⟩ := own_box hrow hnil hxne
  have hB' := hB
  have hd : xs.Pairwise fun a b => keyO a ≠ keyO b := hp.symm.pairwise h.tab.nod (fun h => Ne.symm h)
  have hS := sort_any w1 w.heap.size g cap cp xs hd hrow hB.size (blk_below hcp hB) (by omega)
  have HX := Lib.hid hxl
  have HP := Lib.hid hp
  clear hnil hC hxl hxne hp hrow hd hlen hne hcp hm hB h
  have HB := Lib.hid hB'
  clear hB'
  go_wp2_with fail
  refine hS.mono ?_
  rintro e w2 ⟨rfl, ys, hp2, hO, hrow2, hB2⟩
  go_wp2
  go_ret
  refine ⟨_, ys, rfl, hp2.trans HP.out, hO, ?_, HB.out.trans hB2⟩
  rw [← HX.out]
  exact hrow2

set_option maxHeartbeats 1000000 in
set_option maxRecDepth 100000 in
theorem All_any (w : World) (p m : Nat) (L : List S27) (h : TabV w p m L) (hne : L ≠ []) :
    Calls Tryd.prog 9 #[.pointer (some ⟨p, 0, none⟩)] w fun e w' =>
      ∃ v ys, e = .returned v ∧ ys.Perm L ∧ Ord ys ∧ w'.ownsRow w.heap.size 27 3 v L.length (ys.flatMap opc) ∧ Below w.heap.size w w' := by
  have hB1 : Below w.heap.size w (w.alloc (.cells #[.func (.func 21) #[] #[]] 53)) := below_alloc (Below.refl _ _) _
  have kP := blk_alloc h.blk (.cells #[.func (.func 21) #[] #[]] 53)
  have c0 := blk_cell kP 0
  have kC := blk_new w (.cells #[.func (.func 21) #[] #[]] 53)
  have hV := fun W => (callsIn_wide (n := 5)).1 (values_in Fence.wide 5 trivial rfl (some m) W)
  have kB := blk_new (w.alloc (.cells #[.func (.func 21) #[] #[]] 53)) (.cells #[.map (some m)] 42)
  rw [World.size_alloc] at kB
  have hB2 := below_alloc hB1 (.cells #[.map (some m)] 42)
  have hS := sortedFunc_any ((w.alloc (.cells #[.func (.func 21) #[] #[]] 53)).alloc (.cells #[.map (some m)] 42)) w.heap.size p m (w.heap.size + 1) w.heap.size L (h.below hB2) hne kB (blk_alloc kC _)
  clear kB kC kP
  have H2 := Lib.hid hB2
  clear hB2
  go_enter Tryd.func9, Tryd.ntmps9
  go_wp2_with (first
    | (go_at_call 23; refine (hV _).mono ?_; rintro e w' ⟨rfl, rfl⟩)
    | (go_at_call 22; refine hS.mono ?_; rintro e w' ⟨v, ys, rfl, h1, h2, h3, h4⟩))
  go_ret
  refine ⟨v, ys, rfl, h1, h2, ?_, H2.out.trans (h4.mono (by simp; omega))⟩
  exact ownsRow_low h3 (by simp; omega)

end Go.Proofs.YtlphglmjfklndaaDoor
