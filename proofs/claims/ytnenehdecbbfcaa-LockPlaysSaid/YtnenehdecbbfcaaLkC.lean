/- The walk of All: the numbers of the mutexes, rising, in a new slice. -/
import Derived.Test.YtnenehdecbbfcaaLkB
import Derived.Test.YtnenehdecbbfcaaLkShelfP
import Derived.Shelf.SlIterI.Nil
import Derived.OwnWalkIn
import Derived.TacticsInMore
namespace Go.Proofs.Ytnenehdecbbfcaa
open Go.RowKit Go.Maps Go.Sort Go.Shelf

theorem sorts26 (m : Nat) : AnyZI.SortsIn Try.prog Try.sorted26_ren Fence.wide m :=
  ⟨fun blk off cap ss W hH hblk hsz => callsIn_wide.2 (AnyM.slices_Sort_int Try.sort31 blk off cap ss W hH hblk hsz),
   fun p cap W => callsIn_wide.2 (AnyM.slices_Sort_int_none Try.sort31 p cap W)⟩

theorem intKeys_mdat {α : Type} (enc : α → Value) (L : List (Int × α)) : intKeys (mdat enc L) = L.map (·.1) := by
  simp [intKeys, mdat, Go.intOf]

theorem sorted_keys {α : Type} {L : List (Int × α)} (hs : msorted L) {ss : List Int} (hp : ss.Perm (L.map (·.1))) : ss.mergeSort (fun x y => decide (x ≤ y)) = L.map (·.1) := by
  have h1 := mergeSort_of_perm_i hp
  refine h1.trans ?_
  apply List.mergeSort_of_pairwise
  rw [List.pairwise_map]
  refine List.Pairwise.imp ?_ hs
  intro a b hab
  simp only [leI, decide_eq_true_eq]
  omega

set_option maxHeartbeats 1000000 in
theorem all_any (w : World) (lb mb : Nat) (made : Int) (L) (h : LocksAt w lb mb made L) (hs : msorted L) (hL : L.length < 1000000) :
    Calls Try.prog 12 #[.pointer (some ⟨lb, 0, none⟩)] w fun e w' => ∃ v, e = .returned v ∧ w'.ownsRow w.heap.size 3 1 v L.length ((L.map (·.1)).map (Value.int .i64)) ∧ Below w.heap.size w w' := by
  have c1 := h.cell1
  refine (callsIn_wide (n := 6)).1 ?_
  have hbl := h.map.lt
  have hown := h.map
  have hsz := mdat_size encM L
  unfold MapAt at hown
  generalize hD : mdat encM L = D0 at hown hsz
  have hseq : SeqGives Fence.wide 2 Try.prog 32 #[.pointer (some ⟨w.heap.size, 0, none⟩)] encZ (fun ss => ss.Perm (intKeys D0)) (Maps.size D0) (w.alloc (.cells #[.map (some mb)] 52)) :=
    AnyZI.keys_gives (ρ := Try.keys27_ren) { Try.keys27 with } Fence.wide _ trivial rfl (by omega) w.heap.size mb L.length D0 _ (by simp) (by simp) (by
      obtain ⟨es, clock, hb, Ft, hs, hD⟩ := hown
      exact ⟨es, clock, (Below.heap_alloc _ _ mb hbl).trans hb, Ft, hs, hD⟩)
  have cK : ∀ b W, CallsIn Fence.wide 5 Try.prog 27 #[.map b] W fun e w' => e = .returned (.func (.func 32) #[] #[.pointer (some ⟨W.heap.size, 0, none⟩)]) ∧ w' = W.alloc (.cells #[.map b] 52) := fun b W => AnyZI.keys_in Try.keys27 Fence.wide 5 trivial rfl b W
  have cS := AnyZI.sorted_in Try.sorted26 Fence.wide 5 trivial trivial trivial trivial rfl (by omega) (sorts26 _) (enters_of Try.func31 (by kernel_rfl) rfl) 32 #[.pointer (some ⟨w.heap.size, 0, none⟩)] trivial (enters_of Try.func32 (by kernel_rfl) rfl) _ _ (by unfold maxLen; omega) (by omega) _ hseq
  change CallsIn _ _ Try.prog 26 _ _ _ at cS
  have hfK : Fence.wide.fn 27 := trivial
  have hfS : Fence.wide.fn 26 := trivial
  have HK := Lib.hid hs
  have HD := Lib.hid hD
  have HZ := Lib.hid hsz
  clear hs hD hsz hseq hown h
  refine callsIn_of_wp Try.func12 rfl trivial ?_ rfl
  simp only [Try.ntmps12, List.size_toArray, List.length_cons, List.length_nil, Nat.reduceAdd, Nat.reduceSub, Array.replicate_succ, Array.replicate_zero, List.push_toArray, List.append_toArray, List.nil_append, List.cons_append]
  gi_wp2_with (first
    | (gi_at_call 27; refine (cK _ _).mono ?_; rintro e w' ⟨rfl, rfl⟩)
    | (gi_at_call 26; refine cS.mono ?_; rintro e w' ⟨v, ss, rfl, hS, hrow, hnil, hb⟩))
  go_ret
  refine ⟨v, rfl, ?_, ((Below.refl _ w).alloc (Nat.le_refl _) _).trans (hb.mono (by simp))⟩
  have hS' : ss.Perm (L.map (·.1)) := by
    have := hS
    rw [← HD.out, intKeys_mdat] at this
    exact this
  have hl : ss.length = L.length := by rw [hS'.length_eq, List.length_map]
  rw [sorted_keys HK.out hS', hl] at hrow
  exact ownsRow_base_a hrow (by simp)

end Go.Proofs.Ytnenehdecbbfcaa
