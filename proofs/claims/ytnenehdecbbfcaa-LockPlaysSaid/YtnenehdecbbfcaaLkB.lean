/- The walks of Give, Drop and Make. -/
import Derived.Test.YtnenehdecbbfcaaLkA
namespace Go.Proofs.Ytnenehdecbbfcaa
open Go.RowKit Go.Maps

def giveE (L : List (Int × (Int × Int))) (m t : Int) : Int := if findE L m t ≠ 0 then findE L m t else if (own L m).1 ≠ t then 150 else 0
def giveL (L : List (Int × (Int × Int))) (m t : Int) : List (Int × (Int × Int)) :=
  if giveE L m t = 0 then (if (own L m).2 = 1 then mput m (0, 0) L else mput m (t, (own L m).2 - 1) L) else L

set_option maxRecDepth 100000 in
theorem give_any (w : World) (lb mb : Nat) (made m t : Int) (L) (h : LocksAt w lb mb made L) (hm : I64 m) (hc : -1 ≤ (own L m).2 ∧ (own L m).2 < 9223372036854775807) (hL : L.length < 1000000) :
    Calls Try.prog 17 #[.pointer (some ⟨lb, 0, none⟩), .int .i64 m, .int .i64 t] w fun e w' => e = .returned (.int .i64 (giveE L m t)) ∧ LocksAt w' lb mb made (giveL L m t) ∧ Fr lb mb w w' := by
  have cf := fun w' => find_any w' lb mb made m t L
  obtain ⟨a, b, hab⟩ : ∃ a b, own L m = (a, b) := ⟨_, _, rfl⟩
  unfold giveL giveE
  rw [hab] at hc ⊢
  simp only [hab] at cf
  generalize findE L m t = fe at cf ⊢
  have hwr : IntKind.i64.wrap (b - 1) = b - 1 := IntWalk.i64_in _ (by omega)
  have hkey := keyOf_int_mk Try.underlying3 hm.wf
  clear hab
  by_cases hf : fe = 0
  · subst hf
    by_cases ha : a ≠ t
    · have h2 : (a != t) = true := by simpa using ha
      simp only [ne_eq, not_true, if_false]
      rw [if_pos ha, if_neg (by omega)]
      clear ha
      go_enter Try.func17, Try.ntmps17
      go_wp2_with (go_at_call 28; refine (cf _ h hm).mono ?_; rintro e w1 ⟨rfl, hb1⟩)
      go_ret
      exact ⟨rfl, (h.below hb1).below ((Below.refl _ _).alloc (Nat.le_refl _) _), (Fr.below hb1).trans (Fr.below ((Below.refl _ _).alloc (Nat.le_refl _) _))⟩
    · have h2 : (a != t) = false := by simpa using ha
      simp only [ne_eq, not_true, if_false]
      rw [if_neg ha, if_pos rfl]
      clear ha
      by_cases hb : b = 1
      · subst hb
        rw [if_pos rfl]
        go_enter Try.func17, Try.ntmps17
        go_wp2_with (first
          | (go_at_call 28; refine (cf _ h hm).mono ?_; rintro e w1 ⟨rfl, hb1⟩
             have h' := (h.below hb1).below ((Below.refl _ _).alloc (Nat.le_refl _) (Obj.cells #[Value.int IntKind.i64 a, Value.int IntKind.i64 1] 64))
             have c1 := h'.cell1
             have hfr := (Fr.below (lb := lb) (mb := mb) hb1).trans (Fr.below ((Below.refl _ _).alloc (Nat.le_refl _) (Obj.cells #[Value.int IntKind.i64 a, Value.int IntKind.i64 1] 64))))
          | (at_mapUpdate; refine wpList_mapUpdate_in _ rfl _ _ _ 52 rfl 3 64 law3 Try.underlying52 _ mb L.length _ rfl h'.map (by unfold maxLen; omega) _ _ _ rfl rfl hkey (.held (encM (0, 0))) [] rfl ?_; intro w5 hown5 hturn5))
        go_ret
        exact ⟨rfl, turn_store h' hown5 hturn5, hfr.trans (Fr.turned hturn5)⟩
      · have h3 : (b == 1) = false := by simpa using hb
        rw [if_neg hb]
        clear hb
        go_enter Try.func17, Try.ntmps17
        go_wp2_with (go_at_call 28; refine (cf _ h hm).mono ?_; rintro e w1 ⟨rfl, hb1⟩)
        have h' := (h.below hb1).below ((Below.refl _ _).alloc (Nat.le_refl _) (Obj.cells #[Value.int IntKind.i64 a, Value.int IntKind.i64 b] 64))
        have c1 := h'.cell1
        have x1 : (w1.alloc (Obj.cells #[Value.int IntKind.i64 a, Value.int IntKind.i64 b] 64)).cell? ⟨w1.heap.size, 1, none⟩ = some (.int .i64 b) := by simp
        have hfr := (Fr.below (lb := lb) (mb := mb) hb1).trans (Fr.below ((Below.refl _ _).alloc (Nat.le_refl _) (Obj.cells #[Value.int IntKind.i64 a, Value.int IntKind.i64 b] 64)))
        generalize w1.alloc (Obj.cells #[Value.int IntKind.i64 a, Value.int IntKind.i64 b] 64) = W at h' c1 x1 hfr ⊢
        go_still_tail 10, (by kernel_rfl)
        change wpList _ _ _ _ _ W.drew
        have h4 : LocksAt W.drew lb mb made L := h'.below (Below.drew (Below.refl _ _))
        have hfr' : Fr lb mb w W.drew := hfr.trans (Fr.below (Below.drew (Below.refl _ _)))
        clear h' c1 x1 hfr
        generalize W.drew = W2 at h4 hfr' ⊢
        refine wpList_mapUpdate_in _ rfl _ _ _ 52 rfl 3 64 law3 Try.underlying52 _ mb L.length _ rfl h4.map (by unfold maxLen; omega) _ _ _ rfl rfl hkey (.held (encM (t, b - 1))) [] rfl ?_
        intro w5 hown5 hturn5
        have h5 := turn_store h4 hown5 hturn5
        have hfr5 := hfr'.trans (Fr.turned hturn5)
        clear h4 hfr' hown5 hturn5
        go_wp2
        go_ret
        exact ⟨rfl, h5, hfr5⟩
  · simp only [ne_eq, hf, not_false_eq_true, if_true, if_false]
    have hf1 : (fe != 0) = true := by simp [hf]
    go_enter Try.func17, Try.ntmps17
    go_wp2_with (go_at_call 28; refine (cf _ h hm).mono ?_; rintro e w1 ⟨rfl, hb1⟩)
    go_ret
    exact ⟨rfl, (h.below hb1).below ((Below.refl _ _).alloc (Nat.le_refl _) _), (Fr.below hb1).trans (Fr.below ((Below.refl _ _).alloc (Nat.le_refl _) _))⟩

theorem turn_drop {w w' : World} {lb mb : Nat} {made : Int} {L} {m : Int} {n : Nat} (h : LocksAt w lb mb made L) (h1 : w'.ownsMap Try.prog 3 rawE mb n ((mdat encM L).del (.int .i64 m))) (h2 : w.mapTurned w' mb) :
    LocksAt w' lb mb made (mrem m L) := by
  rw [mdat_del] at h1
  exact ⟨(h2.grown.block lb h.lt (fun e => h.ne (Option.some.inj e))).trans h.blk, tight h1⟩

def dropE (L : List (Int × (Int × Int))) (m : Int) : Int := if (mget L m).isSome then (if (own L m).2 > 0 then 150 else 0) else 61
def dropL (L : List (Int × (Int × Int))) (m : Int) : List (Int × (Int × Int)) := if dropE L m = 0 then mrem m L else L

set_option maxRecDepth 100000 in
theorem drop_any (w : World) (lb mb : Nat) (made m : Int) (L) (h : LocksAt w lb mb made L) (hm : I64 m) :
    Calls Try.prog 20 #[.pointer (some ⟨lb, 0, none⟩), .int .i64 m] w fun e w' => e = .returned (.int .i64 (dropE L m)) ∧ LocksAt w' lb mb made (dropL L m) ∧ Fr lb mb w w' := by
  have c1 := h.cell1
  have hlt := h.lt
  have hl := look h.map hm true
  have hkey := keyOf_int_mk Try.underlying3 hm.wf
  obtain ⟨a, b, hab⟩ : ∃ a b, own L m = (a, b) := ⟨_, _, rfl⟩
  unfold dropL dropE
  rw [hab] at hl ⊢
  have h' := h.below ((Below.refl _ _).alloc (Nat.le_refl _) (Obj.cells #[Value.int IntKind.i64 a, Value.int IntKind.i64 b] 64))
  have hfr := Fr.below (lb := lb) (mb := mb) ((Below.refl _ w).alloc (Nat.le_refl _) (Obj.cells #[Value.int IntKind.i64 a, Value.int IntKind.i64 b] 64))
  cases hg : (mget L m).isSome with
  | false =>
    rw [hg] at hl
    simp only [Bool.false_eq_true, if_false]
    rw [if_neg (by omega)]
    clear hab hg
    go_enter Try.func20, Try.ntmps20
    go_wp2
    go_ret
    exact ⟨rfl, h', hfr⟩
  | true =>
    rw [hg] at hl
    simp only [if_true]
    clear hab hg
    by_cases hb : b > 0
    · simp only [if_pos hb]
      rw [if_neg (by omega)]
      go_enter Try.func20, Try.ntmps20
      go_wp2
      go_ret
      exact ⟨rfl, h', hfr⟩
    · simp only [if_neg hb, if_true]
      go_enter Try.func20, Try.ntmps20
      go_wp2_with (at_delete; refine wpList_delete_own _ rfl _ _ 52 3 rfl 64 law3 Try.underlying52 _ mb L.length _ rfl h'.map _ _ rfl hkey ?_; intro w5 hown5 hturn5)
      go_ret
      exact ⟨rfl, turn_drop h' hown5 hturn5, hfr.trans (Fr.turned hturn5)⟩

set_option maxRecDepth 100000 in
theorem make_any (w : World) (lb mb : Nat) (made : Int) (L) (h : LocksAt w lb mb made L) (hmd : 0 ≤ made ∧ made < 4611686018427387904) (hL : L.length < 1000000) :
    Calls Try.prog 19 #[.pointer (some ⟨lb, 0, none⟩)] w fun e w' =>
      if 8 ≤ L.length then e = .returned (.tuple #[.int .i64 0, .int .i64 3]) ∧ w' = w
      else e = .returned (.tuple #[.int .i64 (made + 1), .int .i64 0]) ∧ LocksAt w' lb mb (made + 1) (mput (made + 1) (0, 0) L) ∧ Fr lb mb w w' := by
  have c1 := h.cell1
  have c0 := h.cell0
  have f0 := h.free 0
  by_cases hn : 8 ≤ L.length
  · simp only [if_pos hn]
    have hlen := fun ty => World.ownsMap.len h.map Try.underlying52 ty
    rw [mdat_size] at hlen
    have hn' : (8 : Int) ≤ (L.length : Int) := by omega
    go_enter Try.func19, Try.ntmps19
    go_wp2
    go_ret2
    exact ⟨rfl, rfl⟩
  · simp only [if_neg hn]
    have hlen := fun ty => World.ownsMap.len h.map Try.underlying52 ty
    rw [mdat_size] at hlen
    have hn' : ¬ (8 : Int) ≤ (L.length : Int) := by omega
    have hkey := keyOf_int_mk Try.underlying3 (I64.wf (x := made + 1) ⟨by omega, by omega⟩)
    have hw' : LocksAt (w.setCell ⟨lb, 0, none⟩ (.int .i64 (made + 1))) lb mb (made + 1) L := by
      refine ⟨?_, h.map.alike (Below.heap_setCell _ _ _ _ (fun e => h.ne e.symm))⟩
      show (w.heap.modify lb _)[lb]? = _
      rw [Array.getElem?_modify, if_pos rfl, h.blk]
      rfl
    have hfr := Fr.setCell lb mb w 0 (.int .i64 (made + 1))
    go_enter Try.func19, Try.ntmps19
    go_wp2
    have d0 := hw'.cell0
    have d1 := hw'.cell1
    generalize w.setCell ⟨lb, 0, none⟩ (.int .i64 (made + 1)) = W at hw' hfr d0 d1 ⊢
    go_still_tail 9, (by kernel_rfl)
    change wpList _ _ _ _ _ W.drew
    have h4 : LocksAt W.drew lb mb (made + 1) L := hw'.below (Below.drew (Below.refl _ _))
    have hfr' : Fr lb mb w W.drew := hfr.trans (Fr.below (Below.drew (Below.refl _ _)))
    clear hw' d0 d1 hfr
    generalize W.drew = W2 at h4 hfr' ⊢
    refine wpList_mapUpdate_in _ rfl _ _ _ 52 rfl 3 64 law3 Try.underlying52 _ mb L.length _ rfl h4.map (by unfold maxLen; omega) _ _ _ rfl rfl hkey (.held (encM (0, 0))) [] rfl ?_
    intro w5 hown5 hturn5
    have h5 := turn_store h4 hown5 hturn5
    have hfr5 := hfr'.trans (Fr.turned hturn5)
    have e0 := h5.cell0
    clear h4 hfr' hown5 hturn5 c0 c1
    go_wp2
    go_ret2
    exact ⟨rfl, h5, hfr5⟩

end Go.Proofs.Ytnenehdecbbfcaa
