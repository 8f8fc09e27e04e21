/- The locks in memory, and the walks of New, Owner, find, Make, Drop, Take, Give. -/
import Derived.Test.YtnenehdecbbfcaaProg
import Derived.Test.YtnenehdecbbfcaaIMap
import Derived.WalkKit
import Derived.WalkLawsBesides
import Derived.Deep.QuietTactic
import Derived.BigQuiet
import Derived.Lib.Hide
import Derived.StillTailTactics
namespace Go.Proofs.Ytnenehdecbbfcaa
open Go.RowKit Go.Maps

theorem law3 : Keyed Try.prog 3 := int_keyed Try.underlying3
theorem zero64 (w : World) : (zeroValue 64).run Try.prog w = .ok (.agg #[.int .i64 0, .int .i64 0]) w := by kernel_rfl

/-- A mutex's value. -/
def encM (p : Int × Int) : Value := .agg #[.int .i64 p.1, .int .i64 p.2]

/-- What a mutex's owner and count are; 0 and 0 of none. -/
def own (L : List (Int × (Int × Int))) (m : Int) : Int × Int := (mget L m).getD (0, 0)

def I64 (x : Int) : Prop := -9223372036854775808 ≤ x ∧ x ≤ 9223372036854775807
theorem I64.wf {x : Int} (h : I64 x) : (Lit.int .i64 x).wf = true := by
  unfold I64 at h
  exact WalkArith.wf_i64 h

/-- The map of mutexes, in block b. -/
def MapAt (w : World) (b : Nat) (L : List (Int × (Int × Int))) : Prop := w.ownsMap Try.prog 3 rawE b L.length (mdat encM L)

theorem tight {w : World} {b n : Nat} {L : List (Int × (Int × Int))} (h : w.ownsMap Try.prog 3 rawE b n (mdat encM L)) : MapAt w b L := by
  have hs := mdat_size encM L
  obtain ⟨es, clock, hb, F, hn, hD⟩ := h
  refine ⟨es, clock, hb, F, ?_, hD⟩
  rw [hD] at hs
  simp only [Maps.size, length_sorted, List.length_map, Array.length_toList] at hs
  omega

theorem held_of {L : List (Int × (Int × Int))} {m : Int} {v : Value} {ps : List MemPlace} (h : rawE v = some ((mdat encM L).atKey (.int .i64 m) (.held (encM (0, 0))), ps)) : v = .agg #[.int .i64 (own L m).1, .int .i64 (own L m).2] := by
  rw [mdat_at] at h
  unfold rawE at h
  simp only [Option.some.injEq, Prod.mk.injEq, DataW.held.injEq] at h
  rw [h.1]
  unfold own
  cases mget L m <;> rfl

/-- The locks lie in block lb, their map in block mb. -/
structure LocksAt (w : World) (lb mb : Nat) (made : Int) (L : List (Int × (Int × Int))) : Prop where
  blk : w.heap[lb]? = some (.cells #[.int .i64 made, .map (some mb)] 54 (0, 0))
  map : MapAt w mb L

/-- But for the blocks lb and mb the world is as it was, and has grown. -/
structure Fr (lb mb : Nat) (w w' : World) : Prop where
  os : w'.os = w.os
  tape : w'.tape = w.tape
  output : w'.output = w.output
  size : w.heap.size ≤ w'.heap.size
  block : ∀ k, k < w.heap.size → k ≠ lb → k ≠ mb → w'.heap[k]? = w.heap[k]?

theorem new_any (w : World) : Calls Try.prog 7 #[] w fun e w' => e = .returned (.pointer (some ⟨w.heap.size + 1, 0, none⟩)) ∧
    w' = (w.alloc (.map #[] 0)).alloc (.cells #[.int .i64 0, .map (some w.heap.size)] 54) := by
  have hmm := @run_makeMap Try.prog
  go_enter Try.func7, Try.ntmps7
  go_wp2
  go_ret
  exact ⟨rfl, rfl⟩

theorem LocksAt.cell0 {w : World} {lb mb : Nat} {made : Int} {L} (h : LocksAt w lb mb made L) : w.cell? ⟨lb, 0, none⟩ = some (.int .i64 made) := by simp [World.cell?, h.blk]
theorem LocksAt.cell1 {w : World} {lb mb : Nat} {made : Int} {L} (h : LocksAt w lb mb made L) : w.cell? ⟨lb, 1, none⟩ = some (.map (some mb)) := by simp [World.cell?, h.blk]
theorem LocksAt.free {w : World} {lb mb : Nat} {made : Int} {L} (h : LocksAt w lb mb made L) (o : Nat) : w.frozen? ⟨lb, o, none⟩ = false := by simp [World.frozen?, h.blk]

/-- Looking up a mutex, with ok or without. -/
theorem look {w : World} {b : Nat} {L : List (Int × (Int × Int))} (h : MapAt w b L) {m : Int} (hm : I64 m) (c : Bool) :
    (Instr.lookup 52 (.map (some b)) (.int .i64 m) c).run Try.prog w =
      .ok (if c then .tuple #[.agg #[.int .i64 (own L m).1, .int .i64 (own L m).2], .bool (mget L m).isSome] else .agg #[.int .i64 (own L m).1, .int .i64 (own L m).2]) w := by
  have hh := mdat_has encM m L
  have ha := mdat_at encM m (encM (0, 0)) L
  obtain ⟨es, clock, hb, F, _, hD⟩ := h
  rw [hD] at hh ha
  rcases Maps.fit_look c law3 Try.underlying52 (zero64 w) hb F (keyOf_int_mk Try.underlying3 hm.wf) with ⟨hrun, _, hat⟩ | ⟨e0, y, _, _, hrun, hRv, hat, _⟩
  · rw [hrun]
    rw [Maps.has_false_of_atKey hat] at hh
    have hn : mget L m = none := by cases hg : mget L m <;> simp [hg] at hh ⊢
    simp [own, hn]
  · rw [hrun]
    rw [Maps.has_true_of_atKey hat] at hh
    rw [hat] at ha
    unfold rawE at hRv
    simp only [Option.some.injEq] at hRv
    subst hRv
    cases hg : mget L m with
    | none => simp [hg] at hh
    | some v =>
      simp only [hg, DataW.held.injEq] at ha
      simp [own, hg, ha, encM]

theorem MapAt.alike {w w' : World} {b : Nat} {L} (h : MapAt w b L) (hb : w'.heap[b]? = w.heap[b]?) : MapAt w' b L := by
  obtain ⟨es, clock, h1, h2⟩ := h
  exact ⟨es, clock, hb.trans h1, h2⟩

theorem field0 (a b : Int) (w : World) : (Instr.field 64 (.agg #[.int .i64 a, .int .i64 b]) 0).run Try.prog w = .ok (.int .i64 a) w := by kernel_rfl
theorem field1 (a b : Int) (w : World) : (Instr.field 64 (.agg #[.int .i64 a, .int .i64 b]) 1).run Try.prog w = .ok (.int .i64 b) w := by kernel_rfl

theorem owner_any (w : World) (lb mb : Nat) (made m : Int) (L) (h : LocksAt w lb mb made L) (hm : I64 m) :
    Calls Try.prog 10 #[.pointer (some ⟨lb, 0, none⟩), .int .i64 m] w fun e w' => e = .returned (.tuple #[.int .i64 (own L m).1, .int .i64 (own L m).2]) ∧ ∃ n, w' = w.drewN n := by
  have c1 := h.cell1
  have hl := fun n => look (w := w.drewN n) (b := mb) (L := L) (h.map.alike rfl) hm false
  have f0 := field0
  have f1 := field1
  go_enter Try.func10, Try.ntmps10
  go_wp2
  go_quiet (fail)
  go_wp2
  go_ret2
  exact ⟨rfl, _, rfl⟩

/-- What find answers. -/
def findE (L : List (Int × (Int × Int))) (m t : Int) : Int := if (mget L m).isSome then (if t < 1 then 1 else 0) else 61

theorem find_any (w : World) (lb mb : Nat) (made m t : Int) (L) (h : LocksAt w lb mb made L) (hm : I64 m) :
    Calls Try.prog 28 #[.pointer (some ⟨lb, 0, none⟩), .int .i64 m, .int .i64 t] w fun e w' => e = .returned (.tuple #[.agg #[.int .i64 (own L m).1, .int .i64 (own L m).2], .int .i64 (findE L m t)]) ∧ Below w.heap.size w w' := by
  have c1 := h.cell1
  have hlt : lb < w.heap.size := (Array.getElem?_eq_some_iff.1 h.blk).1
  have c1' := fun (o : Obj) => (World.cell?_alloc_lt (w := w) (o := o) (a := ⟨lb, 1, none⟩) hlt).trans c1
  have hl := fun (o : Obj) => look (w := w.alloc o) (h.map.alike (Below.heap_alloc w o mb h.map.lt)) hm true
  obtain ⟨a, b, hab⟩ : ∃ a b, own L m = (a, b) := ⟨_, _, rfl⟩
  have h1 : (own L m).1 = a := by rw [hab]
  have h2 : (own L m).2 = b := by rw [hab]
  rw [h1, h2] at hl ⊢
  cases hg : (mget L m).isSome with
  | false =>
    rw [hg] at hl
    rw [show findE L m t = 61 by simp [findE, hg]]
    clear hab h1 h2 hg h
    go_enter Try.func28, Try.ntmps28
    go_wp2
    refine bodyPost_ret (v := .tuple #[.agg #[.int .i64 a, .int .i64 b], .int .i64 61]) (by simp [results, Try.results28, go_sem]) rfl ⟨rfl, ?_⟩
    exact ((Below.refl _ _).alloc (Nat.le_refl _) _).alloc (by simp) _
  | true =>
    rw [hg] at hl
    by_cases ht : t < 1
    · rw [show findE L m t = 1 by simp [findE, hg, ht]]
      clear hab h1 h2 hg h
      go_enter Try.func28, Try.ntmps28
      go_wp2
      refine bodyPost_ret (v := .tuple #[.agg #[.int .i64 a, .int .i64 b], .int .i64 1]) (by simp [results, Try.results28, go_sem]) rfl ⟨rfl, ?_⟩
      exact ((Below.refl _ _).alloc (Nat.le_refl _) _).alloc (by simp) _
    · rw [show findE L m t = 0 by simp [findE, hg, ht]]
      clear hab h1 h2 hg h
      go_enter Try.func28, Try.ntmps28
      go_wp2
      refine bodyPost_ret (v := .tuple #[.agg #[.int .i64 a, .int .i64 b], .int .i64 0]) (by simp [results, Try.results28, go_sem]) rfl ⟨rfl, ?_⟩
      exact ((Below.refl _ _).alloc (Nat.le_refl _) _).alloc (by simp) _

theorem Fr.refl (lb mb : Nat) (w : World) : Fr lb mb w w := ⟨rfl, rfl, rfl, Nat.le_refl _, fun _ _ _ _ => rfl⟩
theorem Fr.trans {lb mb : Nat} {a b c : World} (h : Fr lb mb a b) (k : Fr lb mb b c) : Fr lb mb a c :=
  ⟨k.os.trans h.os, k.tape.trans h.tape, k.output.trans h.output, Nat.le_trans h.size k.size, fun i hi h1 h2 => (k.block i (Nat.lt_of_lt_of_le hi h.size) h1 h2).trans (h.block i hi h1 h2)⟩
theorem Fr.below {lb mb : Nat} {a b : World} (k : Below a.heap.size a b) : Fr lb mb a b := ⟨k.os, k.tape, k.output, k.size, fun i hi _ _ => k.block i hi⟩
theorem Fr.turned {lb mb : Nat} {a b : World} (k : a.mapTurned b mb) : Fr lb mb a b :=
  ⟨k.grown.os, k.grown.tape, k.grown.output, k.grown.size, fun i hi _ h2 => k.grown.block i hi (fun e => h2 (Option.some.inj e))⟩
theorem Fr.setCell (lb mb : Nat) (w : World) (o : Nat) (v : Value) : Fr lb mb w (w.setCell ⟨lb, o, none⟩ v) :=
  ⟨rfl, rfl, rfl, by simp [World.setCell], fun i _ h1 _ => Below.heap_setCell _ _ _ _ h1⟩

theorem LocksAt.lt {w : World} {lb mb : Nat} {made : Int} {L} (h : LocksAt w lb mb made L) : lb < w.heap.size := (Array.getElem?_eq_some_iff.1 h.blk).1
theorem LocksAt.below {w w' : World} {lb mb : Nat} {made : Int} {L} (h : LocksAt w lb mb made L) (hb : Below w.heap.size w w') : LocksAt w' lb mb made L :=
  ⟨(hb.block lb h.lt).trans h.blk, h.map.alike (hb.block mb h.map.lt)⟩
theorem LocksAt.ne {w : World} {lb mb : Nat} {made : Int} {L} (h : LocksAt w lb mb made L) : lb ≠ mb := fun e => by
  obtain ⟨es, clock, h1, _⟩ := h.map
  rw [← e, h.blk] at h1
  cases h1

/-- What Take answers, and leaves. -/
def takeE (L : List (Int × (Int × Int))) (m t : Int) : Int := if findE L m t ≠ 0 then findE L m t else if (own L m).2 > 0 ∧ (own L m).1 ≠ t then 141 else 0
def takeL (L : List (Int × (Int × Int))) (m t : Int) : List (Int × (Int × Int)) := if takeE L m t = 0 then mput m (t, (own L m).2 + 1) L else L

/-- A store into the map, at the operation. -/
theorem turn_store {w w' : World} {lb mb : Nat} {made : Int} {L} {m : Int} {p : Int × Int} {n : Nat} (h : LocksAt w lb mb made L) (h1 : w'.ownsMap Try.prog 3 rawE mb n ((mdat encM L).put (.int .i64 m) (.held (encM p)))) (h2 : w.mapTurned w' mb) :
    LocksAt w' lb mb made (mput m p L) := by
  rw [mdat_put] at h1
  exact ⟨(h2.grown.block lb h.lt (fun e => h.ne (Option.some.inj e))).trans h.blk, tight h1⟩

set_option maxRecDepth 100000 in
theorem take_any (w : World) (lb mb : Nat) (made m t : Int) (L) (h : LocksAt w lb mb made L) (hm : I64 m) (hc : -1 ≤ (own L m).2 ∧ (own L m).2 < 9223372036854775807) (hL : L.length < 1000000) :
    Calls Try.prog 16 #[.pointer (some ⟨lb, 0, none⟩), .int .i64 m, .int .i64 t] w fun e w' => e = .returned (.int .i64 (takeE L m t)) ∧ LocksAt w' lb mb made (takeL L m t) ∧ Fr lb mb w w' := by
  have cf := fun w' => find_any w' lb mb made m t L
  obtain ⟨a, b, hab⟩ : ∃ a b, own L m = (a, b) := ⟨_, _, rfl⟩
  unfold takeL takeE
  rw [hab] at hc ⊢
  simp only [hab] at cf
  generalize findE L m t = fe at cf ⊢
  have hwr : IntKind.i64.wrap (b + 1) = b + 1 := IntWalk.i64_in _ (by omega)
  by_cases hf : fe = 0
  · subst hf
    by_cases hb : b > 0 ∧ a ≠ t
    · have h1 : b > 0 := hb.1
      have h2 : (a != t) = true := by simpa using hb.2
      simp only [ne_eq, not_true, if_false, if_pos hb]
      rw [if_neg (by omega)]
      clear hb hab
      go_enter Try.func16, Try.ntmps16
      go_wp2_with (go_at_call 28; refine (cf _ h hm).mono ?_; rintro e w1 ⟨rfl, hb1⟩)
      go_ret
      exact ⟨rfl, (h.below hb1).below ((Below.refl _ _).alloc (Nat.le_refl _) _), (Fr.below hb1).trans (Fr.below ((Below.refl _ _).alloc (Nat.le_refl _) _))⟩
    · simp only [ne_eq, not_true, if_false, if_neg hb, if_true]
      clear hab
      have hkey := keyOf_int_mk Try.underlying3 hm.wf
      by_cases h1 : b > 0
      · have h2 : (a != t) = false := by have : a = t := by simpa [h1] using hb
                                         simp [this]
        clear hb
        go_enter Try.func16, Try.ntmps16
        go_wp2_with (go_at_call 28; refine (cf _ h hm).mono ?_; rintro e w1 ⟨rfl, hb1⟩)
        have h' := (h.below hb1).below ((Below.refl _ _).alloc (Nat.le_refl _) (Obj.cells #[Value.int IntKind.i64 a, Value.int IntKind.i64 b] 64))
        have c1 := h'.cell1
        have x1 : (w1.alloc (Obj.cells #[Value.int IntKind.i64 a, Value.int IntKind.i64 b] 64)).cell? ⟨w1.heap.size, 1, none⟩ = some (.int .i64 b) := by simp
        have hfr := (Fr.below (lb := lb) (mb := mb) hb1).trans (Fr.below ((Below.refl _ _).alloc (Nat.le_refl _) (Obj.cells #[Value.int IntKind.i64 a, Value.int IntKind.i64 b] 64)))
        generalize w1.alloc (Obj.cells #[Value.int IntKind.i64 a, Value.int IntKind.i64 b] 64) = W at h' c1 x1 hfr ⊢
        go_still_tail 10, (by kernel_rfl)
        change wpList _ _ _ _ _ W.drew
        have h3 : LocksAt W.drew lb mb made L := h'.below (Below.drew (Below.refl _ _))
        have hfr' : Fr lb mb w W.drew := hfr.trans (Fr.below (Below.drew (Below.refl _ _)))
        clear h' c1 x1 hfr
        generalize W.drew = W2 at h3 hfr' ⊢
        refine wpList_mapUpdate_in _ rfl _ _ _ 52 rfl 3 64 law3 Try.underlying52 _ mb L.length _ rfl h3.map (by unfold maxLen; omega) _ _ _ rfl rfl hkey (.held (encM (t, b + 1))) [] rfl ?_
        intro w5 hown5 hturn5
        have h5 := turn_store h3 hown5 hturn5
        have hfr5 := hfr'.trans (Fr.turned hturn5)
        clear h3 hfr' hown5 hturn5
        go_wp2
        go_ret
        exact ⟨rfl, h5, hfr5⟩
      · have hb0 : ¬ b > 0 := h1
        clear hb
        go_enter Try.func16, Try.ntmps16
        go_wp2_with (go_at_call 28; refine (cf _ h hm).mono ?_; rintro e w1 ⟨rfl, hb1⟩)
        have h' := (h.below hb1).below ((Below.refl _ _).alloc (Nat.le_refl _) (Obj.cells #[Value.int IntKind.i64 a, Value.int IntKind.i64 b] 64))
        have c1 := h'.cell1
        have x1 : (w1.alloc (Obj.cells #[Value.int IntKind.i64 a, Value.int IntKind.i64 b] 64)).cell? ⟨w1.heap.size, 1, none⟩ = some (.int .i64 b) := by simp
        have hfr := (Fr.below (lb := lb) (mb := mb) hb1).trans (Fr.below ((Below.refl _ _).alloc (Nat.le_refl _) (Obj.cells #[Value.int IntKind.i64 a, Value.int IntKind.i64 b] 64)))
        generalize w1.alloc (Obj.cells #[Value.int IntKind.i64 a, Value.int IntKind.i64 b] 64) = W at h' c1 x1 hfr ⊢
        go_still_tail 10, (by kernel_rfl)
        change wpList _ _ _ _ _ W.drew
        have h3 : LocksAt W.drew lb mb made L := h'.below (Below.drew (Below.refl _ _))
        have hfr' : Fr lb mb w W.drew := hfr.trans (Fr.below (Below.drew (Below.refl _ _)))
        clear h' c1 x1 hfr
        generalize W.drew = W2 at h3 hfr' ⊢
        refine wpList_mapUpdate_in _ rfl _ _ _ 52 rfl 3 64 law3 Try.underlying52 _ mb L.length _ rfl h3.map (by unfold maxLen; omega) _ _ _ rfl rfl hkey (.held (encM (t, b + 1))) [] rfl ?_
        intro w5 hown5 hturn5
        have h5 := turn_store h3 hown5 hturn5
        have hfr5 := hfr'.trans (Fr.turned hturn5)
        clear h3 hfr' hown5 hturn5
        go_wp2
        go_ret
        exact ⟨rfl, h5, hfr5⟩
  · simp only [if_pos hf, if_neg hf]
    have hf1 : (fe != 0) = true := by simp [hf]
    go_enter Try.func16, Try.ntmps16
    go_wp2_with (go_at_call 28; refine (cf _ h hm).mono ?_; rintro e w1 ⟨rfl, hb1⟩)
    go_ret
    exact ⟨rfl, (h.below hb1).below ((Below.refl _ _).alloc (Nat.le_refl _) _), (Fr.below hb1).trans (Fr.below ((Below.refl _ _).alloc (Nat.le_refl _) _))⟩

end Go.Proofs.Ytnenehdecbbfcaa
