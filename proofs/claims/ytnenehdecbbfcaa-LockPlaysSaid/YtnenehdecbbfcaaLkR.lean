/- The walk of does where the document's locks are none: one call of the locks. -/
import Derived.Test.YtnenehdecbbfcaaLkQ
import Derived.Test.YtnenehdecbbfcaaPLockAlonex7
import Derived.Test.YtnenehdecbbfcaaLkRef
namespace Go.Proofs.Ytnenehdecbbfcaa
set_option linter.unusedVariables false
open Go.RowKit Go.Maps Go.Proofs.YtnenehdecbbfcaaW.PrintWords Go.Proofs.YtnenehdecbbfcaaW.PrintLast Go.Proofs.YtnenehdecbbfcaaW.PrintMore Go.Proofs.Ytnenehdecbbfcaa.PLockAlone

/-- The blocks that are none of the locks'. -/
def Oth (lb mb : Nat) (k : Nat) : Prop := k ≠ lb ∧ k ≠ mb

/-- The locks, and nothing else that was there before has turned. -/
structure St (w0 w : World) (lb mb : Nat) (made : Int) (L : Mx) : Prop where
  B : Below w0.heap.size w0 w
  K : LocksAt w lb mb made L
  hl : w0.heap.size ≤ lb
  hm : w0.heap.size ≤ mb

section
variable {w0 w w' : World} {lb mb : Nat} {made made' : Int} {L L' : Mx}
theorem St.fr (h : St w0 w lb mb made L) (k : LocksAt w' lb mb made' L') (f : Fr lb mb w w') : St w0 w' lb mb made' L' :=
  ⟨Fr.below_of h.B f h.hl h.hm, k, h.hl, h.hm⟩
theorem St.kept (h : St w0 w lb mb made L) (b : Below w0.heap.size w0 w') (k : Kept w w' (Oth lb mb)) : St w0 w' lb mb made L :=
  ⟨b, ⟨(k.2 lb h.K.lt (fun e => e.1 rfl)).trans h.K.blk, h.K.map.alike (k.2 mb h.K.map.lt (fun e => e.2 rfl))⟩, h.hl, h.hm⟩
theorem St.below (h : St w0 w lb mb made L) (b : Below w.heap.size w w') : St w0 w' lb mb made L :=
  h.fr (h.K.below b) (Fr.below b)
theorem R_fr {α : Type} {d : Kd α} {e base : Nat} {v : Value} {xs : List α} (h : Kd.R d e w base (Oth lb mb) v xs) (f : Fr lb mb w w') : Kd.R d e w' base (Oth lb mb) v xs :=
  Kd.R_step h fun k hk hlt => f.block k hlt hk.1 hk.2
theorem R_oth {α : Type} {d : Kd α} {e base : Nat} {v : Value} {xs : List α} (hl : lb < w.heap.size) (hm : mb < w.heap.size) (h : Kd.R d e w' base (fun k => Oth lb mb k ∨ w.heap.size ≤ k) v xs) : Kd.R d e w' base (Oth lb mb) v xs :=
  Kd.R_mono h fun k hk => hk.elim id fun hk => ⟨by omega, by omega⟩
end

theorem make0 : pythiaref15_Make.f 2 [] = some ([⟨true, 0, 0⟩], 1, 0) := by
  simp [pythiaref15_Make.f, pythiaref15_All.f, pythiaref15_All.l0, pythiaref15_Make.l0]
theorem get0 (m : Int) : pythiaref15_Get.f [] m = some (false, 0, 0, false) := by
  unfold pythiaref15_Get.f
  by_cases h : m < 1
  · rw [if_pos h]
  · rw [if_neg h, if_pos (by simp; omega)]
theorem drop0 (m : Int) : pythiaref15_Drop.f 2 [] m = some ([], 61) := by simp [pythiaref15_Drop.f, get0]
theorem take0 (m t : Int) : pythiaref15_Take.f 2 [] m t = some ([], 61) := by simp [pythiaref15_Take.f, get0]
theorem give0 (m t : Int) : pythiaref15_Give.f 2 [] m t = some ([], 61) := by simp [pythiaref15_Give.f, get0]
theorem same0 (a : List Int) : pythiaref01_SameInts.f 1 a [] = some (decide (a = [])) := by
  cases a with
  | nil => simp [pythiaref01_SameInts.f, pythiaref01_SameInts.l0]
  | cons x r =>
    unfold pythiaref01_SameInts.f
    rw [if_neg (by simp; omega)]
    simp

/-- Leave of the document's locks, where there are none. -/
theorem refleave0 (A : Option Addr) (c : Nat) (t : Int) (w : World) : Calls Try.prog 25 #[.slice A 0 c, .int .i64 t] w fun e w' => e = .returned (.tuple #[.slice A 0 c, .slice (some ⟨w.heap.size, 0, none⟩) 0 0]) ∧ Below w.heap.size w w' := by
  go_enter Try.func25, Try.ntmps25
  go_wp2
  refine wp_loop_rounds 1 ?_
  rw [rounds_succ]
  go_wp2
  refine wp_loop_rounds 1 ?_
  rw [rounds_succ]
  go_wp2
  go_ret2
  exact ⟨rfl, (Below.refl _ _).alloc (Nat.le_refl _) _⟩

/-- What does asks for, and leaves. -/
def DoesPost (w0 : World) (lb mb : Nat) (made : Int) (L : Mx) (e : Ending) (w' : World) : Prop :=
  ∃ v b, e = .returned (.tuple #[v, .bool b]) ∧ St w0 w' lb mb made L

set_option maxHeartbeats 1000000 in
set_option maxRecDepth 100000 in
theorem does0_1 (w0 w : World) (lb mb N : Nat) (made : Int) (L : Mx) (u : Value) (m t : Int) (h : St w0 w lb mb made L) (g : Good N made L) (hN : N < 4611686018427387903) (hm : I64 m) (ht : I64 t) (hu : Kd.R k35 35 w w0.heap.size (Oth lb mb) u []) :
    Calls Try.prog 9 #[.pointer (some ⟨lb, 0, none⟩), u, .agg #[.int .i64 1, .int .i64 m, .int .i64 t]] w (DoesPost w0 lb mb (stepM 1 made L) (stepL 1 m t made L)) := by
  have h1 := h.below ((Below.refl _ _).alloc (Nat.le_refl _) (Obj.cells #[Value.int IntKind.i64 1, Value.int IntKind.i64 m, Value.int IntKind.i64 t] 29))
  have hu1 := Kd.R_alloc hu (Obj.cells #[Value.int IntKind.i64 1, Value.int IntKind.i64 m, Value.int IntKind.i64 t] 29)
  have cm := fun (W : World) (hW : LocksAt W lb mb made L) => make_any W lb mb made L hW (by have := g.made; omega) (by have := g.len; omega)
  have cr := fun (W : World) (hW : Below w0.heap.size w0 W) (hR : Kd.R k35 35 W w0.heap.size (Oth lb mb) u []) => pythiaref15_Make.calls 2 (Oth lb mb) u [] _ _ _ w0 W hW hR make0
  by_cases h8 : 8 ≤ L.length
  · have e1 : stepM 1 made L = made := by unfold stepM; rw [if_neg (fun hh => hh.2 h8)]
    have e2 : stepL 1 m t made L = L := by unfold stepL; rw [if_pos rfl, if_pos h8]
    rw [e1, e2]
    simp only [if_pos h8] at cm
    clear e1 e2
    go_enter Try.func9, Try.ntmps9
    go_wp2_with fail
    refine (cm _ h1.K).mono ?_
    rintro e w2 ⟨rfl, rfl⟩
    go_wp2_with fail
    refine (cr _ h1.B hu1).mono ?_
    rintro e w3 ⟨v3, rfl, hr3, b3, k3⟩
    have h3 := h1.kept b3 k3
    go_wp2
    go_ret2
    exact ⟨_, _, rfl, h3⟩
  · have e1 : stepM 1 made L = made + 1 := by unfold stepM; rw [if_pos ⟨rfl, h8⟩]
    have e2 : stepL 1 m t made L = mput (made + 1) (0, 0) L := by unfold stepL; rw [if_pos rfl, if_neg h8]
    rw [e1, e2]
    simp only [if_neg h8] at cm
    clear e1 e2
    go_enter Try.func9, Try.ntmps9
    go_wp2_with fail
    refine (cm _ h1.K).mono ?_
    rintro e w2 ⟨rfl, l2, f2⟩
    have h2 := h1.fr l2 f2
    have hu2 := R_fr hu1 f2
    go_wp2_with fail
    refine (cr _ h2.B hu2).mono ?_
    rintro e w3 ⟨v3, rfl, hr3, b3, k3⟩
    have h3 := h2.kept b3 k3
    by_cases hmd : made + 1 = 1
    · have hmd' : (made + 1 == 1) = true := by simpa using hmd
      clear hmd
      go_wp2
      go_ret2
      exact ⟨_, _, rfl, h3⟩
    · have hmd' : (made + 1 == 1) = false := by simpa using hmd
      clear hmd
      go_wp2
      go_ret2
      exact ⟨_, _, rfl, h3⟩

set_option maxHeartbeats 1000000 in
set_option maxRecDepth 100000 in
theorem does0_2 (w0 w : World) (lb mb N : Nat) (made : Int) (L : Mx) (u : Value) (m t : Int) (h : St w0 w lb mb made L) (g : Good N made L) (hN : N < 4611686018427387903) (hm : I64 m) (ht : I64 t) (hu : Kd.R k35 35 w w0.heap.size (Oth lb mb) u []) :
    Calls Try.prog 9 #[.pointer (some ⟨lb, 0, none⟩), u, .agg #[.int .i64 2, .int .i64 m, .int .i64 t]] w (DoesPost w0 lb mb (stepM 2 made L) (stepL 2 m t made L)) := by
  have h1 := h.below ((Below.refl _ _).alloc (Nat.le_refl _) (Obj.cells #[Value.int IntKind.i64 2, Value.int IntKind.i64 m, Value.int IntKind.i64 t] 29))
  have hu1 := Kd.R_alloc hu (Obj.cells #[Value.int IntKind.i64 2, Value.int IntKind.i64 m, Value.int IntKind.i64 t] 29)
  have e1 : stepM 2 made L = made := by unfold stepM; rw [if_neg (by omega)]
  have e2 : stepL 2 m t made L = dropL L m := by simp [stepL]
  rw [e1, e2]
  have cm := fun (W : World) (hW : LocksAt W lb mb made L) => drop_any W lb mb made m L hW hm
  have cr := fun (W : World) (hW : Below w0.heap.size w0 W) (hR : Kd.R k35 35 W w0.heap.size (Oth lb mb) u []) => pythiaref15_Drop.calls 2 (Oth lb mb) u [] m _ _ w0 W hW hR (drop0 m)
  clear e1 e2
  go_enter Try.func9, Try.ntmps9
  go_wp2_with fail
  refine (cm _ h1.K).mono ?_
  rintro e w2 ⟨rfl, l2, f2⟩
  have h2 := h1.fr l2 f2
  have hu2 := R_fr hu1 f2
  have hs2 := f2.size
  have x1 : w2.cell? ⟨w.heap.size, 1, none⟩ = some (.int .i64 m) := by
    refine (World.cell?_of_block (f2.block w.heap.size (by simp) (by have := h.K.lt; show w.heap.size ≠ lb; omega) (by have := h.K.map.lt; show w.heap.size ≠ mb; omega))).trans ?_
    simp
  have x2 : w2.cell? ⟨w.heap.size, 2, none⟩ = some (.int .i64 t) := by
    refine (World.cell?_of_block (f2.block w.heap.size (by simp) (by have := h.K.lt; show w.heap.size ≠ lb; omega) (by have := h.K.map.lt; show w.heap.size ≠ mb; omega))).trans ?_
    simp
  go_wp2_with fail
  refine (cr _ h2.B hu2).mono ?_
  rintro e w3 ⟨v3, rfl, hr3, b3, k3⟩
  have h3 := h2.kept b3 k3
  go_wp2
  go_ret2
  exact ⟨_, _, rfl, h3⟩

set_option maxHeartbeats 1000000 in
set_option maxRecDepth 100000 in
theorem does0_3 (w0 w : World) (lb mb N : Nat) (made : Int) (L : Mx) (u : Value) (m t : Int) (h : St w0 w lb mb made L) (g : Good N made L) (hN : N < 4611686018427387903) (hm : I64 m) (ht : I64 t) (hu : Kd.R k35 35 w w0.heap.size (Oth lb mb) u []) :
    Calls Try.prog 9 #[.pointer (some ⟨lb, 0, none⟩), u, .agg #[.int .i64 3, .int .i64 m, .int .i64 t]] w (DoesPost w0 lb mb (stepM 3 made L) (stepL 3 m t made L)) := by
  have h1 := h.below ((Below.refl _ _).alloc (Nat.le_refl _) (Obj.cells #[Value.int IntKind.i64 3, Value.int IntKind.i64 m, Value.int IntKind.i64 t] 29))
  have hu1 := Kd.R_alloc hu (Obj.cells #[Value.int IntKind.i64 3, Value.int IntKind.i64 m, Value.int IntKind.i64 t] 29)
  have e1 : stepM 3 made L = made := by unfold stepM; rw [if_neg (by omega)]
  have e2 : stepL 3 m t made L = takeL L m t := by simp [stepL]
  rw [e1, e2]
  have cm := fun (W : World) (hW : LocksAt W lb mb made L) => take_any W lb mb made m t L hW hm (by have := g.own m; omega) (by have := g.len; omega)
  have cr := fun (W : World) (hW : Below w0.heap.size w0 W) (hR : Kd.R k35 35 W w0.heap.size (Oth lb mb) u []) => pythiaref15_Take.calls 2 (Oth lb mb) u [] m t _ _ w0 W hW hR (take0 m t)
  clear e1 e2
  go_enter Try.func9, Try.ntmps9
  go_wp2_with fail
  refine (cm _ h1.K).mono ?_
  rintro e w2 ⟨rfl, l2, f2⟩
  have h2 := h1.fr l2 f2
  have hu2 := R_fr hu1 f2
  have hs2 := f2.size
  have x1 : w2.cell? ⟨w.heap.size, 1, none⟩ = some (.int .i64 m) := by
    refine (World.cell?_of_block (f2.block w.heap.size (by simp) (by have := h.K.lt; show w.heap.size ≠ lb; omega) (by have := h.K.map.lt; show w.heap.size ≠ mb; omega))).trans ?_
    simp
  have x2 : w2.cell? ⟨w.heap.size, 2, none⟩ = some (.int .i64 t) := by
    refine (World.cell?_of_block (f2.block w.heap.size (by simp) (by have := h.K.lt; show w.heap.size ≠ lb; omega) (by have := h.K.map.lt; show w.heap.size ≠ mb; omega))).trans ?_
    simp
  go_wp2_with fail
  refine (cr _ h2.B hu2).mono ?_
  rintro e w3 ⟨v3, rfl, hr3, b3, k3⟩
  have h3 := h2.kept b3 k3
  go_wp2
  go_ret2
  exact ⟨_, _, rfl, h3⟩

set_option maxHeartbeats 1000000 in
set_option maxRecDepth 100000 in
theorem does0_4 (w0 w : World) (lb mb N : Nat) (made : Int) (L : Mx) (u : Value) (m t : Int) (h : St w0 w lb mb made L) (g : Good N made L) (hN : N < 4611686018427387903) (hm : I64 m) (ht : I64 t) (hu : Kd.R k35 35 w w0.heap.size (Oth lb mb) u []) :
    Calls Try.prog 9 #[.pointer (some ⟨lb, 0, none⟩), u, .agg #[.int .i64 4, .int .i64 m, .int .i64 t]] w (DoesPost w0 lb mb (stepM 4 made L) (stepL 4 m t made L)) := by
  have h1 := h.below ((Below.refl _ _).alloc (Nat.le_refl _) (Obj.cells #[Value.int IntKind.i64 4, Value.int IntKind.i64 m, Value.int IntKind.i64 t] 29))
  have hu1 := Kd.R_alloc hu (Obj.cells #[Value.int IntKind.i64 4, Value.int IntKind.i64 m, Value.int IntKind.i64 t] 29)
  have e1 : stepM 4 made L = made := by unfold stepM; rw [if_neg (by omega)]
  have e2 : stepL 4 m t made L = giveL L m t := by simp [stepL]
  rw [e1, e2]
  have cm := fun (W : World) (hW : LocksAt W lb mb made L) => give_any W lb mb made m t L hW hm (by have := g.own m; omega) (by have := g.len; omega)
  have cr := fun (W : World) (hW : Below w0.heap.size w0 W) (hR : Kd.R k35 35 W w0.heap.size (Oth lb mb) u []) => pythiaref15_Give.calls 2 (Oth lb mb) u [] m t _ _ w0 W hW hR (give0 m t)
  clear e1 e2
  go_enter Try.func9, Try.ntmps9
  go_wp2_with fail
  refine (cm _ h1.K).mono ?_
  rintro e w2 ⟨rfl, l2, f2⟩
  have h2 := h1.fr l2 f2
  have hu2 := R_fr hu1 f2
  have hs2 := f2.size
  have x1 : w2.cell? ⟨w.heap.size, 1, none⟩ = some (.int .i64 m) := by
    refine (World.cell?_of_block (f2.block w.heap.size (by simp) (by have := h.K.lt; show w.heap.size ≠ lb; omega) (by have := h.K.map.lt; show w.heap.size ≠ mb; omega))).trans ?_
    simp
  have x2 : w2.cell? ⟨w.heap.size, 2, none⟩ = some (.int .i64 t) := by
    refine (World.cell?_of_block (f2.block w.heap.size (by simp) (by have := h.K.lt; show w.heap.size ≠ lb; omega) (by have := h.K.map.lt; show w.heap.size ≠ mb; omega))).trans ?_
    simp
  go_wp2_with fail
  refine (cr _ h2.B hu2).mono ?_
  rintro e w3 ⟨v3, rfl, hr3, b3, k3⟩
  have h3 := h2.kept b3 k3
  go_wp2
  go_ret2
  exact ⟨_, _, rfl, h3⟩


set_option maxHeartbeats 1000000 in
set_option maxRecDepth 100000 in
theorem does0_5 (w0 w : World) (lb mb N : Nat) (made : Int) (L : Mx) (u : Value) (m t : Int) (h : St w0 w lb mb made L) (g : Good N made L) (hN : N < 4611686018427387903) (hm : I64 m) (ht : I64 t) (hu : Kd.R k35 35 w w0.heap.size (Oth lb mb) u []) :
    Calls Try.prog 9 #[.pointer (some ⟨lb, 0, none⟩), u, .agg #[.int .i64 5, .int .i64 m, .int .i64 t]] w (DoesPost w0 lb mb (stepM 5 made L) (stepL 5 m t made L)) := by
  have h1 := h.below ((Below.refl _ _).alloc (Nat.le_refl _) (Obj.cells #[Value.int IntKind.i64 5, Value.int IntKind.i64 m, Value.int IntKind.i64 t] 29))
  have e1 : stepM 5 made L = made := by unfold stepM; rw [if_neg (by omega)]
  have e2 : stepL 5 m t made L = leaveL L t := by simp [stepL]
  rw [e1, e2]
  have cm := fun (W : World) (hW : LocksAt W lb mb made L) => leave_any W lb mb made t L hW g.sorted (fun p hp => by have := g.key p hp; have := g.made; exact ⟨by omega, by omega⟩) (by have := g.len; omega)
  obtain ⟨A, c, rfl⟩ := Kd.R_slice hu
  simp only [List.length_nil]
  clear e1 e2 hu
  go_enter Try.func9, Try.ntmps9
  go_wp2_with fail
  refine (cm _ h1.K).mono ?_
  rintro e w2 ⟨v2, rfl, hr2, l2, f2⟩
  have h2 := h1.fr l2 f2
  have R2 : Kd.R (Kd.int .i64) 3 w2 w.heap.size (fun _ => True) v2 (leaveK L t) := Kd.R_of_own (ownsRow_base_a hr2 (by simp)) (fun _ _ => trivial)
  obtain ⟨A2, c2, rfl, hc2, C2⟩ := Kd.R_reads R2
  have hs2 := f2.size
  have x2 : w2.cell? ⟨w.heap.size, 2, none⟩ = some (.int .i64 t) := by
    refine (World.cell?_of_block (f2.block w.heap.size (by simp) (by have := h.K.lt; show w.heap.size ≠ lb; omega) (by have := h.K.map.lt; show w.heap.size ≠ mb; omega))).trans ?_
    simp
  clear hr2 R2
  go_wp2_with fail
  refine (refleave0 A c t w2).mono ?_
  rintro e w3 ⟨rfl, b3⟩
  have h3 := h2.below b3
  have C3 := Kd.C_below C2 b3
  have cs := pythiaref01_SameInts.calls 1 A2 c2 (leaveK L t) (some ⟨w2.heap.size, 0, none⟩) 0 [] _ w3 C3 hc2 ⟨rfl, by simp, fun hh => absurd hh (Nat.lt_irrefl 0)⟩ (Nat.le_refl _) (same0 _)
  simp only [List.length_nil] at cs
  clear C2 C3
  go_wp2_with fail
  refine cs.mono ?_
  rintro e w4 ⟨rfl, d4⟩
  have h4 := h3.below d4.below
  go_wp2
  go_ret2
  exact ⟨_, _, rfl, h4⟩

set_option maxHeartbeats 1000000 in
set_option maxRecDepth 100000 in
theorem does0_no (w0 w : World) (lb mb : Nat) (made : Int) (L : Mx) (u : Value) (kind m t : Int) (h : St w0 w lb mb made L) (hk : kind ≠ 1 ∧ kind ≠ 2 ∧ kind ≠ 3 ∧ kind ≠ 4 ∧ kind ≠ 5) :
    Calls Try.prog 9 #[.pointer (some ⟨lb, 0, none⟩), u, .agg #[.int .i64 kind, .int .i64 m, .int .i64 t]] w (DoesPost w0 lb mb (stepM kind made L) (stepL kind m t made L)) := by
  have h1 := h.below ((Below.refl _ _).alloc (Nat.le_refl _) (Obj.cells #[Value.int IntKind.i64 kind, Value.int IntKind.i64 m, Value.int IntKind.i64 t] 29))
  obtain ⟨k1, k2, k3, k4, k5⟩ := hk
  have e1 : stepM kind made L = made := by unfold stepM; rw [if_neg (fun hh => k1 hh.1)]
  have e2 : stepL kind m t made L = L := by simp [stepL, k1, k2, k3, k4, k5]
  rw [e1, e2]
  have b1 : (kind == 1) = false := by simpa using k1
  have b2 : (kind == 2) = false := by simpa using k2
  have b3 : (kind == 3) = false := by simpa using k3
  have b4 : (kind == 4) = false := by simpa using k4
  have b5 : (kind == 5) = false := by simpa using k5
  clear e1 e2 k1 k2 k3 k4 k5
  go_enter Try.func9, Try.ntmps9
  go_wp2
  go_ret2
  exact ⟨_, _, rfl, h1⟩

theorem does0_any (w0 w : World) (lb mb N : Nat) (made : Int) (L : Mx) (u : Value) (kind m t : Int) (h : St w0 w lb mb made L) (g : Good N made L) (hN : N < 4611686018427387903) (hm : I64 m) (ht : I64 t) (hu : Kd.R k35 35 w w0.heap.size (Oth lb mb) u []) :
    Calls Try.prog 9 #[.pointer (some ⟨lb, 0, none⟩), u, .agg #[.int .i64 kind, .int .i64 m, .int .i64 t]] w (DoesPost w0 lb mb (stepM kind made L) (stepL kind m t made L)) := by
  by_cases k1 : kind = 1
  · subst k1; exact does0_1 w0 w lb mb N made L u m t h g hN hm ht hu
  by_cases k2 : kind = 2
  · subst k2; exact does0_2 w0 w lb mb N made L u m t h g hN hm ht hu
  by_cases k3 : kind = 3
  · subst k3; exact does0_3 w0 w lb mb N made L u m t h g hN hm ht hu
  by_cases k4 : kind = 4
  · subst k4; exact does0_4 w0 w lb mb N made L u m t h g hN hm ht hu
  by_cases k5 : kind = 5
  · subst k5; exact does0_5 w0 w lb mb N made L u m t h g hN hm ht hu
  exact does0_no w0 w lb mb made L u kind m t h ⟨k1, k2, k3, k4, k5⟩

end Go.Proofs.Ytnenehdecbbfcaa
