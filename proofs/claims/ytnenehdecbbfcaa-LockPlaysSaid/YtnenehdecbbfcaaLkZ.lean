/- does: the document has what the program has behind each call. -/
import Derived.Test.YtnenehdecbbfcaaLkY
namespace Go.Proofs.Ytnenehdecbbfcaa
set_option linter.unusedVariables false
open Go.RowKit Go.Maps Go.Proofs.YtnenehdecbbfcaaW.PrintWords Go.Proofs.YtnenehdecbbfcaaW.PrintLast Go.Proofs.YtnenehdecbbfcaaW.PrintMore Go.Proofs.Ytnenehdecbbfcaa.PLockAlone

theorem same_l0 (xs : List Int) (hl : xs.length < 1000000) : ∀ (d k i : Nat), i + d = xs.length → d < k → pythiaref01_SameInts.l0 k xs xs (i : Int) = some true := by
  intro d
  induction d with
  | zero =>
    intro k i hi hk
    obtain ⟨k, rfl⟩ : ∃ q, k = q + 1 := ⟨k - 1, by omega⟩
    simp only [pythiaref01_SameInts.l0]
    rw [if_neg (by omega)]
  | succ d ih =>
    intro k i hi hk
    obtain ⟨k, rfl⟩ : ∃ q, k = q + 1 := ⟨k - 1, by omega⟩
    have hw : wrap64 ((i : Int) + 1) = ((i + 1 : Nat) : Int) := by unfold wrap64; omega
    simp only [pythiaref01_SameInts.l0]
    rw [if_pos (by omega), if_pos (by omega), if_pos (by omega), if_pos trivial, hw, ih k (i + 1) (by omega) (by omega)]
theorem same_self (xs : List Int) (hl : xs.length < 1000000) : pythiaref01_SameInts.f (xs.length + 1) xs xs = some true := by
  have := same_l0 xs hl xs.length (xs.length + 1) 0 (by omega) (by omega)
  simpa [pythiaref01_SameInts.f] using this

/-- What does may turn. -/
def Tch (lb mb : Nat) (u : Value) (k : Nat) : Prop := k = lb ∨ k = mb ∨ some k = u.ownBlock
/-- What does leaves. -/
def DoesOk (w0 w : World) (lb mb : Nat) (u : Value) (made : Int) (L : Mx) (e : Ending) (w' : World) : Prop :=
  ∃ v, e = .returned (.tuple #[v, .bool true]) ∧ St w0 w' lb mb made L ∧ Kd.R k35 35 w' w0.heap.size (Oth lb mb) v (Mof made L) ∧ Kept w w' (Tch lb mb u)

theorem Fr.kp {lb mb : Nat} {u : Value} {w w' : World} (f : Fr lb mb w w') : Kept w w' (Tch lb mb u) :=
  ⟨f.size, fun i hi hn => f.block i hi (fun e => hn (.inl e)) (fun e => hn (.inr (.inl e)))⟩
theorem Kept.tch {lb mb : Nat} {u : Value} {w w1 w2 : World} (h : Kept w w1 (Tch lb mb u)) (k : Kept w1 w2 (fun k => some k = u.ownBlock)) : Kept w w2 (Tch lb mb u) :=
  h.then_ k fun q hq => .inl (.inr (.inr hq))
theorem R_own {lb mb : Nat} {u v : Value} {w0 w w' : World} {xs ys : List S35} (hu : Kd.R k35 35 w w0.heap.size (Oth lb mb) u xs) (hl : lb < w.heap.size) (hm : mb < w.heap.size)
    (h : Kd.R k35 35 w' w0.heap.size (fun k => some k = u.ownBlock ∨ w.heap.size ≤ k) v ys) : Kd.R k35 35 w' w0.heap.size (Oth lb mb) v ys :=
  Kd.R_mono h fun k hk => hk.elim (fun e => hu.1 k e.symm) fun hk => ⟨by omega, by omega⟩

set_option maxHeartbeats 1000000 in
set_option maxRecDepth 100000 in
theorem does_1 (w0 w : World) (lb mb N : Nat) (made : Int) (L : Mx) (u : Value) (m t : Int) (h : St w0 w lb mb made L) (g : Good N made L) (hN : N < 5864062014804) (hm : I64 m) (ht : I64 t) (hu : Kd.R k35 35 w w0.heap.size (Oth lb mb) u (Mof made L)) :
    Calls Try.prog 9 #[.pointer (some ⟨lb, 0, none⟩), u, .agg #[.int .i64 1, .int .i64 m, .int .i64 t]] w (DoesOk w0 w lb mb u (stepM 1 made L) (stepL 1 m t made L)) := by
  have h1 := h.below ((Below.refl _ _).alloc (Nat.le_refl _) (Obj.cells #[Value.int IntKind.i64 1, Value.int IntKind.i64 m, Value.int IntKind.i64 t] 29))
  have hu1 := Kd.R_alloc hu (Obj.cells #[Value.int IntKind.i64 1, Value.int IntKind.i64 m, Value.int IntKind.i64 t] 29)
  have cm := fun (W : World) (hW : LocksAt W lb mb made L) => make_any W lb mb made L hW (by have := g.made; omega) (by have := g.len; omega)
  have hmk := make_pure g hN (N + 2) (by omega)
  by_cases h8 : 8 ≤ L.length
  · have e1 : stepM 1 made L = made := by unfold stepM; rw [if_neg (fun hh => hh.2 h8)]
    have e2 : stepL 1 m t made L = L := by unfold stepL; rw [if_pos rfl, if_pos h8]
    rw [e1, e2]
    simp only [if_pos h8] at cm hmk
    have cr := fun (W : World) (hW : Below w0.heap.size w0 W) (hR : Kd.R k35 35 W w0.heap.size (fun k => some k = u.ownBlock) u (Mof made L)) => pythiaref15_Make.calls (N + 2) (fun k => some k = u.ownBlock) u (Mof made L) _ _ _ w0 W hW hR hmk
    clear e1 e2
    go_enter Try.func9, Try.ntmps9
    go_wp2_with fail
    refine (cm _ h1.K).mono ?_
    rintro e w2 ⟨rfl, rfl⟩
    go_wp2_with fail
    refine (cr _ h1.B (Kd.R_tight rfl hu1)).mono ?_
    rintro e w3 ⟨v3, rfl, hr3, b3, k3⟩
    have h3 := h1.kept b3 (k3.mono fun k hk => hu.1 k hk.symm)
    go_wp2
    go_ret2
    exact ⟨_, rfl, h3, R_own hu1 h1.K.lt h1.K.map.lt hr3, Kept.tch ((Kept.refl _ _).alloc _) k3⟩
  · have e1 : stepM 1 made L = made + 1 := by unfold stepM; rw [if_pos ⟨rfl, h8⟩]
    have e2 : stepL 1 m t made L = mput (made + 1) (0, 0) L := by unfold stepL; rw [if_pos rfl, if_neg h8]
    rw [e1, e2]
    simp only [if_neg h8] at cm hmk
    have cr := fun (W : World) (hW : Below w0.heap.size w0 W) (hR : Kd.R k35 35 W w0.heap.size (fun k => some k = u.ownBlock) u (Mof made L)) => pythiaref15_Make.calls (N + 2) (fun k => some k = u.ownBlock) u (Mof made L) _ _ _ w0 W hW hR hmk
    clear e1 e2
    go_enter Try.func9, Try.ntmps9
    go_wp2_with fail
    refine (cm _ h1.K).mono ?_
    rintro e w2 ⟨rfl, l2, f2⟩
    have h2 := h1.fr l2 f2
    have hu2 := R_fr hu1 f2
    go_wp2_with fail
    refine (cr _ h2.B (Kd.R_tight rfl hu2)).mono ?_
    rintro e w3 ⟨v3, rfl, hr3, b3, k3⟩
    have h3 := h2.kept b3 (k3.mono fun k hk => hu.1 k hk.symm)
    by_cases hmd : made + 1 = 1
    · have hmd' : (made + 1 == 1) = true := by simpa using hmd
      clear hmd
      go_wp2
      go_ret2
      exact ⟨_, rfl, h3, R_own hu2 h2.K.lt h2.K.map.lt hr3, Kept.tch (((Kept.refl _ _).alloc _).then_ f2.kp fun _ hq => .inl hq) k3⟩
    · have hmd' : (made + 1 == 1) = false := by simpa using hmd
      clear hmd
      go_wp2
      go_ret2
      exact ⟨_, rfl, h3, R_own hu2 h2.K.lt h2.K.map.lt hr3, Kept.tch (((Kept.refl _ _).alloc _).then_ f2.kp fun _ hq => .inl hq) k3⟩

set_option maxHeartbeats 1000000 in
set_option maxRecDepth 100000 in
theorem does_2 (w0 w : World) (lb mb N : Nat) (made : Int) (L : Mx) (u : Value) (m t : Int) (h : St w0 w lb mb made L) (g : Good N made L) (hN : N < 5864062014804) (hm : I64 m) (ht : I64 t) (hu : Kd.R k35 35 w w0.heap.size (Oth lb mb) u (Mof made L)) :
    Calls Try.prog 9 #[.pointer (some ⟨lb, 0, none⟩), u, .agg #[.int .i64 2, .int .i64 m, .int .i64 t]] w (DoesOk w0 w lb mb u (stepM 2 made L) (stepL 2 m t made L)) := by
  have h1 := h.below ((Below.refl _ _).alloc (Nat.le_refl _) (Obj.cells #[Value.int IntKind.i64 2, Value.int IntKind.i64 m, Value.int IntKind.i64 t] 29))
  have hu1 := Kd.R_alloc hu (Obj.cells #[Value.int IntKind.i64 2, Value.int IntKind.i64 m, Value.int IntKind.i64 t] 29)
  have e1 : stepM 2 made L = made := by unfold stepM; rw [if_neg (by omega)]
  have e2 : stepL 2 m t made L = dropL L m := by simp [stepL]
  rw [e1, e2]
  have cm := fun (W : World) (hW : LocksAt W lb mb made L) => drop_any W lb mb made m L hW hm
  have cr := fun (W : World) (hW : Below w0.heap.size w0 W) (hR : Kd.R k35 35 W w0.heap.size (fun k => some k = u.ownBlock) u (Mof made L)) => pythiaref15_Drop.calls (N + 2) (fun k => some k = u.ownBlock) u (Mof made L) m _ _ w0 W hW hR (drop_pure g (by omega) m hm _ (by omega))
  clear e1 e2
  go_enter Try.func9, Try.ntmps9
  go_wp2_with fail
  refine (cm _ h1.K).mono ?_
  rintro e w2 ⟨rfl, l2, f2⟩
  have h2 := h1.fr l2 f2
  have hu2 := R_fr hu1 f2
  have hs2 := f2.size
  have x1 : w2.cell? ⟨w.heap.size, 1, none⟩ = some (.int .i64 m) := by
    refine (World.cell?_of_block (f2.block w.heap.size (by simp) (by have := h.K.lt; show w.heap.size ≠ lb; omega) (by have := h.K.map.lt; show w.heap.size ≠ mb; omega))).trans ?_
    simp
  have x2 : w2.cell? ⟨w.heap.size, 2, none⟩ = some (.int .i64 t) := by
    refine (World.cell?_of_block (f2.block w.heap.size (by simp) (by have := h.K.lt; show w.heap.size ≠ lb; omega) (by have := h.K.map.lt; show w.heap.size ≠ mb; omega))).trans ?_
    simp
  go_wp2_with fail
  refine (cr _ h2.B (Kd.R_tight rfl hu2)).mono ?_
  rintro e w3 ⟨v3, rfl, hr3, b3, k3⟩
  have h3 := h2.kept b3 (k3.mono fun k hk => hu.1 k hk.symm)
  go_wp2
  go_ret2
  exact ⟨_, rfl, h3, R_own hu2 h2.K.lt h2.K.map.lt hr3, Kept.tch (((Kept.refl _ _).alloc _).then_ f2.kp fun _ hq => .inl hq) k3⟩

set_option maxHeartbeats 1000000 in
set_option maxRecDepth 100000 in
theorem does_3 (w0 w : World) (lb mb N : Nat) (made : Int) (L : Mx) (u : Value) (m t : Int) (h : St w0 w lb mb made L) (g : Good N made L) (hN : N < 5864062014804) (hm : I64 m) (ht : I64 t) (hu : Kd.R k35 35 w w0.heap.size (Oth lb mb) u (Mof made L)) :
    Calls Try.prog 9 #[.pointer (some ⟨lb, 0, none⟩), u, .agg #[.int .i64 3, .int .i64 m, .int .i64 t]] w (DoesOk w0 w lb mb u (stepM 3 made L) (stepL 3 m t made L)) := by
  have h1 := h.below ((Below.refl _ _).alloc (Nat.le_refl _) (Obj.cells #[Value.int IntKind.i64 3, Value.int IntKind.i64 m, Value.int IntKind.i64 t] 29))
  have hu1 := Kd.R_alloc hu (Obj.cells #[Value.int IntKind.i64 3, Value.int IntKind.i64 m, Value.int IntKind.i64 t] 29)
  have e1 : stepM 3 made L = made := by unfold stepM; rw [if_neg (by omega)]
  have e2 : stepL 3 m t made L = takeL L m t := by simp [stepL]
  rw [e1, e2]
  have cm := fun (W : World) (hW : LocksAt W lb mb made L) => take_any W lb mb made m t L hW hm (by have := g.own m; omega) (by have := g.len; omega)
  have cr := fun (W : World) (hW : Below w0.heap.size w0 W) (hR : Kd.R k35 35 W w0.heap.size (fun k => some k = u.ownBlock) u (Mof made L)) => pythiaref15_Take.calls (N + 2) (fun k => some k = u.ownBlock) u (Mof made L) m t _ _ w0 W hW hR (take_pure g (by omega) m t hm _ (by omega))
  clear e1 e2
  go_enter Try.func9, Try.ntmps9
  go_wp2_with fail
  refine (cm _ h1.K).mono ?_
  rintro e w2 ⟨rfl, l2, f2⟩
  have h2 := h1.fr l2 f2
  have hu2 := R_fr hu1 f2
  have hs2 := f2.size
  have x1 : w2.cell? ⟨w.heap.size, 1, none⟩ = some (.int .i64 m) := by
    refine (World.cell?_of_block (f2.block w.heap.size (by simp) (by have := h.K.lt; show w.heap.size ≠ lb; omega) (by have := h.K.map.lt; show w.heap.size ≠ mb; omega))).trans ?_
    simp
  have x2 : w2.cell? ⟨w.heap.size, 2, none⟩ = some (.int .i64 t) := by
    refine (World.cell?_of_block (f2.block w.heap.size (by simp) (by have := h.K.lt; show w.heap.size ≠ lb; omega) (by have := h.K.map.lt; show w.heap.size ≠ mb; omega))).trans ?_
    simp
  go_wp2_with fail
  refine (cr _ h2.B (Kd.R_tight rfl hu2)).mono ?_
  rintro e w3 ⟨v3, rfl, hr3, b3, k3⟩
  have h3 := h2.kept b3 (k3.mono fun k hk => hu.1 k hk.symm)
  go_wp2
  go_ret2
  exact ⟨_, rfl, h3, R_own hu2 h2.K.lt h2.K.map.lt hr3, Kept.tch (((Kept.refl _ _).alloc _).then_ f2.kp fun _ hq => .inl hq) k3⟩

set_option maxHeartbeats 1000000 in
set_option maxRecDepth 100000 in
theorem does_4 (w0 w : World) (lb mb N : Nat) (made : Int) (L : Mx) (u : Value) (m t : Int) (h : St w0 w lb mb made L) (g : Good N made L) (hN : N < 5864062014804) (hm : I64 m) (ht : I64 t) (hu : Kd.R k35 35 w w0.heap.size (Oth lb mb) u (Mof made L)) :
    Calls Try.prog 9 #[.pointer (some ⟨lb, 0, none⟩), u, .agg #[.int .i64 4, .int .i64 m, .int .i64 t]] w (DoesOk w0 w lb mb u (stepM 4 made L) (stepL 4 m t made L)) := by
  have h1 := h.below ((Below.refl _ _).alloc (Nat.le_refl _) (Obj.cells #[Value.int IntKind.i64 4, Value.int IntKind.i64 m, Value.int IntKind.i64 t] 29))
  have hu1 := Kd.R_alloc hu (Obj.cells #[Value.int IntKind.i64 4, Value.int IntKind.i64 m, Value.int IntKind.i64 t] 29)
  have e1 : stepM 4 made L = made := by unfold stepM; rw [if_neg (by omega)]
  have e2 : stepL 4 m t made L = giveL L m t := by simp [stepL]
  rw [e1, e2]
  have cm := fun (W : World) (hW : LocksAt W lb mb made L) => give_any W lb mb made m t L hW hm (by have := g.own m; omega) (by have := g.len; omega)
  have cr := fun (W : World) (hW : Below w0.heap.size w0 W) (hR : Kd.R k35 35 W w0.heap.size (fun k => some k = u.ownBlock) u (Mof made L)) => pythiaref15_Give.calls (N + 2) (fun k => some k = u.ownBlock) u (Mof made L) m t _ _ w0 W hW hR (give_pure g (by omega) m t hm _ (by omega))
  clear e1 e2
  go_enter Try.func9, Try.ntmps9
  go_wp2_with fail
  refine (cm _ h1.K).mono ?_
  rintro e w2 ⟨rfl, l2, f2⟩
  have h2 := h1.fr l2 f2
  have hu2 := R_fr hu1 f2
  have hs2 := f2.size
  have x1 : w2.cell? ⟨w.heap.size, 1, none⟩ = some (.int .i64 m) := by
    refine (World.cell?_of_block (f2.block w.heap.size (by simp) (by have := h.K.lt; show w.heap.size ≠ lb; omega) (by have := h.K.map.lt; show w.heap.size ≠ mb; omega))).trans ?_
    simp
  have x2 : w2.cell? ⟨w.heap.size, 2, none⟩ = some (.int .i64 t) := by
    refine (World.cell?_of_block (f2.block w.heap.size (by simp) (by have := h.K.lt; show w.heap.size ≠ lb; omega) (by have := h.K.map.lt; show w.heap.size ≠ mb; omega))).trans ?_
    simp
  go_wp2_with fail
  refine (cr _ h2.B (Kd.R_tight rfl hu2)).mono ?_
  rintro e w3 ⟨v3, rfl, hr3, b3, k3⟩
  have h3 := h2.kept b3 (k3.mono fun k hk => hu.1 k hk.symm)
  go_wp2
  go_ret2
  exact ⟨_, rfl, h3, R_own hu2 h2.K.lt h2.K.map.lt hr3, Kept.tch (((Kept.refl _ _).alloc _).then_ f2.kp fun _ hq => .inl hq) k3⟩


set_option maxHeartbeats 1000000 in
set_option maxRecDepth 100000 in
theorem does_5 (w0 w : World) (lb mb N : Nat) (made : Int) (L : Mx) (u : Value) (m t : Int) (h : St w0 w lb mb made L) (g : Good N made L) (hN : N < 5864062014804) (hm : I64 m) (ht : I64 t) (hu : Kd.R k35 35 w w0.heap.size (Oth lb mb) u (Mof made L)) :
    Calls Try.prog 9 #[.pointer (some ⟨lb, 0, none⟩), u, .agg #[.int .i64 5, .int .i64 m, .int .i64 t]] w (DoesOk w0 w lb mb u (stepM 5 made L) (stepL 5 m t made L)) := by
  have h1 := h.below ((Below.refl _ _).alloc (Nat.le_refl _) (Obj.cells #[Value.int IntKind.i64 5, Value.int IntKind.i64 m, Value.int IntKind.i64 t] 29))
  have hu1 := Kd.R_alloc hu (Obj.cells #[Value.int IntKind.i64 5, Value.int IntKind.i64 m, Value.int IntKind.i64 t] 29)
  have e1 : stepM 5 made L = made := by unfold stepM; rw [if_neg (by omega)]
  have e2 : stepL 5 m t made L = leaveL L t := by simp [stepL]
  rw [e1, e2]
  have cm := fun (W : World) (hW : LocksAt W lb mb made L) => leave_any W lb mb made t L hW g.sorted (fun p hp => by have := g.key p hp; have := g.made; exact ⟨by omega, by omega⟩) (by have := g.len; omega)
  clear e1 e2 hu
  go_enter Try.func9, Try.ntmps9
  go_wp2_with fail
  refine (cm _ h1.K).mono ?_
  rintro e w2 ⟨v2, rfl, hr2, l2, f2⟩
  have h2 := h1.fr l2 f2
  have hu2 := R_fr hu1 f2
  have R2 : Kd.R (Kd.int .i64) 3 w2 w.heap.size (fun _ => True) v2 (leaveK L t) := Kd.R_of_own (ownsRow_base_a hr2 (by simp)) (fun _ _ => trivial)
  obtain ⟨A2, c2, rfl, hc2, C2⟩ := Kd.R_reads R2
  have hs2 := f2.size
  have x2 : w2.cell? ⟨w.heap.size, 2, none⟩ = some (.int .i64 t) := by
    refine (World.cell?_of_block (f2.block w.heap.size (by simp) (by have := h.K.lt; show w.heap.size ≠ lb; omega) (by have := h.K.map.lt; show w.heap.size ≠ mb; omega))).trans ?_
    simp
  clear hr2 R2
  go_wp2_with fail
  refine (refleave_any w0 w2 lb mb N made L u t g hN ht h2.K.lt h2.K.map.lt h2.B.size hu2).mono ?_
  rintro e w3 ⟨v3, A3, c3, rfl, hr3, hc3, C3, b3⟩
  have h3 := h2.below b3
  have C4 := Kd.C_below C2 b3
  have cs := pythiaref01_SameInts.calls ((leaveK L t).length + 1) A2 c2 (leaveK L t) A3 c3 (leaveK L t) true w3 C4 hc2 C3 hc3 (same_self _ (by have := leaveK_le L t; have := g.len; omega))
  clear C2 C3 C4
  go_wp2_with fail
  refine cs.mono ?_
  rintro e w4 ⟨rfl, d4⟩
  have h4 := h3.below d4.below
  go_wp2
  go_ret2
  exact ⟨_, rfl, h4, Kd.R_below hr3 d4.below, ((((Kept.refl _ _).alloc _).then_ f2.kp fun _ hq => .inl hq).below b3).below d4.below⟩

set_option maxHeartbeats 1000000 in
set_option maxRecDepth 100000 in
theorem does_no (w0 w : World) (lb mb : Nat) (made : Int) (L : Mx) (u : Value) (kind m t : Int) (h : St w0 w lb mb made L) (hu : Kd.R k35 35 w w0.heap.size (Oth lb mb) u (Mof made L)) (hk : kind ≠ 1 ∧ kind ≠ 2 ∧ kind ≠ 3 ∧ kind ≠ 4 ∧ kind ≠ 5) :
    Calls Try.prog 9 #[.pointer (some ⟨lb, 0, none⟩), u, .agg #[.int .i64 kind, .int .i64 m, .int .i64 t]] w (DoesOk w0 w lb mb u (stepM kind made L) (stepL kind m t made L)) := by
  have h1 := h.below ((Below.refl _ _).alloc (Nat.le_refl _) (Obj.cells #[Value.int IntKind.i64 kind, Value.int IntKind.i64 m, Value.int IntKind.i64 t] 29))
  have hu1 := Kd.R_alloc hu (Obj.cells #[Value.int IntKind.i64 kind, Value.int IntKind.i64 m, Value.int IntKind.i64 t] 29)
  obtain ⟨k1, k2, k3, k4, k5⟩ := hk
  have e1 : stepM kind made L = made := by unfold stepM; rw [if_neg (fun hh => k1 hh.1)]
  have e2 : stepL kind m t made L = L := by simp [stepL, k1, k2, k3, k4, k5]
  rw [e1, e2]
  have b1 : (kind == 1) = false := by simpa using k1
  have b2 : (kind == 2) = false := by simpa using k2
  have b3 : (kind == 3) = false := by simpa using k3
  have b4 : (kind == 4) = false := by simpa using k4
  have b5 : (kind == 5) = false := by simpa using k5
  clear e1 e2 k1 k2 k3 k4 k5
  go_enter Try.func9, Try.ntmps9
  go_wp2
  go_ret2
  exact ⟨_, rfl, h1, hu1, (Kept.refl _ _).alloc _⟩

theorem does_any (w0 w : World) (lb mb N : Nat) (made : Int) (L : Mx) (u : Value) (kind m t : Int) (h : St w0 w lb mb made L) (g : Good N made L) (hN : N < 5864062014804) (hm : I64 m) (ht : I64 t) (hu : Kd.R k35 35 w w0.heap.size (Oth lb mb) u (Mof made L)) :
    Calls Try.prog 9 #[.pointer (some ⟨lb, 0, none⟩), u, .agg #[.int .i64 kind, .int .i64 m, .int .i64 t]] w (DoesOk w0 w lb mb u (stepM kind made L) (stepL kind m t made L)) := by
  by_cases k1 : kind = 1
  · subst k1; exact does_1 w0 w lb mb N made L u m t h g hN hm ht hu
  by_cases k2 : kind = 2
  · subst k2; exact does_2 w0 w lb mb N made L u m t h g hN hm ht hu
  by_cases k3 : kind = 3
  · subst k3; exact does_3 w0 w lb mb N made L u m t h g hN hm ht hu
  by_cases k4 : kind = 4
  · subst k4; exact does_4 w0 w lb mb N made L u m t h g hN hm ht hu
  by_cases k5 : kind = 5
  · subst k5; exact does_5 w0 w lb mb N made L u m t h g hN hm ht hu
  exact does_no w0 w lb mb made L u kind m t h hu ⟨k1, k2, k3, k4, k5⟩

end Go.Proofs.Ytnenehdecbbfcaa
