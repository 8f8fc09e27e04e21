/- The solver's functions. -/
import Derived.Test.YtpnkaggkedepeaaTmGc
import Derived.StillTailTactics
import Derived.Deep.RegionHeld3
import Derived.Maps.RangeWalk

/- The solver's walk, in plain words and walked. -/
namespace Go.Proofs.Ytpnkaggkedepeaa
set_option linter.unusedVariables false
open Go.RowKit Go.Maps Go.Proofs.YtpnkaggkedepeaaW.PrintWords Go.Proofs.YtpnkaggkedepeaaW.PrintLast Go.Proofs.YtpnkaggkedepeaaW.PrintMore Go.Proofs.Ytpnkaggkedepeaa.PTermTells Go.Extern

abbrev Sm := List (Int × S24)
/-- What a term is, as far as it is a variable, and the last variable on the way; none: not within so many steps. -/
def walkS (S : Sm) : Nat → S24 → Int → Option (S24 × Int)
  | 0, _, _ => none
  | n + 1, t, l => if t.f0 = 1 then (match mget S t.f2 with | none => some (t, t.f2) | some x => walkS S n x t.f2) else some (t, l)

theorem TmapAt.far {w : World} {m : Nat} {L : Tm} (h : TmapAt w m L) {p : Addr} (hp : m ≠ p.block) (u : Value) : TmapAt (w.setCell p u) m L := h.alike (Below.heap_setCell w p u m hp)

/-- A term that lies in w0, as a value. -/
structure Lies (w0 : World) (t : S24) (A : Option Addr) (c : Nat) : Prop where
  C : Kd.C k24 w0 A t.f3.length t.f3
  le : t.f3.length ≤ c
  wf : wfT t

theorem box_ret1 {w W : World} {g : Nat} {z0 z1 z2 z3 : Value} (x0 x1 x2 x3 : Value)
    (hb : W.heap[g]? = some (.cells #[z0, z1, z2, z3] 24 (0, 0))) (hB : Below w.heap.size w W) (hlt : w.heap.size ≤ g) :
    ((((W.setCell ⟨g, 0, none⟩ x0).setCell ⟨g, 1, none⟩ x1).setCell ⟨g, 2, none⟩ x2).setCell ⟨g, 3, none⟩ x3).cell? ⟨g, 0, none⟩ = some x0 ∧
    ((((W.setCell ⟨g, 0, none⟩ x0).setCell ⟨g, 1, none⟩ x1).setCell ⟨g, 2, none⟩ x2).setCell ⟨g, 3, none⟩ x3).cell? ⟨g, 1, none⟩ = some x1 ∧
    ((((W.setCell ⟨g, 0, none⟩ x0).setCell ⟨g, 1, none⟩ x1).setCell ⟨g, 2, none⟩ x2).setCell ⟨g, 3, none⟩ x3).cell? ⟨g, 2, none⟩ = some x2 ∧
    ((((W.setCell ⟨g, 0, none⟩ x0).setCell ⟨g, 1, none⟩ x1).setCell ⟨g, 2, none⟩ x2).setCell ⟨g, 3, none⟩ x3).cell? ⟨g, 3, none⟩ = some x3 ∧
    Below w.heap.size w ((((W.setCell ⟨g, 0, none⟩ x0).setCell ⟨g, 1, none⟩ x1).setCell ⟨g, 2, none⟩ x2).setCell ⟨g, 3, none⟩ x3) := by
  have kF := res_box hb x0 x1 x2 x3
  exact ⟨blk_cell kF 0, blk_cell kF 1, blk_cell kF 2, blk_cell kF 3, below_set (below_set (below_set (below_set hB hlt) hlt) hlt) hlt⟩

set_option maxHeartbeats 400000 in
set_option maxRecDepth 100000 in
theorem walk_any (n : Nat) (L : Tm) (m : Nat) (w0 w : World) (t x : S24) (v : Int) (A : Option Addr) (c : Nat) (hw : walkS (strip L) n t 0 = some (x, v)) (hL : TmIn w0 L) (hM : TmapAt w m L) (ht : Lies w0 t A c) :
    Calls Try.prog 75 #[.map (some m), .agg #[.int .i64 t.f0, .string t.f1, .int .i64 t.f2, .slice A t.f3.length c]] w fun e w' => ∃ A' c',
      e = .returned (.tuple #[.agg #[.int .i64 x.f0, .string x.f1, .int .i64 x.f2, .slice A' x.f3.length c'], .int .i64 v]) ∧ Lies w0 x A' c' ∧ Below w.heap.size w w' := by
  have hml := hM.lt
  have kT := blk_alloc (blk_new w (.cells #[.int .i64 t.f0, .string t.f1, .int .i64 t.f2, .slice A t.f3.length c] 24)) (.cells #[.int .i64 0, .string ⟨#[]⟩, .int .i64 0, .slice none 0 0] 24)
  have kR := blk_new (w.alloc (.cells #[.int .i64 t.f0, .string t.f1, .int .i64 t.f2, .slice A t.f3.length c] 24)) (.cells #[.int .i64 0, .string ⟨#[]⟩, .int .i64 0, .slice none 0 0] 24)
  rw [show (w.alloc (.cells #[.int .i64 t.f0, .string t.f1, .int .i64 t.f2, .slice A t.f3.length c] 24)).heap.size = w.heap.size + 1 by simp] at kR
  have hM1 := (hM.alloc (.cells #[.int .i64 t.f0, .string t.f1, .int .i64 t.f2, .slice A t.f3.length c] 24)).alloc (.cells #[.int .i64 0, .string ⟨#[]⟩, .int .i64 0, .slice none 0 0] 24)
  have hB1 : Below w.heap.size w ((w.alloc (.cells #[.int .i64 t.f0, .string t.f1, .int .i64 t.f2, .slice A t.f3.length c] 24)).alloc (.cells #[.int .i64 0, .string ⟨#[]⟩, .int .i64 0, .slice none 0 0] 24)) := below_alloc (below_alloc (Below.refl _ _) _) _
  go_enter Try.func75, Try.ntmps75
  go_upto_region 2 with (fail)
  generalize ((w.alloc (.cells #[.int .i64 t.f0, .string t.f1, .int .i64 t.f2, .slice A t.f3.length c] 24)).alloc (.cells #[.int .i64 0, .string ⟨#[]⟩, .int .i64 0, .slice none 0 0] 24)) = W2 at kT kR hM1 hB1 ⊢
  go_loopg [6] n (fun kq la wr => ∃ (u : S24) (A1 : Option Addr) (c1 : Nat) (l : Int), la = .int .i64 l ∧ walkS (strip L) kq u l = some (x, v) ∧ Lies w0 u A1 c1 ∧ Below w.heap.size w wr ∧ TmapAt wr m L ∧
    wr.heap[w.heap.size]? = some (.cells #[.int .i64 u.f0, .string u.f1, .int .i64 u.f2, .slice A1 u.f3.length c1] 24 (0, 0)) ∧ wr.heap[w.heap.size + 1]? = some (.cells #[.int .i64 0, .string ⟨#[]⟩, .int .i64 0, .slice none 0 0] 24 (0, 0)))
  case atStart => exact ⟨t, A, c, 0, rfl, hw, ht, hB1, hM1, kT, kR⟩
  case round =>
    clear kT kR hM1 hB1 hw hM ht
    obtain ⟨u, A1, c1, l, rfl, hw, hu, hB, hM, hT, hR⟩ := hrel
    have lT := blk_lt hT
    have fT := fun i => blk_frozen hT i
    have t0 : wr.cell? ⟨w.heap.size, 0, none⟩ = some (.int .i64 u.f0) := blk_cell hT 0
    have t1 : wr.cell? ⟨w.heap.size, 1, none⟩ = some (.string u.f1) := blk_cell hT 1
    have t2 : wr.cell? ⟨w.heap.size, 2, none⟩ = some (.int .i64 u.f2) := blk_cell hT 2
    have t3 : wr.cell? ⟨w.heap.size, 3, none⟩ = some (.slice A1 u.f3.length c1) := blk_cell hT 3
    have hI := wfT_int hu.wf
    cases gk with
    | zero => exact absurd hw (by simp [walkS])
    | succ k =>
      rw [walkS] at hw
      by_cases h1 : u.f0 = 1
      · have h1' : (u.f0 == 1) = true := by simpa using h1
        rw [if_pos h1, mget_strip] at hw
        have hlk := lookT 81 Try.underlying81 hM hI true
        cases hg : mget L u.f2 with
        | some tv =>
          have hbn : bnd L u.f2 = tv := by unfold bnd; rw [hg]; rfl
          rw [hbn, hg] at hlk
          simp only [if_true, encT] at hlk
          rw [hg] at hw
          simp only [Option.map_some] at hw
          obtain ⟨g1, g2, g3⟩ := hL _ tv hg
          obtain ⟨⟨x0, x1, x2, x3⟩, xA, xc⟩ := tv
          simp only at hlk hw g1 g2 g3
          go_wp2
          go_roundg k
          case measure => omega
          case rel => exact ⟨⟨x0, x1, x2, x3⟩, xA, xc, u.f2, rfl, hw, ⟨g1, g2, g3⟩, below_alloc (below_set (below_set (below_set (below_set hB (Nat.le_refl _)) (Nat.le_refl _)) (Nat.le_refl _)) (Nat.le_refl _)) _, ((((hM.far (show m ≠ w.heap.size by omega) _).far (show m ≠ w.heap.size by omega) _).far (show m ≠ w.heap.size by omega) _).far (show m ≠ w.heap.size by omega) _).alloc _, blk_alloc (res_box hT _ _ _ _) _, blk_alloc (R0_set4 hR (by omega) _ _ _ _) _⟩
        | none =>
          have hbn : bnd L u.f2 = zeroTv := by unfold bnd; rw [hg]; rfl
          rw [hbn, hg] at hlk
          simp only [if_true, encT, zeroTv, z24, List.length_nil, Option.isSome_none] at hlk
          rw [hg] at hw
          simp only [Option.map_none, Option.some.injEq, Prod.mk.injEq] at hw
          obtain ⟨rfl, rfl⟩ := hw
          clear hL
          replace hT := blk_alloc hT (.cells #[.int .i64 0, .string ⟨#[]⟩, .int .i64 0, .slice none 0 0] 24)
          replace hR := blk_alloc hR (.cells #[.int .i64 0, .string ⟨#[]⟩, .int .i64 0, .slice none 0 0] 24)
          replace hB := below_alloc hB (.cells #[.int .i64 0, .string ⟨#[]⟩, .int .i64 0, .slice none 0 0] 24)
          have lR := blk_lt hR
          have fR := fun i => blk_frozen hR i
          have r0 : (wr.alloc (.cells #[.int .i64 0, .string ⟨#[]⟩, .int .i64 0, .slice none 0 0] 24)).cell? ⟨w.heap.size + 1, 0, none⟩ = some (.int .i64 0) := blk_cell hR 0
          have r1 : (wr.alloc (.cells #[.int .i64 0, .string ⟨#[]⟩, .int .i64 0, .slice none 0 0] 24)).cell? ⟨w.heap.size + 1, 1, none⟩ = some (.string ⟨#[]⟩) := blk_cell hR 1
          have r2 : (wr.alloc (.cells #[.int .i64 0, .string ⟨#[]⟩, .int .i64 0, .slice none 0 0] 24)).cell? ⟨w.heap.size + 1, 2, none⟩ = some (.int .i64 0) := blk_cell hR 2
          have r3 : (wr.alloc (.cells #[.int .i64 0, .string ⟨#[]⟩, .int .i64 0, .slice none 0 0] 24)).cell? ⟨w.heap.size + 1, 3, none⟩ = some (.slice none 0 0) := blk_cell hR 3
          go_upto_region 7 with (fail)
          have t0 : (wr.alloc (.cells #[.int .i64 0, .string ⟨#[]⟩, .int .i64 0, .slice none 0 0] 24)).cell? ⟨w.heap.size, 0, none⟩ = some (.int .i64 u.f0) := blk_cell hT 0
          have t1 : (wr.alloc (.cells #[.int .i64 0, .string ⟨#[]⟩, .int .i64 0, .slice none 0 0] 24)).cell? ⟨w.heap.size, 1, none⟩ = some (.string u.f1) := blk_cell hT 1
          have t2 : (wr.alloc (.cells #[.int .i64 0, .string ⟨#[]⟩, .int .i64 0, .slice none 0 0] 24)).cell? ⟨w.heap.size, 2, none⟩ = some (.int .i64 u.f2) := blk_cell hT 2
          have t3 : (wr.alloc (.cells #[.int .i64 0, .string ⟨#[]⟩, .int .i64 0, .slice none 0 0] 24)).cell? ⟨w.heap.size, 3, none⟩ = some (.slice A1 u.f3.length c1) := blk_cell hT 3
          clear hlk hM
          generalize (wr.alloc (.cells #[.int .i64 0, .string ⟨#[]⟩, .int .i64 0, .slice none 0 0] 24)) = Wb at hT hR hB lR fR r0 r1 r2 r3 t0 t1 t2 t3 ⊢
          go_wp2
          obtain ⟨q0, q1, q2, q3, hfF⟩ := box_ret1 (.int .i64 1) (.string u.f1) (.int .i64 u.f2) (.slice A1 u.f3.length c1) hR hB (by omega)
          generalize ((((Wb.setCell ⟨w.heap.size + 1, 0, none⟩ (.int .i64 1)).setCell ⟨w.heap.size + 1, 1, none⟩ (.string u.f1)).setCell ⟨w.heap.size + 1, 2, none⟩ (.int .i64 u.f2)).setCell ⟨w.heap.size + 1, 3, none⟩ (.slice A1 u.f3.length c1)) = WF at q0 q1 q2 q3 hfF ⊢
          refine bodyPost_ret (v := .tuple #[.agg #[.int .i64 1, .string u.f1, .int .i64 u.f2, .slice A1 u.f3.length c1], .int .i64 u.f2]) (by simp [results, Try.results75, go_sem, q0, q1, q2, q3]) rfl ⟨A1, c1, by rw [h1], hu, hfF⟩
      · have h1' : (u.f0 == 1) = false := by simpa using h1
        rw [if_neg h1] at hw
        simp only [Option.some.injEq, Prod.mk.injEq] at hw
        obtain ⟨rfl, rfl⟩ := hw
        have lR := blk_lt hR
        have fR := fun i => blk_frozen hR i
        have r0 : wr.cell? ⟨w.heap.size + 1, 0, none⟩ = some (.int .i64 0) := blk_cell hR 0
        have r1 : wr.cell? ⟨w.heap.size + 1, 1, none⟩ = some (.string ⟨#[]⟩) := blk_cell hR 1
        have r2 : wr.cell? ⟨w.heap.size + 1, 2, none⟩ = some (.int .i64 0) := blk_cell hR 2
        have r3 : wr.cell? ⟨w.heap.size + 1, 3, none⟩ = some (.slice none 0 0) := blk_cell hR 3
        go_upto_region 7 with (fail)
        go_wp2
        obtain ⟨q0, q1, q2, q3, hfF⟩ := box_ret1 (.int .i64 u.f0) (.string u.f1) (.int .i64 u.f2) (.slice A1 u.f3.length c1) hR hB (by omega)
        generalize ((((wr.setCell ⟨w.heap.size + 1, 0, none⟩ (.int .i64 u.f0)).setCell ⟨w.heap.size + 1, 1, none⟩ (.string u.f1)).setCell ⟨w.heap.size + 1, 2, none⟩ (.int .i64 u.f2)).setCell ⟨w.heap.size + 1, 3, none⟩ (.slice A1 u.f3.length c1)) = WF at q0 q1 q2 q3 hfF ⊢
        refine bodyPost_ret (v := .tuple #[.agg #[.int .i64 u.f0, .string u.f1, .int .i64 u.f2, .slice A1 u.f3.length c1], .int .i64 l]) (by simp [results, Try.results75, go_sem, q0, q1, q2, q3]) rfl ⟨A1, c1, rfl, hu, hfF⟩

end Go.Proofs.Ytpnkaggkedepeaa


/- The solver's full: its walk, with whatever it is that goes on with the arguments. -/
namespace Go.Proofs.Ytpnkaggkedepeaa
set_option linter.unusedVariables false
open Go.RowKit Go.Maps Go.Proofs.YtpnkaggkedepeaaW.PrintWords Go.Proofs.YtpnkaggkedepeaaW.PrintLast Go.Proofs.YtpnkaggkedepeaaW.PrintMore Go.Proofs.Ytpnkaggkedepeaa.PTermTells Go.Extern

abbrev Fo := S24 → Int → Int → Option (S24 × Bool × Int)
def genLo (F : Fo) : List S24 → Int → List S24 → Int → Option (List S24 × Bool × Int)
  | [], deep, acc, s => some (acc, true, s)
  | a :: r, deep, acc, s => match F a deep s with
    | none => none
    | some q => if q.2.1 = true then genLo F r deep (acc ++ [q.1]) q.2.2 else some ([], false, q.2.2)
theorem genLo_nil (F : Fo) (deep : Int) (acc : List S24) (s : Int) : genLo F [] deep acc s = some (acc, true, s) := by rw [genLo]
theorem genLo_cons (F : Fo) (a : S24) (r : List S24) (deep : Int) (acc : List S24) (s : Int) : genLo F (a :: r) deep acc s = match F a deep s with
    | none => none
    | some q => if q.2.1 = true then genLo F r deep (acc ++ [q.1]) q.2.2 else some ([], false, q.2.2) := by rw [genLo]
def genTo (F : Fo) (t : S24) (deep s : Int) : Option (S24 × Bool × Int) :=
  if s + 1 > 2000 ∨ deep > 100 then some (z24, false, s + 1)
  else if t.f0 ≠ 4 then some (bareT t, true, s + 1)
  else match genLo F t.f3 (deep + 1) [] (s + 1) with
    | none => none
    | some r => some (if r.2.1 = true then (⟨4, t.f1, 0, r.1⟩, true, r.2.2) else (z24, false, r.2.2))

set_option maxHeartbeats 400000 in
set_option maxRecDepth 100000 in
theorem full_gen (F : Fo) (hF : ∀ a deep s r, F a deep s = some r → s + 1 ≤ r.2.2 ∧ (r.2.1 = true → r.2.2 ≤ 2000))
    (w0 w : World) (b m : Nat) (deep s : Int) (t : S24) (tA : Option Addr) (tc : Nat) (v : Int) (kd : Int) (nm : ByteArray) (nt : Int) (xs : List S24) (res : S24 × Bool × Int)
    (hwk : Calls Try.prog 75 #[.map (some m), .agg #[.int .i64 t.f0, .string t.f1, .int .i64 t.f2, .slice tA t.f3.length tc]] ((w.alloc (.cells #[.int .i64 t.f0, .string t.f1, .int .i64 t.f2, .slice tA t.f3.length tc] 24)).alloc (.cells #[.int .i64 0, .string ⟨#[]⟩, .int .i64 0, .slice none 0 0] 24)) fun e w' => ∃ A' c',
      e = .returned (.tuple #[.agg #[.int .i64 kd, .string nm, .int .i64 nt, .slice A' xs.length c'], .int .i64 v]) ∧ Lies w0 ⟨kd, nm, nt, xs⟩ A' c' ∧ Below ((w.alloc (.cells #[.int .i64 t.f0, .string t.f1, .int .i64 t.f2, .slice tA t.f3.length tc] 24)).alloc (.cells #[.int .i64 0, .string ⟨#[]⟩, .int .i64 0, .slice none 0 0] 24)).heap.size ((w.alloc (.cells #[.int .i64 t.f0, .string t.f1, .int .i64 t.f2, .slice tA t.f3.length tc] 24)).alloc (.cells #[.int .i64 0, .string ⟨#[]⟩, .int .i64 0, .slice none 0 0] 24)) w')
    (hres : genTo F ⟨kd, nm, nt, xs⟩ deep s = some res)
    (hB : Below w0.heap.size w0 w) (hb : w0.heap.size ≤ b) (hs : CntAt w b s) (h0 : 0 ≤ s) (h2 : s ≤ 2000) (hd0 : 0 ≤ deep) (hd : deep ≤ 101)
    (ih : ∀ a ∈ xs, ∀ (deep s : Int) (r : S24 × Bool × Int), F a deep s = some r → ∀ (w' : World) (c : Nat) (A : Option Addr), Fg b w w' → Kd.C k24 w0 A a.f3.length a.f3 → a.f3.length ≤ c → Below w0.heap.size w0 w' → CntAt w' b s → 0 ≤ s → s ≤ 2000 → 0 ≤ deep → deep ≤ 101 →
      Calls Try.prog 63 #[.map (some m), .agg #[.int .i64 a.f0, .string a.f1, .int .i64 a.f2, .slice A a.f3.length c], .int .i64 deep, .pointer (some ⟨b, 0, none⟩)] w' fun e w'' => ∃ v,
        e = .returned (.tuple #[.agg #[.int .i64 r.1.f0, .string r.1.f1, .int .i64 r.1.f2, v], .bool r.2.1]) ∧ Kd.R k24 24 w'' w'.heap.size (fun _ => True) v r.1.f3 ∧ Fg b w' w'' ∧ CntAt w'' b r.2.2) :
    Calls Try.prog 63 #[.map (some m), .agg #[.int .i64 t.f0, .string t.f1, .int .i64 t.f2, .slice tA t.f3.length tc], .int .i64 deep, .pointer (some ⟨b, 0, none⟩)] w fun e w' => ∃ v,
      e = .returned (.tuple #[.agg #[.int .i64 res.1.f0, .string res.1.f1, .int .i64 res.1.f2, v], .bool res.2.1]) ∧ Kd.R k24 24 w' w.heap.size (fun _ => True) v res.1.f3 ∧ Fg b w w' ∧ CntAt w' b res.2.2 := by
  have hbl := blk_lt hs
  have kT2 := blk_alloc (blk_new w (.cells #[.int .i64 t.f0, .string t.f1, .int .i64 t.f2, .slice tA t.f3.length tc] 24)) (.cells #[.int .i64 0, .string ⟨#[]⟩, .int .i64 0, .slice none 0 0] 24)
  have kR2 := blk_new (w.alloc (.cells #[.int .i64 t.f0, .string t.f1, .int .i64 t.f2, .slice tA t.f3.length tc] 24)) (.cells #[.int .i64 0, .string ⟨#[]⟩, .int .i64 0, .slice none 0 0] 24)
  rw [show (w.alloc (.cells #[.int .i64 t.f0, .string t.f1, .int .i64 t.f2, .slice tA t.f3.length tc] 24)).heap.size = w.heap.size + 1 by simp] at kR2
  have hs2 : CntAt ((w.alloc (.cells #[.int .i64 t.f0, .string t.f1, .int .i64 t.f2, .slice tA t.f3.length tc] 24)).alloc (.cells #[.int .i64 0, .string ⟨#[]⟩, .int .i64 0, .slice none 0 0] 24)) b s := (hs.alloc _).alloc _
  have hf2 : Fg b w ((w.alloc (.cells #[.int .i64 t.f0, .string t.f1, .int .i64 t.f2, .slice tA t.f3.length tc] 24)).alloc (.cells #[.int .i64 0, .string ⟨#[]⟩, .int .i64 0, .slice none 0 0] 24)) := ((Fg.refl b w).alloc _).alloc _
  unfold genTo at hres
  by_cases h1 : s + 1 > 2000 ∨ deep > 100
  · simp only [if_pos h1, Option.some.injEq] at hres
    subst hres
    have e1 : (decide (2000 < s + 1) || decide (100 < deep)) = true := by simp; omega
    go_enter Try.func63, Try.ntmps63
    go_wp2_with fail
    refine hwk.mono ?_
    rintro e wv ⟨A, c, rfl, hlies, hbv⟩
    obtain ⟨hC, hc, hwfx⟩ := hlies
    simp only at hC hc hwfx
    have kT0 := blk_below kT2 hbv
    have kR0 := blk_below kR2 hbv
    have hsv : CntAt wv b s := blk_below hs2 hbv
    have hfv := hf2.trans (Fg.of_below hbv)
    have s0 := blk_cell kT0 0
    have s1 := blk_cell kT0 1
    have s2 := blk_cell kT0 2
    have s3 := blk_cell kT0 3
    have fT0 := fun i => blk_frozen kT0 i
    have lT0 := blk_lt kT0
    go_upto_region 2 with (fail)
    have kT := res_box kT0 (.int .i64 kd) (.string nm) (.int .i64 nt) (.slice A xs.length c)
    have kR := R0_set4 kR0 (show w.heap.size + 1 ≠ w.heap.size by omega) (.int .i64 kd) (.string nm) (.int .i64 nt) (.slice A xs.length c)
    have hs3 : CntAt ((((wv.setCell ⟨w.heap.size, 0, none⟩ (.int .i64 kd)).setCell ⟨w.heap.size, 1, none⟩ (.string nm)).setCell ⟨w.heap.size, 2, none⟩ (.int .i64 nt)).setCell ⟨w.heap.size, 3, none⟩ (.slice A xs.length c)) b s := by
      repeat (refine CntAt.far ?_ (show b ≠ w.heap.size by omega) _)
      exact hsv
    have hf3 : Fg b w ((((wv.setCell ⟨w.heap.size, 0, none⟩ (.int .i64 kd)).setCell ⟨w.heap.size, 1, none⟩ (.string nm)).setCell ⟨w.heap.size, 2, none⟩ (.int .i64 nt)).setCell ⟨w.heap.size, 3, none⟩ (.slice A xs.length c)) := by
      repeat (refine Fg.far ?_ (show w.heap.size ≤ w.heap.size by omega) _)
      exact hfv
    generalize ((((wv.setCell ⟨w.heap.size, 0, none⟩ (.int .i64 kd)).setCell ⟨w.heap.size, 1, none⟩ (.string nm)).setCell ⟨w.heap.size, 2, none⟩ (.int .i64 nt)).setCell ⟨w.heap.size, 3, none⟩ (.slice A xs.length c)) = wc at kT kR hs3 hf3 ⊢
    clear kT0 kR0 hsv hfv s0 s1 s2 s3 fT0 lT0 hwk hbv kT2 kR2 hs2 hf2
    have x0 : wc.cell? ⟨b, 0, none⟩ = some (.int .i64 s) := blk_cell hs3 0
    have x1 : wc.frozen? ⟨b, 0, none⟩ = false := blk_frozen hs3 0
    have hs4 := hs3.set (s + 1)
    have hf4 : Fg b w (wc.setCell ⟨b, 0, none⟩ (.int .i64 (s + 1))) := hf3.trans (Fg.set _ 0 _)
    have l0' := blk_lt kT
    have l1' := blk_lt kR
    have t0' : wc.cell? ⟨w.heap.size, 0, none⟩ = some (.int .i64 kd) := blk_cell kT 0
    have t1' : wc.cell? ⟨w.heap.size, 1, none⟩ = some (.string nm) := blk_cell kT 1
    have t2' : wc.cell? ⟨w.heap.size, 2, none⟩ = some (.int .i64 nt) := blk_cell kT 2
    have t3' : wc.cell? ⟨w.heap.size, 3, none⟩ = some (.slice A xs.length c) := blk_cell kT 3
    replace kT : (wc.setCell ⟨b, 0, none⟩ (.int .i64 (s + 1))).heap[w.heap.size]? = some (.cells #[.int .i64 kd, .string nm, .int .i64 nt, .slice A xs.length c] 24 (0, 0)) := blk_far kT (show w.heap.size ≠ b by omega) (.int .i64 (s + 1))
    replace kR : (wc.setCell ⟨b, 0, none⟩ (.int .i64 (s + 1))).heap[w.heap.size + 1]? = some (.cells #[.int .i64 0, .string ⟨#[]⟩, .int .i64 0, .slice none 0 0] 24 (0, 0)) := blk_far kR (show w.heap.size + 1 ≠ b by omega) (.int .i64 (s + 1))
    have r0 : (wc.setCell ⟨b, 0, none⟩ (.int .i64 (s + 1))).cell? ⟨w.heap.size + 1, 0, none⟩ = some (.int .i64 0) := blk_cell kR 0
    have r1 : (wc.setCell ⟨b, 0, none⟩ (.int .i64 (s + 1))).cell? ⟨w.heap.size + 1, 1, none⟩ = some (.string ⟨#[]⟩) := blk_cell kR 1
    have r2 : (wc.setCell ⟨b, 0, none⟩ (.int .i64 (s + 1))).cell? ⟨w.heap.size + 1, 2, none⟩ = some (.int .i64 0) := blk_cell kR 2
    have r3 : (wc.setCell ⟨b, 0, none⟩ (.int .i64 (s + 1))).cell? ⟨w.heap.size + 1, 3, none⟩ = some (.slice none 0 0) := blk_cell kR 3
    have fr := fun i => blk_frozen kR i
    have lR := blk_lt kR
    go_wp2
    all_goals
      have kF := res_box kR (.int .i64 0) (.string ⟨#[]⟩) (.int .i64 0) (.slice none 0 0)
      have hfF : Fg b w (((((wc.setCell ⟨b, 0, none⟩ (.int .i64 (s + 1))).setCell ⟨w.heap.size + 1, 0, none⟩ (.int .i64 0)).setCell ⟨w.heap.size + 1, 1, none⟩ (.string ⟨#[]⟩)).setCell ⟨w.heap.size + 1, 2, none⟩ (.int .i64 0)).setCell ⟨w.heap.size + 1, 3, none⟩ (.slice none 0 0)) := by
        repeat (refine Fg.far ?_ (show w.heap.size ≤ w.heap.size + 1 by omega) _)
        exact hf4
      have hcF : CntAt (((((wc.setCell ⟨b, 0, none⟩ (.int .i64 (s + 1))).setCell ⟨w.heap.size + 1, 0, none⟩ (.int .i64 0)).setCell ⟨w.heap.size + 1, 1, none⟩ (.string ⟨#[]⟩)).setCell ⟨w.heap.size + 1, 2, none⟩ (.int .i64 0)).setCell ⟨w.heap.size + 1, 3, none⟩ (.slice none 0 0)) b (s + 1) := by
        repeat (refine CntAt.far ?_ (show b ≠ w.heap.size + 1 by omega) _)
        exact hs4
      generalize ((((wc.setCell ⟨b, 0, none⟩ (.int .i64 (s + 1))).setCell ⟨w.heap.size + 1, 0, none⟩ (.int .i64 0)).setCell ⟨w.heap.size + 1, 1, none⟩ (.string ⟨#[]⟩)).setCell ⟨w.heap.size + 1, 2, none⟩ (.int .i64 0)).setCell ⟨w.heap.size + 1, 3, none⟩ (.slice none 0 0) = WF at kF hfF hcF ⊢
      have q0 : WF.cell? ⟨w.heap.size + 1, 0, none⟩ = some (.int .i64 0) := blk_cell kF 0
      have q1 : WF.cell? ⟨w.heap.size + 1, 1, none⟩ = some (.string ⟨#[]⟩) := blk_cell kF 1
      have q2 : WF.cell? ⟨w.heap.size + 1, 2, none⟩ = some (.int .i64 0) := blk_cell kF 2
      have q3 : WF.cell? ⟨w.heap.size + 1, 3, none⟩ = some (.slice none 0 0) := blk_cell kF 3
      refine bodyPost_ret (v := .tuple #[.agg #[.int .i64 0, .string ⟨#[]⟩, .int .i64 0, .slice none 0 0], .bool false]) (by simp [results, Try.results63, go_sem, q0, q1, q2, q3]) rfl ⟨.slice none 0 0, rfl, Kd.R_nil _ _ _ _ _, hfF, hcF⟩
  simp only [if_neg h1] at hres
  have e1 : (decide (2000 < s + 1) || decide (100 < deep)) = false := by simp; omega
  obtain ⟨bt, hbt⟩ : ∃ u, u = bareT ⟨kd, nm, nt, xs⟩ := ⟨_, rfl⟩
  rw [← hbt] at hres
  have bt3 : bt.f3 = [] := by rw [hbt]; unfold bareT; split <;> rfl
  have HBT := Lib.hid hbt
  clear hbt
  by_cases k4 : kd = 4
  · subst k4
    simp only [ne_eq, not_true_eq_false, if_false] at hres
    obtain ⟨ro, hr0⟩ : ∃ ro, genLo F xs (deep + 1) [] (s + 1) = some ro := by
      cases h : genLo F xs (deep + 1) [] (s + 1) with
      | none => rw [h] at hres; cases hres
      | some r => exact ⟨r, rfl⟩
    rw [hr0] at hres
    simp only [Option.some.injEq] at hres
    have HFIN := Lib.hid hres
    clear hres
    go_enter Try.func63, Try.ntmps63
    go_wp2_with fail
    refine hwk.mono ?_
    rintro e wv ⟨A, c, rfl, hlies, hbv⟩
    obtain ⟨hC, hc, hwfx⟩ := hlies
    simp only at hC hc hwfx
    have kT0 := blk_below kT2 hbv
    have kR0 := blk_below kR2 hbv
    have hsv : CntAt wv b s := blk_below hs2 hbv
    have hfv := hf2.trans (Fg.of_below hbv)
    have s0 := blk_cell kT0 0
    have s1 := blk_cell kT0 1
    have s2 := blk_cell kT0 2
    have s3 := blk_cell kT0 3
    have fT0 := fun i => blk_frozen kT0 i
    have lT0 := blk_lt kT0
    go_upto_region 2 with (fail)
    have kT := res_box kT0 (.int .i64 4) (.string nm) (.int .i64 nt) (.slice A xs.length c)
    have kR := R0_set4 kR0 (show w.heap.size + 1 ≠ w.heap.size by omega) (.int .i64 4) (.string nm) (.int .i64 nt) (.slice A xs.length c)
    have hs3 : CntAt ((((wv.setCell ⟨w.heap.size, 0, none⟩ (.int .i64 4)).setCell ⟨w.heap.size, 1, none⟩ (.string nm)).setCell ⟨w.heap.size, 2, none⟩ (.int .i64 nt)).setCell ⟨w.heap.size, 3, none⟩ (.slice A xs.length c)) b s := by
      repeat (refine CntAt.far ?_ (show b ≠ w.heap.size by omega) _)
      exact hsv
    have hf3 : Fg b w ((((wv.setCell ⟨w.heap.size, 0, none⟩ (.int .i64 4)).setCell ⟨w.heap.size, 1, none⟩ (.string nm)).setCell ⟨w.heap.size, 2, none⟩ (.int .i64 nt)).setCell ⟨w.heap.size, 3, none⟩ (.slice A xs.length c)) := by
      repeat (refine Fg.far ?_ (show w.heap.size ≤ w.heap.size by omega) _)
      exact hfv
    generalize ((((wv.setCell ⟨w.heap.size, 0, none⟩ (.int .i64 4)).setCell ⟨w.heap.size, 1, none⟩ (.string nm)).setCell ⟨w.heap.size, 2, none⟩ (.int .i64 nt)).setCell ⟨w.heap.size, 3, none⟩ (.slice A xs.length c)) = wc at kT kR hs3 hf3 ⊢
    clear kT0 kR0 hsv hfv s0 s1 s2 s3 fT0 lT0 hwk hbv kT2 kR2 hs2 hf2
    have x0 : wc.cell? ⟨b, 0, none⟩ = some (.int .i64 s) := blk_cell hs3 0
    have x1 : wc.frozen? ⟨b, 0, none⟩ = false := blk_frozen hs3 0
    have hs4 := hs3.set (s + 1)
    have hf4 : Fg b w (wc.setCell ⟨b, 0, none⟩ (.int .i64 (s + 1))) := hf3.trans (Fg.set _ 0 _)
    have l0' := blk_lt kT
    have l1' := blk_lt kR
    have t0' : wc.cell? ⟨w.heap.size, 0, none⟩ = some (.int .i64 4) := blk_cell kT 0
    have t1' : wc.cell? ⟨w.heap.size, 1, none⟩ = some (.string nm) := blk_cell kT 1
    have t2' : wc.cell? ⟨w.heap.size, 2, none⟩ = some (.int .i64 nt) := blk_cell kT 2
    have t3' : wc.cell? ⟨w.heap.size, 3, none⟩ = some (.slice A xs.length c) := blk_cell kT 3
    replace kT : (wc.setCell ⟨b, 0, none⟩ (.int .i64 (s + 1))).heap[w.heap.size]? = some (.cells #[.int .i64 4, .string nm, .int .i64 nt, .slice A xs.length c] 24 (0, 0)) := blk_far kT (show w.heap.size ≠ b by omega) (.int .i64 (s + 1))
    replace kR : (wc.setCell ⟨b, 0, none⟩ (.int .i64 (s + 1))).heap[w.heap.size + 1]? = some (.cells #[.int .i64 0, .string ⟨#[]⟩, .int .i64 0, .slice none 0 0] 24 (0, 0)) := blk_far kR (show w.heap.size + 1 ≠ b by omega) (.int .i64 (s + 1))
    have hbare := bare_any ⟨4, nm, nt, xs⟩ (wc.setCell ⟨b, 0, none⟩ (.int .i64 (s + 1))) A c
    simp only at hbare
    rw [← HBT.out] at hbare
    go_wp2_with fail
    refine hbare.mono ?_
    rintro e w1 ⟨rfl, hb1⟩
    replace kT := blk_below kT hb1
    replace kR := blk_below kR hb1
    have hf5 := hf4.trans (Fg.of_below hb1)
    have hs5 : CntAt w1 b (s + 1) := blk_below hs4 hb1
    have t0 : w1.cell? ⟨w.heap.size, 0, none⟩ = some (.int .i64 4) := blk_cell kT 0
    have t3 : w1.cell? ⟨w.heap.size, 3, none⟩ = some (.slice A xs.length c) := blk_cell kT 3
    have l0 := blk_lt kT
    have l1 := blk_lt kR
    clear hb1 hbare hf4 hs4 hs3 x0 x1
    have bt0 : bt.f0 = 4 := by rw [HBT.out]; simp [bareT]
    have bt1 : bt.f1 = nm := by rw [HBT.out]; simp [bareT]
    have bt2 : bt.f2 = 0 := by rw [HBT.out]; simp [bareT]
    rw [bt0, bt1, bt2]
    have hmx := hC.2.1
    have hw1 := hf5.size
    go_wp2
    go_loopw [44] (fun i wr => ∃ (k : Nat) (q : Int) (acc : List S24) (v : Value), k ≤ xs.length ∧ i = .int .i64 k ∧ genLo F (xs.drop k) (deep + 1) acc q = some ro ∧ 0 ≤ q ∧ q ≤ 2000 ∧ (acc.length : Int) ≤ q ∧ CntAt wr b q ∧ Fg b w wr ∧
        wr.heap[w.heap.size + 1]? = some (.cells #[.int .i64 0, .string ⟨#[]⟩, .int .i64 0, .slice none 0 0] 24 (0, 0)) ∧ wr.heap[w1.heap.size]? = some (.cells #[.int .i64 4, .string nm, .int .i64 0, v] 24 (0, 0)) ∧ Kd.R k24 24 wr w.heap.size (fun j => w1.heap.size < j) v acc)
      (fun i _ => xs.length - (intOf i).toNat)
    case atStart => exact ⟨0, s + 1, [], .slice none 0 0, Nat.zero_le _, rfl, hr0, by omega, by omega, by simp; omega, hs5.alloc _, hf5.alloc _, blk_alloc kR _, blk_new _ _, Kd.R_nil _ _ _ _ _⟩
    case round =>
      obtain ⟨k, q, acc, v, hk, rfl, hm, hq1, hq2, hal, hcq, hfq, hkR, hkO, hRv⟩ := hrel
      have hBq := hfq.below hB hb
      have hlO := blk_lt hkO
      have hlR := blk_lt hkR
      by_cases hlt : k < xs.length
      · obtain ⟨ad, A3, c3, rfl, y0, y1, y2, y3, l3, g3⟩ := C_rd hC k hlt rfl
        replace y0 := (hBq.cell (World.block_lt_of_cell? w0 _ y0)).trans y0
        replace y1 := (hBq.cell (World.block_lt_of_cell? w0 _ y1)).trans y1
        replace y2 := (hBq.cell (World.block_lt_of_cell? w0 _ y2)).trans y2
        replace y3 := (hBq.cell (World.block_lt_of_cell? w0 _ y3)).trans y3
        rw [List.drop_eq_getElem_cons hlt, genLo_cons] at hm
        have hwa := ih _ (List.getElem_mem hlt)
        generalize xs[k] = a at y0 y1 y2 y3 l3 g3 hm hwa
        obtain ⟨r, hr⟩ : ∃ r, F a (deep + 1) q = some r := by
          cases h : F a (deep + 1) q with
          | none => rw [h] at hm; cases hm
          | some r => exact ⟨r, rfl⟩
        rw [hr] at hm
        have hbdF := hF a (deep + 1) q r hr
        have hi := hwa (deep + 1) q r hr (wr.alloc (.cells #[.int .i64 a.f0, .string a.f1, .int .i64 a.f2, .slice A3 a.f3.length c3] 24)) c3 A3 (hfq.alloc _) g3 l3 (below_alloc hBq _) (hcq.alloc _) hq1 hq2 (by omega) (by omega)
        clear hwa
        obtain ⟨x, ok, q'⟩ := r
        obtain ⟨e0, e1', e2, e3⟩ := x
        simp only at hi hm hbdF
        clear ih
        go_wp2_with fail
        refine hi.mono ?_
        rintro e w5 ⟨v5, rfl, hR5, f5, c5⟩
        obtain ⟨A5, c5', rfl, hc5, C5⟩ := Kd.R_reads hR5
        have hvr : ∀ j, v.ownBlock = some j → j < wr.heap.size := fun j hj => ((Kd.R_bound hRv).1 j hj).2.2.1
        have f6 : Fg b wr w5 := ((Fg.refl b wr).alloc _).trans f5
        replace hkR := f6.blk hkR (show w.heap.size + 1 ≠ b by omega)
        replace hkO := f6.blk hkO (show w1.heap.size ≠ b by omega)
        replace hRv := Kd.R_step hRv (w1 := w5) fun j hj hlt => f6.block j hlt (by omega)
        have hf7 := hfq.trans f6
        clear hi f5
        cases ok with
        | false =>
          simp only [Bool.false_eq_true, if_false] at hm
          have r0 : w5.cell? ⟨w.heap.size + 1, 0, none⟩ = some (.int .i64 0) := blk_cell hkR 0
          have r1 : w5.cell? ⟨w.heap.size + 1, 1, none⟩ = some (.string ⟨#[]⟩) := blk_cell hkR 1
          have r2 : w5.cell? ⟨w.heap.size + 1, 2, none⟩ = some (.int .i64 0) := blk_cell hkR 2
          have r3 : w5.cell? ⟨w.heap.size + 1, 3, none⟩ = some (.slice none 0 0) := blk_cell hkR 3
          have lR5 := blk_lt hkR
          have fr := fun i => blk_frozen hkR i
          go_wp2
          have kF := blk_alloc (res_box hkR (.int .i64 0) (.string ⟨#[]⟩) (.int .i64 0) (.slice none 0 0)) (.cells #[.int .i64 e0, .string e1', .int .i64 e2, .slice A5 e3.length c5'] 24)
          have hfF : Fg b w (((((w5.setCell ⟨w.heap.size + 1, 0, none⟩ (.int .i64 0)).setCell ⟨w.heap.size + 1, 1, none⟩ (.string ⟨#[]⟩)).setCell ⟨w.heap.size + 1, 2, none⟩ (.int .i64 0)).setCell ⟨w.heap.size + 1, 3, none⟩ (.slice none 0 0)).alloc (.cells #[.int .i64 e0, .string e1', .int .i64 e2, .slice A5 e3.length c5'] 24)) := by
            refine Fg.alloc ?_ _
            repeat (refine Fg.far ?_ (show w.heap.size ≤ w.heap.size + 1 by omega) _)
            exact hf7
          have hcF : CntAt (((((w5.setCell ⟨w.heap.size + 1, 0, none⟩ (.int .i64 0)).setCell ⟨w.heap.size + 1, 1, none⟩ (.string ⟨#[]⟩)).setCell ⟨w.heap.size + 1, 2, none⟩ (.int .i64 0)).setCell ⟨w.heap.size + 1, 3, none⟩ (.slice none 0 0)).alloc (.cells #[.int .i64 e0, .string e1', .int .i64 e2, .slice A5 e3.length c5'] 24)) b q' := by
            refine CntAt.alloc ?_ _
            repeat (refine CntAt.far ?_ (show b ≠ w.heap.size + 1 by omega) _)
            exact c5
          generalize (((((w5.setCell ⟨w.heap.size + 1, 0, none⟩ (.int .i64 0)).setCell ⟨w.heap.size + 1, 1, none⟩ (.string ⟨#[]⟩)).setCell ⟨w.heap.size + 1, 2, none⟩ (.int .i64 0)).setCell ⟨w.heap.size + 1, 3, none⟩ (.slice none 0 0)).alloc (.cells #[.int .i64 e0, .string e1', .int .i64 e2, .slice A5 e3.length c5'] 24)) = WF at kF hfF hcF ⊢
          have q0 : WF.cell? ⟨w.heap.size + 1, 0, none⟩ = some (.int .i64 0) := blk_cell kF 0
          have q1 : WF.cell? ⟨w.heap.size + 1, 1, none⟩ = some (.string ⟨#[]⟩) := blk_cell kF 1
          have q2 : WF.cell? ⟨w.heap.size + 1, 2, none⟩ = some (.int .i64 0) := blk_cell kF 2
          have q3 : WF.cell? ⟨w.heap.size + 1, 3, none⟩ = some (.slice none 0 0) := blk_cell kF 3
          refine bodyPost_ret (v := .tuple #[.agg #[.int .i64 0, .string ⟨#[]⟩, .int .i64 0, .slice none 0 0], .bool false]) (by simp [results, Try.results63, go_sem, q0, q1, q2, q3]) rfl ?_
          have hfn : res = (z24, false, q') := by rw [← HFIN.out, ← Option.some.inj hm]; rfl
          rw [hfn]
          exact ⟨.slice none 0 0, rfl, Kd.R_nil _ _ _ _ _, hfF, hcF⟩
        | true =>
          simp only [if_true] at hm
          have o3 : w5.cell? ⟨w1.heap.size, 3, none⟩ = some v := blk_cell hkO 3
          have lO5 := blk_lt hkO
          have fo := fun i => blk_frozen hkO i
          have hM : Kd.M k24 (w5.alloc (.cells #[.int .i64 e0, .string e1', .int .i64 e2, .slice A5 e3.length c5'] 24)) w.heap.size (fun j => wr.heap.size ≤ j) ⟨e0, e1', e2, e3⟩ [.int .i64 e0, .string e1', .int .i64 e2, .slice A5 e3.length c5'] :=
            k24_mkM (w5.alloc (.cells #[.int .i64 e0, .string e1', .int .i64 e2, .slice A5 e3.length c5'] 24)) w.heap.size _ ⟨e0, e1', e2, e3⟩ (Kd.R_alloc (Kd.R_mono (Kd.R_lower (Kd.R_bound hR5) (by simp; omega)) (fun j hj => by have := hj.2.1; simp at this; omega)) _)
          have hRw : Kd.R k24 24 (w5.alloc (.cells #[.int .i64 e0, .string e1', .int .i64 e2, .slice A5 e3.length c5'] 24)) w.heap.size (fun j => w1.heap.size < j) v acc := Kd.R_alloc hRv _
          have lacc : (acc.length + 1) * 56 ≤ 140737488355328 := by omega
          have lW : w.heap.size ≤ (w5.alloc (.cells #[.int .i64 e0, .string e1', .int .i64 e2, .slice A5 e3.length c5'] 24)).heap.size := by simp; omega
          have hf8 : Fg b w (w5.alloc (.cells #[.int .i64 e0, .string e1', .int .i64 e2, .slice A5 e3.length c5'] 24)) := hf7.alloc _
          have c8 : CntAt (w5.alloc (.cells #[.int .i64 e0, .string e1', .int .i64 e2, .slice A5 e3.length c5'] 24)) b q' := c5.alloc _
          have kR8 := blk_alloc hkR (.cells #[.int .i64 e0, .string e1', .int .i64 e2, .slice A5 e3.length c5'] 24)
          have kO8 := blk_alloc hkO (.cells #[.int .i64 e0, .string e1', .int .i64 e2, .slice A5 e3.length c5'] 24)
          have kX8 := blk_new w5 (.cells #[.int .i64 e0, .string e1', .int .i64 e2, .slice A5 e3.length c5'] 24)
          go_upto_region 14 with (fail)
          generalize (w5.alloc (.cells #[.int .i64 e0, .string e1', .int .i64 e2, .slice A5 e3.length c5'] 24)) = W at hf8 c8 kR8 kO8 kX8 hM hRw lW ⊢
          have o3 : W.cell? ⟨w1.heap.size, 3, none⟩ = some v := blk_cell kO8 3
          have fo := fun i => blk_frozen kO8 i
          have z0 : W.cell? ⟨w5.heap.size, 0, none⟩ = some (.int .i64 e0) := blk_cell kX8 0
          have z1 : W.cell? ⟨w5.heap.size, 1, none⟩ = some (.string e1') := blk_cell kX8 1
          have z2 : W.cell? ⟨w5.heap.size, 2, none⟩ = some (.int .i64 e2) := blk_cell kX8 2
          have z3 : W.cell? ⟨w5.heap.size, 3, none⟩ = some (.slice A5 e3.length c5') := blk_cell kX8 3
          have hvb := (Kd.R_bound hRw).1
          have hvo : ∀ j, v.ownBlock = some j → j ≠ w1.heap.size := fun j hj => by have := (hvb j hj).1; omega
          have hvw : ∀ j, v.ownBlock = some j → j < wr.heap.size := fun j hj => hvr j hj
          have hok : ∀ j, wr.heap.size ≤ j → w1.heap.size < j ∧ some j ≠ v.ownBlock := fun j hj => ⟨by omega, fun e => by have := hvw j e.symm; omega⟩
          have hlW8 := blk_lt kO8
          have hfr : ∀ j, W.heap.size ≤ j → w1.heap.size < j := fun j hj => by omega
          go_wp2_with (first
            | (at_builtin; refine Kd.R_append k24 (w0 := W) w.heap.size rfl (.tmp 61) (.tmp 63) 22 24 (.agg #[.int .i64 0, .string ⟨#[]⟩, .int .i64 0, .slice none 0 0]) 56 rfl Try.underlying22 info24 rfl (by decide) (by omega) v acc (⟨e0, e1', e2, e3⟩ : S24) [.int .i64 e0, .string e1', .int .i64 e2, .slice A5 e3.length c5'] (fun j => w1.heap.size < j) (fun j => wr.heap.size ≤ j) rfl rfl hM ?aK ?aF hRw (Below.refl _ _) lW lacc ?_
               case aK => exact hok
               case aF => exact hfr
               intro v8 w8 hR8 hb8 hg8 hat8
               obtain ⟨A8, c8', rfl, hc8, C8⟩ := Kd.R_reads hR8
               have kO9 := blk_grown kO8 hg8 (fun e => hvo _ e.symm rfl)
               have fo9 := fun i => blk_frozen kO9 i
               have p3 : w8.cell? ⟨w1.heap.size, 3, none⟩ = some v := blk_cell kO9 3))
          have hlen : (acc ++ [(⟨e0, e1', e2, e3⟩ : S24)]).length = acc.length + 1 := by simp
          rw [hlen] at hR8
          have hf9 : Fg b w w8 := ⟨hg8.os.trans hf8.os, hg8.tape.trans hf8.tape, hg8.output.trans hf8.output, Nat.le_trans hf8.size hg8.size, fun i hi hne => (hg8.block i (by omega) (fun e => by have := (hvb i e.symm).2.1; omega)).trans (hf8.block i hi hne)⟩
          have c9 : CntAt w8 b q' := blk_grown c8 hg8 (fun e => by have := (hvb _ e.symm).2.1; omega)
          have kR9 := blk_grown kR8 hg8 (fun e => by have := (hvb _ e.symm).1; omega)
          have hbd := hbdF
          have hb1 := hbd.1
          have hb2 : q' ≤ 2000 := by first | exact hbd.2 rfl | exact hbd.2 trivial
          refine ⟨⟨k + 1, q', acc ++ [⟨e0, e1', e2, e3⟩], .slice A8 (acc.length + 1) c8', by omega, by go_num, hm, by omega, by omega, by rw [hlen]; push_cast; omega, c9.far (show b ≠ w1.heap.size by omega) _, hf9.far (show w.heap.size ≤ w1.heap.size by omega) _, blk_far kR9 (show w.heap.size + 1 ≠ w1.heap.size by omega) _, blk_set kO9 3 _, Kd.R_step hR8 (fun j hj _ => Below.heap_setCell _ _ _ j (show j ≠ w1.heap.size by omega))⟩, ?_⟩
          simp [intOf]; omega
      · obtain rfl : k = xs.length := by omega
        rw [List.drop_of_length_le (Nat.le_refl _), genLo_nil] at hm
        obtain ⟨Av, cv, rfl, hcv, Cv⟩ := Kd.R_reads hRv
        have o0 : wr.cell? ⟨w1.heap.size, 0, none⟩ = some (.int .i64 4) := blk_cell hkO 0
        have o1 : wr.cell? ⟨w1.heap.size, 1, none⟩ = some (.string nm) := blk_cell hkO 1
        have o2 : wr.cell? ⟨w1.heap.size, 2, none⟩ = some (.int .i64 0) := blk_cell hkO 2
        have o3 : wr.cell? ⟨w1.heap.size, 3, none⟩ = some (.slice Av acc.length cv) := blk_cell hkO 3
        have r0 : wr.cell? ⟨w.heap.size + 1, 0, none⟩ = some (.int .i64 0) := blk_cell hkR 0
        have r1 : wr.cell? ⟨w.heap.size + 1, 1, none⟩ = some (.string ⟨#[]⟩) := blk_cell hkR 1
        have r2 : wr.cell? ⟨w.heap.size + 1, 2, none⟩ = some (.int .i64 0) := blk_cell hkR 2
        have r3 : wr.cell? ⟨w.heap.size + 1, 3, none⟩ = some (.slice none 0 0) := blk_cell hkR 3
        have fr := fun i => blk_frozen hkR i
        clear ih
        go_wp2
        have kF := res_box hkR (.int .i64 4) (.string nm) (.int .i64 0) (.slice Av acc.length cv)
        have hfF : Fg b w ((((wr.setCell ⟨w.heap.size + 1, 0, none⟩ (.int .i64 4)).setCell ⟨w.heap.size + 1, 1, none⟩ (.string nm)).setCell ⟨w.heap.size + 1, 2, none⟩ (.int .i64 0)).setCell ⟨w.heap.size + 1, 3, none⟩ (.slice Av acc.length cv)) := by
          repeat (refine Fg.far ?_ (show w.heap.size ≤ w.heap.size + 1 by omega) _)
          exact hfq
        have hcF : CntAt ((((wr.setCell ⟨w.heap.size + 1, 0, none⟩ (.int .i64 4)).setCell ⟨w.heap.size + 1, 1, none⟩ (.string nm)).setCell ⟨w.heap.size + 1, 2, none⟩ (.int .i64 0)).setCell ⟨w.heap.size + 1, 3, none⟩ (.slice Av acc.length cv)) b q := by
          repeat (refine CntAt.far ?_ (show b ≠ w.heap.size + 1 by omega) _)
          exact hcq
        have hRF := R_set4 (g := w.heap.size + 1) hRv (fun j hj => by omega) (.int .i64 4) (.string nm) (.int .i64 0) (.slice Av acc.length cv)
        generalize ((((wr.setCell ⟨w.heap.size + 1, 0, none⟩ (.int .i64 4)).setCell ⟨w.heap.size + 1, 1, none⟩ (.string nm)).setCell ⟨w.heap.size + 1, 2, none⟩ (.int .i64 0)).setCell ⟨w.heap.size + 1, 3, none⟩ (.slice Av acc.length cv)) = WF at kF hfF hcF hRF ⊢
        have q0 : WF.cell? ⟨w.heap.size + 1, 0, none⟩ = some (.int .i64 4) := blk_cell kF 0
        have q1 : WF.cell? ⟨w.heap.size + 1, 1, none⟩ = some (.string nm) := blk_cell kF 1
        have q2 : WF.cell? ⟨w.heap.size + 1, 2, none⟩ = some (.int .i64 0) := blk_cell kF 2
        have q3 : WF.cell? ⟨w.heap.size + 1, 3, none⟩ = some (.slice Av acc.length cv) := blk_cell kF 3
        refine bodyPost_ret (v := .tuple #[.agg #[.int .i64 4, .string nm, .int .i64 0, .slice Av acc.length cv], .bool true]) (by simp [results, Try.results63, go_sem, q0, q1, q2, q3]) rfl ?_
        have hfn : res = (⟨4, nm, 0, acc⟩, true, q) := by rw [← HFIN.out, ← Option.some.inj hm]; rfl
        rw [hfn]
        exact ⟨.slice Av acc.length cv, rfl, Kd.R_mono hRF (fun _ _ => trivial), hfF, hcF⟩
  · simp only [ne_eq, k4, not_false_eq_true, if_true, Option.some.injEq] at hres
    subst hres
    have k4' : (kd != 4) = true := by simpa using k4
    clear ih
    go_enter Try.func63, Try.ntmps63
    go_wp2_with fail
    refine hwk.mono ?_
    rintro e wv ⟨A, c, rfl, hlies, hbv⟩
    obtain ⟨hC, hc, hwfx⟩ := hlies
    simp only at hC hc hwfx
    have kT0 := blk_below kT2 hbv
    have kR0 := blk_below kR2 hbv
    have hsv : CntAt wv b s := blk_below hs2 hbv
    have hfv := hf2.trans (Fg.of_below hbv)
    have s0 := blk_cell kT0 0
    have s1 := blk_cell kT0 1
    have s2 := blk_cell kT0 2
    have s3 := blk_cell kT0 3
    have fT0 := fun i => blk_frozen kT0 i
    have lT0 := blk_lt kT0
    go_upto_region 2 with (fail)
    have kT := res_box kT0 (.int .i64 kd) (.string nm) (.int .i64 nt) (.slice A xs.length c)
    have kR := R0_set4 kR0 (show w.heap.size + 1 ≠ w.heap.size by omega) (.int .i64 kd) (.string nm) (.int .i64 nt) (.slice A xs.length c)
    have hs3 : CntAt ((((wv.setCell ⟨w.heap.size, 0, none⟩ (.int .i64 kd)).setCell ⟨w.heap.size, 1, none⟩ (.string nm)).setCell ⟨w.heap.size, 2, none⟩ (.int .i64 nt)).setCell ⟨w.heap.size, 3, none⟩ (.slice A xs.length c)) b s := by
      repeat (refine CntAt.far ?_ (show b ≠ w.heap.size by omega) _)
      exact hsv
    have hf3 : Fg b w ((((wv.setCell ⟨w.heap.size, 0, none⟩ (.int .i64 kd)).setCell ⟨w.heap.size, 1, none⟩ (.string nm)).setCell ⟨w.heap.size, 2, none⟩ (.int .i64 nt)).setCell ⟨w.heap.size, 3, none⟩ (.slice A xs.length c)) := by
      repeat (refine Fg.far ?_ (show w.heap.size ≤ w.heap.size by omega) _)
      exact hfv
    generalize ((((wv.setCell ⟨w.heap.size, 0, none⟩ (.int .i64 kd)).setCell ⟨w.heap.size, 1, none⟩ (.string nm)).setCell ⟨w.heap.size, 2, none⟩ (.int .i64 nt)).setCell ⟨w.heap.size, 3, none⟩ (.slice A xs.length c)) = wc at kT kR hs3 hf3 ⊢
    clear kT0 kR0 hsv hfv s0 s1 s2 s3 fT0 lT0 hwk hbv kT2 kR2 hs2 hf2
    have x0 : wc.cell? ⟨b, 0, none⟩ = some (.int .i64 s) := blk_cell hs3 0
    have x1 : wc.frozen? ⟨b, 0, none⟩ = false := blk_frozen hs3 0
    have hs4 := hs3.set (s + 1)
    have hf4 : Fg b w (wc.setCell ⟨b, 0, none⟩ (.int .i64 (s + 1))) := hf3.trans (Fg.set _ 0 _)
    have l0' := blk_lt kT
    have l1' := blk_lt kR
    have t0' : wc.cell? ⟨w.heap.size, 0, none⟩ = some (.int .i64 kd) := blk_cell kT 0
    have t1' : wc.cell? ⟨w.heap.size, 1, none⟩ = some (.string nm) := blk_cell kT 1
    have t2' : wc.cell? ⟨w.heap.size, 2, none⟩ = some (.int .i64 nt) := blk_cell kT 2
    have t3' : wc.cell? ⟨w.heap.size, 3, none⟩ = some (.slice A xs.length c) := blk_cell kT 3
    replace kT : (wc.setCell ⟨b, 0, none⟩ (.int .i64 (s + 1))).heap[w.heap.size]? = some (.cells #[.int .i64 kd, .string nm, .int .i64 nt, .slice A xs.length c] 24 (0, 0)) := blk_far kT (show w.heap.size ≠ b by omega) (.int .i64 (s + 1))
    replace kR : (wc.setCell ⟨b, 0, none⟩ (.int .i64 (s + 1))).heap[w.heap.size + 1]? = some (.cells #[.int .i64 0, .string ⟨#[]⟩, .int .i64 0, .slice none 0 0] 24 (0, 0)) := blk_far kR (show w.heap.size + 1 ≠ b by omega) (.int .i64 (s + 1))
    have hbare := bare_any ⟨kd, nm, nt, xs⟩ (wc.setCell ⟨b, 0, none⟩ (.int .i64 (s + 1))) A c
    simp only at hbare
    rw [← HBT.out] at hbare
    go_wp2_with fail
    refine hbare.mono ?_
    rintro e w1 ⟨rfl, hb1⟩
    replace kT := blk_below kT hb1
    replace kR := blk_below kR hb1
    have hf5 := hf4.trans (Fg.of_below hb1)
    have hs5 : CntAt w1 b (s + 1) := blk_below hs4 hb1
    have t0 : w1.cell? ⟨w.heap.size, 0, none⟩ = some (.int .i64 kd) := blk_cell kT 0
    have r0 : w1.cell? ⟨w.heap.size + 1, 0, none⟩ = some (.int .i64 0) := blk_cell kR 0
    have r1 : w1.cell? ⟨w.heap.size + 1, 1, none⟩ = some (.string ⟨#[]⟩) := blk_cell kR 1
    have r2 : w1.cell? ⟨w.heap.size + 1, 2, none⟩ = some (.int .i64 0) := blk_cell kR 2
    have r3 : w1.cell? ⟨w.heap.size + 1, 3, none⟩ = some (.slice none 0 0) := blk_cell kR 3
    have l0 := blk_lt kT
    have l1 := blk_lt kR
    have fr := fun i => blk_frozen kR i
    clear hb1 hbare hf4 hs4 hs3 x0 x1
    go_wp2
    have kR5 : (((((w1.setCell ⟨w.heap.size + 1, 0, none⟩ (.int .i64 bt.f0)).setCell ⟨w.heap.size + 1, 1, none⟩ (.string bt.f1)).setCell ⟨w.heap.size + 1, 2, none⟩ (.int .i64 bt.f2)).setCell ⟨w.heap.size + 1, 3, none⟩ (.slice none 0 0)).alloc (.cells #[.int .i64 bt.f0, .string bt.f1, .int .i64 bt.f2, .slice none 0 0] 24)).heap[w.heap.size + 1]? = some (.cells #[.int .i64 bt.f0, .string bt.f1, .int .i64 bt.f2, .slice none 0 0] 24 (0, 0)) :=
      blk_alloc (blk_set (blk_set (blk_set (blk_set kR 0 (.int .i64 bt.f0)) 1 (.string bt.f1)) 2 (.int .i64 bt.f2)) 3 (.slice none 0 0)) _
    have hf6 : Fg b w (((((w1.setCell ⟨w.heap.size + 1, 0, none⟩ (.int .i64 bt.f0)).setCell ⟨w.heap.size + 1, 1, none⟩ (.string bt.f1)).setCell ⟨w.heap.size + 1, 2, none⟩ (.int .i64 bt.f2)).setCell ⟨w.heap.size + 1, 3, none⟩ (.slice none 0 0)).alloc (.cells #[.int .i64 bt.f0, .string bt.f1, .int .i64 bt.f2, .slice none 0 0] 24)) := by
      refine Fg.alloc ?_ _
      repeat (refine Fg.far ?_ (show w.heap.size ≤ w.heap.size + 1 by omega) _)
      exact hf5
    have hs6 : CntAt (((((w1.setCell ⟨w.heap.size + 1, 0, none⟩ (.int .i64 bt.f0)).setCell ⟨w.heap.size + 1, 1, none⟩ (.string bt.f1)).setCell ⟨w.heap.size + 1, 2, none⟩ (.int .i64 bt.f2)).setCell ⟨w.heap.size + 1, 3, none⟩ (.slice none 0 0)).alloc (.cells #[.int .i64 bt.f0, .string bt.f1, .int .i64 bt.f2, .slice none 0 0] 24)) b (s + 1) := by
      refine CntAt.alloc ?_ _
      repeat (refine CntAt.far ?_ (show b ≠ w.heap.size + 1 by omega) _)
      exact hs5
    generalize (((((w1.setCell ⟨w.heap.size + 1, 0, none⟩ (.int .i64 bt.f0)).setCell ⟨w.heap.size + 1, 1, none⟩ (.string bt.f1)).setCell ⟨w.heap.size + 1, 2, none⟩ (.int .i64 bt.f2)).setCell ⟨w.heap.size + 1, 3, none⟩ (.slice none 0 0)).alloc (.cells #[.int .i64 bt.f0, .string bt.f1, .int .i64 bt.f2, .slice none 0 0] 24)) = W5 at kR5 hf6 hs6 ⊢
    have q0 : W5.cell? ⟨w.heap.size + 1, 0, none⟩ = some (.int .i64 bt.f0) := blk_cell kR5 0
    have q1 : W5.cell? ⟨w.heap.size + 1, 1, none⟩ = some (.string bt.f1) := blk_cell kR5 1
    have q2 : W5.cell? ⟨w.heap.size + 1, 2, none⟩ = some (.int .i64 bt.f2) := blk_cell kR5 2
    have q3 : W5.cell? ⟨w.heap.size + 1, 3, none⟩ = some (.slice none 0 0) := blk_cell kR5 3
    refine bodyPost_ret (v := .tuple #[.agg #[.int .i64 bt.f0, .string bt.f1, .int .i64 bt.f2, .slice none 0 0], .bool true]) (by simp [results, Try.results63, go_sem, q0, q1, q2, q3]) rfl ⟨.slice none 0 0, rfl, by rw [bt3]; exact Kd.R_nil _ _ _ _ _, hf6, hs6⟩

end Go.Proofs.Ytpnkaggkedepeaa


/- full in plain words and its walk. -/
namespace Go.Proofs.Ytpnkaggkedepeaa
set_option linter.unusedVariables false
open Go.RowKit Go.Maps Go.Proofs.YtpnkaggkedepeaaW.PrintWords Go.Proofs.YtpnkaggkedepeaaW.PrintLast Go.Proofs.YtpnkaggkedepeaaW.PrintMore Go.Proofs.Ytpnkaggkedepeaa.PTermTells Go.Extern

/-- A term with all that is bound put in; none: not within so many steps. -/
def fullS (S : Sm) (W : Nat) : Nat → Fo
  | 0, _, _, _ => none
  | k + 1, t, deep, s => match walkS S W t 0 with
    | none => none
    | some p => genTo (fullS S W k) p.1 deep s

theorem genLo_b (F : Fo) (hF : ∀ a deep s r, F a deep s = some r → s + 1 ≤ r.2.2 ∧ (r.2.1 = true → r.2.2 ≤ 2000)) : ∀ (xs : List S24) (deep : Int) (acc : List S24) (s : Int) (r), genLo F xs deep acc s = some r → s ≤ r.2.2 ∧ (s ≤ 2000 → r.2.1 = true → r.2.2 ≤ 2000)
  | [], deep, acc, s, r, h => by rw [genLo_nil] at h; cases h; exact ⟨Int.le_refl _, fun h _ => h⟩
  | a :: t, deep, acc, s, r, h => by
    rw [genLo_cons] at h
    cases hq : F a deep s with
    | none => rw [hq] at h; cases h
    | some q =>
      rw [hq] at h
      have hb := hF a deep s q hq
      simp only at h
      by_cases h3 : q.2.1 = true
      · rw [if_pos h3] at h
        have := genLo_b F hF t deep _ _ r h
        exact ⟨by have := hb.1; omega, fun _ hk => this.2 (hb.2 h3) hk⟩
      · rw [if_neg h3] at h
        cases h
        exact ⟨by have := hb.1; simp only; omega, fun _ hk => by cases hk⟩
theorem genTo_b (F : Fo) (hF : ∀ a deep s r, F a deep s = some r → s + 1 ≤ r.2.2 ∧ (r.2.1 = true → r.2.2 ≤ 2000)) (t : S24) (deep s : Int) (r) (h : genTo F t deep s = some r) : s + 1 ≤ r.2.2 ∧ (r.2.1 = true → r.2.2 ≤ 2000) := by
  unfold genTo at h
  by_cases h1 : s + 1 > 2000 ∨ deep > 100
  · rw [if_pos h1] at h; cases h; exact ⟨Int.le_refl _, fun h => by cases h⟩
  rw [if_neg h1] at h
  by_cases h2 : t.f0 ≠ 4
  · rw [if_pos h2] at h; cases h; exact ⟨Int.le_refl _, fun _ => by simp only; omega⟩
  rw [if_neg h2] at h
  cases hq : genLo F t.f3 (deep + 1) [] (s + 1) with
  | none => rw [hq] at h; cases h
  | some q =>
    rw [hq] at h
    have hb := genLo_b F hF _ _ _ _ _ hq
    simp only [Option.some.injEq] at h
    subst h
    by_cases h3 : q.2.1 = true
    · rw [if_pos h3]; exact ⟨hb.1, fun _ => hb.2 (by omega) h3⟩
    · rw [if_neg h3]; exact ⟨hb.1, fun h => by cases h⟩
theorem fullS_b (S : Sm) (W : Nat) : ∀ (k : Nat) a deep s r, fullS S W k a deep s = some r → s + 1 ≤ r.2.2 ∧ (r.2.1 = true → r.2.2 ≤ 2000)
  | 0, _, _, _, _, h => by cases h
  | k + 1, t, deep, s, r, h => by
    rw [fullS] at h
    cases hq : walkS S W t 0 with
    | none => rw [hq] at h; cases h
    | some p =>
      rw [hq] at h
      exact genTo_b _ (fullS_b S W k) _ _ _ _ h

theorem walkS_wf {S : Sm} (hS : ∀ k x, mget S k = some x → wfT x) : ∀ (n : Nat) (t : S24) (l : Int) (x : S24) (v : Int), walkS S n t l = some (x, v) → wfT t → wfT x
  | 0, _, _, _, _, h, _ => by cases h
  | n + 1, t, l, x, v, h, ht => by
    rw [walkS] at h
    by_cases h1 : t.f0 = 1
    · rw [if_pos h1] at h
      cases hg : mget S t.f2 with
      | none => rw [hg] at h; cases h; exact ht
      | some y => rw [hg] at h; exact walkS_wf hS n y _ x v h (hS _ _ hg)
    · rw [if_neg h1] at h; cases h; exact ht

theorem full_any (W : Nat) (L : Tm) (m b : Nat) (w0 : World) (hm : m ≠ b) (hL : TmIn w0 L) : ∀ (k : Nat) (t : S24) (deep s : Int) (res : S24 × Bool × Int), fullS (strip L) W k t deep s = some res → wfT t → ∀ (w : World) (c : Nat) (A : Option Addr), TmapAt w m L → Kd.C k24 w0 A t.f3.length t.f3 → t.f3.length ≤ c → Below w0.heap.size w0 w → w0.heap.size ≤ b → CntAt w b s → 0 ≤ s → s ≤ 2000 → 0 ≤ deep → deep ≤ 101 →
    Calls Try.prog 63 #[.map (some m), .agg #[.int .i64 t.f0, .string t.f1, .int .i64 t.f2, .slice A t.f3.length c], .int .i64 deep, .pointer (some ⟨b, 0, none⟩)] w fun e w' => ∃ v,
      e = .returned (.tuple #[.agg #[.int .i64 res.1.f0, .string res.1.f1, .int .i64 res.1.f2, v], .bool res.2.1]) ∧ Kd.R k24 24 w' w.heap.size (fun _ => True) v res.1.f3 ∧ Fg b w w' ∧ CntAt w' b res.2.2 := by
  intro k
  induction k with
  | zero => intro t deep s res h; cases h
  | succ k ih =>
  intro t deep s res hres hwf w c A hM hC hc hB hb hs h0 h2 hd0 hd
  rw [fullS] at hres
  cases hq : walkS (strip L) W t 0 with
  | none => rw [hq] at hres; cases hres
  | some p =>
    rw [hq] at hres
    obtain ⟨⟨kd, nm, nt, xs⟩, v⟩ := p
    simp only at hres
    have hwx : wfT ⟨kd, nm, nt, xs⟩ := walkS_wf (fun k x hx => by
      rw [mget_strip] at hx
      cases hg : mget L k with
      | none => rw [hg] at hx; cases hx
      | some tv => rw [hg] at hx; cases hx; exact (hL k tv hg).2.2) W t 0 _ _ hq hwf
    exact full_gen (fullS (strip L) W k) (fullS_b _ _ k) w0 w b m deep s t A c v kd nm nt xs res
      (walk_any W L m w0 _ t ⟨kd, nm, nt, xs⟩ v A c hq hL ((hM.alloc _).alloc _) ⟨hC, hc, hwf⟩) hres hB hb hs h0 h2 hd0 hd
      (fun a ha deep s r hr w' c A hf hC hc hB hs h0 h2 hd0 hd => ih a deep s r hr (wfT_mem hwx ha) w' c A (hM.fg hf hm) hC hc hB hb hs h0 h2 hd0 hd)

end Go.Proofs.Ytpnkaggkedepeaa


/- The solver's solve, in plain words and walked. -/
namespace Go.Proofs.Ytpnkaggkedepeaa
set_option linter.unusedVariables false
open Go.RowKit Go.Maps Go.Proofs.YtpnkaggkedepeaaW.PrintWords Go.Proofs.YtpnkaggkedepeaaW.PrintLast Go.Proofs.YtpnkaggkedepeaaW.PrintMore Go.Proofs.Ytpnkaggkedepeaa.PTermTells Go.Extern

theorem info97 : (Try.prog.info? 97).map (fun i => (i.zero, i.size, i.bytes)) = some (some (.agg #[.int .i64 0, .string ⟨#[]⟩, .int .i64 0, .slice none 0 0, .int .i64 0, .string ⟨#[]⟩, .int .i64 0, .slice none 0 0]), 8, 112) := by kernel_rfl

/-- Can't two terms that are no variables be the same at their heads? -/
def clashT (x y : S24) : Bool :=
  if x.f0 = y.f0 then (if x.f0 = 2 then decide (x.f2 ≠ y.f2) else if x.f1.toList = y.f1.toList then (if x.f0 = 4 then decide (x.f3.length ≠ y.f3.length) else false) else true) else true

/-- Terms made the same: the bindings, and whether none clashed; none: not within so many steps. The pile's top is its head. -/
def solveS (W : Nat) : Nat → Sm → List (S24 × S24) → Option (Sm × Bool)
  | 0, _, _ => none
  | k + 1, S, [] => some (S, true)
  | k + 1, S, p :: r => match walkS S W p.1 0, walkS S W p.2 0 with
    | some (x, v), some (y, w) =>
      if 0 < v ∧ v = w then solveS W k S r
      else if x.f0 = 1 ∧ y.f0 = 1 then solveS W k (mput (max v w) ⟨1, ⟨#[]⟩, min v w, []⟩ S) r
      else if x.f0 = 1 then solveS W k (mput v y S) r
      else if y.f0 = 1 then solveS W k (mput w x S) r
      else if clashT x y = true then some (S, false)
      else if x.f0 = 4 then (if 8 < x.f3.length then none else solveS W k (if 0 < v ∧ 0 < w then mput w ⟨1, ⟨#[]⟩, v, []⟩ S else S) ((x.f3.zip y.f3).reverse ++ r))
      else solveS W k S r
    | _, _ => none

/-- A pair's cells. -/
def cellsP (p : Tv × Tv) : List Value := [.int .i64 p.1.1.f0, .string p.1.1.f1, .int .i64 p.1.1.f2, .slice p.1.2.1 p.1.1.f3.length p.1.2.2, .int .i64 p.2.1.f0, .string p.2.1.f1, .int .i64 p.2.1.f2, .slice p.2.2.1 p.2.1.f3.length p.2.2.2]
theorem cellsP_len (M : List (Tv × Tv)) : (M.flatMap cellsP).length = M.length * 8 := by
  induction M with
  | nil => rfl
  | cons a r ih => simp only [List.flatMap_cons, List.length_append, ih, List.length_cons]; simp [cellsP]; omega

theorem pile_last {W : World} {base : Nat} {A : Option Addr} {c : Nat} {M : List (Tv × Tv)} {p : Tv × Tv} (h : W.ownsRow base 97 8 (.slice A (M.length + 1) c) (M.length + 1) ((M ++ [p]).flatMap cellsP)) :
    ∃ g, A = some ⟨g, 0, none⟩ ∧ base ≤ g ∧ g < W.heap.size ∧ M.length + 1 ≤ c ∧ c ≤ maxLen ∧ ∀ j u, (cellsP p)[j]? = some u → W.cell? ⟨g, M.length * 8 + j, none⟩ = some u := by
  have hlt := World.ownsRow.lt h
  obtain ⟨g, rfl, hc1, hc2⟩ : ∃ g, A = some ⟨g, 0, none⟩ ∧ M.length + 1 ≤ c ∧ c ≤ maxLen := by
    rcases h.2 with ⟨hv, _⟩ | ⟨g, cap', cur, hv, _, _, h1, h2, _⟩
    · cases hv
    · injection hv with ha _ hc
      subst hc
      exact ⟨g, ha, h1, h2⟩
  have hg := hlt g rfl
  refine ⟨g, rfl, hg.1, hg.2, hc1, hc2, fun j u hj => ?_⟩
  have hj8 : j < 8 := by
    have := (List.getElem?_eq_some_iff.1 hj).1
    simpa [cellsP] using this
  rw [World.ownsRow.cellAt h (M.length * 8 + j) (by omega), List.flatMap_append, List.getElem?_append_right (by rw [cellsP_len]; omega), cellsP_len, Nat.add_sub_cancel_left]
  simpa using hj

theorem TmIn.put {w0 : World} {L : Tm} (h : TmIn w0 L) (k : Int) {t : S24} {A : Option Addr} {c : Nat} (ht : Lies w0 t A c) : TmIn w0 (mput k (t, A, c) L) := by
  intro j tv hj
  by_cases hjk : j = k
  · subst hjk
    rcases mem_mput.1 (mget_mem hj) with he | ⟨_, hne⟩
    · cases he; exact ⟨ht.C, ht.le, ht.wf⟩
    · exact absurd rfl hne
  · rw [mget_mput_other hjk] at hj
    exact h j tv hj
theorem length_mput_le {α : Type} (k : Int) (v : α) (L : List (Int × α)) : (mput k v L).length ≤ L.length + 1 := by
  unfold mput
  rw [length_minsert]
  have : (mrem k L).length ≤ L.length := List.length_filter_le _ _
  omega
theorem Lies.var (w0 : World) {n : Int} (hn : I64 n) : Lies w0 ⟨1, ⟨#[]⟩, n, []⟩ none 0 := ⟨Kd.C_nil _ _, Nat.zero_le _, by rw [wfT, wfL_nil]; exact ⟨hn, trivial⟩⟩
theorem walkS_i64 {S : Sm} (hS : ∀ k x, mget S k = some x → wfT x) : ∀ (n : Nat) (t : S24) (l : Int) (x : S24) (v : Int), walkS S n t l = some (x, v) → wfT t → I64 l → I64 v
  | 0, _, _, _, _, h, _, _ => by cases h
  | n + 1, t, l, x, v, h, ht, hl => by
    rw [walkS] at h
    by_cases h1 : t.f0 = 1
    · rw [if_pos h1] at h
      cases hg : mget S t.f2 with
      | none => rw [hg] at h; cases h; exact wfT_int ht
      | some y => rw [hg] at h; exact walkS_i64 hS n y _ x v h (hS _ _ hg) (wfT_int ht)
    · rw [if_neg h1] at h; cases h; exact hl
theorem TmIn.wf {w0 : World} {L : Tm} (h : TmIn w0 L) (k : Int) (x : S24) (hx : mget (strip L) k = some x) : wfT x := by
  rw [mget_strip] at hx
  cases hg : mget L k with
  | none => rw [hg] at hx; cases hx
  | some tv => rw [hg] at hx; cases hx; exact (h k tv hg).2.2
theorem Fg.turned {m : Nat} {w w' : World} (h : w.mapTurned w' m) : Fg m w w' := by
  have hg := h.grown
  exact ⟨hg.os, hg.tape, hg.output, hg.size, fun k hk hne => hg.block k hk (fun e => hne (Option.some.inj e))⟩

theorem clash_pure (x y : S24) : term_clash.f x.f0 x.f1 x.f2 x.f3 y.f0 y.f1 y.f2 y.f3 = some (clashT x y) := by
  unfold term_clash.f clashT
  by_cases h1 : x.f0 = y.f0
  · rw [if_pos h1, if_pos h1]
    by_cases h2 : x.f0 = 2
    · rw [if_pos h2, if_pos h2]
      congr 1
      by_cases h : x.f2 = y.f2 <;> simp [h]
    · rw [if_neg h2, if_neg h2]
      by_cases h3 : x.f1.toList = y.f1.toList
      · rw [if_pos h3, if_pos h3]
        by_cases h4 : x.f0 = 4
        · rw [if_pos h4, if_pos h4]
          congr 1
          by_cases h : x.f3.length = y.f3.length
          · simp [h]
          · have h' : ¬(x.f3.length : Int) = y.f3.length := by omega
            simp [h, h']
        · rw [if_neg h4, if_neg h4]
      · rw [if_neg h3, if_neg h3]
  · rw [if_neg h1, if_neg h1]

theorem clash_len {x y : S24} (h : clashT x y = false) (h4 : x.f0 = 4) : x.f3.length = y.f3.length := by
  unfold clashT at h
  by_cases h1 : x.f0 = y.f0
  · rw [if_pos h1, if_neg (by omega)] at h
    by_cases h3 : x.f1.toList = y.f1.toList
    · rw [if_pos h3, if_pos h4] at h
      simpa using h
    · rw [if_neg h3] at h; cases h
  · rw [if_neg h1] at h; cases h

theorem own_typed {W : World} {base n size : Nat} {e : TypeId} {v : Value} {xs : List Value} (h : W.ownsRow base e size v n xs) (q : Nat) (hq : v.ownBlock = some q) : ∃ cur, W.heap[q]? = some (.cells cur e (0, 0)) := by
  rcases h.2 with ⟨hv, _⟩ | ⟨g, cap, cur, hv, _, hg, _⟩
  · rw [hv] at hq; cases hq
  · rw [hv] at hq
    cases hq
    exact ⟨cur, hg⟩

/-- The names of the things that a pile's terms are. -/
def stP (p : Tv × Tv) : S24 × S24 := (p.1.1, p.2.1)

set_option maxHeartbeats 4000000 in
set_option maxRecDepth 100000 in
theorem solve_any (W K : Nat) (m : Nat) (w0 : World) (a b : S24) (A A' : Option Addr) (c c' : Nat) (w : World) (L0 : Tm) (S' : Sm) (ok : Bool)
    (hs : solveS W K (strip L0) [(a, b)] = some (S', ok)) (ha : Lies w0 a A c) (hb : Lies w0 b A' c') (hL0 : TmIn w0 L0) (hM0 : TmapAt w m L0) (hB0 : Below w0.heap.size w0 w) (hm : w0.heap.size ≤ m) (hK : K * 8 + L0.length < 100000000) :
    Calls Try.prog 59 #[.map (some m), .agg #[.int .i64 a.f0, .string a.f1, .int .i64 a.f2, .slice A a.f3.length c], .agg #[.int .i64 b.f0, .string b.f1, .int .i64 b.f2, .slice A' b.f3.length c']] w fun e w' => ∃ L,
      e = .returned (.bool ok) ∧ strip L = S' ∧ TmIn w0 L ∧ TmapAt w' m L ∧ Fg m w w' := by
  have hml := hM0.lt
  go_enter Try.func59, Try.ntmps59
  go_upto_region 2 with (fail)
  have hrow := World.ownsRow_lit (base := w.heap.size + 1 + 1) (e := 97) (size := 8) ((w.alloc (.cells #[.int .i64 a.f0, .string a.f1, .int .i64 a.f2, .slice A a.f3.length c] 24)).alloc (.cells #[.int .i64 b.f0, .string b.f1, .int .i64 b.f2, .slice A' b.f3.length c'] 24)) #[.int .i64 a.f0, .string a.f1, .int .i64 a.f2, .slice A a.f3.length c, .int .i64 b.f0, .string b.f1, .int .i64 b.f2, .slice A' b.f3.length c'] 1 (by simp) (by unfold maxLen; omega) (by rfl)
  rw [show ((w.alloc (.cells #[.int .i64 a.f0, .string a.f1, .int .i64 a.f2, .slice A a.f3.length c] 24)).alloc (.cells #[.int .i64 b.f0, .string b.f1, .int .i64 b.f2, .slice A' b.f3.length c'] 24)).heap.size = w.heap.size + 1 + 1 by simp] at hrow
  have hM3 := ((hM0.alloc (.cells #[.int .i64 a.f0, .string a.f1, .int .i64 a.f2, .slice A a.f3.length c] 24)).alloc (.cells #[.int .i64 b.f0, .string b.f1, .int .i64 b.f2, .slice A' b.f3.length c'] 24)).alloc (.cells #[.int .i64 a.f0, .string a.f1, .int .i64 a.f2, .slice A a.f3.length c, .int .i64 b.f0, .string b.f1, .int .i64 b.f2, .slice A' b.f3.length c'] 97)
  have hf3 := ((Fg.refl m w).alloc (.cells #[.int .i64 a.f0, .string a.f1, .int .i64 a.f2, .slice A a.f3.length c] 24)).alloc (.cells #[.int .i64 b.f0, .string b.f1, .int .i64 b.f2, .slice A' b.f3.length c'] 24) |>.alloc (.cells #[.int .i64 a.f0, .string a.f1, .int .i64 a.f2, .slice A a.f3.length c, .int .i64 b.f0, .string b.f1, .int .i64 b.f2, .slice A' b.f3.length c'] 97)
  have hsz3 : w.heap.size + 1 + 1 ≤ (((w.alloc (.cells #[.int .i64 a.f0, .string a.f1, .int .i64 a.f2, .slice A a.f3.length c] 24)).alloc (.cells #[.int .i64 b.f0, .string b.f1, .int .i64 b.f2, .slice A' b.f3.length c'] 24)).alloc (.cells #[.int .i64 a.f0, .string a.f1, .int .i64 a.f2, .slice A a.f3.length c, .int .i64 b.f0, .string b.f1, .int .i64 b.f2, .slice A' b.f3.length c'] 97)).heap.size := by simp
  generalize (((w.alloc (.cells #[.int .i64 a.f0, .string a.f1, .int .i64 a.f2, .slice A a.f3.length c] 24)).alloc (.cells #[.int .i64 b.f0, .string b.f1, .int .i64 b.f2, .slice A' b.f3.length c'] 24)).alloc (.cells #[.int .i64 a.f0, .string a.f1, .int .i64 a.f2, .slice A a.f3.length c, .int .i64 b.f0, .string b.f1, .int .i64 b.f2, .slice A' b.f3.length c'] 97)) = W3 at hrow hM3 hf3 hsz3 ⊢
  go_loopg [7] K (fun kq td wr => ∃ (L : Tm) (M : List (Tv × Tv)) (At : Option Addr) (ct : Nat), td = .slice At M.length ct ∧ solveS W kq (strip L) (M.map stP).reverse = some (S', ok) ∧ wr.ownsRow (w.heap.size + 1 + 1) 97 8 (.slice At M.length ct) M.length (M.flatMap cellsP) ∧ TmapAt wr m L ∧ TmIn w0 L ∧
    (∀ p ∈ M, Lies w0 p.1.1 p.1.2.1 p.1.2.2 ∧ Lies w0 p.2.1 p.2.2.1 p.2.2.2) ∧ Fg m w wr ∧ w.heap.size + 1 + 1 ≤ wr.heap.size ∧ M.length + kq * 8 ≤ K * 8 + 1 ∧ L.length + kq ≤ K + L0.length)
  case atStart => exact ⟨L0, [((a, A, c), (b, A', c'))], _, _, rfl, hs, hrow, hM3, hL0, (fun p hp => by rw [List.mem_singleton.1 hp]; exact ⟨ha, hb⟩), hf3, hsz3, by simp; omega, by omega⟩
  case round =>
    clear hrow hM3 hf3 hsz3 hs hM0 hL0 ha hb
    obtain ⟨L, M, At, ct, rfl, hs, hrow, hM, hL, hMl, hf, hsz, hb1, hb2⟩ := hrel
    have hBr := hf.below hB0 hm
    cases gk with
    | zero => exact absurd hs (by simp [solveS])
    | succ k =>
      rcases List.eq_nil_or_concat M with rfl | ⟨M', p, rfl⟩
      · simp only [List.map_nil, List.reverse_nil, solveS, Option.some.injEq, Prod.mk.injEq] at hs
        obtain ⟨rfl, rfl⟩ := hs
        simp only [List.length_nil] at hrow
        go_wp2
        go_ret
        exact ⟨L, rfl, rfl, hL, hM, hf⟩
      · rw [List.concat_eq_append] at hs hrow hMl hb1 ⊢
        simp only [List.map_append, List.map_cons, List.map_nil, List.reverse_append, List.reverse_cons, List.reverse_nil, List.nil_append, List.singleton_append, List.length_append, List.length_cons, List.length_nil, Nat.zero_add] at hs hrow hb1 ⊢
        obtain ⟨g, rfl, hg1, hg2, hct, hcm, hcell⟩ := pile_last hrow
        have hct' : M'.length ≤ ct := by omega
        have hpl := hMl p (by simp)
        have hMl' := fun q hq => hMl q (List.mem_append_left _ hq)
        have htk := own_take hrow (show M'.length ≤ M'.length + 1 by omega)
        obtain ⟨⟨a', aA, ac⟩, ⟨b', bA, bc⟩⟩ := p
        obtain ⟨hpa, hpb⟩ := hpl
        simp only at hpa hpb
        have z0 : wr.cell? ⟨g, M'.length * 8, none⟩ = some (.int .i64 a'.f0) := by simpa using hcell 0 _ rfl
        have z1 := hcell 1 _ rfl
        have z2 := hcell 2 _ rfl
        have z3 := hcell 3 _ rfl
        have z4 := hcell 4 _ rfl
        have z5 := hcell 5 _ rfl
        have z6 := hcell 6 _ rfl
        have z7 := hcell 7 _ rfl
        clear hcell
        rw [solveS] at hs
        simp only [stP] at hs
        obtain ⟨x, v, hx⟩ : ∃ x v, walkS (strip L) W a' 0 = some (x, v) := by
          cases h : walkS (strip L) W a' 0 with
          | none => rw [h] at hs; cases hs
          | some q => exact ⟨q.1, q.2, rfl⟩
        obtain ⟨y, v', hy⟩ : ∃ x v, walkS (strip L) W b' 0 = some (x, v) := by
          cases h : walkS (strip L) W b' 0 with
          | none => rw [hx, h] at hs; cases hs
          | some q => exact ⟨q.1, q.2, rfl⟩
        rw [hx, hy] at hs
        simp only at hs
        have kP := blk_new wr (.cells #[.int .i64 a'.f0, .string a'.f1, .int .i64 a'.f2, .slice aA a'.f3.length ac, .int .i64 b'.f0, .string b'.f1, .int .i64 b'.f2, .slice bA b'.f3.length bc] 97)
        have hw1 := walk_any W L m w0 _ a' x v aA ac hx hL (hM.alloc (.cells #[.int .i64 a'.f0, .string a'.f1, .int .i64 a'.f2, .slice aA a'.f3.length ac, .int .i64 b'.f0, .string b'.f1, .int .i64 b'.f2, .slice bA b'.f3.length bc] 97)) hpa
        have hw2 := fun W2 hM2 => walk_any W L m w0 W2 b' y v' bA bc hy hL hM2 hpb
        have hrow1 := World.ownsRow.alloc htk (.cells #[.int .i64 a'.f0, .string a'.f1, .int .i64 a'.f2, .slice aA a'.f3.length ac, .int .i64 b'.f0, .string b'.f1, .int .i64 b'.f2, .slice bA b'.f3.length bc] 97)
        have hM1 := hM.alloc (.cells #[.int .i64 a'.f0, .string a'.f1, .int .i64 a'.f2, .slice aA a'.f3.length ac, .int .i64 b'.f0, .string b'.f1, .int .i64 b'.f2, .slice bA b'.f3.length bc] 97)
        have hf1 := hf.alloc (.cells #[.int .i64 a'.f0, .string a'.f1, .int .i64 a'.f2, .slice aA a'.f3.length ac, .int .i64 b'.f0, .string b'.f1, .int .i64 b'.f2, .slice bA b'.f3.length bc] 97)
        rw [List.flatMap_append, List.take_left' (cellsP_len M')] at hrow1
        clear hrow htk
        go_wp2_with fail
        refine hw1.mono ?_
        rintro e w5 ⟨xA, xc, rfl, hxl, hb5⟩
        have kP5 := blk_alloc (blk_below kP hb5) (.cells #[.int .i64 x.f0, .string x.f1, .int .i64 x.f2, .slice xA x.f3.length xc] 24)
        have hrow5 := World.ownsRow.alloc (World.ownsRow.kept hrow1 ⟨hb5.os, hb5.tape, hb5.output, hb5.size, fun i hi _ => hb5.block i hi⟩ (Classical.em (_ = none))) (.cells #[.int .i64 x.f0, .string x.f1, .int .i64 x.f2, .slice xA x.f3.length xc] 24)
        have hM5 := (hM1.alike (hb5.block _ hM1.lt)).alloc (.cells #[.int .i64 x.f0, .string x.f1, .int .i64 x.f2, .slice xA x.f3.length xc] 24)
        have hf5 := (hf1.trans (Fg.of_below hb5)).alloc (.cells #[.int .i64 x.f0, .string x.f1, .int .i64 x.f2, .slice xA x.f3.length xc] 24)
        have kX5 := blk_new w5 (.cells #[.int .i64 x.f0, .string x.f1, .int .i64 x.f2, .slice xA x.f3.length xc] 24)
        have p4 : (w5.alloc (.cells #[.int .i64 x.f0, .string x.f1, .int .i64 x.f2, .slice xA x.f3.length xc] 24)).cell? ⟨wr.heap.size, 4, none⟩ = some (.int .i64 b'.f0) := blk_cell kP5 4
        have p5 : (w5.alloc (.cells #[.int .i64 x.f0, .string x.f1, .int .i64 x.f2, .slice xA x.f3.length xc] 24)).cell? ⟨wr.heap.size, 5, none⟩ = some (.string b'.f1) := blk_cell kP5 5
        have p6 : (w5.alloc (.cells #[.int .i64 x.f0, .string x.f1, .int .i64 x.f2, .slice xA x.f3.length xc] 24)).cell? ⟨wr.heap.size, 6, none⟩ = some (.int .i64 b'.f2) := blk_cell kP5 6
        have p7 : (w5.alloc (.cells #[.int .i64 x.f0, .string x.f1, .int .i64 x.f2, .slice xA x.f3.length xc] 24)).cell? ⟨wr.heap.size, 7, none⟩ = some (.slice bA b'.f3.length bc) := blk_cell kP5 7
        have hw3 := hw2 _ hM5
        clear hw1 hw2 kP hrow1 hM1 hf1 hM hf z0 z1 z2 z3 z4 z5 z6 z7
        go_wp2_with fail
        refine hw3.mono ?_
        rintro e w6 ⟨yA, yc, rfl, hyl, hb6⟩
        have hrow6 := World.ownsRow.alloc (World.ownsRow.kept hrow5 ⟨hb6.os, hb6.tape, hb6.output, hb6.size, fun i hi _ => hb6.block i hi⟩ (Classical.em (_ = none))) (.cells #[.int .i64 y.f0, .string y.f1, .int .i64 y.f2, .slice yA y.f3.length yc] 24)
        have hM6 := (hM5.alike (hb6.block _ hM5.lt)).alloc (.cells #[.int .i64 y.f0, .string y.f1, .int .i64 y.f2, .slice yA y.f3.length yc] 24)
        have hf6 := (hf5.trans (Fg.of_below hb6)).alloc (.cells #[.int .i64 y.f0, .string y.f1, .int .i64 y.f2, .slice yA y.f3.length yc] 24)
        have kX6 := blk_alloc (blk_below kX5 hb6) (.cells #[.int .i64 y.f0, .string y.f1, .int .i64 y.f2, .slice yA y.f3.length yc] 24)
        have kY6 := blk_new w6 (.cells #[.int .i64 y.f0, .string y.f1, .int .i64 y.f2, .slice yA y.f3.length yc] 24)
        have hsz6 : w.heap.size + 1 + 1 ≤ (w6.alloc (.cells #[.int .i64 y.f0, .string y.f1, .int .i64 y.f2, .slice yA y.f3.length yc] 24)).heap.size := by
          have h1 := hb5.size
          have h2 := hb6.size
          simp only [World.size_alloc] at h1 h2 ⊢
          omega
        have hw5 : w.heap.size + 1 + 1 ≤ w5.heap.size := by
          have h1 := hb5.size
          simp only [World.size_alloc] at h1
          omega
        have hw6 : w5.heap.size < w6.heap.size := by
          have h2 := hb6.size
          simp only [World.size_alloc] at h2
          omega
        clear hw3 hrow5 hM5 hf5 kX5 kP5 p4 p5 p6 p7 hb5 hb6
        go_upto_region 7 with (fail)
        generalize (w6.alloc (.cells #[.int .i64 y.f0, .string y.f1, .int .i64 y.f2, .slice yA y.f3.length yc] 24)) = W6 at hrow6 hM6 hf6 kX6 kY6 hsz6 ⊢
        have x0 : W6.cell? ⟨w5.heap.size, 0, none⟩ = some (.int .i64 x.f0) := blk_cell kX6 0
        have x1 : W6.cell? ⟨w5.heap.size, 1, none⟩ = some (.string x.f1) := blk_cell kX6 1
        have x2 : W6.cell? ⟨w5.heap.size, 2, none⟩ = some (.int .i64 x.f2) := blk_cell kX6 2
        have x3 : W6.cell? ⟨w5.heap.size, 3, none⟩ = some (.slice xA x.f3.length xc) := blk_cell kX6 3
        have y0 : W6.cell? ⟨w6.heap.size, 0, none⟩ = some (.int .i64 y.f0) := blk_cell kY6 0
        have y1 : W6.cell? ⟨w6.heap.size, 1, none⟩ = some (.string y.f1) := blk_cell kY6 1
        have y2 : W6.cell? ⟨w6.heap.size, 2, none⟩ = some (.int .i64 y.f2) := blk_cell kY6 2
        have y3 : W6.cell? ⟨w6.heap.size, 3, none⟩ = some (.slice yA y.f3.length yc) := blk_cell kY6 3
        have lX := blk_lt kX6
        have lY := blk_lt kY6
        have hvi := walkS_i64 hL.wf _ _ _ _ _ hx hpa.wf ⟨by omega, by omega⟩
        have hvi' := walkS_i64 hL.wf _ _ _ _ _ hy hpb.wf ⟨by omega, by omega⟩
        clear hx hy hpa hpb hMl
        go_cut [46] from 47 to 53 (fun cv wx => cv = .bool (decide (0 < v ∧ v = v')) ∧ wx = W6)
        case first =>
          cases e1 : decide (0 < v) with
          | true =>
            cases e2 : (v == v') with
            | true =>
              go_wp2_with fail
              go_meet
              case rel => exact ⟨by rw [decide_eq_true (show 0 < v ∧ v = v' from ⟨of_decide_eq_true e1, beq_iff_eq.mp e2⟩)], rfl⟩
            | false =>
              go_wp2_with fail
              go_meet
              case rel => exact ⟨by rw [decide_eq_false (show ¬(0 < v ∧ v = v') from fun h => beq_eq_false_iff_ne.mp e2 h.2)], rfl⟩
          | false =>
            go_wp2_with fail
            go_meet
            case rel => exact ⟨by rw [decide_eq_false (show ¬(0 < v ∧ v = v') from fun h => of_decide_eq_false e1 h.1)], rfl⟩
        case rest =>
        obtain ⟨rfl, rfl⟩ := hcut
        by_cases c1 : 0 < v ∧ v = v'
        · rw [if_pos c1] at hs
          rw [decide_eq_true c1]
          go_wp2
          go_roundg k
          case measure => omega
          case rel => exact ⟨L, M', _, _, rfl, hs, hrow6, hM6, hL, hMl', hf6, hsz6, by omega, by omega⟩
        rw [if_neg c1] at hs
        rw [decide_eq_false c1]
        go_upto_region 8 with (fail)
        go_cut [54] from 55 to 62 (fun cv wx => cv = .bool (decide (x.f0 = 1 ∧ y.f0 = 1)) ∧ wx = wc)
        case first =>
          cases e1 : (x.f0 == 1) with
          | true =>
            cases e2 : (y.f0 == 1) with
            | true =>
              go_wp2_with fail
              go_meet
              case rel => exact ⟨by rw [decide_eq_true (show x.f0 = 1 ∧ y.f0 = 1 from ⟨beq_iff_eq.mp e1, beq_iff_eq.mp e2⟩)], rfl⟩
            | false =>
              go_wp2_with fail
              go_meet
              case rel => exact ⟨by rw [decide_eq_false (show ¬(x.f0 = 1 ∧ y.f0 = 1) from fun h => beq_eq_false_iff_ne.mp e2 h.2)], rfl⟩
          | false =>
            go_wp2_with fail
            go_meet
            case rel => exact ⟨by rw [decide_eq_false (show ¬(x.f0 = 1 ∧ y.f0 = 1) from fun h => beq_eq_false_iff_ne.mp e1 h.1)], rfl⟩
        case rest =>
        obtain ⟨rfl, rfl⟩ := hcut
        by_cases c2 : x.f0 = 1 ∧ y.f0 = 1
        · rw [if_pos c2] at hs
          rw [decide_eq_true c2]
          by_cases hvv : v' < v
          · rw [show max v v' = v by omega, show min v v' = v' by omega] at hs
            have hkey := keyOf_int_mk Try.underlying2 hvi.wf
            go_wp2_with (at_mapUpdate; refine wpList_mapUpdate_in _ rfl _ _ _ 81 rfl 2 24 law2 Try.underlying81 _ m L.length _ rfl hM6 (by unfold maxLen; omega) _ _ _ rfl rfl hkey (.held (encT (⟨1, ⟨#[]⟩, v', []⟩, none, 0))) [] rfl ?_; intro w7 hown7 hturn7)
            have hM7 := putTm hown7
            have hf7 := Fg.turned hturn7
            have hrow7 := World.ownsRow.kept hrow6 hturn7.grown (.inr (fun e => by have := (hrow6.lt m e).1; omega))
            have hln := length_mput_le v ((⟨1, ⟨#[]⟩, v', []⟩, none, 0) : Tv) L
            have hsz7 := hf7.size
            go_roundg k
            case measure => omega
            case rel => exact ⟨mput v (⟨1, ⟨#[]⟩, v', []⟩, none, 0) L, M', _, _, rfl, by rw [strip_mput]; exact hs, hrow7, hM7, hL.put _ (Lies.var w0 hvi'), hMl', hf6.trans hf7, by omega, by omega, by omega⟩
          · by_cases hve : v = v'
            · subst hve
              rw [show max v v = v by omega, show min v v = v by omega] at hs
              have hkey := keyOf_int_mk Try.underlying2 hvi.wf
              go_wp2_with (at_mapUpdate; refine wpList_mapUpdate_in _ rfl _ _ _ 81 rfl 2 24 law2 Try.underlying81 _ m L.length _ rfl hM6 (by unfold maxLen; omega) _ _ _ rfl rfl hkey (.held (encT (⟨1, ⟨#[]⟩, v, []⟩, none, 0))) [] rfl ?_; intro w7 hown7 hturn7)
              have hM7 := putTm hown7
              have hf7 := Fg.turned hturn7
              have hrow7 := World.ownsRow.kept hrow6 hturn7.grown (.inr (fun e => by have := (hrow6.lt m e).1; omega))
              have hln := length_mput_le v ((⟨1, ⟨#[]⟩, v, []⟩, none, 0) : Tv) L
              have hsz7 := hf7.size
              go_roundg k
              case measure => omega
              case rel => exact ⟨mput v (⟨1, ⟨#[]⟩, v, []⟩, none, 0) L, M', _, _, rfl, by rw [strip_mput]; exact hs, hrow7, hM7, hL.put _ (Lies.var w0 hvi), hMl', hf6.trans hf7, by omega, by omega, by omega⟩
            · have hvl : v < v' := by omega
              rw [show max v v' = v' by omega, show min v v' = v by omega] at hs
              have hkey := keyOf_int_mk Try.underlying2 hvi'.wf
              go_wp2_with (at_mapUpdate; refine wpList_mapUpdate_in _ rfl _ _ _ 81 rfl 2 24 law2 Try.underlying81 _ m L.length _ rfl hM6 (by unfold maxLen; omega) _ _ _ rfl rfl hkey (.held (encT (⟨1, ⟨#[]⟩, v, []⟩, none, 0))) [] rfl ?_; intro w7 hown7 hturn7)
              have hM7 := putTm hown7
              have hf7 := Fg.turned hturn7
              have hrow7 := World.ownsRow.kept hrow6 hturn7.grown (.inr (fun e => by have := (hrow6.lt m e).1; omega))
              have hln := length_mput_le v' ((⟨1, ⟨#[]⟩, v, []⟩, none, 0) : Tv) L
              have hsz7 := hf7.size
              go_roundg k
              case measure => omega
              case rel => exact ⟨mput v' (⟨1, ⟨#[]⟩, v, []⟩, none, 0) L, M', _, _, rfl, by rw [strip_mput]; exact hs, hrow7, hM7, hL.put _ (Lies.var w0 hvi), hMl', hf6.trans hf7, by omega, by omega, by omega⟩
        rw [if_neg c2] at hs
        rw [decide_eq_false c2]
        go_upto_region 10 with (fail)
        by_cases c3 : x.f0 = 1
        · rw [if_pos c3] at hs
          have c3' : (x.f0 == 1) = true := beq_iff_eq.mpr c3
          have C3 := Lib.hid c3
          clear c3
          have hkey := keyOf_int_mk Try.underlying2 hvi.wf
          go_wp2_with (at_mapUpdate; refine wpList_mapUpdate_in _ rfl _ _ _ 81 rfl 2 24 law2 Try.underlying81 _ m L.length _ rfl hM6 (by unfold maxLen; omega) _ _ _ rfl rfl hkey (.held (encT (y, yA, yc))) [] rfl ?_; intro w7 hown7 hturn7)
          have hM7 := putTm hown7
          have hf7 := Fg.turned hturn7
          have hrow7 := World.ownsRow.kept hrow6 hturn7.grown (.inr (fun e => by have := (hrow6.lt m e).1; omega))
          have hln := length_mput_le v ((y, yA, yc) : Tv) L
          have hsz7 := hf7.size
          go_roundg k
          case measure => omega
          case rel => exact ⟨mput v (y, yA, yc) L, M', _, _, rfl, by rw [strip_mput]; exact hs, hrow7, hM7, hL.put _ hyl, hMl', hf6.trans hf7, by omega, by omega, by omega⟩
        rw [if_neg c3] at hs
        have c3' : (x.f0 == 1) = false := beq_eq_false_iff_ne.mpr c3
        by_cases c4 : y.f0 = 1
        · rw [if_pos c4] at hs
          have c4' : (y.f0 == 1) = true := beq_iff_eq.mpr c4
          have C4 := Lib.hid c4
          clear c4
          have hkey := keyOf_int_mk Try.underlying2 hvi'.wf
          go_wp2_with (at_mapUpdate; refine wpList_mapUpdate_in _ rfl _ _ _ 81 rfl 2 24 law2 Try.underlying81 _ m L.length _ rfl hM6 (by unfold maxLen; omega) _ _ _ rfl rfl hkey (.held (encT (x, xA, xc))) [] rfl ?_; intro w7 hown7 hturn7)
          have hM7 := putTm hown7
          have hf7 := Fg.turned hturn7
          have hrow7 := World.ownsRow.kept hrow6 hturn7.grown (.inr (fun e => by have := (hrow6.lt m e).1; omega))
          have hln := length_mput_le v' ((x, xA, xc) : Tv) L
          have hsz7 := hf7.size
          go_roundg k
          case measure => omega
          case rel => exact ⟨mput v' (x, xA, xc) L, M', _, _, rfl, by rw [strip_mput]; exact hs, hrow7, hM7, hL.put _ hxl, hMl', hf6.trans hf7, by omega, by omega, by omega⟩
        rw [if_neg c4] at hs
        have c4' : (y.f0 == 1) = false := beq_eq_false_iff_ne.mpr c4
        have hcl := term_clash.calls x.f0 x.f1 x.f2 xA xc x.f3 y.f0 y.f1 y.f2 yA yc y.f3 (clashT x y) wc (Kd.C_below hxl.C (hf6.below hB0 hm)) hxl.le (Kd.C_below hyl.C (hf6.below hB0 hm)) hyl.le (clash_pure x y)
        go_wp2_with fail
        refine hcl.mono ?_
        rintro e w8 ⟨rfl, hb8⟩
        have hrow8 := World.ownsRow.kept hrow6 ⟨hb8.os, hb8.tape, hb8.output, hb8.size, fun i hi _ => hb8.block i hi⟩ (Classical.em (_ = none))
        have hM8 := hM6.alike (hb8.block _ hM6.lt)
        have hf8 := hf6.trans (Fg.of_below hb8)
        have kX8 := blk_below kX6 hb8
        have kY8 := blk_below kY6 hb8
        have hsz8 := hb8.size
        clear hcl hb8 x0 x1 x2 x3 y0 y1 y2 y3 hrow6 hM6 hf6 kX6 kY6 lX lY
        have x0 : w8.cell? ⟨w5.heap.size, 0, none⟩ = some (.int .i64 x.f0) := blk_cell kX8 0
        have x3 : w8.cell? ⟨w5.heap.size, 3, none⟩ = some (.slice xA x.f3.length xc) := blk_cell kX8 3
        have lX := blk_lt kX8
        have lY := blk_lt kY8
        cases hc : clashT x y with
        | true =>
          rw [if_pos hc] at hs
          simp only [Option.some.injEq, Prod.mk.injEq] at hs
          obtain ⟨rfl, rfl⟩ := hs
          go_wp2
          go_ret
          exact ⟨L, rfl, rfl, hL, hM8, hf8⟩
        | false =>
        rw [hc] at hs
        simp only [Bool.false_eq_true, if_false] at hs
        by_cases c5 : ¬x.f0 = 4
        · rw [if_neg c5] at hs
          have c5' : (x.f0 == 4) = false := beq_eq_false_iff_ne.mpr c5
          go_wp2
          go_roundg k
          case measure => omega
          case rel => exact ⟨L, M', _, _, rfl, hs, hrow8, hM8, hL, hMl', hf8, by omega, by omega, by omega⟩
        have c5 := Classical.not_not.mp c5
        rw [if_pos c5] at hs
        have c5' : (x.f0 == 4) = true := beq_iff_eq.mpr c5
        have hlen : x.f3.length = y.f3.length := clash_len hc c5
        have hx8 : x.f3.length ≤ 8 := by
          by_cases h : 8 < x.f3.length
          · rw [if_pos h] at hs; cases hs
          · omega
        rw [if_neg (by omega)] at hs
        have C5 := Lib.hid c5
        clear c5
        go_upto_region 17 with (fail)
        go_cut [98] from 93 to 97 (fun cv wx => cv = .bool (decide (0 < v ∧ 0 < v')) ∧ wx = w8)
        case first =>
          cases e1 : decide (0 < v) with
          | true =>
            cases e2 : decide (0 < v') with
            | true =>
              go_wp2_with fail
              go_meet
              case rel => exact ⟨by rw [decide_eq_true (show 0 < v ∧ 0 < v' from ⟨of_decide_eq_true e1, of_decide_eq_true e2⟩)], rfl⟩
            | false =>
              go_wp2_with fail
              go_meet
              case rel => exact ⟨by rw [decide_eq_false (show ¬(0 < v ∧ 0 < v') from fun h => of_decide_eq_false e2 h.2)], rfl⟩
          | false =>
            go_wp2_with fail
            go_meet
            case rel => exact ⟨by rw [decide_eq_false (show ¬(0 < v ∧ 0 < v') from fun h => of_decide_eq_false e1 h.1)], rfl⟩
        case rest =>
        obtain ⟨rfl, rfl⟩ := hcut
        go_upto_if 98 with (fail)
        go_cut [98] from 99 to 102 (fun cv wx => ∃ L' : Tm, strip L' = (if 0 < v ∧ 0 < v' then mput v' ⟨1, ⟨#[]⟩, v, []⟩ (strip L) else strip L) ∧ TmIn w0 L' ∧ L'.length ≤ L.length + 1 ∧ TmapAt wx m L' ∧ Fg m w wx ∧ w.heap.size + 1 + 1 ≤ wx.heap.size ∧
          wx.ownsRow (w.heap.size + 1 + 1) 97 8 (.slice (some ⟨g, 0, none⟩) M'.length ct) M'.length (M'.flatMap cellsP) ∧ wx.heap[w5.heap.size]? = some (.cells #[.int .i64 x.f0, .string x.f1, .int .i64 x.f2, .slice xA x.f3.length xc] 24 (0, 0)) ∧ wx.heap[w6.heap.size]? = some (.cells #[.int .i64 y.f0, .string y.f1, .int .i64 y.f2, .slice yA y.f3.length yc] 24 (0, 0)))
        case first =>
          by_cases e1 : 0 < v ∧ 0 < v'
          · rw [decide_eq_true e1]
            have hkey := keyOf_int_mk Try.underlying2 hvi'.wf
            go_wp2_with (at_mapUpdate; refine wpList_mapUpdate_in _ rfl _ _ _ 81 rfl 2 24 law2 Try.underlying81 _ m L.length _ rfl hM8 (by unfold maxLen; omega) _ _ _ rfl rfl hkey (.held (encT (⟨1, ⟨#[]⟩, v, []⟩, none, 0))) [] rfl ?_; intro w7 hown7 hturn7)
            have hM7 := putTm hown7
            have hf7 := Fg.turned hturn7
            have hg7 := hturn7.grown
            have hsz7 := hf7.size
            go_meet
            case rel => exact ⟨mput v' (⟨1, ⟨#[]⟩, v, []⟩, none, 0) L, by rw [if_pos e1, strip_mput], hL.put _ (Lies.var w0 hvi), length_mput_le _ _ _, hM7, hf8.trans hf7, by omega, World.ownsRow.kept hrow8 hg7 (.inr (fun e => by have := (hrow8.lt m e).1; omega)), blk_grown kX8 hg7 (fun e => by have := Option.some.inj e; omega), blk_grown kY8 hg7 (fun e => by have := Option.some.inj e; omega)⟩
          · rw [decide_eq_false e1]
            go_wp2_with fail
            go_meet
            case rel => exact ⟨L, by rw [if_neg e1], hL, by omega, hM8, hf8, by omega, hrow8, kX8, kY8⟩
        case rest =>
        clear hrow8 hM8 hf8 kX8 kY8 x0 x3 lX lY hL
        obtain ⟨L', hL's, hL', hLl, hM9, hf9, hsz9, hrow9, kX9, kY9⟩ := hcut
        rw [← hL's] at hs
        have x3 : wc.cell? ⟨w5.heap.size, 3, none⟩ = some (.slice xA x.f3.length xc) := blk_cell kX9 3
        have hmx := hxl.C.2.1
        go_wp2
        go_loopw [7, 106] (fun td i wr2 => ∃ (j : Nat) (M2 : List (Tv × Tv)) (A2 : Option Addr) (c2 : Nat), j ≤ x.f3.length ∧ td = .slice A2 M2.length c2 ∧ i = .int .i64 j ∧ M2.map stP = M'.map stP ++ (x.f3.zip y.f3).take j ∧ M2.length = M'.length + j ∧
          wr2.ownsRow (w.heap.size + 1 + 1) 97 8 (.slice A2 M2.length c2) M2.length (M2.flatMap cellsP) ∧ (∀ p ∈ M2, Lies w0 p.1.1 p.1.2.1 p.1.2.2 ∧ Lies w0 p.2.1 p.2.2.1 p.2.2.2) ∧ TmapAt wr2 m L' ∧ Fg m w wr2 ∧ w.heap.size + 1 + 1 ≤ wr2.heap.size ∧
          wr2.heap[w5.heap.size]? = some (.cells #[.int .i64 x.f0, .string x.f1, .int .i64 x.f2, .slice xA x.f3.length xc] 24 (0, 0)) ∧ wr2.heap[w6.heap.size]? = some (.cells #[.int .i64 y.f0, .string y.f1, .int .i64 y.f2, .slice yA y.f3.length yc] 24 (0, 0)))
          (fun _ i _ => x.f3.length - (intOf i).toNat)
        case atStart => exact ⟨0, M', _, _, Nat.zero_le _, rfl, rfl, by simp, by omega, hrow9, hMl', hM9, hf9, hsz9, kX9, kY9⟩
        case round =>
          clear hrow9 hM9 hf9 hsz9 kX9 kY9 x3
          obtain ⟨j, M2, A2, c2, hj, rfl, rfl, hms, hml2, hrow2, hML2, hM2, hf2, hsz2, kX2, kY2⟩ := hrel
          by_cases hlt : j < x.f3.length
          · have hBr2 := hf2.below hB0 hm
            obtain ⟨adx, A3, c3, hxA, s0, s1, s2, s3, l3, g3⟩ := C_rd hxl.C j hlt rfl
            obtain ⟨ady, A4, c4, hyA, r0, r1, r2, r3, l4, g4⟩ := C_rd hyl.C j (by omega) rfl
            subst hxA
            subst hyA
            have hwx := wfT_mem hxl.wf (List.getElem_mem hlt)
            have hwy := wfT_mem hyl.wf (List.getElem_mem (show j < y.f3.length by omega))
            have hzt : (x.f3.zip y.f3).take (j + 1) = (x.f3.zip y.f3).take j ++ [(x.f3[j], y.f3[j]'(by omega))] := by
              rw [List.take_succ_eq_append_getElem (by rw [List.length_zip]; omega), List.getElem_zip]
            have hbx := World.block_lt_of_cell? w0 _ s0
            have hby := World.block_lt_of_cell? w0 _ r0
            have hB0s := hB0.size
            replace s0 := (hBr2.cell (World.block_lt_of_cell? w0 _ s0)).trans s0
            replace s1 := (hBr2.cell (World.block_lt_of_cell? w0 _ s1)).trans s1
            replace s2 := (hBr2.cell (World.block_lt_of_cell? w0 _ s2)).trans s2
            replace s3 := (hBr2.cell (World.block_lt_of_cell? w0 _ s3)).trans s3
            replace r0 := (hBr2.cell (World.block_lt_of_cell? w0 _ r0)).trans r0
            replace r1 := (hBr2.cell (World.block_lt_of_cell? w0 _ r1)).trans r1
            replace r2 := (hBr2.cell (World.block_lt_of_cell? w0 _ r2)).trans r2
            replace r3 := (hBr2.cell (World.block_lt_of_cell? w0 _ r3)).trans r3
            have hlty : j < y.f3.length := by omega
            generalize x.f3[j] = u at s0 s1 s2 s3 l3 g3 hwx hzt
            generalize y.f3[j] = t at r0 r1 r2 r3 l4 g4 hwy hzt
            have x3 : wr.cell? ⟨w5.heap.size, 3, none⟩ = some (.slice (some adx) x.f3.length xc) := blk_cell kX2 3
            have y3 : wr.cell? ⟨w6.heap.size, 3, none⟩ = some (.slice (some ady) y.f3.length yc) := blk_cell kY2 3
            have lX := blk_lt kX2
            have lY := blk_lt kY2
            have hbnd : (M2.length + 1) * 112 ≤ 140737488355328 := by omega
            have HML := Lib.hid hml2
            clear hml2
            go_upto_region 22 with (fail)
            have hone : ∀ q ∈ cellsP ((u, A3, c3), (t, A4, c4)), q.oneCell' = true := by simp [cellsP, Value.oneCell']
            have hS0 : (fun W : World => W.cell? ⟨w5.heap.size, 3, none⟩ = some (.slice (some adx) x.f3.length xc) ∧ W.cell? ⟨w6.heap.size, 3, none⟩ = some (.slice (some ady) y.f3.length yc) ∧ W.cell? (adx.add (j * 4)) = some (.int .i64 u.f0) ∧ W.cell? ⟨(adx.add (j * 4)).block, (adx.add (j * 4)).off + 1, none⟩ = some (.string u.f1) ∧ W.cell? ⟨(adx.add (j * 4)).block, (adx.add (j * 4)).off + 2, none⟩ = some (.int .i64 u.f2) ∧ W.cell? ⟨(adx.add (j * 4)).block, (adx.add (j * 4)).off + 3, none⟩ = some (.slice A3 u.f3.length c3) ∧ W.cell? (ady.add (j * 4)) = some (.int .i64 t.f0) ∧ W.cell? ⟨(ady.add (j * 4)).block, (ady.add (j * 4)).off + 1, none⟩ = some (.string t.f1) ∧ W.cell? ⟨(ady.add (j * 4)).block, (ady.add (j * 4)).off + 2, none⟩ = some (.int .i64 t.f2) ∧ W.cell? ⟨(ady.add (j * 4)).block, (ady.add (j * 4)).off + 3, none⟩ = some (.slice A4 t.f3.length c4)) wr.drew := ⟨x3, y3, s0, s1, s2, s3, r0, r1, r2, r3⟩
            have hS1 : ∀ o, (fun W : World => W.cell? ⟨w5.heap.size, 3, none⟩ = some (.slice (some adx) x.f3.length xc) ∧ W.cell? ⟨w6.heap.size, 3, none⟩ = some (.slice (some ady) y.f3.length yc) ∧ W.cell? (adx.add (j * 4)) = some (.int .i64 u.f0) ∧ W.cell? ⟨(adx.add (j * 4)).block, (adx.add (j * 4)).off + 1, none⟩ = some (.string u.f1) ∧ W.cell? ⟨(adx.add (j * 4)).block, (adx.add (j * 4)).off + 2, none⟩ = some (.int .i64 u.f2) ∧ W.cell? ⟨(adx.add (j * 4)).block, (adx.add (j * 4)).off + 3, none⟩ = some (.slice A3 u.f3.length c3) ∧ W.cell? (ady.add (j * 4)) = some (.int .i64 t.f0) ∧ W.cell? ⟨(ady.add (j * 4)).block, (ady.add (j * 4)).off + 1, none⟩ = some (.string t.f1) ∧ W.cell? ⟨(ady.add (j * 4)).block, (ady.add (j * 4)).off + 2, none⟩ = some (.int .i64 t.f2) ∧ W.cell? ⟨(ady.add (j * 4)).block, (ady.add (j * 4)).off + 3, none⟩ = some (.slice A4 t.f3.length c4)) (wr.drew.alloc o) := fun o => by
              obtain ⟨x3, y3, s0, s1, s2, s3, r0, r1, r2, r3⟩ := hS0
              have hb := below_alloc (Below.refl wr.drew.heap.size wr.drew) o
              exact ⟨(hb.cell (World.block_lt_of_cell? wr.drew _ x3)).trans x3, (hb.cell (World.block_lt_of_cell? wr.drew _ y3)).trans y3, (hb.cell (World.block_lt_of_cell? wr.drew _ s0)).trans s0, (hb.cell (World.block_lt_of_cell? wr.drew _ s1)).trans s1, (hb.cell (World.block_lt_of_cell? wr.drew _ s2)).trans s2, (hb.cell (World.block_lt_of_cell? wr.drew _ s3)).trans s3, (hb.cell (World.block_lt_of_cell? wr.drew _ r0)).trans r0, (hb.cell (World.block_lt_of_cell? wr.drew _ r1)).trans r1, (hb.cell (World.block_lt_of_cell? wr.drew _ r2)).trans r2, (hb.cell (World.block_lt_of_cell? wr.drew _ r3)).trans r3⟩
            have hrow3 : wr.drew.ownsRow (w.heap.size + 1 + 1) 97 8 (.slice A2 M2.length c2) M2.length (M2.flatMap cellsP) := hrow2
            have hsz3 : w.heap.size + 1 + 1 ≤ wr.drew.heap.size := hsz2
            have hown : ∀ q, (Value.slice A2 M2.length c2).ownBlock = some q → w.heap.size + 1 + 1 ≤ q ∧ q ≠ w5.heap.size ∧ q ≠ w6.heap.size := fun q hq => by
              obtain ⟨cur, hcur⟩ := own_typed hrow3 q hq
              have hcur' : wr.heap[q]? = some (.cells cur 97 (0, 0)) := hcur
              exact ⟨(hrow3.lt q hq).1, blk_ne hcur' kX2 (by decide), blk_ne hcur' kY2 (by decide)⟩
            have hS9 : ∀ w9, wr.drew.grownBy w9 (Value.slice A2 M2.length c2).ownBlock → (fun W : World => W.cell? ⟨w5.heap.size, 3, none⟩ = some (.slice (some adx) x.f3.length xc) ∧ W.cell? ⟨w6.heap.size, 3, none⟩ = some (.slice (some ady) y.f3.length yc) ∧ W.cell? (adx.add (j * 4)) = some (.int .i64 u.f0) ∧ W.cell? ⟨(adx.add (j * 4)).block, (adx.add (j * 4)).off + 1, none⟩ = some (.string u.f1) ∧ W.cell? ⟨(adx.add (j * 4)).block, (adx.add (j * 4)).off + 2, none⟩ = some (.int .i64 u.f2) ∧ W.cell? ⟨(adx.add (j * 4)).block, (adx.add (j * 4)).off + 3, none⟩ = some (.slice A3 u.f3.length c3) ∧ W.cell? (ady.add (j * 4)) = some (.int .i64 t.f0) ∧ W.cell? ⟨(ady.add (j * 4)).block, (ady.add (j * 4)).off + 1, none⟩ = some (.string t.f1) ∧ W.cell? ⟨(ady.add (j * 4)).block, (ady.add (j * 4)).off + 2, none⟩ = some (.int .i64 t.f2) ∧ W.cell? ⟨(ady.add (j * 4)).block, (ady.add (j * 4)).off + 3, none⟩ = some (.slice A4 t.f3.length c4)) w9 := fun w9 hg => by
              obtain ⟨x3, y3, s0, s1, s2, s3, r0, r1, r2, r3⟩ := hS0
              exact ⟨(hg.cell_far _ (World.block_lt_of_cell? _ _ x3) (fun e => (hown _ e.symm).2.1 rfl)).trans x3, (hg.cell_far _ (World.block_lt_of_cell? _ _ y3) (fun e => (hown _ e.symm).2.2 rfl)).trans y3, (hg.cell_far _ (World.block_lt_of_cell? _ _ s0) (fun e => by have := (hown _ e.symm).1; omega)).trans s0, (hg.cell_far _ (World.block_lt_of_cell? _ _ s1) (fun e => by have := (hown _ e.symm).1; simp only at this; omega)).trans s1, (hg.cell_far _ (World.block_lt_of_cell? _ _ s2) (fun e => by have := (hown _ e.symm).1; simp only at this; omega)).trans s2, (hg.cell_far _ (World.block_lt_of_cell? _ _ s3) (fun e => by have := (hown _ e.symm).1; simp only at this; omega)).trans s3, (hg.cell_far _ (World.block_lt_of_cell? _ _ r0) (fun e => by have := (hown _ e.symm).1; omega)).trans r0, (hg.cell_far _ (World.block_lt_of_cell? _ _ r1) (fun e => by have := (hown _ e.symm).1; simp only at this; omega)).trans r1, (hg.cell_far _ (World.block_lt_of_cell? _ _ r2) (fun e => by have := (hown _ e.symm).1; simp only at this; omega)).trans r2, (hg.cell_far _ (World.block_lt_of_cell? _ _ r3) (fun e => by have := (hown _ e.symm).1; simp only at this; omega)).trans r3⟩
            go_region_held3 (fun W : World => W.cell? ⟨w5.heap.size, 3, none⟩ = some (.slice (some adx) x.f3.length xc) ∧ W.cell? ⟨w6.heap.size, 3, none⟩ = some (.slice (some ady) y.f3.length yc) ∧ W.cell? (adx.add (j * 4)) = some (.int .i64 u.f0) ∧ W.cell? ⟨(adx.add (j * 4)).block, (adx.add (j * 4)).off + 1, none⟩ = some (.string u.f1) ∧ W.cell? ⟨(adx.add (j * 4)).block, (adx.add (j * 4)).off + 2, none⟩ = some (.int .i64 u.f2) ∧ W.cell? ⟨(adx.add (j * 4)).block, (adx.add (j * 4)).off + 3, none⟩ = some (.slice A3 u.f3.length c3) ∧ W.cell? (ady.add (j * 4)) = some (.int .i64 t.f0) ∧ W.cell? ⟨(ady.add (j * 4)).block, (ady.add (j * 4)).off + 1, none⟩ = some (.string t.f1) ∧ W.cell? ⟨(ady.add (j * 4)).block, (ady.add (j * 4)).off + 2, none⟩ = some (.int .i64 t.f2) ∧ W.cell? ⟨(ady.add (j * 4)).block, (ady.add (j * 4)).off + 3, none⟩ = some (.slice A4 t.f3.length c4)) (first | exact hS0 | exact hS1 _ | exact hS9 _ (by assumption))
              (first | (refine step_append_cells (w0 := wr.drew) (w.heap.size + 1 + 1) (by kernel_rfl) (.tmp 109) (.tmp 121) 98 97 (.agg #[.int .i64 0, .string ⟨#[]⟩, .int .i64 0, .slice none 0 0, .int .i64 0, .string ⟨#[]⟩, .int .i64 0, .slice none 0 0]) 8 112 rfl Try.underlying98 info97 rfl (by decide) (by omega) (.slice A2 M2.length c2) M2.length (M2.flatMap cellsP) (cellsP ((u, A3, c3), (t, A4, c4))) rfl rfl rfl hone hrow3 (Below.refl _ _) hsz3 hbnd ?_; intro v9 w9 hrow9 hb9 hg9 hat9))
            have hml2 := HML.out
            have hfl : (M2 ++ [(((u, A3, c3) : Tv), ((t, A4, c4) : Tv))]).flatMap cellsP = M2.flatMap cellsP ++ cellsP ((u, A3, c3), (t, A4, c4)) := by simp
            have hl2 : (M2 ++ [(((u, A3, c3) : Tv), ((t, A4, c4) : Tv))]).length = M2.length + 1 := by simp
            have hM3 : TmapAt wr.drew m L' := hM2.alike rfl
            have hf3 : Fg m w wr.drew := hf2.drew
            have kX3 : wr.drew.heap[w5.heap.size]? = some (.cells #[.int .i64 x.f0, .string x.f1, .int .i64 x.f2, .slice (some adx) x.f3.length xc] 24 (0, 0)) := kX2
            have kY3 : wr.drew.heap[w6.heap.size]? = some (.cells #[.int .i64 y.f0, .string y.f1, .int .i64 y.f2, .slice (some ady) y.f3.length yc] 24 (0, 0)) := kY2
            have hM9 := hM3.alike (hg9.block _ hM3.lt (fun e => by have := (hown _ e.symm).1; omega))
            have hf9 : Fg m w w9 := ⟨hg9.os.trans hf3.os, hg9.tape.trans hf3.tape, hg9.output.trans hf3.output, Nat.le_trans hf3.size hg9.size, fun q hq hne => (hg9.block q (by have := hf3.size; omega) (fun e => by have := (hown q e.symm).1; omega)).trans (hf3.block q hq hne)⟩
            have kX9 := blk_grown kX3 hg9 (fun e => (hown _ e.symm).2.1 rfl)
            have kY9 := blk_grown kY3 hg9 (fun e => (hown _ e.symm).2.2 rfl)
            have hsz9 := hg9.size
            clear hS0 hS1 hS9 hone hb9 hat9 s0 s1 s2 s3 r0 r1 r2 r3 x3 y3 kX2 kY2 kX3 kY3 hM2 hM3 hBr2
            obtain ⟨A5, c5, rfl⟩ := own_slice hrow9
            have hjm : j + 1 ≤ x.f3.length := by omega
            have HML2 := Lib.hid hml2
            clear hml2
            go_wp2
            have hml2 := HML2.out
            refine ⟨⟨j + 1, M2 ++ [((u, A3, c3), (t, A4, c4))], A5, c5, hjm, by rw [hl2], by push_cast; rfl, by rw [List.map_append, hms, hzt, List.append_assoc]; rfl, by rw [hl2]; omega, by rw [hl2, hfl]; exact hrow9, (fun p hp => by
              rcases List.mem_append.1 hp with h | h
              · exact hML2 p h
              · rw [List.mem_singleton.1 h]; exact ⟨⟨g3, l3, hwx⟩, ⟨g4, l4, hwy⟩⟩), hM9, hf9, by omega, kX9, kY9⟩, ?_⟩
            simp [intOf]; omega
          · obtain rfl : j = x.f3.length := by omega
            rw [List.take_of_length_le (by rw [List.length_zip]; omega)] at hms
            go_wp2
            go_roundg k
            case measure => omega
            case rel => exact ⟨L', M2, A2, c2, rfl, by rw [hms, List.reverse_append]; exact hs, hrow2, hM2, hL', hML2, hf2, hsz2, by omega, by omega⟩

end Go.Proofs.Ytpnkaggkedepeaa


/- The solver's loops: does a bound variable's term stand within itself? In plain words and walked. -/
namespace Go.Proofs.Ytpnkaggkedepeaa
set_option linter.unusedVariables false
open Go.RowKit Go.Maps Go.Proofs.YtpnkaggkedepeaaW.PrintWords Go.Proofs.YtpnkaggkedepeaaW.PrintLast Go.Proofs.YtpnkaggkedepeaaW.PrintMore Go.Proofs.Ytpnkaggkedepeaa.PTermTells Go.Extern

abbrev Seen := List (Int × Int)
/-- The marks in block b. -/
def SeenAt (w : World) (b : Nat) (L : Seen) : Prop := w.ownsMap Try.prog 2 rawE b L.length (mdat (Value.int .i64) L)
def seenV (L : Seen) (v : Int) : Int := (mget L v).getD 0
theorem zero3 (w : World) : (zeroValue 3).run Try.prog w = .ok (.int .i64 0) w := by kernel_rfl
theorem lookS {w : World} {b : Nat} {L : Seen} (mt : TypeId) (hmt : Try.prog.underlying mt = some (.map 2 3)) (h : SeenAt w b L) {m : Int} (hm : I64 m) :
    (Instr.lookup mt (.map (some b)) (.int .i64 m) false).run Try.prog w = .ok (.int .i64 (seenV L m)) w := by
  have hh := mdat_has (Value.int .i64) m L
  have ha := mdat_at (Value.int .i64) m (.int .i64 0) L
  obtain ⟨es, clock, hb, F, _, hD⟩ := h
  rw [hD] at hh ha
  rcases Maps.fit_look false law2 hmt (zero3 w) hb F (keyOf_int_mk Try.underlying2 hm.wf) with ⟨hrun, _, hat⟩ | ⟨e0, y, _, _, hrun, hRv, hat, _⟩
  · rw [hrun]
    rw [Maps.has_false_of_atKey hat] at hh
    have hn : mget L m = none := by cases hg : mget L m <;> simp [hg] at hh ⊢
    unfold seenV
    rw [hn]
    rfl
  · rw [hrun]
    rw [Maps.has_true_of_atKey hat] at hh
    rw [hat] at ha
    unfold rawE at hRv
    simp only [Option.some.injEq] at hRv
    subst hRv
    cases hg : mget L m with
    | none => simp [hg] at hh
    | some v =>
      simp only [hg, DataW.held.injEq] at ha
      simp [seenV, hg, ha]
theorem tightS {w : World} {b n : Nat} {L : Seen} (h : w.ownsMap Try.prog 2 rawE b n (mdat (Value.int .i64) L)) : SeenAt w b L := by
  have hs := mdat_size (Value.int .i64) L
  obtain ⟨es, clock, hb, F, hn, hD⟩ := h
  refine ⟨es, clock, hb, F, ?_, hD⟩
  rw [hD] at hs
  simp only [Maps.size, length_sorted, List.length_map, Array.length_toList] at hs
  omega
theorem putSn {w' : World} {b n : Nat} {L : Seen} {k p : Int} (h1 : w'.ownsMap Try.prog 2 rawE b n ((mdat (Value.int .i64) L).put (.int .i64 k) (.held (.int .i64 p)))) : SeenAt w' b (mput k p L) := by
  have h2 := mdat_put (Value.int .i64) k p L
  rw [h2] at h1
  exact tightS h1
theorem SeenAt.alike {w w' : World} {b : Nat} {L} (h : SeenAt w b L) (hb : w'.heap[b]? = w.heap[b]?) : SeenAt w' b L := by
  obtain ⟨es, clock, h1, h2⟩ := h
  exact ⟨es, clock, hb.trans h1, h2⟩
theorem SeenAt.lt {w : World} {b : Nat} {L} (h : SeenAt w b L) : b < w.heap.size := by
  obtain ⟨es, clock, h1, h2⟩ := h
  exact blk_lt h1
theorem SeenAt.alloc {w : World} {b : Nat} {L} (h : SeenAt w b L) (o : Obj) : SeenAt (w.alloc o) b L := by
  obtain ⟨es, clock, h1, h2⟩ := h
  exact ⟨es, clock, blk_alloc h1 o, h2⟩
theorem SeenAt.new (w : World) : SeenAt (w.alloc (.map #[] 0)) w.heap.size [] := World.ownsMap_made (H := Value) w Try.prog 2 rawE

/-- Does any term stand within itself? -/
def anyP (F : S24 → Seen → Option (Bool × Seen)) : List S24 → Seen → Option (Bool × Seen)
  | [], s => some (false, s)
  | a :: r, s => match F a s with
    | none => none
    | some q => if q.1 = true then some (true, q.2) else anyP F r q.2
theorem anyP_cons (F : S24 → Seen → Option (Bool × Seen)) (a : S24) (r : List S24) (s : Seen) : anyP F (a :: r) s = match F a s with
    | none => none
    | some q => if q.1 = true then some (true, q.2) else anyP F r q.2 := by rw [anyP]
/-- Does a term stand within itself? None: not within so many steps. -/
def loopsP (S : Sm) : Nat → S24 → Seen → Option (Bool × Seen)
  | 0, _, _ => none
  | k + 1, t, s =>
    if t.f0 = 4 then anyP (loopsP S k) t.f3 s
    else match mget S t.f2 with
      | none => some (false, s)
      | some x => if t.f0 ≠ 1 ∨ seenV s t.f2 = 2 then some (false, s) else if seenV s t.f2 = 1 then some (true, s)
        else if 100000 ≤ s.length then none
        else match loopsP S k x (mput t.f2 1 s) with
          | none => none
          | some q => if q.1 = true then some (true, q.2) else if 100000 ≤ q.2.length then none else some (false, mput t.f2 2 q.2)

/-- What loops does at a term. -/
def LoopsOK (w0 : World) (m sb : Nat) (L : Tm) (k : Nat) (a : S24) : Prop := ∀ (s : Seen) (res : Bool × Seen), loopsP (strip L) k a s = some res → ∀ (W : World) (A : Option Addr) (c : Nat), Lies w0 a A c → Below w0.heap.size w0 W → TmapAt W m L → SeenAt W sb s →
  Calls Try.prog 77 #[.map (some m), .agg #[.int .i64 a.f0, .string a.f1, .int .i64 a.f2, .slice A a.f3.length c], .map (some sb)] W fun e w' => e = .returned (.bool res.1) ∧ SeenAt w' sb res.2 ∧ Fg sb W w'

set_option maxHeartbeats 400000 in
set_option maxRecDepth 100000 in
theorem clos_any (w0 : World) (m sb sB cB : Nat) (L : Tm) (k : Nat) (a : S24) (h : LoopsOK w0 m sb L k a) (s : Seen) (res : Bool × Seen) (hr : loopsP (strip L) k a s = some res) (W : World) (A : Option Addr) (c : Nat) (ha : Lies w0 a A c) (hB : Below w0.heap.size w0 W) (hM : TmapAt W m L) (hS : SeenAt W sb s)
    (b1 : W.heap[sB]? = some (.cells #[.map (some m)] 81 (0, 0))) (b2 : W.heap[cB]? = some (.cells #[.map (some sb)] 100 (0, 0))) :
    Calls Try.prog 87 #[.agg #[.int .i64 a.f0, .string a.f1, .int .i64 a.f2, .slice A a.f3.length c], .pointer (some ⟨sB, 0, none⟩), .pointer (some ⟨cB, 0, none⟩)] W fun e w' => e = .returned (.bool res.1) ∧ SeenAt w' sb res.2 ∧ Fg sb W w' := by
  have hc := h s res hr (W.alloc (.cells #[.int .i64 a.f0, .string a.f1, .int .i64 a.f2, .slice A a.f3.length c] 24)) A c ha (below_alloc hB _) (hM.alloc _) (hS.alloc _)
  have d1 := blk_alloc b1 (.cells #[.int .i64 a.f0, .string a.f1, .int .i64 a.f2, .slice A a.f3.length c] 24)
  have d2 := blk_alloc b2 (.cells #[.int .i64 a.f0, .string a.f1, .int .i64 a.f2, .slice A a.f3.length c] 24)
  have e1 : (W.alloc (.cells #[.int .i64 a.f0, .string a.f1, .int .i64 a.f2, .slice A a.f3.length c] 24)).cell? ⟨sB, 0, none⟩ = some (.map (some m)) := blk_cell d1 0
  have e2 : (W.alloc (.cells #[.int .i64 a.f0, .string a.f1, .int .i64 a.f2, .slice A a.f3.length c] 24)).cell? ⟨cB, 0, none⟩ = some (.map (some sb)) := blk_cell d2 0
  have hf := (Fg.refl sb W).alloc (.cells #[.int .i64 a.f0, .string a.f1, .int .i64 a.f2, .slice A a.f3.length c] 24)
  go_enter Try.func87, Try.ntmps87
  go_wp2_with fail
  refine hc.mono ?_
  rintro e w1 ⟨rfl, h1, h2⟩
  go_wp2
  go_ret
  exact ⟨rfl, h1, hf.trans h2⟩

set_option maxHeartbeats 400000 in
set_option maxRecDepth 100000 in
theorem indexf_any (w0 : World) (m sb sB cB : Nat) (L : Tm) (k : Nat) (xs : List S24) (h : ∀ a ∈ xs, LoopsOK w0 m sb L k a) (s : Seen) (res : Bool × Seen) (hr : anyP (loopsP (strip L) k) xs s = some res) (W : World) (A : Option Addr) (c : Nat) (hC : Kd.C k24 w0 A xs.length xs) (hc : xs.length ≤ c) (hwf : ∀ a ∈ xs, wfT a) (hB : Below w0.heap.size w0 W) (hsb0 : w0.heap.size ≤ sb) (hM : TmapAt W m L) (hms : m ≠ sb) (hS : SeenAt W sb s)
    (b1 : W.heap[sB]? = some (.cells #[.map (some m)] 81 (0, 0))) (b2 : W.heap[cB]? = some (.cells #[.map (some sb)] 100 (0, 0))) :
    Calls Try.prog 92 #[.slice A xs.length c, .func (.func 87) #[] #[.pointer (some ⟨sB, 0, none⟩), .pointer (some ⟨cB, 0, none⟩)]] W fun e w' => (∃ r : Int, e = .returned (.int .i64 r) ∧ (decide (0 ≤ r) = res.1)) ∧ SeenAt w' sb res.2 ∧ Fg sb W w' := by
  have hmx := hC.2.1
  have hne1 : sB ≠ sb := by rintro rfl; obtain ⟨es, clock, h1, _⟩ := hS; rw [b1] at h1; cases h1
  have hne2 : cB ≠ sb := by rintro rfl; obtain ⟨es, clock, h1, _⟩ := hS; rw [b2] at h1; cases h1
  go_enter Try.func92, Try.ntmps92
  go_wp2
  go_loopw [8] (fun i wr => ∃ (j : Nat) (s' : Seen), j ≤ xs.length ∧ i = .int .i64 j ∧ anyP (loopsP (strip L) k) (xs.drop j) s' = some res ∧ SeenAt wr sb s' ∧ Fg sb W wr)
    (fun i _ => xs.length - (intOf i).toNat)
  case atStart => exact ⟨0, s, Nat.zero_le _, rfl, hr, hS, Fg.refl _ _⟩
  case round =>
    clear hr hS
    obtain ⟨j, s', hj, rfl, hr, hS, hf⟩ := hrel
    by_cases hlt : j < xs.length
    · have hBr := hf.below hB hsb0
      obtain ⟨ad, A3, c3, rfl, y0, y1, y2, y3, l3, g3⟩ := C_rd hC j hlt rfl
      replace y0 := (hBr.cell (World.block_lt_of_cell? w0 _ y0)).trans y0
      replace y1 := (hBr.cell (World.block_lt_of_cell? w0 _ y1)).trans y1
      replace y2 := (hBr.cell (World.block_lt_of_cell? w0 _ y2)).trans y2
      replace y3 := (hBr.cell (World.block_lt_of_cell? w0 _ y3)).trans y3
      rw [List.drop_eq_getElem_cons hlt, anyP_cons] at hr
      have hx := h _ (List.getElem_mem hlt)
      have hwx := hwf _ (List.getElem_mem hlt)
      generalize xs[j] = a at y0 y1 y2 y3 l3 g3 hr hx hwx
      obtain ⟨q, hq⟩ : ∃ q, loopsP (strip L) k a s' = some q := by
        cases hh : loopsP (strip L) k a s' with
        | none => rw [hh] at hr; cases hr
        | some q => exact ⟨q, rfl⟩
      rw [hq] at hr
      simp only at hr
      have b1' := hf.blk b1 hne1
      have b2' := hf.blk b2 hne2
      have hcall := clos_any w0 m sb sB cB L k a hx s' q hq wr A3 c3 ⟨g3, l3, hwx⟩ hBr (hM.fg hf hms) hS b1' b2'
      obtain ⟨q1, q2⟩ := q
      simp only at hcall hr
      go_wp2_with fail
      refine hcall.mono ?_
      rintro e w5 ⟨rfl, hS5, hf5⟩
      have hf6 := hf.trans hf5
      clear hcall
      cases q1 with
      | true =>
        simp only [if_true, Option.some.injEq] at hr
        subst hr
        go_wp2
        go_ret
        exact ⟨⟨(j : Int), rfl, by simp⟩, hS5, hf6⟩
      | false =>
        simp only [Bool.false_eq_true, if_false] at hr
        go_wp2
        go_roundw
        case rel => exact ⟨j + 1, q2, by omega, by go_num, hr, hS5, hf6⟩
        case measure => simp [intOf]; omega
    · obtain rfl : j = xs.length := by omega
      rw [List.drop_of_length_le (Nat.le_refl _), anyP] at hr
      cases hr
      go_wp2
      go_ret
      exact ⟨⟨-1, rfl, by simp⟩, hS, hf⟩

set_option maxHeartbeats 400000 in
set_option maxRecDepth 100000 in
theorem containsf_any (w0 : World) (m sb sB cB : Nat) (L : Tm) (k : Nat) (xs : List S24) (h : ∀ a ∈ xs, LoopsOK w0 m sb L k a) (s : Seen) (res : Bool × Seen) (hr : anyP (loopsP (strip L) k) xs s = some res) (W : World) (A : Option Addr) (c : Nat) (hC : Kd.C k24 w0 A xs.length xs) (hc : xs.length ≤ c) (hwf : ∀ a ∈ xs, wfT a) (hB : Below w0.heap.size w0 W) (hsb0 : w0.heap.size ≤ sb) (hM : TmapAt W m L) (hms : m ≠ sb) (hS : SeenAt W sb s)
    (b1 : W.heap[sB]? = some (.cells #[.map (some m)] 81 (0, 0))) (b2 : W.heap[cB]? = some (.cells #[.map (some sb)] 100 (0, 0))) :
    Calls Try.prog 86 #[.slice A xs.length c, .func (.func 87) #[] #[.pointer (some ⟨sB, 0, none⟩), .pointer (some ⟨cB, 0, none⟩)]] W fun e w' => e = .returned (.bool res.1) ∧ SeenAt w' sb res.2 ∧ Fg sb W w' := by
  have hi := indexf_any w0 m sb sB cB L k xs h s res hr W A c hC hc hwf hB hsb0 hM hms hS b1 b2
  go_enter Try.func86, Try.ntmps86
  go_wp2_with fail
  refine hi.mono ?_
  rintro e w1 ⟨⟨r, rfl, hd⟩, h1, h2⟩
  obtain ⟨q1, q2⟩ := res
  simp only at hd h1
  subst hd
  go_wp2
  go_ret
  exact ⟨rfl, h1, h2⟩

set_option maxHeartbeats 1000000 in
set_option maxRecDepth 100000 in
theorem loops_any (w0 : World) (m sb : Nat) (L : Tm) (hL : TmIn w0 L) (hsb0 : w0.heap.size ≤ sb) (hms : m ≠ sb) : ∀ (k : Nat) (t : S24), LoopsOK w0 m sb L k t := by
  intro k
  induction k with
  | zero => intro t s res h; cases h
  | succ k ih =>
  intro t s res hr W A c ht hB hM hS
  have hsl := hS.lt
  have hI := wfT_int ht.wf
  have kS := blk_alloc (blk_alloc (blk_new W (.cells #[.map (some m)] 81)) (.cells #[.int .i64 t.f0, .string t.f1, .int .i64 t.f2, .slice A t.f3.length c] 24)) (.cells #[.map (some sb)] 100)
  have kT := blk_new (W.alloc (.cells #[.map (some m)] 81)) (.cells #[.int .i64 t.f0, .string t.f1, .int .i64 t.f2, .slice A t.f3.length c] 24)
  rw [show (W.alloc (.cells #[.map (some m)] 81)).heap.size = W.heap.size + 1 by simp] at kT
  replace kT := blk_alloc kT (.cells #[.map (some sb)] 100)
  have kC := blk_new ((W.alloc (.cells #[.map (some m)] 81)).alloc (.cells #[.int .i64 t.f0, .string t.f1, .int .i64 t.f2, .slice A t.f3.length c] 24)) (.cells #[.map (some sb)] 100)
  rw [show ((W.alloc (.cells #[.map (some m)] 81)).alloc (.cells #[.int .i64 t.f0, .string t.f1, .int .i64 t.f2, .slice A t.f3.length c] 24)).heap.size = W.heap.size + 1 + 1 by simp] at kC
  have hM3 := ((hM.alloc (.cells #[.map (some m)] 81)).alloc (.cells #[.int .i64 t.f0, .string t.f1, .int .i64 t.f2, .slice A t.f3.length c] 24)).alloc (.cells #[.map (some sb)] 100)
  have hS3 := ((hS.alloc (.cells #[.map (some m)] 81)).alloc (.cells #[.int .i64 t.f0, .string t.f1, .int .i64 t.f2, .slice A t.f3.length c] 24)).alloc (.cells #[.map (some sb)] 100)
  have hf3 := (((Fg.refl sb W).alloc (.cells #[.map (some m)] 81)).alloc (.cells #[.int .i64 t.f0, .string t.f1, .int .i64 t.f2, .slice A t.f3.length c] 24)).alloc (.cells #[.map (some sb)] 100)
  rw [loopsP] at hr
  go_enter Try.func77, Try.ntmps77
  go_upto_region 1 with (fail)
  generalize ((W.alloc (.cells #[.map (some m)] 81)).alloc (.cells #[.int .i64 t.f0, .string t.f1, .int .i64 t.f2, .slice A t.f3.length c] 24)).alloc (.cells #[.map (some sb)] 100) = W3 at kS kT kC hM3 hS3 hf3 ⊢
  have hB3 := hf3.below hB hsb0
  have s0 : W3.cell? ⟨W.heap.size, 0, none⟩ = some (.map (some m)) := blk_cell kS 0
  have t0 : W3.cell? ⟨W.heap.size + 1, 0, none⟩ = some (.int .i64 t.f0) := blk_cell kT 0
  have t1 : W3.cell? ⟨W.heap.size + 1, 1, none⟩ = some (.string t.f1) := blk_cell kT 1
  have t2 : W3.cell? ⟨W.heap.size + 1, 2, none⟩ = some (.int .i64 t.f2) := blk_cell kT 2
  have t3 : W3.cell? ⟨W.heap.size + 1, 3, none⟩ = some (.slice A t.f3.length c) := blk_cell kT 3
  have c0 : W3.cell? ⟨W.heap.size + 1 + 1, 0, none⟩ = some (.map (some sb)) := blk_cell kC 0
  by_cases h4 : t.f0 = 4
  · rw [if_pos h4] at hr
    have h4' : (t.f0 == 4) = true := beq_iff_eq.mpr h4
    have hcn := containsf_any w0 m sb W.heap.size (W.heap.size + 1 + 1) L k t.f3 (fun a _ => ih a) s res hr W3 A c ht.C ht.le (fun a ha => wfT_mem ht.wf ha) hB3 hsb0 hM3 hms hS3 kS kC
    have H4 := Lib.hid h4
    clear h4 ih
    go_wp2_with fail
    refine hcn.mono ?_
    rintro e w5 ⟨rfl, h1, h2⟩
    go_wp2
    go_ret
    exact ⟨rfl, h1, hf3.trans h2⟩
  rw [if_neg h4] at hr
  have h4' : (t.f0 == 4) = false := beq_eq_false_iff_ne.mpr h4
  have hlk := lookT 81 Try.underlying81 hM3 hI true
  rw [mget_strip] at hr
  cases hg : mget L t.f2 with
  | none =>
    have hbn : bnd L t.f2 = zeroTv := by unfold bnd; rw [hg]; rfl
    rw [hbn, hg] at hlk
    simp only [if_true, encT, zeroTv, z24, List.length_nil, Option.isSome_none] at hlk
    rw [hg] at hr
    simp only [Option.map_none, Option.some.injEq] at hr
    subst hr
    clear ih
    have hS4 := hS3.alloc (.cells #[.int .i64 0, .string ⟨#[]⟩, .int .i64 0, .slice none 0 0] 24)
    have hf4 := hf3.alloc (.cells #[.int .i64 0, .string ⟨#[]⟩, .int .i64 0, .slice none 0 0] 24)
    have kS4 := blk_alloc kS (.cells #[.int .i64 0, .string ⟨#[]⟩, .int .i64 0, .slice none 0 0] 24)
    have kT4 := blk_alloc kT (.cells #[.int .i64 0, .string ⟨#[]⟩, .int .i64 0, .slice none 0 0] 24)
    have kC4 := blk_alloc kC (.cells #[.int .i64 0, .string ⟨#[]⟩, .int .i64 0, .slice none 0 0] 24)
    have kX4 := blk_new W3 (.cells #[.int .i64 0, .string ⟨#[]⟩, .int .i64 0, .slice none 0 0] 24)
    have hM4 := hM3.alloc (.cells #[.int .i64 0, .string ⟨#[]⟩, .int .i64 0, .slice none 0 0] 24)
    go_upto_region 4 with (fail)
    clear hS3 hf3 kS kT kC hM3 hlk s0 t0 t1 t2 t3 c0 hB3
    obtain ⟨XB, hXB⟩ : ∃ q, q = W3.heap.size := ⟨_, rfl⟩
    rw [← hXB] at kX4 ⊢
    clear hXB
    generalize W3.alloc (.cells #[.int .i64 0, .string ⟨#[]⟩, .int .i64 0, .slice none 0 0] 24) = W4 at hS4 hf4 kS4 kT4 kC4 kX4 hM4 ⊢
    have t0 : W4.cell? ⟨W.heap.size + 1, 0, none⟩ = some (.int .i64 t.f0) := blk_cell kT4 0
    have t2 : W4.cell? ⟨W.heap.size + 1, 2, none⟩ = some (.int .i64 t.f2) := blk_cell kT4 2
    have c0 : W4.cell? ⟨W.heap.size + 1 + 1, 0, none⟩ = some (.map (some sb)) := blk_cell kC4 0
    have hls := lookS 100 Try.underlying100 hS4 hI
    cases e1 : (t.f0 != 1) with
    | true =>
      go_wp2
      go_ret
      exact ⟨rfl, hS4, hf4⟩
    | false =>
      go_wp2
      go_ret
      exact ⟨rfl, hS4, hf4⟩
  | some tv =>
    obtain ⟨g1, g2, g3⟩ := hL _ tv hg
    have hbn : bnd L t.f2 = tv := by unfold bnd; rw [hg]; rfl
    rw [hbn, hg] at hlk
    rw [hg] at hr
    obtain ⟨⟨x0, x1, x2, x3⟩, xA, xc⟩ := tv
    simp only [if_true, encT, Option.isSome_some] at hlk
    simp only [Option.map_some] at hr g1 g2 g3
    have hS4 := hS3.alloc (.cells #[.int .i64 x0, .string x1, .int .i64 x2, .slice xA x3.length xc] 24)
    have hf4 := hf3.alloc (.cells #[.int .i64 x0, .string x1, .int .i64 x2, .slice xA x3.length xc] 24)
    have kS4 := blk_alloc kS (.cells #[.int .i64 x0, .string x1, .int .i64 x2, .slice xA x3.length xc] 24)
    have kT4 := blk_alloc kT (.cells #[.int .i64 x0, .string x1, .int .i64 x2, .slice xA x3.length xc] 24)
    have kC4 := blk_alloc kC (.cells #[.int .i64 x0, .string x1, .int .i64 x2, .slice xA x3.length xc] 24)
    have kX4 := blk_new W3 (.cells #[.int .i64 x0, .string x1, .int .i64 x2, .slice xA x3.length xc] 24)
    have hM4 := hM3.alloc (.cells #[.int .i64 x0, .string x1, .int .i64 x2, .slice xA x3.length xc] 24)
    go_upto_region 4 with (fail)
    clear hS3 hf3 kS kT kC hM3 hlk s0 t0 t1 t2 t3 c0 hB3
    obtain ⟨XB, hXB⟩ : ∃ q, q = W3.heap.size := ⟨_, rfl⟩
    rw [← hXB] at kX4 ⊢
    clear hXB
    generalize W3.alloc (.cells #[.int .i64 x0, .string x1, .int .i64 x2, .slice xA x3.length xc] 24) = W4 at hS4 hf4 kS4 kT4 kC4 kX4 hM4 ⊢
    have t0 : W4.cell? ⟨W.heap.size + 1, 0, none⟩ = some (.int .i64 t.f0) := blk_cell kT4 0
    have t2 : W4.cell? ⟨W.heap.size + 1, 2, none⟩ = some (.int .i64 t.f2) := blk_cell kT4 2
    have c0 : W4.cell? ⟨W.heap.size + 1 + 1, 0, none⟩ = some (.map (some sb)) := blk_cell kC4 0
    have hls := lookS 100 Try.underlying100 hS4 hI
    by_cases h1 : ¬t.f0 = 1
    · have e1 : (t.f0 != 1) = true := bne_iff_ne.mpr h1
      rw [if_pos (.inl h1)] at hr
      cases hr
      clear ih
      go_wp2
      go_ret
      exact ⟨rfl, hS4, hf4⟩
    have h1 := Classical.not_not.mp h1
    have e1 : (t.f0 != 1) = false := bne_eq_false_iff_eq.mpr h1
    by_cases h2 : seenV s t.f2 = 2
    · have e2 : (seenV s t.f2 == 2) = true := beq_iff_eq.mpr h2
      rw [if_pos (.inr h2)] at hr
      cases hr
      clear ih
      have H2 := Lib.hid h2
      have H1 := Lib.hid h1
      clear h1 h2
      go_wp2
      go_ret
      exact ⟨rfl, hS4, hf4⟩
    have e2 : (seenV s t.f2 == 2) = false := beq_eq_false_iff_ne.mpr h2
    rw [if_neg (fun h => h.elim (fun h => h h1) h2)] at hr
    by_cases h3 : seenV s t.f2 = 1
    · have e3 : (seenV s t.f2 == 1) = true := beq_iff_eq.mpr h3
      rw [if_pos h3] at hr
      cases hr
      clear ih
      have H3 := Lib.hid h3
      have H1 := Lib.hid h1
      clear h1 h3
      go_wp2
      go_ret
      exact ⟨rfl, hS4, hf4⟩
    have e3 : (seenV s t.f2 == 1) = false := beq_eq_false_iff_ne.mpr h3
    rw [if_neg h3] at hr
    by_cases h5 : 100000 ≤ s.length
    · rw [if_pos h5] at hr; cases hr
    rw [if_neg h5] at hr
    have H1 := Lib.hid h1
    clear h1
    obtain ⟨q, hq⟩ : ∃ q, loopsP (strip L) k ⟨x0, x1, x2, x3⟩ (mput t.f2 1 s) = some q := by
      cases hh : loopsP (strip L) k ⟨x0, x1, x2, x3⟩ (mput t.f2 1 s) with
      | none => rw [hh] at hr; cases hr
      | some q => exact ⟨q, rfl⟩
    rw [hq] at hr
    simp only at hr
    have hkey := keyOf_int_mk Try.underlying2 hI.wf
    have hlX := blk_lt kX4
    have hlS := hS4.lt
    have hneT : W.heap.size + 1 ≠ sb := by omega
    have hneC : W.heap.size + 1 + 1 ≠ sb := by omega
    have hneS : W.heap.size ≠ sb := by omega
    have hneX : XB ≠ sb := by rintro rfl; obtain ⟨es, clock, h1, _⟩ := hS4; rw [kX4] at h1; cases h1
    go_wp2_with (at_mapUpdate; refine wpList_mapUpdate_in _ rfl _ _ _ 100 rfl 2 3 law2 Try.underlying100 _ sb s.length _ rfl hS4 (by unfold maxLen; omega) _ _ _ rfl rfl hkey (.held (.int .i64 1)) [] rfl ?_; intro w7 hown7 hturn7; have hS7 := putSn hown7; have hf7 := hf4.trans (Fg.turned hturn7); have kS7 := blk_grown kS4 hturn7.grown (fun e => hneS (Option.some.inj e)); have kT7 := blk_grown kT4 hturn7.grown (fun e => hneT (Option.some.inj e)); have kC7 := blk_grown kC4 hturn7.grown (fun e => hneC (Option.some.inj e)); have kX7 := blk_grown kX4 hturn7.grown (fun e => hneX (Option.some.inj e)); have hM7 := hM4.alike (hturn7.grown.block _ hM4.lt (fun e => hms (Option.some.inj e))); have i0 := blk_cell kS7 0; have i1 := blk_cell kX7 0; have i2 := blk_cell kX7 1; have i3 := blk_cell kX7 2; have i4 := blk_cell kX7 3; have i5 := blk_cell kC7 0)
    have hcall := ih ⟨x0, x1, x2, x3⟩ (mput t.f2 1 s) q hq w7 xA xc ⟨g1, g2, g3⟩ (hf7.below hB hsb0) hM7 hS7
    refine hcall.mono ?_
    rintro e w8 ⟨rfl, hS8, hf8⟩
    have hf9 := hf7.trans hf8
    have kT8 := hf8.blk kT7 hneT
    have kC8 := hf8.blk kC7 hneC
    have j0 : w8.cell? ⟨W.heap.size + 1, 2, none⟩ = some (.int .i64 t.f2) := blk_cell kT8 2
    have j1 : w8.cell? ⟨W.heap.size + 1 + 1, 0, none⟩ = some (.map (some sb)) := blk_cell kC8 0
    obtain ⟨q1, q2⟩ := q
    simp only at hr hS8
    clear hcall i0 i1 i2 i3 i4 i5 t0 t2 c0 hls e1 e2 e3
    cases q1 with
    | true =>
      simp only [if_true] at hr
      cases hr
      go_wp2
      go_ret
      exact ⟨rfl, hS8, hf9⟩
    | false =>
      simp only [Bool.false_eq_true, if_false] at hr
      by_cases h6 : 100000 ≤ q2.length
      · rw [if_pos h6] at hr; cases hr
      rw [if_neg h6] at hr
      cases hr
      go_wp2_with (at_mapUpdate; refine wpList_mapUpdate_in _ rfl _ _ _ 100 rfl 2 3 law2 Try.underlying100 _ sb q2.length _ rfl hS8 (by unfold maxLen; omega) _ _ _ rfl rfl hkey (.held (.int .i64 2)) [] rfl ?_; intro w9 hown9 hturn9)
      go_ret
      exact ⟨rfl, putSn hown9, hf9.trans (Fg.turned hturn9)⟩

end Go.Proofs.Ytpnkaggkedepeaa


/- The solver's round: does any bound variable's term stand within itself? -/
namespace Go.Proofs.Ytpnkaggkedepeaa
set_option linter.unusedVariables false
open Go.RowKit Go.Maps Go.Proofs.YtpnkaggkedepeaaW.PrintWords Go.Proofs.YtpnkaggkedepeaaW.PrintLast Go.Proofs.YtpnkaggkedepeaaW.PrintMore Go.Proofs.Ytpnkaggkedepeaa.PTermTells Go.Extern

theorem I64.of_wf {x : Int} (h : (Lit.int .i64 x).wf = true) : I64 x := by
  have e1 : IntKind.i64.min = -9223372036854775808 := rfl
  have e2 : IntKind.i64.max = 9223372036854775807 := rfl
  simp only [Lit.wf, Bool.and_eq_true, decide_eq_true_eq] at h
  rw [e1, e2] at h
  exact h
def varT (v : Int) : S24 := ⟨1, ⟨#[]⟩, v, []⟩
theorem anyP_append (F : S24 → Seen → Option (Bool × Seen)) : ∀ (xs ys : List S24) (s s' : Seen), anyP F xs s = some (false, s') → anyP F (xs ++ ys) s = anyP F ys s'
  | [], ys, s, s', h => by rw [anyP] at h; cases h; rfl
  | a :: r, ys, s, s', h => by
    rw [anyP_cons] at h
    rw [List.cons_append, anyP_cons]
    cases hq : F a s with
    | none => rw [hq] at h; cases h
    | some q =>
      rw [hq] at h
      simp only at h ⊢
      by_cases h1 : q.1 = true
      · rw [if_pos h1] at h; cases h
      · rw [if_neg h1] at h ⊢
        exact anyP_append F r ys q.2 s' h
theorem anyP_snoc (F : S24 → Seen → Option (Bool × Seen)) (xs : List S24) (a : S24) (s s' q : Seen) (h : anyP F xs s = some (false, s')) (h2 : F a s' = some (false, q)) : anyP F (xs ++ [a]) s = some (false, q) := by
  rw [anyP_append F xs [a] s s' h, anyP_cons, h2]
  simp [anyP]

/-- Whatever the order in which the bound variables come, the answer is r. -/
def RoundOK (L : Tm) (k : Nat) (r : Bool) : Prop := ∀ ord : List Int, ord.Nodup → (∀ v, v ∈ ord ↔ v ∈ L.map (·.1)) → ∃ s, anyP (loopsP (strip L) k) (ord.map varT) [] = some (r, s)

theorem round_step {L : Tm} {k : Nat} {r : Bool} (h : RoundOK L k r) (hn : (L.map (·.1)).Nodup) {pre : List Int} {x : Int} {s : Seen} (hp : (pre ++ [x]).Nodup) (hs : ∀ v ∈ pre ++ [x], v ∈ L.map (·.1)) (ha : anyP (loopsP (strip L) k) (pre.map varT) [] = some (false, s)) :
    ∃ q, loopsP (strip L) k (varT x) s = some q ∧ (q.1 = true → r = true) := by
  have hf : ((L.map (·.1)).filter (fun v => !decide (v ∈ pre ++ [x]))).Nodup := hn.filter _
  obtain ⟨s', h'⟩ := h ((pre ++ [x]) ++ (L.map (·.1)).filter (fun v => !decide (v ∈ pre ++ [x])))
    (List.nodup_append.2 ⟨hp, hf, fun a ha b hb e => by
      subst e
      have := (List.mem_filter.1 hb).2
      simp only [Bool.not_eq_true', decide_eq_false_iff_not] at this
      exact this ha⟩)
    (fun v => by
      constructor
      · intro hv
        rcases List.mem_append.1 hv with hv | hv
        · exact hs v hv
        · exact (List.mem_filter.1 hv).1
      · intro hv
        by_cases hm : v ∈ pre ++ [x]
        · exact List.mem_append_left _ hm
        · exact List.mem_append_right _ (List.mem_filter.2 ⟨hv, by simpa using hm⟩))
  rw [List.append_assoc, List.map_append, anyP_append _ _ _ _ _ ha, List.map_append, List.map_cons, List.map_nil, List.singleton_append, anyP_cons] at h'
  cases hq : loopsP (strip L) k (varT x) s with
  | none => rw [hq] at h'; cases h'
  | some q =>
    rw [hq] at h'
    refine ⟨q, rfl, fun hq1 => ?_⟩
    simp only [hq1, if_true, Option.some.injEq, Prod.mk.injEq] at h'
    exact h'.1.symm

set_option maxHeartbeats 1000000 in
set_option maxRecDepth 100000 in
theorem round_any (w0 w : World) (m k : Nat) (L : Tm) (r : Bool) (hr : RoundOK L k r) (hn : (L.map (·.1)).Nodup) (hL : TmIn w0 L) (hB : Below w0.heap.size w0 w) (hm0 : w0.heap.size ≤ m) (hM : TmapAt w m L) :
    Calls Try.prog 60 #[.map (some m)] w fun e w' => e = .returned (.bool r) ∧ TmapAt w' m L ∧ Below w.heap.size w w' := by
  have hml := hM.lt
  have hmm := @run_makeMap Try.prog
  have hM1 := hM.alloc (.map #[] 0)
  have hS1 := SeenAt.new w
  have hB1 : Below w.heap.size w (w.alloc (.map #[] 0)) := below_alloc (Below.refl _ _) _
  go_enter Try.func60, Try.ntmps60
  go_wp2_with (first
    | (at_range; refine wpList_range_own _ rfl _ 81 rfl 2 24 law2 Try.underlying81 _ m L.length _ rfl hM1 ?_; intro w1 hrg0 hg0 hs0))
  have hsz1 : (w.alloc (.map #[] 0)).heap.size = w.heap.size + 1 := by simp
  have hS2 : SeenAt w1 w.heap.size [] := hS1.alike (hg0.block _ hS1.lt (by simp))
  have hB2 : Below w.heap.size w w1 := below_grown hB1 hg0 (fun k e => by cases e) (Nat.le_refl _)
  clear hM1 hS1 hB1 hg0 hM
  go_frame
  generalize (w.alloc (.map #[] 0)).heap.size = RI at hrg0 hs0 hsz1 ⊢
  have hRI : w.heap.size < RI := by omega
  clear hsz1
  go_loopw [8] (fun _ wr => ∃ (pre : List Int) (s : Seen) (left : Lit → Bool) (cnt : Nat), pre.Nodup ∧ (∀ v ∈ pre, v ∈ L.map (·.1)) ∧ (∀ v, left (.int .i64 v) = (decide (v ∈ L.map (·.1)) && !decide (v ∈ pre))) ∧ anyP (loopsP (strip L) k) (pre.map varT) [] = some (false, s) ∧
    wr.ranges Try.prog 2 rawE m RI L.length (mdat encT L) left cnt ∧ SeenAt wr w.heap.size s ∧ Below w.heap.size w wr)
    (fun _ wr => wr.rangeLeft m RI)
  case atStart => exact ⟨[], [], _, _, List.nodup_nil, by simp, (fun v => by
    have h1 := mdat_has encT v L
    rw [h1]
    have h2 : (mget L v).isSome = decide (v ∈ L.map (·.1)) := by
      cases hg : mget L v with
      | none =>
        have hnm : ¬ v ∈ L.map (·.1) := fun hm => by
          obtain ⟨p, hp, he⟩ := List.mem_map.1 hm
          exact mget_none hg p hp he
        rw [decide_eq_false hnm]; rfl
      | some x =>
        have hmm : v ∈ L.map (·.1) := List.mem_map.2 ⟨_, mget_mem hg, rfl⟩
        rw [decide_eq_true hmm]; rfl
    rw [h2]; simp), by simp [anyP], hrg0, hS2, hB2⟩
  case round =>
    clear hrg0 hS2 hB2
    obtain ⟨pre, s, left, cnt, hpn, hps, hle, hap, hrg, hS, hBr⟩ := hrel
    have hM : TmapAt wr m L := hrg.owns
    have hrlt := hrg.lt
    go_wp2_with (first
      | (at_next; refine wpList_next_ranges (α := Int) (β := Value) _ rfl _ rfl 2 law2 rawE (Value.int .i64) (fun v => v) (fun key kl h => by obtain ⟨x, e, _, _⟩ := Maps.keyOf_int_inv Try.underlying2 h; exact ⟨x, e⟩) (fun v y _ => ⟨v, rfl⟩) m RI L.length _ left cnt rfl hrg ?_ ?_))
    · intro _ hl0
      have hre : r = false := by
        obtain ⟨s', h'⟩ := hr pre hpn (fun v => ⟨hps v, fun hv => by
          have := hle v
          rw [hl0, decide_eq_true hv] at this
          simpa using this.symm⟩)
        rw [hap] at h'
        simp only [Option.some.injEq, Prod.mk.injEq] at h'
        exact h'.1.symm
      subst hre
      go_wp2
      go_ret
      exact ⟨rfl, hM, hBr⟩
    · intro x c kl y ps w2 cnt2 hkx hlx hry hat hrg2 hlt2 hg2 hs2 hen
      obtain ⟨x', e1, rfl, hwx⟩ := Maps.keyOf_int_inv Try.underlying2 hkx
      obtain rfl : x = x' := by injection e1
      have hxi := I64.of_wf hwx
      have hlx' := hle x
      rw [hlx] at hlx'
      have hxk : x ∈ L.map (·.1) := by
        by_cases h : x ∈ L.map (·.1)
        · exact h
        · rw [decide_eq_false h] at hlx'; cases hlx'
      have hxp : x ∉ pre := by
        intro h
        rw [decide_eq_true h, Bool.not_true, Bool.and_false] at hlx'
        cases hlx'
      have hpn2 : (pre ++ [x]).Nodup := List.nodup_append.2 ⟨hpn, List.nodup_cons.2 ⟨by simp, List.nodup_nil⟩, fun a ha b hb e => hxp (by rw [List.mem_singleton.1 hb] at e; rw [← e]; exact ha)⟩
      have hps2 : ∀ v ∈ pre ++ [x], v ∈ L.map (·.1) := fun v hv => by
        rcases List.mem_append.1 hv with h | h
        · exact hps v h
        · rw [List.mem_singleton.1 h]; exact hxk
      obtain ⟨q, hq, hqr⟩ := round_step hr hn hpn2 hps2 hap
      have hBr2 : Below w.heap.size w w2 := below_grown hBr hg2 (fun j e => by have := Option.some.inj e; omega) (Nat.le_refl _)
      have hM2 : TmapAt w2 m L := hrg2.owns
      have hS2 : SeenAt w2 w.heap.size s := hS.alike (hg2.block _ hS.lt (fun e => by have := Option.some.inj e; omega))
      have hq' : loopsP (strip L) k ⟨1, ⟨#[]⟩, x, []⟩ s = some q := hq
      have hlo : Calls Try.prog 77 #[.map (some m), .agg #[.int .i64 1, .string ⟨#[]⟩, .int .i64 x, .slice none 0 0], .map (some w.heap.size)] w2 (fun e w' => e = .returned (.bool q.1) ∧ SeenAt w' w.heap.size q.2 ∧ Fg w.heap.size w2 w') := loops_any w0 m w.heap.size L hL hB.size (by omega) k ⟨1, ⟨#[]⟩, x, []⟩ s q hq' w2 none 0 (Lies.var w0 hxi) (below_weaken hB hB.size hBr2) hM2 hS2
      have HQ := Lib.hid hq
      have HLE := Lib.hid hle
      have HAP := Lib.hid hap
      clear hq hq' hle hap hlx hlx' hry hat hkx
      go_wp2_with fail
      refine hlo.mono ?_
      rintro e w5 ⟨rfl, hS5, hf5⟩
      obtain ⟨q1, q2⟩ := q
      simp only at hS5 hqr
      have hg5 : w2.grownBy w5 (some w.heap.size) := ⟨hf5.os, hf5.tape, hf5.output, hf5.size, fun i hi hne => hf5.block i hi (fun e => hne (by rw [e]))⟩
      have hrg5 := hrg2.kept hg5 (fun e => by have := Option.some.inj e; omega) (fun e => by have := Option.some.inj e; omega)
      have hBr5 : Below w.heap.size w w5 := below_grown hBr2 hg5 (fun j e => by have := Option.some.inj e; omega) (Nat.le_refl _)
      have hM5 : TmapAt w5 m L := hrg5.owns
      cases q1 with
      | true =>
        obtain rfl : r = true := hqr rfl
        go_wp2
        go_ret
        exact ⟨rfl, hM5, hBr5⟩
      | false =>
        go_wp2
        go_roundw
        case rel => exact ⟨pre ++ [x], q2, _, cnt2, hpn2, hps2, (fun v => by
          rw [HLE.out v, same_int]
          by_cases h1 : v ∈ pre
          · rw [decide_eq_true h1, decide_eq_true (show v ∈ pre ++ [x] from List.mem_append_left _ h1)]; simp
          · by_cases h2 : v = x
            · rw [decide_eq_true (show v ∈ pre ++ [x] from List.mem_append_right _ (by rw [h2]; simp)), decide_eq_true h2]; simp
            · rw [decide_eq_false h1, decide_eq_false (show ¬ v ∈ pre ++ [x] from fun h => (List.mem_append.1 h).elim h1 (fun h => h2 (List.mem_singleton.1 h))), decide_eq_false h2]; simp), by rw [List.map_append]; exact anyP_snoc _ _ _ _ _ _ HAP.out HQ.out, hrg5, hS5, hBr5⟩
        case measure => rw [hrg5.left_eq, hrg.left_eq]; exact hlt2

end Go.Proofs.Ytpnkaggkedepeaa
