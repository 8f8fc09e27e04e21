/- The document's example. -/
import Derived.Test.YtjhhacighfpdbaaHpXt
import Derived.Test.YtjhhacighfpdbaaHpW

/- The document's example, in plain words. -/
namespace Go.Proofs.Ytjhhacighfpdbaa
set_option linter.unusedVariables false
open Go.RowKit Go.Maps Go.Proofs.YtjhhacighfpdbaaW.PrintWords Go.Proofs.YtjhhacighfpdbaaW.PrintLast Go.Proofs.YtjhhacighfpdbaaW.PrintMore Go.Proofs.Ytjhhacighfpdbaa.PHeapShares Go.Extern

def bF : ByteArray := ⟨#[102]⟩
def bA : ByteArray := ⟨#[97]⟩
def bB : ByteArray := ⟨#[98]⟩
/-- A name alone. -/
def atT (b : ByteArray) : S28 := ⟨3, b, 0, []⟩
/-- f of two terms. -/
def fT (x y : S28) : S28 := ⟨4, bF, 0, [x, y]⟩
def cF (a : Int) : Cl := ⟨4, bF, 0, a, 2⟩
def cA (b : ByteArray) : Cl := ⟨3, b, 0, 0, 0⟩
def alC1 : List Cl := [cF 1, zCl, zCl]
def alC2 : List Cl := [cF 1, zCl, zCl, cF 4, cA bA, zCl]

theorem bF_size : bF.size = 1 := rfl
theorem bA_size : bA.size = 1 := rfl
theorem bB_size : bB.size = 1 := rfl

theorem ok_fT {x y : S28} (hx : shT x = true) (hy : shT y = true) (nx : nodes x = 1) (ny : nodes y = 1) (dx : dpt x = 1) (dy : dpt y = 1) : okT (fT x y) = true := by
  rw [okT_iff]
  refine ⟨?_, ?_, ?_⟩
  · unfold fT
    rw [shT]
    simp [shL_cons, shL_nil, hx, hy, bF_size]
  · unfold fT
    rw [nodes_eq4, nodesL_cons, nodesL_cons, nodesL_nil, nx, ny]
    omega
  · unfold fT
    rw [dpt]
    simp [dptL_cons, dptL_nil, dx, dy]
    decide

theorem sh_var {v : Int} (h : 1 ≤ v) : shT (mkV v) = true := by unfold mkV; rw [shT, if_pos rfl]; exact decide_eq_true h
theorem nodes_var (v : Int) : nodes (mkV v) = 1 := by unfold mkV; rw [nodes, if_neg (by decide)]
theorem dpt_var (v : Int) : dpt (mkV v) = 1 := by unfold mkV; rw [dpt]; rfl
theorem sh_at (b : ByteArray) (h : b.size ≤ 64) : shT (atT b) = true := by unfold atT; rw [shT]; simp; omega
theorem nodes_at (b : ByteArray) : nodes (atT b) = 1 := by unfold atT; rw [nodes, if_neg (by decide)]
theorem dpt_at (b : ByteArray) : dpt (atT b) = 1 := by unfold atT; rw [dpt]; rfl

theorem ok1 : okT (fT (mkV 1) (mkV 2)) = true := ok_fT (sh_var (by decide)) (sh_var (by decide)) (nodes_var _) (nodes_var _) (dpt_var _) (dpt_var _)
theorem ok2 : okT (fT (atT bA) (mkV 1)) = true := ok_fT (sh_at _ (by decide)) (sh_var (by decide)) (nodes_at _) (nodes_var _) (dpt_at _) (dpt_var _)
theorem ok3 : okT (atT bB) = true := by rw [okT_iff]; exact ⟨sh_at _ (by decide), by rw [nodes_at]; decide, by rw [dpt_at]; decide⟩

theorem vs1 : varsOf (fT (mkV 1) (mkV 2)) = [1, 2] := by
  unfold varsOf
  rw [if_pos ok1]
  simp [fT, mkV, varsT, varsL]
theorem vs2 : varsOf (fT (atT bA) (mkV 1)) = [1] := by
  unfold varsOf
  rw [if_pos ok2]
  simp [fT, mkV, atT, varsT, varsL]
theorem vs3 : varsOf (atT bB) = [] := by
  unfold varsOf
  rw [if_pos ok3]
  simp [atT, varsT]

theorem top1 : topL 0 [1, 2] = 2 := by decide
theorem top2 : topL 0 [1] = 1 := by decide
theorem en1 : env0 [] 2 = [-1, -1] := by decide
theorem en2 : env0 [-1] 1 = [-1] := by decide
theorem lay1 : layT (fT (mkV 1) (mkV 2)) 0 ([] ++ [zCl]) (env0 [] (topL 0 [1, 2])) = (alC1, [1, 2]) := by
  rw [top1, en1]
  simp [fT, mkV, layT, layL, envAt, alC1, cF, zCl, List.replicate]
theorem lay2 : layT (fT (atT bA) (mkV 1)) 3 (alC1 ++ [zCl]) (env0 [-1] (topL 0 [1])) = (alC2, [5]) := by
  rw [top2, en2]
  simp [fT, mkV, atT, layT, layL, envAt, alC1, alC2, cF, cA, zCl, List.replicate]
theorem lay3 (C : List Cl) : layT (atT bB) C.length (C ++ [zCl]) (env0 [] (topL 0 [])) = (C ++ [cA bB], []) := by
  simp [atT, layT, env0, topL, cA, zCl]


theorem wf_var {v : Int} (h : I64 v) : wfT (mkV v) := by unfold mkV; rw [wfT]; exact ⟨h, by rw [wfL_nil]; trivial⟩
theorem wf_at (b : ByteArray) : wfT (atT b) := by unfold atT; rw [wfT]; exact ⟨by unfold I64; decide, by rw [wfL_nil]; trivial⟩
theorem wf_fT {x y : S28} (hx : wfT x) (hy : wfT y) : wfT (fT x y) := by unfold fT; rw [wfT]; exact ⟨by unfold I64; decide, by rw [wfL_cons, wfL_cons, wfL_nil]; exact ⟨hx, hy, trivial⟩⟩

theorem rep_f {C : List Cl} {x : Nat} {a : Nat} {s t : S28} (h : C[x]? = some (cF a)) (hs : Rep C a s) (ht : Rep C (a + 1) t) : Rep C x (fT s t) := by
  have := Rep.comp x a (cF a) [s, t] h rfl rfl rfl (by simp) (by simp) (show (bF.size : Int) ≤ 64 by decide) rfl (fun i hi => by
    have : i = 0 ∨ i = 1 := by simp at hi; omega
    rcases this with rfl | rfl
    · exact hs
    · exact ht)
  exact this
theorem rep_v {C : List Cl} {x : Nat} (h : C[x]? = some zCl) : Rep C x (mkV ((x : Int) + 1)) := .free x zCl h rfl
theorem rep_a {C : List Cl} {x : Nat} {b : ByteArray} (h : C[x]? = some (cA b)) (hb : (b.size : Int) ≤ 64) : Rep C x (atT b) := .atom x (cA b) h rfl rfl hb rfl

theorem hi1 : HI alC1 := fun x hx => by
  have : x = 0 ∨ x = 1 ∨ x = 2 := by simp [alC1] at hx; omega
  rcases this with rfl | rfl | rfl
  · exact ⟨_, rep_f (C := alC1) (a := 1) rfl (rep_v rfl) (rep_v rfl)⟩
  · exact ⟨_, rep_v rfl⟩
  · exact ⟨_, rep_v rfl⟩
theorem hi2 : HI alC2 := fun x hx => by
  have : x = 0 ∨ x = 1 ∨ x = 2 ∨ x = 3 ∨ x = 4 ∨ x = 5 := by simp [alC2] at hx; omega
  rcases this with rfl | rfl | rfl | rfl | rfl | rfl
  · exact ⟨_, rep_f (C := alC2) (a := 1) rfl (rep_v rfl) (rep_v rfl)⟩
  · exact ⟨_, rep_v rfl⟩
  · exact ⟨_, rep_v rfl⟩
  · exact ⟨_, rep_f (C := alC2) (a := 4) rfl (rep_a rfl (by decide)) (rep_v rfl)⟩
  · exact ⟨_, rep_a rfl (by decide)⟩
  · exact ⟨_, rep_v rfl⟩
theorem r20 : Rep alC2 0 (fT (mkV 2) (mkV 3)) := rep_f (C := alC2) (a := 1) rfl (rep_v rfl) (rep_v rfl)
theorem r23 : Rep alC2 3 (fT (atT bA) (mkV 6)) := rep_f (C := alC2) (a := 4) rfl (rep_a rfl (by decide)) (rep_v rfl)
theorem r22 : Rep alC2 2 (mkV 3) := rep_v rfl

theorem sg_fT (σ : Int → S28) (x y : S28) : sg σ (fT x y) = fT (sg σ x) (sg σ y) := sg_eq4 σ bF [x, y]
theorem sg_at (σ : Int → S28) (b : ByteArray) : sg σ (atT b) = atT b := sg_atom σ b
theorem fT_inj {x y z u : S28} (h : fT x y = fT z u) : x = z ∧ y = u := by
  unfold fT at h
  simp at h
  exact h

/-- The first two terms can be made the same. -/
def th1 : Int → S28 := fun v => if v = 2 then atT bA else if v = 3 then mkV 6 else mkV v
theorem al_uni1 : ∀ s t, Rep alC2 0 s → Rep alC2 3 t → sg th1 s = sg th1 t := fun s t hs ht => by
  rw [hs.det r20, ht.det r23, sg_fT, sg_fT, sg_at, sg_var, sg_var, sg_var]
  rfl

/-- What is shaped so that something put in makes a variable of it is a variable. -/
theorem var_of_sg {θ : Int → S28} {C : List Cl} {x : Nat} {s : S28} {u : Int} (hs : Rep C x s) (h : sg θ s = mkV u) : ∃ v, 1 ≤ v ∧ s = mkV v := by
  have hk := congrArg S28.f0 h
  have e : (mkV u).f0 = 1 := rfl
  rw [e] at hk
  clear h
  induction hs with
  | free x c h hk => exact ⟨_, by omega, rfl⟩
  | ref x b c t h hk1 ha hr ih => exact ih hk
  | num x c h hk1 hr hi hz => rw [sg_num] at hk; exact absurd (show (2 : Int) = 1 from hk) (by decide)
  | atom x c h hk1 hr hn hz => rw [sg_atom] at hk; exact absurd (show (3 : Int) = 1 from hk) (by decide)
  | comp x f c ts h hk1 ha hr h1 h8 hn hz hs ih => rw [sg_eq4] at hk; exact absurd (show (4 : Int) = 1 from hk) (by decide)

theorem al_one {C3 : List Cl} {σ : Int → S28} (u : Uni (fun _ => True) alC2 C3 0 3 σ) : ∃ v, 1 ≤ v ∧ Rep C3 0 (fT (atT bA) (mkV v)) ∧ Rep C3 2 (mkV v) := by
  have h0 := u.sol.rep _ _ r20
  have h3 := u.sol.rep _ _ r23
  have h2 := u.sol.rep _ _ r22
  obtain ⟨t, k1, k2⟩ := u.same
  have e := (h0.det k1).trans (k2.det h3)
  rw [sg_fT, sg_fT, sg_at, sg_var, sg_var, sg_var] at e
  rw [sg_fT, sg_var, sg_var] at h0
  rw [sg_var] at h2
  obtain ⟨e1, e2⟩ := fT_inj e
  have hm := u.mgu th1 al_uni1 3
  obtain ⟨v, hv1, hv⟩ := var_of_sg h2 (u := 6) hm
  rw [e1, hv] at h0
  rw [hv] at h2
  exact ⟨v, hv1, h0, h2⟩

theorem al_no {C3 : List Cl} {v : Int} (h : Rep C3 0 (fT (atT bA) (mkV v))) : C3 ≠ alC2 := fun e => by
  rw [e] at h
  have := (fT_inj (h.det r20)).1
  unfold atT mkV at this
  simp at this

def th2 (v : Int) : Int → S28 := fun u => if u = v then atT bB else mkV u
theorem al_uni2 {C4 : List Cl} {v : Int} (h2 : Rep C4 2 (mkV v)) (h6 : Rep C4 6 (atT bB)) : ∀ s t, Rep C4 2 s → Rep C4 6 t → sg (th2 v) s = sg (th2 v) t := fun s t hs ht => by
  rw [hs.det h2, ht.det h6, sg_at, sg_var]
  unfold th2
  rw [if_pos rfl]
theorem al_two {C4 C5 : List Cl} {v : Int} {τ : Int → S28} (h0 : Rep C4 0 (fT (atT bA) (mkV v))) (h2 : Rep C4 2 (mkV v)) (h6 : Rep C4 6 (atT bB)) (u : Uni (fun _ => True) C4 C5 2 6 τ) : Rep C5 0 (fT (atT bA) (atT bB)) := by
  have k0 := u.sol.rep _ _ h0
  have k2 := u.sol.rep _ _ h2
  have k6 := u.sol.rep _ _ h6
  obtain ⟨t, q1, q2⟩ := u.same
  rw [sg_at] at k6
  rw [sg_var] at k2
  rw [sg_fT, sg_at, sg_var] at k0
  rw [(k2.det q1).trans (q2.det k6)] at k0
  exact k0

theorem in1 : ∀ v ∈ ([1, 2] : List Int), 1 ≤ v ∧ v ≤ 2 ∧ envAt [] v < ((0 : Nat) : Int) := by decide
theorem in2 : ∀ v ∈ ([1] : List Int), 1 ≤ v ∧ v ≤ 1 ∧ envAt [-1] v < ((3 : Nat) : Int) := by decide
theorem nd_fT {x y : S28} (hx : nodes x = 1) (hy : nodes y = 1) : nodes (fT x y) = 3 := by unfold fT; rw [nodes_eq4, nodesL_cons, nodesL_cons, nodesL_nil, hx, hy]

/-- A row of two terms without arguments. -/
theorem F_two {w : World} {g : Nat} {x y : S28} {A B : Option Addr} {c d : Nat} (hx : x.f3 = []) (hy : y.f3 = []) (hb : w.heap[g]? = some (.cells #[.int .i64 x.f0, .string x.f1, .int .i64 x.f2, .slice A 0 c, .int .i64 y.f0, .string y.f1, .int .i64 y.f2, .slice B 0 d] 28 (0, 0))) :
    Kd.F k28 w (fun k => k = g) (some ⟨g, 0, none⟩) 2 [x, y] := fun W' hW => by
  have hb' := (hW g rfl (blk_lt hb)).trans hb
  have hnil : ∀ A, Kd.C k28 W' A 0 [] := fun A => ⟨rfl, by decide, fun h => absurd h (by decide)⟩
  refine ⟨rfl, by decide, fun _ => ⟨_, rfl, fun j p hj => ?_⟩⟩
  have hj2 : j = 0 ∨ j = 1 := by
    have := (List.getElem?_eq_some_iff.1 hj).1
    simp at this
    omega
  rcases hj2 with rfl | rfl
  · obtain rfl : x = p := by simpa using hj
    refine ⟨[.int .i64 x.f0, .string x.f1, .int .i64 x.f2, .slice A x.f3.length c], rfl, k28_mk W' x (by rw [hx]; exact Nat.zero_le _) (by rw [hx]; exact hnil A), fun i u hu => ?_⟩
    rw [add_plain, blk_cell hb', ← Array.getElem?_toList]
    have : i < 4 := by simpa using (List.getElem?_eq_some_iff.1 hu).1
    have h4 : i = 0 ∨ i = 1 ∨ i = 2 ∨ i = 3 := by omega
    rcases h4 with rfl | rfl | rfl | rfl <;> simpa [hx] using hu
  · obtain rfl : y = p := by simpa using hj
    refine ⟨[.int .i64 y.f0, .string y.f1, .int .i64 y.f2, .slice B y.f3.length d], rfl, k28_mk W' y (by rw [hy]; exact Nat.zero_le _) (by rw [hy]; exact hnil B), fun i u hu => ?_⟩
    rw [add_plain, show k28.sz = 4 from rfl, blk_cell hb', ← Array.getElem?_toList]
    have : i < 4 := by simpa using (List.getElem?_eq_some_iff.1 hu).1
    have h4 : i = 0 ∨ i = 1 ∨ i = 2 ∨ i = 3 := by omega
    rcases h4 with rfl | rfl | rfl | rfl <;> simpa [hy] using hu

end Go.Proofs.Ytjhhacighfpdbaa


/- The document's example holds. -/
namespace Go.Proofs.Ytjhhacighfpdbaa
set_option linter.unusedVariables false
open Go.RowKit Go.Maps Go.Proofs.YtjhhacighfpdbaaW.PrintWords Go.Proofs.YtjhhacighfpdbaaW.PrintLast Go.Proofs.YtjhhacighfpdbaaW.PrintMore Go.Proofs.Ytjhhacighfpdbaa.PHeapShares Go.Extern

theorem LF.none {T : Nat → Prop} {w : World} {t : S28} {A : Option Addr} {c : Nat} (h : t.f3 = []) (hw : wfT t) : LF T w t A c :=
  ⟨by rw [h]; exact fun W' _ => ⟨rfl, by decide, fun h => absurd h (by decide)⟩, by rw [h]; exact Nat.zero_le _, hw⟩
theorem HpAt.fs_lt {w : World} {hb : Nat} {S : Nat → Prop} {H : Hp} (h : HpAt w hb S H) : ∀ k, S k → k < w.heap.size := by
  obtain ⟨_, _, _, h⟩ := h
  exact h.Sl

set_option maxHeartbeats 4000000 in
set_option maxRecDepth 100000 in
theorem alive_any (w : World) : Calls Try.prog 6 #[] w fun e w' => e = .returned (.bool true) ∧ Below w.heap.size w w' := by
  have h0 := New_any w 50 (by decide) (by decide)
  go_enter Try.func6, Try.ntmps6
  go_wp2_with fail
  refine h0.mono ?_
  rintro e w1 ⟨rfl, hB1, hp1, hs1⟩
  clear h0
  go_wp2_with fail
  refine (pythialaw13_x.calls 1 1 ⟨#[]⟩ 1 [] w1 rfl).mono ?_
  rintro e w2 ⟨v2, rfl, hR2, hb2⟩
  obtain ⟨A2, c2, rfl⟩ := Kd.R_slice hR2
  go_wp2_with fail
  refine (pythialaw13_x.calls 2 1 ⟨#[]⟩ 2 [] w2 rfl).mono ?_
  rintro e w3 ⟨v3, rfl, hR3, hb3⟩
  obtain ⟨A3, c3, rfl⟩ := Kd.R_slice hR3
  have hB3 : Below w1.heap.size w1 w3 := hb2.trans (hb3.mono hb2.size)
  have hV3 : Kd.V k28 28 (w3.alloc (.cells #[.int .i64 1, .string ⟨#[]⟩, .int .i64 1, .slice A2 0 c2, .int .i64 1, .string ⟨#[]⟩, .int .i64 2, .slice A3 0 c3] 28)) (w3.alloc (.cells #[.int .i64 1, .string ⟨#[]⟩, .int .i64 1, .slice A2 0 c2, .int .i64 1, .string ⟨#[]⟩, .int .i64 2, .slice A3 0 c3] 28)).heap.size (fun k => k = w3.heap.size) (.slice (some ⟨w3.heap.size, 0, none⟩) [mkV 1, mkV 2].length 2) [mkV 1, mkV 2] :=
    Kd.V_mk (Nat.le_refl _) (F_two (x := mkV 1) (y := mkV 2) rfl rfl (blk_new _ _))
  have hC3 := pythiaref07_C.calls bF _ _ 2 [mkV 1, mkV 2] 4 bF 0 [mkV 1, mkV 2] _ hV3 rfl
  clear hR2 hR3 hb2 hb3
  go_wp2_with fail
  refine hC3.mono ?_
  rintro e w4 ⟨v4, rfl, hV4, hb4⟩
  clear hC3 hV3
  obtain ⟨A4, c4, rfl, hl4, hF4⟩ := hV4
  have l3 := hB3.size
  have l4 := hb4.size
  simp only [World.size_alloc] at l4 hF4
  have hB4 : Below w1.heap.size w1 w4 := hB3.trans ((below_alloc (Below.refl _ _) _ |>.trans (hb4.mono (by simp))).mono l3)
  have hp4 := hp1.below hB4
  have hL4 : LF (fun k => w1.heap.size ≤ k ∧ k < w4.heap.size) w4 (fT (mkV 1) (mkV 2)) A4 c4 := ⟨Kd.F_mono (Kd.F_bound hF4) fun k hk => by
    obtain ⟨h1, h2⟩ := hk
    rcases h1 with h1 | h1
    · omega
    · omega, hl4, wf_fT (wf_var (by unfold I64; decide)) (wf_var (by unfold I64; decide))⟩
  have hput := Put_any (fT (mkV 1) (mkV 2)) [] (fun k => w1.heap.size ≤ k ∧ k < w4.heap.size) w4 w.heap.size _ _ A4 c4 (.slice none 0 0) hp4 (World.ownsRow_nil _ _ _ _) (fun k hk => by simp [Value.ownBlock] at hk) (fun k hk => by omega) (fun k hk => hk.2) hL4 ok1 (by simp) (by rw [vs1, top1]; decide) (by rw [vs1, top1]; exact in1) (by rw [nd_fT (nodes_var _) (nodes_var _)]; decide)
  unfold PutPost at hput
  simp only [vs1, List.length_nil] at hput
  rw [lay1] at hput
  clear hF4 hL4
  go_wp2_with fail
  refine hput.mono ?_
  rintro e w5 ⟨v5, S1, rfl, hp5, hf5, hS1, hE5, hv5⟩
  clear hput
  obtain ⟨A5, c5, rfl⟩ : ∃ A c, v5 = .slice A 2 c := own_slice hE5
  have hBS1 : ∀ k, S1 k → w.heap.size ≤ k := fun k hk => by
    rcases hS1 k hk with h | h
    · omega
    · omega
  have hS1b : ∀ k, S1 k → k = w.heap.size ∨ w1.heap.size ≤ k := fun k hk => by
    rcases hS1 k hk with h | h
    · exact .inl h
    · exact .inr (by omega)
  have hB5 : Fs (fun k => k = w.heap.size) w1 w5 := (Fs.of_below hB4).trans hf5 (fun k h => .inl h)
  clear hB3 hb4 hf5 hB4 hp4
  -- the second
  go_wp2_with fail
  refine (pythiaref07_A.calls bA 3 bA 0 [] w5 rfl).mono ?_
  rintro e w6 ⟨v6, rfl, hR6, hb6⟩
  obtain ⟨A6, c6, rfl⟩ := Kd.R_slice hR6
  go_wp2_with fail
  refine (pythialaw13_x.calls 1 1 ⟨#[]⟩ 1 [] w6 rfl).mono ?_
  rintro e w7 ⟨v7, rfl, hR7, hb7⟩
  obtain ⟨A7, c7, rfl⟩ := Kd.R_slice hR7
  have hB7 : Below w5.heap.size w5 w7 := hb6.trans (hb7.mono hb6.size)
  have hV7 : Kd.V k28 28 (w7.alloc (.cells #[.int .i64 3, .string bA, .int .i64 0, .slice A6 0 c6, .int .i64 1, .string ⟨#[]⟩, .int .i64 1, .slice A7 0 c7] 28)) (w7.alloc (.cells #[.int .i64 3, .string bA, .int .i64 0, .slice A6 0 c6, .int .i64 1, .string ⟨#[]⟩, .int .i64 1, .slice A7 0 c7] 28)).heap.size (fun k => k = w7.heap.size) (.slice (some ⟨w7.heap.size, 0, none⟩) [atT bA, mkV 1].length 2) [atT bA, mkV 1] :=
    Kd.V_mk (Nat.le_refl _) (F_two (x := atT bA) (y := mkV 1) rfl rfl (blk_new _ _))
  have hC7 := pythiaref07_C.calls bF _ _ 2 [atT bA, mkV 1] 4 bF 0 [atT bA, mkV 1] _ hV7 rfl
  clear hR6 hR7 hb6 hb7
  go_wp2_with fail
  refine hC7.mono ?_
  rintro e w8 ⟨v8, rfl, hV8, hb8⟩
  clear hC7 hV7
  obtain ⟨A8, c8, rfl, hl8, hF8⟩ := hV8
  have l7 := hB7.size
  have l8 := hb8.size
  simp only [World.size_alloc] at l8 hF8
  have hB8 : Below w5.heap.size w5 w8 := hB7.trans ((below_alloc (Below.refl _ _) _ |>.trans (hb8.mono (by simp))).mono l7)
  have hB8a := below_alloc hB8 (.cells #[.int .i64 (-1)] 3)
  have hp8 := hp5.below hB8a
  have hE8 := hE5.below hB8a
  have hlt5 := hp5.fs_lt
  have hL8 : LF (fun k => w5.heap.size ≤ k ∧ k < w8.heap.size) (w8.alloc (.cells #[.int .i64 (-1)] 3)) (fT (atT bA) (mkV 1)) A8 c8 := LF.below ⟨Kd.F_mono (Kd.F_bound hF8) fun k hk => by
    obtain ⟨h1, h2⟩ := hk
    rcases h1 with h1 | h1
    · omega
    · omega, hl8, wf_fT (wf_at _) (wf_var (by unfold I64; decide))⟩ (below_alloc (Below.refl _ _) _)
  have hev : EnvRow (w8.alloc (.cells #[.int .i64 (-1)] 3)) (.slice (some ⟨w8.heap.size, 0, none⟩) 1 1) [-1] := World.ownsRow_lit w8 #[.int .i64 (-1)] 1 (Nat.zero_le _) (by decide) rfl
  have hput := Put_any (fT (atT bA) (mkV 1)) [-1] (fun k => w5.heap.size ≤ k ∧ k < w8.heap.size) _ w.heap.size _ _ A8 c8 _ hp8 hev (fun k hk h => by
    have hk' : w8.heap.size = k := by simpa [Value.ownBlock] using hk
    have := hlt5 k h
    omega) (fun k hk h => by have := hlt5 k hk; omega) (fun k hk => by simp; omega) hL8 ok2 (by simp) (by rw [vs2, top2]; decide) (by rw [vs2, top2]; exact in2) (by rw [nd_fT (nodes_at _) (nodes_var _)]; decide)
  unfold PutPost at hput
  simp only [vs2] at hput
  rw [show (alC1.length) = 3 from rfl, lay2] at hput
  clear hF8 hL8
  go_wp2_with fail
  refine hput.mono ?_
  rintro e w9 ⟨v9, S2, rfl, hp9, hf9, hS2, hE9', hv9⟩
  replace hE9 := hE8.fs hf9 (fun k hk => (hv5 k hk).1)
  have hf9' : Fs S1 w5 w9 := (Fs.of_below hB8a).trans hf9 (fun k h => .inl h)
  have hv9S : ∀ k, (Value.slice A5 2 c5).ownBlock = some k → ¬ S2 k := fun k hk h => by
    rcases hS2 k h with h | h
    · exact (hv5 k hk).1 h
    · have := (World.ownsRow.lt hE5 k hk).2
      have := hB8a.size
      omega
  have hBS2 : ∀ k, S2 k → w.heap.size ≤ k := fun k hk => by
    rcases hS2 k hk with h | h
    · exact hBS1 k h
    · have := hB5.size
      have := hB8a.size
      omega
  have hB9 : Fs (fun k => k = w.heap.size) w1 w9 := hB5.trans hf9' hS1b
  have hS2b : ∀ k, S2 k → k = w.heap.size ∨ w1.heap.size ≤ k := fun k hk => by
    rcases hS2 k hk with h | h
    · exact hS1b k h
    · have := hB5.size
      have := hB8a.size
      exact .inr (by omega)
  clear hput hf9 hf9' hE8 hE9' hv9 hev hp8 hB8 hB8a hp5 hB7 hb8 hE5 hv5 hS2
  -- they are made the same
  have huni := Unify_any (fun _ => True) w9 w.heap.size S2 ⟨50, 50, alC2, [], []⟩ 0 3 _ _ hp9 hi2 r20 r23 (fun _ _ => trivial) (fun _ _ => trivial)
  have hlt9 := hp9.fs_lt
  go_wp2_with fail
  refine huni.mono ?_
  rintro e w10 hu
  clear huni
  rcases hu with ⟨C3, N3, σ, rfl, hto, hnt, hu⟩ | ⟨_, _, hno⟩ | ⟨_, _, htr⟩
  case inr.inl => exact absurd (al_uni1 _ _ r20 r23) (hno th1 _ _ r20 r23)
  case inr.inr => exact absurd htr (by simp [alC2])
  obtain ⟨S3, hp10, hf10, hS3⟩ := hto
  obtain ⟨v, hv1, r0, r2⟩ := al_one hu
  have hi3 := hu.sol.HI hi2
  have hC3l : C3.length = 6 := hnt.len
  have hN3 : 0 < N3.length ∧ N3.length ≤ 6 := by
    have hr := hnt.room
    refine ⟨Nat.pos_of_ne_zero fun h0 => ?_, ?_⟩
    · obtain ⟨M, e, hM, _⟩ := hnt.ex
      obtain rfl : N3 = [] := List.eq_nil_of_length_eq_zero h0
      obtain rfl : M = [] := by simpa using e.symm
      exact al_no r0 hM
    · have h1 : nrefN alC2 ≤ 6 := nrefN_le alC2
      simp only [List.length_nil] at hr
      omega
  have hsin : Since C3 N3 C3 N3 := Since.refl _ _
  have hvw : I64 v := by
    have h := r2.wf (by omega)
    unfold mkV at h
    rw [wfT] at h
    exact h.1
  have hv10S : ∀ k, (Value.slice A5 2 c5).ownBlock = some k → ¬ S3 k := fun k hk h => by
    rcases hS3 k h with h | h
    · exact hv9S k hk h
    · have := (World.ownsRow.lt hE9 k hk).2
      omega
  have hE10 := hE9.fs hf10 hv9S
  have hB10 : Fs (fun k => k = w.heap.size) w1 w10 := hB9.trans hf10 (fun k h => by
    rcases Nat.lt_or_ge k w1.heap.size with h1 | h1
    · rcases hS2b k h with h | h
      · exact .inl h
      · omega
    · exact .inr h1)
  have hS3b : ∀ k, S3 k → k = w.heap.size ∨ w1.heap.size ≤ k := fun k hk => by
    rcases hS3 k hk with h | h
    · exact hS2b k h
    · have := hB9.size
      exact .inr (by omega)
  clear hu hnt hS3 hf10 hE9 hv9S hB9 hS2b hp9 hlt9 hB5 hBS1 hBS2 hS1b hlt5
  -- what it is now
  have hok10 : okT (fT (atT bA) (mkV v)) = true := ok_fT (sh_at _ (by decide)) (sh_var hv1) (nodes_at _) (nodes_var _) (dpt_at _) (dpt_var _)
  have htake := take_ok w10 w.heap.size S3 _ 0 _ hp10 r0 hok10
  go_wp2_with fail
  refine htake.mono ?_
  rintro e w11 ⟨v11, rfl, hR11, hb11⟩
  clear htake
  obtain ⟨A11, c11, rfl⟩ := Kd.R_slice hR11
  go_upto_region 8 with (fail)
  have kb := blk_new w11 (.cells #[.int .i64 (fT (atT bA) (mkV v)).f0, .string (fT (atT bA) (mkV v)).f1, .int .i64 (fT (atT bA) (mkV v)).f2, .slice A11 (fT (atT bA) (mkV v)).f3.length c11] 28)
  have hBx := below_alloc (Below.refl w11.heap.size w11) (.cells #[.int .i64 (fT (atT bA) (mkV v)).f0, .string (fT (atT bA) (mkV v)).f1, .int .i64 (fT (atT bA) (mkV v)).f2, .slice A11 (fT (atT bA) (mkV v)).f3.length c11] 28)
  obtain ⟨g11, _, hA11, _, _⟩ := (Kd.R_own hR11).elim fun _ h => World.ownsRow.form h (by simp : 0 < [atT bA, mkV v].length)
  simp only [Value.slice.injEq, true_and] at hA11
  obtain ⟨rfl, _, _⟩ := hA11
  obtain ⟨_, _, hA11, LT0⟩ := LF.of_R (t := fT (atT bA) (mkV v)) (Kd.R_bound hR11) (wf_fT (wf_at _) (wf_var hvw))
  simp only [Value.slice.injEq, true_and] at hA11
  obtain ⟨rfl, rfl⟩ := hA11
  have LT := LF.below (LF.mono LT0 (T' := fun k => w10.heap.size ≤ k ∧ k ≤ w11.heap.size) fun k hk => ⟨hk.2.1, Nat.le_of_lt hk.2.2.1⟩) hBx
  have lg : w11.heap.size < (w11.alloc (.cells #[.int .i64 (fT (atT bA) (mkV v)).f0, .string (fT (atT bA) (mkV v)).f1, .int .i64 (fT (atT bA) (mkV v)).f2, .slice (some ⟨g11, 0, none⟩) (fT (atT bA) (mkV v)).f3.length c11] 28)).heap.size := by simp
  have hBy := hb11.trans (hBx.mono hb11.size)
  have hp12 := hp10.below hBy
  have hE12 := hE10.below hBy
  have hB12 := hB10.trans (S' := fun k => k = w.heap.size) (.of_below hBy) (fun k h => .inl h)
  have hT3 : ∀ k, S3 k → ¬ (w10.heap.size ≤ k ∧ k ≤ w11.heap.size) := fun k hk h => by have := hp10.fs_lt k hk; omega
  have hl10 := hb11.size
  clear hp10 hE10 hB10 hBy LT0 hBx hR11 hb11
  generalize (w11.alloc (.cells #[.int .i64 (fT (atT bA) (mkV v)).f0, .string (fT (atT bA) (mkV v)).f1, .int .i64 (fT (atT bA) (mkV v)).f2, .slice (some ⟨g11, 0, none⟩) (fT (atT bA) (mkV v)).f3.length c11] 28)) = W12 at kb LT lg hp12 hE12 hB12 ⊢
  -- marked
  have hmark := Mark_any W12 w.heap.size S3 _ hp12 (by simp)
  go_wp2_with fail
  refine hmark.mono ?_
  rintro e w13 ⟨rfl, S4, hp13, hf13, hS4⟩
  have LT13 := LT.fs hf13 hT3
  have kb13 := hf13.blk kb (fun h => hT3 _ h ⟨hl10, Nat.le_refl _⟩)
  have hE13 := hE12.fs hf13 hv10S
  have hl13 := hf13.size
  have hT4 : ∀ k, S4 k → ¬ (w10.heap.size ≤ k ∧ k ≤ w11.heap.size) := fun k hk => by
    rcases hS4 k hk with h | h
    · exact hT3 k h
    · omega
  have hv13S : ∀ k, (Value.slice A5 2 c5).ownBlock = some k → ¬ S4 k := fun k hk h => by
    rcases hS4 k h with h | h
    · exact hv10S k hk h
    · have := (World.ownsRow.lt hE12 k hk).2
      omega
  have hS4b : ∀ k, S4 k → k = w.heap.size ∨ w1.heap.size ≤ k := fun k hk => by
    rcases hS4 k hk with h | h
    · exact hS3b k h
    · have := hB12.size
      exact .inr (by omega)
  have hB13 := hB12.trans hf13 hS3b
  clear hmark hT3 hf13 kb LT hE12 hv10S hS4 hB12 hS3b hp12
  -- a third
  go_wp2_with fail
  refine (pythiaref07_A.calls bB 3 bB 0 [] w13 rfl).mono ?_
  rintro e w14 ⟨v14, rfl, hR14, hb14⟩
  obtain ⟨A14, c14, rfl⟩ := Kd.R_slice hR14
  have hput := Put_any (atT bB) [] (fun _ => False) w14 w.heap.size _ _ A14 c14 (.slice none 0 0) (hp13.below hb14) (World.ownsRow_nil _ _ _ _) (fun k hk => by simp [Value.ownBlock] at hk) (fun k hk h => h) (fun k h => h.elim) (LF.none rfl (wf_at _)) ok3 (by simp) (by rw [vs3]; decide) (by rw [vs3]; intro v hv; cases hv) (by rw [nodes_at]; show ((C3.length : Nat) : Int) + _ ≤ 50; rw [hC3l]; decide)
  unfold PutPost at hput
  simp only [vs3] at hput
  rw [lay3, hC3l] at hput
  go_wp2_with fail
  refine hput.mono ?_
  rintro e w15 ⟨v15, S5, rfl, hp15, hf15, hS5, _, _⟩
  clear hput
  have hp15' : HpAt w15 w.heap.size S5 ⟨50, 50, C3 ++ [cA bB], N3, [(6, N3.length)]⟩ := by simpa [hC3l] using hp15
  have l14 := hb14.size
  have LT15 := (LT13.below hb14).fs hf15 hT4
  have kb15 := hf15.blk (blk_below kb13 hb14) (fun h => hT4 _ h ⟨hl10, Nat.le_refl _⟩)
  have hE15 := (hE13.below hb14).fs hf15 hv13S
  have hT5 : ∀ k, S5 k → ¬ (w10.heap.size ≤ k ∧ k ≤ w11.heap.size) := fun k hk => by
    rcases hS5 k hk with h | h
    · exact hT4 k h
    · omega
  have hv15S : ∀ k, (Value.slice A5 2 c5).ownBlock = some k → ¬ S5 k := fun k hk h => by
    rcases hS5 k h with h | h
    · exact hv13S k hk h
    · have := (World.ownsRow.lt hE13 k hk).2
      omega
  have hS5b : ∀ k, S5 k → k = w.heap.size ∨ w1.heap.size ≤ k := fun k hk => by
    rcases hS5 k hk with h | h
    · exact hS4b k h
    · have := hB13.size
      exact .inr (by omega)
  have hB15 := hB13.trans ((Fs.of_below hb14).trans hf15 (fun k h => .inl h)) hS4b
  have hl15 : w11.heap.size < w15.heap.size := by have := hf15.size; omega
  clear hp15 hf15 hb14 hE13 LT13 kb13 hT4 hv13S hS5 hS4b hB13 hR14 hp13 hl13 lg l14
  have hq : ∀ (i : Nat) (c : Cl), C3[i]? = some c → (C3 ++ [cA bB])[i]? = some c := fun i c h => by
    rw [List.getElem?_append_left (List.getElem?_eq_some_iff.1 h).1]
    exact h
  have q0 := r0.ext hq
  have q2 := r2.ext hq
  have q6 : Rep (C3 ++ [cA bB]) 6 (atT bB) := rep_a (by rw [List.getElem?_append_right (by omega), hC3l]; rfl) (by decide)
  have hi4 : HI (C3 ++ [cA bB]) := fun x hx => by
    by_cases h : x < C3.length
    · obtain ⟨t, ht⟩ := hi3 x h
      exact ⟨t, ht.ext hq⟩
    · simp at hx
      obtain rfl : x = 6 := by omega
      exact ⟨_, q6⟩
  replace hsin := hsin.laid (C' := C3 ++ [cA bB]) (by simp) hq
  have hl4 : (C3 ++ [cA bB]).length = 7 := by simp [hC3l]
  have p3 : w15.cell? ⟨w11.heap.size, 3, none⟩ = some (.slice (some ⟨g11, 0, none⟩) 2 c11) := blk_cell kb15 3
  obtain ⟨ge, ce, hA5, _, e1, _⟩ := hE15.cell (j := 1) (by decide)
  simp only [Value.slice.injEq] at hA5
  obtain ⟨rfl, _, rfl⟩ := hA5
  have e1' : w15.cell? ⟨ge, 1, none⟩ = some (.int .i64 2) := e1
  have huni := Unify_any (fun _ => True) w15 w.heap.size S5 ⟨50, 50, C3 ++ [cA bB], N3, [(6, N3.length)]⟩ 2 6 _ _ hp15' hi4 q2 q6 (fun _ _ => trivial) (fun _ _ => trivial)
  clear e1
  go_wp2_with fail
  refine huni.mono ?_
  rintro e w16 hu
  clear huni
  rcases hu with ⟨C5, N5, τ, rfl, hto, hnt, hu⟩ | ⟨_, _, hno⟩ | ⟨_, _, htr⟩
  case inr.inl => exact absurd (al_uni2 q2 q6 _ _ q2 q6) (hno (th2 v) _ _ q2 q6)
  case inr.inr => exact absurd htr (by simp only [hl4]; omega)
  obtain ⟨S6, hp16, hf16, hS6⟩ := hto
  have k0 := al_two q0 q2 q6 hu
  replace hsin := hsin.noted hnt
  have LT16 := LT15.fs hf16 hT5
  have kb16 := hf16.blk kb15 (fun h => hT5 _ h ⟨hl10, Nat.le_refl _⟩)
  have hl16 := hf16.size
  have hT6 : ∀ k, S6 k → ¬ (w10.heap.size ≤ k ∧ k ≤ w11.heap.size) := fun k hk => by
    rcases hS6 k hk with h | h
    · exact hT5 k h
    · omega
  have hS6b : ∀ k, S6 k → k = w.heap.size ∨ w1.heap.size ≤ k := fun k hk => by
    rcases hS6 k hk with h | h
    · exact hS5b k h
    · have := hB15.size
      exact .inr (by omega)
  have hB16 := hB15.trans hf16 hS5b
  have hl16' : w11.heap.size < w16.heap.size := by omega
  clear hu hnt hf16 hS6 hT5 hS5b hB15 LT15 kb15 hE15 hv15S hp15' p3 e1' hi4 q0 q2 q6 hq hl15
  -- what it is now
  have hok16 : okT (fT (atT bA) (atT bB)) = true := ok_fT (sh_at _ (by decide)) (sh_at _ (by decide)) (nodes_at _) (nodes_at _) (dpt_at _) (dpt_at _)
  have htake := take_ok w16 w.heap.size S6 _ 0 _ hp16 k0 hok16
  go_wp2_with fail
  refine htake.mono ?_
  rintro e w17 ⟨v17, rfl, hR17, hb17⟩
  clear htake
  obtain ⟨A17, c17, rfl⟩ := Kd.R_slice hR17
  go_upto_region 14 with (fail)
  have ku := blk_new w17 (.cells #[.int .i64 (fT (atT bA) (atT bB)).f0, .string (fT (atT bA) (atT bB)).f1, .int .i64 (fT (atT bA) (atT bB)).f2, .slice A17 (fT (atT bA) (atT bB)).f3.length c17] 28)
  have hBx := below_alloc (Below.refl w17.heap.size w17) (.cells #[.int .i64 (fT (atT bA) (atT bB)).f0, .string (fT (atT bA) (atT bB)).f1, .int .i64 (fT (atT bA) (atT bB)).f2, .slice A17 (fT (atT bA) (atT bB)).f3.length c17] 28)
  obtain ⟨g17, _, hA17, _, _⟩ := (Kd.R_own hR17).elim fun _ h => World.ownsRow.form h (by decide : 0 < [atT bA, atT bB].length)
  simp only [Value.slice.injEq, true_and] at hA17
  obtain ⟨rfl, _, _⟩ := hA17
  obtain ⟨_, _, hA17, LU0⟩ := LF.of_R (t := fT (atT bA) (atT bB)) (Kd.R_bound hR17) (wf_fT (wf_at _) (wf_at _))
  simp only [Value.slice.injEq, true_and] at hA17
  obtain ⟨rfl, rfl⟩ := hA17
  have LU := LF.below (LF.mono LU0 (T' := fun k => w16.heap.size ≤ k ∧ k ≤ w17.heap.size) fun k hk => ⟨hk.2.1, Nat.le_of_lt hk.2.2.1⟩) hBx
  have lg : w17.heap.size < (w17.alloc (.cells #[.int .i64 (fT (atT bA) (atT bB)).f0, .string (fT (atT bA) (atT bB)).f1, .int .i64 (fT (atT bA) (atT bB)).f2, .slice (some ⟨g17, 0, none⟩) (fT (atT bA) (atT bB)).f3.length c17] 28)).heap.size := by simp
  have hBy := hb17.trans (hBx.mono hb17.size)
  have hp18 := hp16.below hBy
  have LT18 := LT16.below hBy
  have kb18 := blk_below kb16 hBy
  have hB18 := hB16.trans (S' := fun k => k = w.heap.size) (.of_below hBy) (fun k h => .inl h)
  have hU6 : ∀ k, S6 k → ¬ (w16.heap.size ≤ k ∧ k ≤ w17.heap.size) := fun k hk h => by have := hp16.fs_lt k hk; omega
  have hl17 := hb17.size
  clear hp16 LT16 kb16 hB16 hBy LU0 hBx hR17 hb17 k0
  generalize (w17.alloc (.cells #[.int .i64 (fT (atT bA) (atT bB)).f0, .string (fT (atT bA) (atT bB)).f1, .int .i64 (fT (atT bA) (atT bB)).f2, .slice (some ⟨g17, 0, none⟩) (fT (atT bA) (atT bB)).f3.length c17] 28)) = W18 at ku LU LT18 kb18 lg hp18 hB18 ⊢
  -- taken back
  obtain ⟨bk1, bk2, bk3, bk4⟩ := hsin.back
  have hundo := Undo_any W18 w.heap.size S6 _ 1 6 N3.length hp18 (by decide) (by simp) rfl (by have := hsin.len; show 6 ≤ C5.length; omega) bk3 bk4
  unfold UndoPost at hundo
  simp only at hundo
  rw [show (6 : Nat) = C3.length from hC3l.symm, bk1, bk2] at hundo
  go_wp2_with fail
  refine hundo.mono ?_
  rintro e w19 ⟨rfl, S7, hp19, hf19, hS7⟩
  have LU19 := LU.fs hf19 hU6
  have LT19 := LT18.fs hf19 hT6
  have ku19 := hf19.blk ku (fun h => hU6 _ h ⟨hl17, Nat.le_refl _⟩)
  have kb19 := hf19.blk kb18 (fun h => hT6 _ h ⟨hl10, Nat.le_refl _⟩)
  have hl19 := hf19.size
  have hU7 : ∀ k, S7 k → ¬ (w16.heap.size ≤ k ∧ k ≤ w17.heap.size) := fun k hk => by
    rcases hS7 k hk with h | h
    · exact hU6 k h
    · omega
  have hT7 : ∀ k, S7 k → ¬ (w10.heap.size ≤ k ∧ k ≤ w11.heap.size) := fun k hk => by
    rcases hS7 k hk with h | h
    · exact hT6 k h
    · omega
  have hS7b : ∀ k, S7 k → k = w.heap.size ∨ w1.heap.size ≤ k := fun k hk => by
    rcases hS7 k hk with h | h
    · exact hS6b k h
    · have := hB18.size
      exact .inr (by omega)
  have hB19 := hB18.trans hf19 hS6b
  clear hundo hf19 hU6 hT6 LU LT18 ku kb18 hS7 hS6b hB18 hp18 bk1 bk2 bk3 bk4 hsin
  have hp19' : HpAt w19 w.heap.size S7 ⟨50, 50, C3, N3, [(6, N3.length)]⟩ := by simpa [hC3l] using hp19
  clear hp19
  have htake := take_ok w19 w.heap.size S7 _ 0 _ hp19' r0 hok10
  go_wp2_with fail
  refine htake.mono ?_
  rintro e w20 ⟨v20, rfl, hR20, hb20⟩
  clear htake
  obtain ⟨A20, c20, rfl⟩ := Kd.R_slice hR20
  go_upto_region 16 with (fail)
  have kv := blk_new w20 (.cells #[.int .i64 (fT (atT bA) (mkV v)).f0, .string (fT (atT bA) (mkV v)).f1, .int .i64 (fT (atT bA) (mkV v)).f2, .slice A20 (fT (atT bA) (mkV v)).f3.length c20] 28)
  have hBx := below_alloc (Below.refl w20.heap.size w20) (.cells #[.int .i64 (fT (atT bA) (mkV v)).f0, .string (fT (atT bA) (mkV v)).f1, .int .i64 (fT (atT bA) (mkV v)).f2, .slice A20 (fT (atT bA) (mkV v)).f3.length c20] 28)
  obtain ⟨_, _, hA20, LV0⟩ := LF.of_R (t := fT (atT bA) (mkV v)) hR20 (wf_fT (wf_at _) (wf_var hvw))
  simp only [Value.slice.injEq, true_and] at hA20
  obtain ⟨rfl, rfl⟩ := hA20
  have LV := LF.below LV0 hBx
  have hBy := hb20.trans (hBx.mono hb20.size)
  have hp21 := hp19'.below hBy
  have LT21 := LT19.below hBy
  have LU21 := LU19.below hBy
  have kb21 := blk_below kb19 hBy
  have ku21 := blk_below ku19 hBy
  have hB21 := hB19.trans (S' := fun k => k = w.heap.size) (.of_below hBy) (fun k h => .inl h)
  clear hp19' LT19 LU19 kb19 ku19 hB19 hBy LV0 hBx hR20 hb20
  generalize (w20.alloc (.cells #[.int .i64 (fT (atT bA) (mkV v)).f0, .string (fT (atT bA) (mkV v)).f1, .int .i64 (fT (atT bA) (mkV v)).f2, .slice A20 (fT (atT bA) (mkV v)).f3.length c20] 28)) = W21 at kv LV LT21 LU21 kb21 ku21 hp21 hB21 ⊢
  have hused := Used_any W21 w.heap.size S7 _ hp21
  simp only [hC3l] at hused
  go_wp2_with fail
  refine hused.mono ?_
  rintro e w22 ⟨rfl, n, rfl⟩
  go_upto_region 17 with (fail)
  have hBy := pw_below_drewN (Below.refl W21.heap.size W21) n
  have hp22 := hp21.below hBy
  have LT22 := LT21.below hBy
  have LU22 := LU21.below hBy
  have LV22 := LV.below hBy
  have kb22 := blk_below kb21 hBy
  have ku22 := blk_below ku21 hBy
  have kv22 := blk_below kv hBy
  have hB22 := hB21.trans (S' := fun k => k = w.heap.size) (.of_below hBy) (fun k h => .inl h)
  clear hused hp21 LT21 LU21 LV kb21 ku21 kv hB21 hBy
  generalize W21.drewN n = W22 at hp22 LT22 LU22 LV22 kb22 ku22 kv22 hB22 ⊢
  obtain ⟨_, _, _, ea, _, a1, _⟩ := LT22.rd 0 (by simp)
  obtain ⟨_, _, _, ea2, a4, _⟩ := LT22.rd 1 (by simp)
  obtain ⟨_, _, _, eu, _, u5, _⟩ := LU22.rd 1 (by decide)
  simp only [Option.some.injEq] at ea ea2 eu
  subst ea
  subst ea2
  subst eu
  simp only [add_plain] at a1 a4 u5
  have a1' : W22.cell? ⟨g11, 1, none⟩ = some (.string ⟨#[97]⟩) := a1
  have a4' : W22.cell? ⟨g11, 4, none⟩ = some (.int .i64 1) := a4
  have u5' : W22.cell? ⟨g17, 5, none⟩ = some (.string ⟨#[98]⟩) := u5
  have p0 : W22.cell? ⟨w11.heap.size, 0, none⟩ = some (.int .i64 4) := blk_cell kb22 0
  have p1 : W22.cell? ⟨w11.heap.size, 1, none⟩ = some (.string bF) := blk_cell kb22 1
  have p2 : W22.cell? ⟨w11.heap.size, 2, none⟩ = some (.int .i64 0) := blk_cell kb22 2
  have p3 : W22.cell? ⟨w11.heap.size, 3, none⟩ = some (.slice (some ⟨g11, 0, none⟩) 2 c11) := blk_cell kb22 3
  have m3 : W22.cell? ⟨w17.heap.size, 3, none⟩ = some (.slice (some ⟨g17, 0, none⟩) 2 c17) := blk_cell ku22 3
  have x0 : W22.cell? ⟨w20.heap.size, 0, none⟩ = some (.int .i64 4) := blk_cell kv22 0
  have x1 : W22.cell? ⟨w20.heap.size, 1, none⟩ = some (.string bF) := blk_cell kv22 1
  have x2 : W22.cell? ⟨w20.heap.size, 2, none⟩ = some (.int .i64 0) := blk_cell kv22 2
  have x3 : W22.cell? ⟨w20.heap.size, 3, none⟩ = some (.slice A20 2 c20) := blk_cell kv22 3
  have hsame := rsame_at LV22.lies LT22.lies (Below.refl _ _) ((okT_iff _).1 hok10).1 ((okT_iff _).1 hok10).1
  rw [ordT_refl] at hsame
  clear a1 a4 u5 kb22 ku22 kv22 LT22 LU22 LV22
  have hN1 : (0 : Int) < (N3.length : Int) := by omega
  go_wp2_with fail
  refine hsame.mono ?_
  rintro e w23 ⟨rfl, hb23⟩
  clear hsame a1' a4' u5' p0 p1 p2 p3 m3 x0 x1 x2 x3
  have hkeep := Keep_any w23 w.heap.size S7 _ 1 (hp22.below hb23) (by decide) (by simp)
  go_wp2_with fail
  refine hkeep.mono ?_
  rintro e w24 ⟨rfl, S8, hp24, hf24, hS8⟩
  clear hkeep
  go_wp2
  go_ret
  have hf := hB22.trans ((Fs.of_below hb23).trans hf24 (fun k h => .inl h)) hS7b
  exact ⟨rfl, hB1.os.symm ▸ hf.os, hB1.tape.symm ▸ hf.tape, hB1.output.symm ▸ hf.output, Nat.le_trans hB1.size hf.size, fun k hk => (hf.block k (by omega) (by omega)).trans (hB1.block k hk)⟩

end Go.Proofs.Ytjhhacighfpdbaa
