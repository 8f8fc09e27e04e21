/- The walks of take, Take. -/
import Derived.Test.YtjhhacighfpdbaaHpJ
namespace Go.Proofs.Ytjhhacighfpdbaa
set_option linter.unusedVariables false
open Go.RowKit Go.Maps Go.Proofs.YtjhhacighfpdbaaW.PrintWords Go.Proofs.YtjhhacighfpdbaaW.PrintLast Go.Proofs.YtjhhacighfpdbaaW.PrintMore Go.Proofs.Ytjhhacighfpdbaa.PHeapShares Go.Extern

/-- What stands at an address that isn't a reference. -/
theorem Rep.kinds {C : List Cl} {x : Nat} {t : S28} {c : Cl} (h : Rep C x t) (hx : C[x]? = some c) (h1 : c.kd ≠ 1) :
    (c.kd = 0 ∧ t = mkV ((x : Int) + 1)) ∨ (c.kd = 2 ∧ t = ⟨2, ⟨#[]⟩, c.n, []⟩) ∨ (c.kd = 3 ∧ t = ⟨3, c.nm, 0, []⟩) ∨ (c.kd = 4 ∧ ∃ (f : Nat) (ts : List S28), c.a = f ∧ c.ar = ts.length ∧ 1 ≤ ts.length ∧ ts.length ≤ 8 ∧ t = ⟨4, c.nm, 0, ts⟩ ∧ ∀ i (hi : i < ts.length), Rep C (f + i) ts[i]) := by
  cases h with
  | free _ c' h2 hk2 => rw [hx] at h2; cases h2; exact .inl ⟨hk2, rfl⟩
  | ref _ b' c' _ h2 hk2 ha2 hr2 => rw [hx] at h2; cases h2; exact absurd hk2 h1
  | num _ c' h2 hk2 => rw [hx] at h2; cases h2; exact .inr (.inl ⟨hk2, rfl⟩)
  | atom _ c' h2 hk2 => rw [hx] at h2; cases h2; exact .inr (.inr (.inl ⟨hk2, rfl⟩))
  | comp _ f' c' ts h2 hk2 ha2 hr2 g1 g8 hn hz hs => rw [hx] at h2; cases h2; exact .inr (.inr (.inr ⟨hk2, f', ts, ha2, hr2, g1, g8, rfl, hs⟩))

theorem cpT_fail (t : S28) (deep s : Int) (h : s + 1 > 2000 ∨ deep > 100) : cpT t deep s = (z28, false, s + 1) := by
  obtain ⟨kd, nm, nt, xs⟩ := t
  unfold cpT
  rw [if_pos h]
theorem cpT_leaf (t : S28) (deep s : Int) (h : ¬(s + 1 > 2000 ∨ deep > 100)) (h4 : t.f0 ≠ 4) : cpT t deep s = (bareT t, true, s + 1) := by
  obtain ⟨kd, nm, nt, xs⟩ := t
  unfold cpT
  rw [if_neg h, if_pos h4]
theorem cpT_comp (nm : ByteArray) (nt : Int) (xs : List S28) (deep s : Int) (h : ¬(s + 1 > 2000 ∨ deep > 100)) : cpT ⟨4, nm, nt, xs⟩ deep s = if (cpL xs (deep + 1) [] (s + 1)).2.1 = true then (⟨4, nm, 0, (cpL xs (deep + 1) [] (s + 1)).1⟩, true, (cpL xs (deep + 1) [] (s + 1)).2.2) else (z28, false, (cpL xs (deep + 1) [] (s + 1)).2.2) := by
  conv => lhs; unfold cpT
  rw [if_neg h, if_neg (by simp)]

/-- The box of a result, the count, and nothing else. -/
structure Bx (w W : World) (b g : Nat) (s : Int) (x0 x1 x2 x3 : Value) : Prop where
  blk : W.heap[g]? = some (.cells #[x0, x1, x2, x3] 28 (0, 0))
  fg : Fg b w W
  cnt : CntAt W b s
theorem Bx.set4 {w W : World} {b g : Nat} {s : Int} {x0 x1 x2 x3 : Value} (h : Bx w W b g s x0 x1 x2 x3) (hg : w.heap.size ≤ g) (hb : b ≠ g) (y0 y1 y2 y3 : Value) :
    Bx w ((((W.setCell ⟨g, 0, none⟩ y0).setCell ⟨g, 1, none⟩ y1).setCell ⟨g, 2, none⟩ y2).setCell ⟨g, 3, none⟩ y3) b g s y0 y1 y2 y3 :=
  ⟨res_box h.blk y0 y1 y2 y3, (((h.fg.far hg _).far hg _).far hg _).far hg _, (((h.cnt.far hb _).far hb _).far hb _).far hb _⟩
theorem Bx.alloc {w W : World} {b g : Nat} {s : Int} {x0 x1 x2 x3 : Value} (h : Bx w W b g s x0 x1 x2 x3) (o : Obj) : Bx w (W.alloc o) b g s x0 x1 x2 x3 := ⟨blk_alloc h.blk o, h.fg.alloc o, h.cnt.alloc o⟩
theorem Bx.fin {fn : Func} {R : Ending → World → Prop} {a : Act} {w W : World} {b g : Nat} {s : Int} {x0 x1 x2 x3 : Value} (hB : Bx w W b g s x0 x1 x2 x3) (k : ∀ W', Bx w W' b g s x0 x1 x2 x3 → bodyPost Try.prog fn R .ret a W') : bodyPost Try.prog fn R .ret a W := k W hB
theorem Bx.fin2 {fn : Func} {R : Ending → World → Prop} {a : Act} {w W : World} {b g : Nat} {s : Int} {x0 x1 x2 x3 : Value} {base : Nat} {ok : Nat → Prop} {v : Value} {xs : List S28} (hB : Bx w W b g s x0 x1 x2 x3) (hR : Kd.R k28 28 W base ok v xs) (k : ∀ W', Bx w W' b g s x0 x1 x2 x3 → Kd.R k28 28 W' base ok v xs → bodyPost Try.prog fn R .ret a W') : bodyPost Try.prog fn R .ret a W := k W hB hR
theorem Fg.low {b : Nat} {w w' : World} (h : Fg b w w') (hb : w.heap.size ≤ b) : Below w.heap.size w w' := ⟨h.os, h.tape, h.output, h.size, fun k hk => h.block k hk (by omega)⟩

/-- What take hands out. -/
def TakePost (t : S28) (deep s : Int) (b : Nat) (w : World) (e : Ending) (w' : World) : Prop := ∃ v,
  e = .returned (.tuple #[.agg #[.int .i64 (cpT t deep s).1.f0, .string (cpT t deep s).1.f1, .int .i64 (cpT t deep s).1.f2, v], .bool (cpT t deep s).2.1]) ∧ Kd.R k28 28 w' w.heap.size (fun _ => True) v (cpT t deep s).1.f3 ∧ Fg b w w' ∧ CntAt w' b (cpT t deep s).2.2

set_option maxHeartbeats 1000000 in
set_option maxRecDepth 100000 in
theorem take_any (hb : Nat) (S : Nat → Prop) (H : Hp) : ∀ (n : Nat) (t : S28), SizeOf.sizeOf t = n → ∀ (deep s : Int) (w : World) (x b : Nat), HpAt w hb S H → ¬ S b → Rep H.C x t → CntAt w b s → 0 ≤ s → s ≤ 2000 → 0 ≤ deep → deep ≤ 101 →
    Calls Try.prog 37 #[.pointer (some ⟨hb, 0, none⟩), .int .i64 x, .int .i64 deep, .pointer (some ⟨b, 0, none⟩)] w (TakePost t deep s b w) := by
  intro n
  induction n using Nat.strongRecOn with
  | _ n ih =>
  intro t hn deep s w x b hp hSb hr hs h0 h2 hd0 hd
  have hbl := blk_lt hs
  have x0 : w.cell? ⟨b, 0, none⟩ = some (.int .i64 s) := (blk_cell hs 0).trans rfl
  have x1 : w.frozen? ⟨b, 0, none⟩ = false := blk_frozen hs 0
  have hs4 : CntAt ((w.setCell ⟨b, 0, none⟩ (.int .i64 (s + 1))).alloc (.cells #[.int .i64 0, .string ⟨#[]⟩, .int .i64 0, .slice none 0 0] 28)) b (s + 1) := (hs.set (s + 1)).alloc _
  have hf4 : Fg b w ((w.setCell ⟨b, 0, none⟩ (.int .i64 (s + 1))).alloc (.cells #[.int .i64 0, .string ⟨#[]⟩, .int .i64 0, .slice none 0 0] 28)) := (Fg.set _ 0 _).alloc _
  have kR : ((w.setCell ⟨b, 0, none⟩ (.int .i64 (s + 1))).alloc (.cells #[.int .i64 0, .string ⟨#[]⟩, .int .i64 0, .slice none 0 0] 28)).heap[w.heap.size]? = some (.cells #[.int .i64 0, .string ⟨#[]⟩, .int .i64 0, .slice none 0 0] 28 (0, 0)) := by
    have h := blk_new (w.setCell ⟨b, 0, none⟩ (.int .i64 (s + 1))) (.cells #[.int .i64 0, .string ⟨#[]⟩, .int .i64 0, .slice none 0 0] 28)
    rwa [show (w.setCell ⟨b, 0, none⟩ (.int .i64 (s + 1))).heap.size = w.heap.size by simp [World.setCell]] at h
  have hfail : (s + 1 > 2000 ∨ deep > 100) → ∀ e w', e = .returned (.tuple #[.agg #[.int .i64 0, .string ⟨#[]⟩, .int .i64 0, .slice none 0 0], .bool false]) → Fg b w w' → CntAt w' b (s + 1) → TakePost t deep s b w e w' := fun h1 e w' he hf hc => by
    unfold TakePost
    rw [cpT_fail t deep s h1]
    exact ⟨.slice none 0 0, he, Kd.R_nil _ _ _ _ _, hf, hc⟩
  by_cases hD : deep > 100
  · have eD : decide (100 < deep) = true := decide_eq_true hD
    clear ih
    go_enter Try.func37, Try.ntmps37
    go_wp2
    refine bodyPost_ret (v := .tuple #[.agg #[.int .i64 0, .string ⟨#[]⟩, .int .i64 0, .slice none 0 0], .bool false]) (by simp [results, Try.results37, go_sem]) rfl ?_
    exact hfail (.inr hD) _ _ rfl hf4 hs4
  have eD : decide (100 < deep) = false := decide_eq_false hD
  by_cases hS : s + 1 > 2000
  · have eS : decide (2000 < s + 1) = true := decide_eq_true hS
    clear ih
    go_enter Try.func37, Try.ntmps37
    go_wp2
    refine bodyPost_ret (v := .tuple #[.agg #[.int .i64 0, .string ⟨#[]⟩, .int .i64 0, .slice none 0 0], .bool false]) (by simp [results, Try.results37, go_sem]) rfl ?_
    exact hfail (.inl hS) _ _ rfl hf4 hs4
  have eS : decide (2000 < s + 1) = false := decide_eq_false hS
  have h1 : ¬(s + 1 > 2000 ∨ deep > 100) := by omega
  obtain ⟨y, hwk⟩ := hr.walk
  have hry := hwk.rep hr
  obtain ⟨c, hcy, hk1⟩ := hwk.end_
  have hp4 := hp.fg hf4 hSb
  have hwalk := walk_any _ hb S H hp4 hwk
  obtain ⟨vc, vn, vm, hv4⟩ := hp4
  obtain ⟨g, cap, rfl, g1, g2, g3, g4, hseen, g6⟩ := hv4.cell hcy
  have c2 := hv4.c2
  have d0 := hseen.d0
  have d1 := hseen.d1
  have d2 := hseen.d2
  have d3 := hseen.d3
  have d4 := hseen.d4
  have hlc := hv4.lc
  have l1 := blk_lt kR
  have hB0 : Bx w ((w.setCell ⟨b, 0, none⟩ (.int .i64 (s + 1))).alloc (.cells #[.int .i64 0, .string ⟨#[]⟩, .int .i64 0, .slice none 0 0] 28)) b w.heap.size (s + 1) (.int .i64 0) (.string ⟨#[]⟩) (.int .i64 0) (.slice none 0 0) := ⟨kR, hf4, hs4⟩
  have hne : b ≠ w.heap.size := by omega
  have hleaf : ∀ u : S28, u = t → t.f0 ≠ 4 → bareT t = t → t.f3 = [] → ∀ e w', e = .returned (.tuple #[.agg #[.int .i64 u.f0, .string u.f1, .int .i64 u.f2, .slice none 0 0], .bool true]) → Fg b w w' → CntAt w' b (s + 1) → TakePost t deep s b w e w' := fun u hu h4 hb3 h3 e w' he hf hc => by
    subst hu
    unfold TakePost
    rw [cpT_leaf u deep s h1 h4, hb3, h3]
    exact ⟨.slice none 0 0, he, Kd.R_nil _ _ _ _ _, hf, hc⟩
  rcases hry.kinds hcy hk1 with ⟨hk, rfl⟩ | ⟨hk, rfl⟩ | ⟨hk, rfl⟩ | ⟨hk, f, ts, ha, har, n1, n8, rfl, hreps⟩
  · clear ih
    have hfin := hleaf _ rfl (by simp [mkV]) (by simp [mkV, bareT]) (by simp [mkV])
    simp only [mkV] at hfin
    rw [hk] at d0
    go_enter Try.func37, Try.ntmps37
    go_wp2_with fail
    refine hwalk.mono ?_
    rintro e w1 ⟨rfl, rfl⟩
    clear hwalk
    generalize ((w.setCell ⟨b, 0, none⟩ (.int .i64 (s + 1))).alloc (.cells #[.int .i64 0, .string ⟨#[]⟩, .int .i64 0, .slice none 0 0] 28)) = W1 at *
    have r0 : W1.cell? ⟨w.heap.size, 0, none⟩ = some (.int .i64 0) := blk_cell kR 0
    have r1 : W1.cell? ⟨w.heap.size, 1, none⟩ = some (.string ⟨#[]⟩) := blk_cell kR 1
    have r2 : W1.cell? ⟨w.heap.size, 2, none⟩ = some (.int .i64 0) := blk_cell kR 2
    have r3 : W1.cell? ⟨w.heap.size, 3, none⟩ = some (.slice none 0 0) := blk_cell kR 3
    have fr := fun i => blk_frozen kR i
    go_wp2
    refine (((hB0.set4 (Nat.le_refl _) hne _ _ _ _).set4 (Nat.le_refl _) hne _ _ _ _).alloc _).fin fun WF hF => ?_
    have q0 : WF.cell? ⟨w.heap.size, 0, none⟩ = some (.int .i64 1) := blk_cell hF.blk 0
    have q1 : WF.cell? ⟨w.heap.size, 1, none⟩ = some (.string ⟨#[]⟩) := blk_cell hF.blk 1
    have q2 : WF.cell? ⟨w.heap.size, 2, none⟩ = some (.int .i64 ((y : Int) + 1)) := blk_cell hF.blk 2
    have q3 : WF.cell? ⟨w.heap.size, 3, none⟩ = some (.slice none 0 0) := blk_cell hF.blk 3
    refine bodyPost_ret (v := .tuple #[.agg #[.int .i64 1, .string ⟨#[]⟩, .int .i64 ((y : Int) + 1), .slice none 0 0], .bool true]) (by simp [results, Try.results37, go_sem, q0, q1, q2, q3]) rfl ?_
    exact hfin _ _ rfl hF.fg hF.cnt
  · clear ih
    have hfin := hleaf _ rfl (by simp) (by simp [bareT]) (by simp)
    simp only at hfin
    rw [hk] at d0
    go_enter Try.func37, Try.ntmps37
    go_wp2_with fail
    refine hwalk.mono ?_
    rintro e w1 ⟨rfl, rfl⟩
    clear hwalk
    generalize ((w.setCell ⟨b, 0, none⟩ (.int .i64 (s + 1))).alloc (.cells #[.int .i64 0, .string ⟨#[]⟩, .int .i64 0, .slice none 0 0] 28)) = W1 at *
    have r0 : W1.cell? ⟨w.heap.size, 0, none⟩ = some (.int .i64 0) := blk_cell kR 0
    have r1 : W1.cell? ⟨w.heap.size, 1, none⟩ = some (.string ⟨#[]⟩) := blk_cell kR 1
    have r2 : W1.cell? ⟨w.heap.size, 2, none⟩ = some (.int .i64 0) := blk_cell kR 2
    have r3 : W1.cell? ⟨w.heap.size, 3, none⟩ = some (.slice none 0 0) := blk_cell kR 3
    have fr := fun i => blk_frozen kR i
    go_wp2
    refine (((hB0.set4 (Nat.le_refl _) hne _ _ _ _).set4 (Nat.le_refl _) hne _ _ _ _).alloc _).fin fun WF hF => ?_
    have q0 : WF.cell? ⟨w.heap.size, 0, none⟩ = some (.int .i64 2) := blk_cell hF.blk 0
    have q1 : WF.cell? ⟨w.heap.size, 1, none⟩ = some (.string ⟨#[]⟩) := blk_cell hF.blk 1
    have q2 : WF.cell? ⟨w.heap.size, 2, none⟩ = some (.int .i64 c.n) := blk_cell hF.blk 2
    have q3 : WF.cell? ⟨w.heap.size, 3, none⟩ = some (.slice none 0 0) := blk_cell hF.blk 3
    refine bodyPost_ret (v := .tuple #[.agg #[.int .i64 2, .string ⟨#[]⟩, .int .i64 c.n, .slice none 0 0], .bool true]) (by simp [results, Try.results37, go_sem, q0, q1, q2, q3]) rfl ?_
    exact hfin _ _ rfl hF.fg hF.cnt
  · clear ih
    have hfin := hleaf _ rfl (by simp) (by simp [bareT]) (by simp)
    simp only at hfin
    rw [hk] at d0
    go_enter Try.func37, Try.ntmps37
    go_wp2_with fail
    refine hwalk.mono ?_
    rintro e w1 ⟨rfl, rfl⟩
    clear hwalk
    generalize ((w.setCell ⟨b, 0, none⟩ (.int .i64 (s + 1))).alloc (.cells #[.int .i64 0, .string ⟨#[]⟩, .int .i64 0, .slice none 0 0] 28)) = W1 at *
    have r0 : W1.cell? ⟨w.heap.size, 0, none⟩ = some (.int .i64 0) := blk_cell kR 0
    have r1 : W1.cell? ⟨w.heap.size, 1, none⟩ = some (.string ⟨#[]⟩) := blk_cell kR 1
    have r2 : W1.cell? ⟨w.heap.size, 2, none⟩ = some (.int .i64 0) := blk_cell kR 2
    have r3 : W1.cell? ⟨w.heap.size, 3, none⟩ = some (.slice none 0 0) := blk_cell kR 3
    have fr := fun i => blk_frozen kR i
    go_wp2
    refine (((hB0.set4 (Nat.le_refl _) hne _ _ _ _).set4 (Nat.le_refl _) hne _ _ _ _).alloc _).fin fun WF hF => ?_
    have q0 : WF.cell? ⟨w.heap.size, 0, none⟩ = some (.int .i64 3) := blk_cell hF.blk 0
    have q1 : WF.cell? ⟨w.heap.size, 1, none⟩ = some (.string c.nm) := blk_cell hF.blk 1
    have q2 : WF.cell? ⟨w.heap.size, 2, none⟩ = some (.int .i64 0) := blk_cell hF.blk 2
    have q3 : WF.cell? ⟨w.heap.size, 3, none⟩ = some (.slice none 0 0) := blk_cell hF.blk 3
    refine bodyPost_ret (v := .tuple #[.agg #[.int .i64 3, .string c.nm, .int .i64 0, .slice none 0 0], .bool true]) (by simp [results, Try.results37, go_sem, q0, q1, q2, q3]) rfl ?_
    exact hfin _ _ rfl hF.fg hF.cnt
  · have hcp := cpT_comp c.nm 0 ts deep s h1
    rw [hk] at d0
    rw [ha] at d3
    rw [har] at d4
    have hwx : ∀ i (hi : i < ts.length), SizeOf.sizeOf ts[i] < n := fun i hi => by rw [← hn]; exact sz_mem (t := ⟨4, c.nm, 0, ts⟩) (List.getElem_mem hi)
    have hfl : f + ts.length ≤ H.C.length := by
      have := (hreps (ts.length - 1) (by omega)).lt
      omega
    generalize c.nm = nm at *
    go_enter Try.func37, Try.ntmps37
    go_wp2_with fail
    refine hwalk.mono ?_
    rintro e w1 ⟨rfl, rfl⟩
    clear hwalk
    generalize ((w.setCell ⟨b, 0, none⟩ (.int .i64 (s + 1))).alloc (.cells #[.int .i64 0, .string ⟨#[]⟩, .int .i64 0, .slice none 0 0] 28)) = W1 at *
    have r0 : W1.cell? ⟨w.heap.size, 0, none⟩ = some (.int .i64 0) := blk_cell kR 0
    have r1 : W1.cell? ⟨w.heap.size, 1, none⟩ = some (.string ⟨#[]⟩) := blk_cell kR 1
    have r2 : W1.cell? ⟨w.heap.size, 2, none⟩ = some (.int .i64 0) := blk_cell kR 2
    have r3 : W1.cell? ⟨w.heap.size, 3, none⟩ = some (.slice none 0 0) := blk_cell kR 3
    have fr := fun i => blk_frozen kR i
    go_wp2
    have hBl := (hB0.set4 (Nat.le_refl _) hne (.int .i64 4) (.string nm) (.int .i64 0) (.slice none 0 0)).alloc (.cells #[.int .i64 4, .string nm, .int .i64 c.n, .int .i64 f, .int .i64 ts.length] 66)
    have hCl := blk_new ((((W1.setCell ⟨w.heap.size, 0, none⟩ (.int .i64 4)).setCell ⟨w.heap.size, 1, none⟩ (.string nm)).setCell ⟨w.heap.size, 2, none⟩ (.int .i64 0)).setCell ⟨w.heap.size, 3, none⟩ (.slice none 0 0)) (.cells #[.int .i64 4, .string nm, .int .i64 c.n, .int .i64 f, .int .i64 ts.length] 66)
    rw [show ((((W1.setCell ⟨w.heap.size, 0, none⟩ (.int .i64 4)).setCell ⟨w.heap.size, 1, none⟩ (.string nm)).setCell ⟨w.heap.size, 2, none⟩ (.int .i64 0)).setCell ⟨w.heap.size, 3, none⟩ (.slice none 0 0)).heap.size = W1.heap.size by simp [World.setCell]] at hCl
    clear r0 r1 r2 r3 fr c2 d0 d1 d2 d3 d4 hseen g6 hv4 hB0 kR hf4 hs4 x0 x1
    go_loopw [60] (fun i wr => ∃ (k : Nat) (q : Int) (acc : List S28) (v : Value), k ≤ ts.length ∧ i = .int .i64 k ∧ cpL ts (deep + 1) [] (s + 1) = cpL (ts.drop k) (deep + 1) acc q ∧ 0 ≤ q ∧ q ≤ 2000 ∧ (acc.length : Int) ≤ q ∧ Bx w wr b w.heap.size q (.int .i64 4) (.string nm) (.int .i64 0) v ∧
        wr.heap[W1.heap.size]? = some (.cells #[.int .i64 4, .string nm, .int .i64 c.n, .int .i64 f, .int .i64 ts.length] 66 (0, 0)) ∧ Kd.R k28 28 wr w.heap.size (fun j => W1.heap.size < j) v acc)
      (fun i _ => ts.length - (intOf i).toNat)
    case atStart => exact ⟨0, s + 1, [], .slice none 0 0, Nat.zero_le _, rfl, rfl, by omega, by omega, by simp; omega, hBl, hCl, Kd.R_nil _ _ _ _ _⟩
    case round =>
      clear hBl hCl
      obtain ⟨k, q, acc, v, hk, rfl, hm, hq1, hq2, hal, hBq, hkC, hRv⟩ := hrel
      have hlO := blk_lt hBq.blk
      have hlC := blk_lt hkC
      by_cases hlt : k < ts.length
      · have y3 : wr.cell? ⟨W1.heap.size, 3, none⟩ = some (.int .i64 f) := blk_cell hkC 3
        rw [List.drop_eq_getElem_cons hlt, cpL_cons] at hm
        have hi := ih _ (hwx k hlt) ts[k] rfl (deep + 1) q wr (f + k) b (hp.fg hBq.fg hSb) hSb (hreps k hlt) hBq.cnt hq1 hq2 (by omega) (by omega)
        unfold TakePost at hi
        have hbd := cpT_b ts[k] (deep + 1) q
        generalize hr : cpT ts[k] (deep + 1) q = r at hi hm hbd
        obtain ⟨x, ok, q'⟩ := r
        obtain ⟨e0, e1', e2, e3⟩ := x
        simp only at hi hm
        push_cast at hi
        clear ih
        go_wp2_with fail
        refine hi.mono ?_
        rintro e w5 ⟨v5, rfl, hR5, f6, c5⟩
        obtain ⟨A5, c5', rfl, hc5, C5⟩ := Kd.R_reads hR5
        have hvr : ∀ j, v.ownBlock = some j → j < wr.heap.size := fun j hj => ((Kd.R_bound hRv).1 j hj).2.2.1
        have hkR := f6.blk hBq.blk (show w.heap.size ≠ b by omega)
        replace hkC := f6.blk hkC (show W1.heap.size ≠ b by omega)
        replace hRv := Kd.R_step hRv (w1 := w5) fun j hj hlt => f6.block j hlt (by omega)
        have hB5 : Bx w w5 b w.heap.size q' (.int .i64 4) (.string nm) (.int .i64 0) v := ⟨hkR, hBq.fg.trans f6, c5⟩
        clear hi
        cases ok with
        | false =>
          simp only [Bool.false_eq_true, if_false] at hm
          have fr := fun i => blk_frozen hkR i
          have lR5 := blk_lt hkR
          have r0 : w5.cell? ⟨w.heap.size, 0, none⟩ = some (.int .i64 4) := blk_cell hkR 0
          have r1 : w5.cell? ⟨w.heap.size, 1, none⟩ = some (.string nm) := blk_cell hkR 1
          have r2 : w5.cell? ⟨w.heap.size, 2, none⟩ = some (.int .i64 0) := blk_cell hkR 2
          have r3 : w5.cell? ⟨w.heap.size, 3, none⟩ = some v := blk_cell hkR 3
          go_wp2
          refine ((hB5.set4 (Nat.le_refl _) hne _ _ _ _).alloc _).fin fun WF hF => ?_
          have q0 : WF.cell? ⟨w.heap.size, 0, none⟩ = some (.int .i64 0) := blk_cell hF.blk 0
          have q1 : WF.cell? ⟨w.heap.size, 1, none⟩ = some (.string ⟨#[]⟩) := blk_cell hF.blk 1
          have q2 : WF.cell? ⟨w.heap.size, 2, none⟩ = some (.int .i64 0) := blk_cell hF.blk 2
          have q3 : WF.cell? ⟨w.heap.size, 3, none⟩ = some (.slice none 0 0) := blk_cell hF.blk 3
          refine bodyPost_ret (v := .tuple #[.agg #[.int .i64 0, .string ⟨#[]⟩, .int .i64 0, .slice none 0 0], .bool false]) (by simp [results, Try.results37, go_sem, q0, q1, q2, q3]) rfl ?_
          unfold TakePost
          rw [hcp, hm]
          exact ⟨.slice none 0 0, rfl, Kd.R_nil _ _ _ _ _, hF.fg, hF.cnt⟩
        | true =>
          simp only [if_true] at hm
          have o3 : w5.cell? ⟨w.heap.size, 3, none⟩ = some v := blk_cell hkR 3
          have lO5 := blk_lt hkR
          have fo := fun i => blk_frozen hkR i
          have hM : Kd.M k28 (w5.alloc (.cells #[.int .i64 e0, .string e1', .int .i64 e2, .slice A5 e3.length c5'] 28)) w.heap.size (fun j => wr.heap.size ≤ j) ⟨e0, e1', e2, e3⟩ [.int .i64 e0, .string e1', .int .i64 e2, .slice A5 e3.length c5'] :=
            k28_mkM (w5.alloc (.cells #[.int .i64 e0, .string e1', .int .i64 e2, .slice A5 e3.length c5'] 28)) w.heap.size _ ⟨e0, e1', e2, e3⟩ (Kd.R_alloc (Kd.R_mono (Kd.R_lower (Kd.R_bound hR5) (by omega)) (fun j hj => hj.2.1)) _)
          have hRw : Kd.R k28 28 (w5.alloc (.cells #[.int .i64 e0, .string e1', .int .i64 e2, .slice A5 e3.length c5'] 28)) w.heap.size (fun j => W1.heap.size < j) v acc := Kd.R_alloc hRv _
          have lacc : (acc.length + 1) * 56 ≤ 140737488355328 := by omega
          have lW : w.heap.size ≤ (w5.alloc (.cells #[.int .i64 e0, .string e1', .int .i64 e2, .slice A5 e3.length c5'] 28)).heap.size := by simp; omega
          have hB8 := hB5.alloc (.cells #[.int .i64 e0, .string e1', .int .i64 e2, .slice A5 e3.length c5'] 28)
          have kC8 := blk_alloc hkC (.cells #[.int .i64 e0, .string e1', .int .i64 e2, .slice A5 e3.length c5'] 28)
          have kX8 := blk_new w5 (.cells #[.int .i64 e0, .string e1', .int .i64 e2, .slice A5 e3.length c5'] 28)
          go_upto_region 20 with (fail)
          generalize (w5.alloc (.cells #[.int .i64 e0, .string e1', .int .i64 e2, .slice A5 e3.length c5'] 28)) = W at hB8 kC8 kX8 hM hRw lW ⊢
          have kO8 := hB8.blk
          have hf8 := hB8.fg
          have c8 := hB8.cnt
          clear o3 fo
          have o3 : W.cell? ⟨w.heap.size, 3, none⟩ = some v := blk_cell kO8 3
          have fo := fun i => blk_frozen kO8 i
          have z0 : W.cell? ⟨w5.heap.size, 0, none⟩ = some (.int .i64 e0) := blk_cell kX8 0
          have z1 : W.cell? ⟨w5.heap.size, 1, none⟩ = some (.string e1') := blk_cell kX8 1
          have z2 : W.cell? ⟨w5.heap.size, 2, none⟩ = some (.int .i64 e2) := blk_cell kX8 2
          have z3 : W.cell? ⟨w5.heap.size, 3, none⟩ = some (.slice A5 e3.length c5') := blk_cell kX8 3
          have hvb := (Kd.R_bound hRw).1
          have hvo : ∀ j, v.ownBlock = some j → W1.heap.size < j := fun j hj => (hvb j hj).1
          have hok : ∀ j, wr.heap.size ≤ j → W1.heap.size < j ∧ some j ≠ v.ownBlock := fun j hj => ⟨by omega, fun e => by have := hvr j e.symm; omega⟩
          have hlW8 := blk_lt kO8
          have hlC8 := blk_lt kC8
          have hfr : ∀ j, W.heap.size ≤ j → W1.heap.size < j := fun j hj => by omega
          go_wp2_with (first
            | (at_builtin; refine Kd.R_append k28 (w0 := W) w.heap.size rfl (.tmp 79) (.tmp 81) 22 28 (.agg #[.int .i64 0, .string ⟨#[]⟩, .int .i64 0, .slice none 0 0]) 56 rfl Try.underlying22 info28 rfl (by decide) (by omega) v acc (⟨e0, e1', e2, e3⟩ : S28) [.int .i64 e0, .string e1', .int .i64 e2, .slice A5 e3.length c5'] (fun j => W1.heap.size < j) (fun j => wr.heap.size ≤ j) rfl rfl hM ?aK ?aF hRw (Below.refl _ _) lW lacc ?_
               case aK => exact hok
               case aF => exact hfr
               intro v8 w8 hR8 hb8 hg8 hat8
               obtain ⟨A8, c8', rfl, hc8, C8⟩ := Kd.R_reads hR8
               have kO9 := blk_grown kO8 hg8 (fun e => by have := hvo _ e.symm; omega)
               have fo9 := fun i => blk_frozen kO9 i
               have p3 : w8.cell? ⟨w.heap.size, 3, none⟩ = some v := blk_cell kO9 3))
          have hlen : (acc ++ [(⟨e0, e1', e2, e3⟩ : S28)]).length = acc.length + 1 := by simp
          rw [hlen] at hR8
          have hf9 : Fg b w w8 := ⟨hg8.os.trans hf8.os, hg8.tape.trans hf8.tape, hg8.output.trans hf8.output, Nat.le_trans hf8.size hg8.size, fun i hi hne => (hg8.block i (by omega) (fun e => by have := (hvb i e.symm).2.1; omega)).trans (hf8.block i hi hne)⟩
          have c9 : CntAt w8 b q' := blk_grown c8 hg8 (fun e => by have := (hvb _ e.symm).2.1; omega)
          have kC9 := blk_grown kC8 hg8 (fun e => by have := hvo _ e.symm; omega)
          have hb1 := hbd.1
          have hb2 := hbd.2 trivial
          refine ⟨⟨k + 1, q', acc ++ [⟨e0, e1', e2, e3⟩], .slice A8 (acc.length + 1) c8', by omega, by go_num, hm, by omega, by omega, by rw [hlen]; push_cast; omega, ⟨blk_set kO9 3 _, hf9.far (show w.heap.size ≤ w.heap.size by omega) _, c9.far (show b ≠ w.heap.size by omega) _⟩, blk_far kC9 (show W1.heap.size ≠ w.heap.size by omega) _, Kd.R_step hR8 (fun j hj _ => Below.heap_setCell _ _ _ j (show j ≠ w.heap.size by omega))⟩, ?_⟩
          simp [intOf]; omega
      · obtain rfl : k = ts.length := by omega
        rw [List.drop_of_length_le (Nat.le_refl _), cpL_nil] at hm
        obtain ⟨Av, cv, rfl, hcv, Cv⟩ := Kd.R_reads hRv
        have kR := hBq.blk
        have r0 : wr.cell? ⟨w.heap.size, 0, none⟩ = some (.int .i64 4) := blk_cell kR 0
        have r1 : wr.cell? ⟨w.heap.size, 1, none⟩ = some (.string nm) := blk_cell kR 1
        have r2 : wr.cell? ⟨w.heap.size, 2, none⟩ = some (.int .i64 0) := blk_cell kR 2
        have r3 : wr.cell? ⟨w.heap.size, 3, none⟩ = some (.slice Av acc.length cv) := blk_cell kR 3
        have fr := fun i => blk_frozen kR i
        clear ih
        go_wp2
        have hRF := R_set4 (g := w.heap.size) hRv (fun j hj => by omega) (.int .i64 4) (.string nm) (.int .i64 0) (.slice Av acc.length cv)
        have hBF := hBq.set4 (Nat.le_refl _) hne (.int .i64 4) (.string nm) (.int .i64 0) (.slice Av acc.length cv)
        generalize ((((wr.setCell ⟨w.heap.size, 0, none⟩ (.int .i64 4)).setCell ⟨w.heap.size, 1, none⟩ (.string nm)).setCell ⟨w.heap.size, 2, none⟩ (.int .i64 0)).setCell ⟨w.heap.size, 3, none⟩ (.slice Av acc.length cv)) = WF at hBF hRF ⊢
        have q0 : WF.cell? ⟨w.heap.size, 0, none⟩ = some (.int .i64 4) := blk_cell hBF.blk 0
        have q1 : WF.cell? ⟨w.heap.size, 1, none⟩ = some (.string nm) := blk_cell hBF.blk 1
        have q2 : WF.cell? ⟨w.heap.size, 2, none⟩ = some (.int .i64 0) := blk_cell hBF.blk 2
        have q3 : WF.cell? ⟨w.heap.size, 3, none⟩ = some (.slice Av acc.length cv) := blk_cell hBF.blk 3
        refine bodyPost_ret (v := .tuple #[.agg #[.int .i64 4, .string nm, .int .i64 0, .slice Av acc.length cv], .bool true]) (by simp [results, Try.results37, go_sem, q0, q1, q2, q3]) rfl ?_
        unfold TakePost
        rw [hcp, hm]
        exact ⟨.slice Av acc.length cv, rfl, Kd.R_mono hRF (fun _ _ => trivial), hBF.fg, hBF.cnt⟩

/-- A term that is taken out, where it isn't too great. -/
def takT (t : S28) : S28 := if okT t = true then t else z28

theorem Rep.nrm {C : List Cl} {x : Nat} {t : S28} (h : Rep C x t) : nrm t = t := by
  have h1 := h.sgV
  unfold sg at h1
  rw [← sub_congr (fun _ => none) (fun v => some (mkV v)) t (fun v _ => rfl)] at h1
  exact h1

theorem cpT_tak {C : List Cl} {x : Nat} {t : S28} (h : Rep C x t) : (cpT t 1 0).1 = takT t ∧ (cpT t 1 0).2.1 = okT t := by
  have hs := cpT_spec t 1 0
  rw [h.nrm] at hs
  have hk := okT_iff t
  unfold takT
  by_cases h1 : (cpT t 1 0).2.1 = true
  · have h2 := hs.ok.1 h1
    have h3 : okT t = true := hk.2 ⟨h.sh, by omega, by omega⟩
    rw [h1, h3, if_pos rfl]
    exact ⟨(hs.val h1).1, rfl⟩
  · have h3 : okT t = false := by
      rw [← Bool.not_eq_true]
      intro h4
      have := hk.1 h4
      exact h1 (hs.ok.2 ⟨by omega, by omega⟩)
    have h4 : (cpT t 1 0).2.1 = false := by simpa using h1
    rw [h3, h4, if_neg (by simp)]
    exact ⟨hs.no h4, rfl⟩

/-- What Take hands out. -/
def TakenPost (t : S28) (w : World) (e : Ending) (w' : World) : Prop := ∃ v,
  e = .returned (.tuple #[.agg #[.int .i64 (takT t).f0, .string (takT t).f1, .int .i64 (takT t).f2, v], .int .i64 (if okT t = true then 0 else 2)]) ∧ Kd.R k28 28 w' w.heap.size (fun _ => True) v (takT t).f3 ∧ Below w.heap.size w w'

set_option maxHeartbeats 1000000 in
set_option maxRecDepth 100000 in
theorem Take_any (w : World) (hb : Nat) (S : Nat → Prop) (H : Hp) (a : Nat) (t : S28) (hp : HpAt w hb S H) (hr : Rep H.C a t) :
    Calls Try.prog 11 #[.pointer (some ⟨hb, 0, none⟩), .int .i64 a] w (TakenPost t w) := by
  have hla := hr.lt
  have hbad := bad_ok ((w.alloc (.cells #[.int .i64 0, .string ⟨#[]⟩, .int .i64 0, .slice none 0 0] 28)).alloc (.cells #[.int .i64 a] 3)) hb (w.heap.size + 1) 1 S H [(a : Int)] ((hp.alloc _).alloc _) (fun x hx => by
    simp at hx
    subst hx
    constructor <;> omega) (by simp) (by simp) (fun j hj => by
      have h := blk_new (w.alloc (.cells #[.int .i64 0, .string ⟨#[]⟩, .int .i64 0, .slice none 0 0] 28)) (.cells #[.int .i64 a] 3)
      rw [show (w.alloc (.cells #[.int .i64 0, .string ⟨#[]⟩, .int .i64 0, .slice none 0 0] 28)).heap.size = w.heap.size + 1 by simp] at h
      rw [blk_cell h]
      have : j = 0 := by simp at hj; omega
      subst this
      rfl)
  have hB0 : Below w.heap.size w ((w.alloc (.cells #[.int .i64 0, .string ⟨#[]⟩, .int .i64 0, .slice none 0 0] 28)).alloc (.cells #[.int .i64 a] 3)) := below_alloc (below_alloc (Below.refl _ _) _) _
  have kR0 := blk_alloc (blk_new w (.cells #[.int .i64 0, .string ⟨#[]⟩, .int .i64 0, .slice none 0 0] 28)) (.cells #[.int .i64 a] 3)
  go_enter Try.func11, Try.ntmps11
  go_wp2_with fail
  refine hbad.mono ?_
  rintro e w1 ⟨rfl, hB1⟩
  have hB1' : Below w.heap.size w w1 := hB0.trans (hB1.mono (by simp; omega))
  have kR1 := blk_below kR0 hB1
  clear hbad
  have hcw := blk_new w1 (.cells #[.int .i64 0] 3)
  have hp2 := (hp.below hB1').alloc (.cells #[.int .i64 0] 3)
  have hnS : ¬ S w1.heap.size := fun h => by
    have := (hp.below hB1').lt _ h
    omega
  have htk := take_any hb S H _ t rfl 1 0 (w1.alloc (.cells #[.int .i64 0] 3)) a w1.heap.size hp2 hnS hr hcw (by omega) (by omega) (by omega) (by omega)
  unfold TakePost at htk
  obtain ⟨hk1, hk2⟩ := cpT_tak hr
  rw [hk1, hk2] at htk
  have l0 := blk_lt kR1
  go_wp2_with fail
  refine htk.mono ?_
  rintro e w2 ⟨v, rfl, hR2, hf2, hc2⟩
  obtain ⟨A2, c2, rfl, hl2, C2⟩ := Kd.R_reads hR2
  clear htk
  have hfg2 : Fg w1.heap.size w w2 := ((Fg.of_below hB1').alloc _).trans hf2
  have hB2 : Bx w w2 w1.heap.size w.heap.size _ _ _ _ _ := ⟨hf2.blk (blk_alloc kR1 _) (by omega), hfg2, hc2⟩
  have hR3 := Kd.R_mono (Kd.R_lower (Kd.R_bound hR2) (show w.heap.size ≤ (w1.alloc (.cells #[.int .i64 0] 3)).heap.size by simp; omega)) (ok' := fun j => w.heap.size < j) (fun j hj => by have := hj.2.1; simp at this; omega)
  have kR2 := hB2.blk
  have l2 := blk_lt kR2
  have fr := fun i => blk_frozen kR2 i
  have r0 : w2.cell? ⟨w.heap.size, 0, none⟩ = some (.int .i64 0) := blk_cell kR2 0
  have r1 : w2.cell? ⟨w.heap.size, 1, none⟩ = some (.string ⟨#[]⟩) := blk_cell kR2 1
  have r2 : w2.cell? ⟨w.heap.size, 2, none⟩ = some (.int .i64 0) := blk_cell kR2 2
  have r3 : w2.cell? ⟨w.heap.size, 3, none⟩ = some (.slice none 0 0) := blk_cell kR2 3
  have hlw : w.heap.size ≤ w1.heap.size := by omega
  have hnw : w1.heap.size ≠ w.heap.size := by omega
  cases hok : okT t with
  | true =>
    obtain ⟨u, hu⟩ : ∃ u, takT t = u := ⟨_, rfl⟩
    rw [hu] at hR3 ⊢
    go_wp2
    refine ((hB2.set4 (Nat.le_refl _) hnw _ _ _ _).alloc _).fin2 (Kd.R_alloc (R_set4 hR3 (fun j hj => by omega) _ _ _ _) _) fun WF hF hRF => ?_
    have q0 : WF.cell? ⟨w.heap.size, 0, none⟩ = some (.int .i64 u.f0) := blk_cell hF.blk 0
    have q1 : WF.cell? ⟨w.heap.size, 1, none⟩ = some (.string u.f1) := blk_cell hF.blk 1
    have q2 : WF.cell? ⟨w.heap.size, 2, none⟩ = some (.int .i64 u.f2) := blk_cell hF.blk 2
    have q3 : WF.cell? ⟨w.heap.size, 3, none⟩ = some (.slice A2 u.f3.length c2) := blk_cell hF.blk 3
    refine bodyPost_ret (v := .tuple #[.agg #[.int .i64 u.f0, .string u.f1, .int .i64 u.f2, .slice A2 u.f3.length c2], .int .i64 0]) (by simp [results, Try.results11, go_sem, q0, q1, q2, q3]) rfl ?_
    unfold TakenPost
    rw [hok, hu]
    exact ⟨_, rfl, Kd.R_mono hRF (fun _ _ => trivial), hF.fg.low hlw⟩
  | false =>
    have hz : takT t = z28 := by unfold takT; rw [hok]; rfl
    rw [hz] at hR3 ⊢
    go_wp2
    refine ((hB2.set4 (Nat.le_refl _) hnw _ _ _ _).alloc _).fin fun WF hF => ?_
    have q0 : WF.cell? ⟨w.heap.size, 0, none⟩ = some (.int .i64 0) := blk_cell hF.blk 0
    have q1 : WF.cell? ⟨w.heap.size, 1, none⟩ = some (.string ⟨#[]⟩) := blk_cell hF.blk 1
    have q2 : WF.cell? ⟨w.heap.size, 2, none⟩ = some (.int .i64 0) := blk_cell hF.blk 2
    have q3 : WF.cell? ⟨w.heap.size, 3, none⟩ = some (.slice none 0 0) := blk_cell hF.blk 3
    refine bodyPost_ret (v := .tuple #[.agg #[.int .i64 0, .string ⟨#[]⟩, .int .i64 0, .slice none 0 0], .int .i64 2]) (by simp [results, Try.results11, go_sem, q0, q1, q2, q3]) rfl ?_
    unfold TakenPost
    rw [hok, hz]
    exact ⟨_, rfl, Kd.R_nil _ _ _ _ _, hF.fg.low hlw⟩

end Go.Proofs.Ytjhhacighfpdbaa
