/- What print.sh wrote for functions of the document, with ends that fell mended (reprint.py). -/
import Derived.Test.YtjhhacighfpdbaaPHeapSharesr0
namespace Go.Proofs.Ytjhhacighfpdbaa.PHeapShares
open Go.RowKit Go.Proofs.YtjhhacighfpdbaaW.PrintWords Go.Proofs.YtjhhacighfpdbaaW.PrintLast Go.Proofs.YtjhhacighfpdbaaW.PrintMore
attribute [local go_sem] max2_int min2_int max_two min_two max_three min_three max_four min_four   -- for this text's walks alone
set_option linter.unusedVariables false
set_option linter.unusedSimpArgs false

/-- A state of type 58 at block g of W; what its slices lead to came in by w0. -/
def IsS58 (w0 W : World) (g : Nat) (f0 : Int) (f1 : Int) (f2 : List (S66)) (f3 : List (S99)) (f4 : List (S73)) : Prop := ∃ A2 c2, ∃ A3 c3, ∃ A4 c4, W.heap[g]? = some (.cells #[.int .i64 f0, .int .i64 f1, .slice A2 f2.length c2, .slice A3 f3.length c3, .slice A4 f4.length c4] 58 (0, 0)) ∧ w0.heap.size ≤ g ∧ Kd.C k66 w0 A2 f2.length f2 ∧ Kd.C k99 w0 A3 f3.length f3 ∧ Kd.C k73 w0 A4 f4.length f4
theorem IsS58.grown {w0 W : World} {g : Nat} {f0 : Int} {f1 : Int} {f2 : List (S66)} {f3 : List (S99)} {f4 : List (S73)} {W1 : World} {row : Option Nat} (h : IsS58 w0 W g f0 f1 f2 f3 f4) (hw : W.grownBy W1 row) (hne : some g ≠ row) : IsS58 w0 W1 g f0 f1 f2 f3 f4 := by
  obtain ⟨A2, c2, A3, c3, A4, c4, hb, hg, hr2, hr3, hr4⟩ := h
  exact ⟨A2, c2, A3, c3, A4, c4, blk_grown hb hw hne, hg, hr2, hr3, hr4⟩
theorem IsS58.own_neN {w0 W : World} {g : Nat} {f0 : Int} {f1 : Int} {f2 : List (S66)} {f3 : List (S99)} {f4 : List (S73)} {α : Type} {d : Kd α} {e : Nat} {base : Nat} {ok : Nat → Prop} {v : Value} {xs : List α} (h : IsS58 w0 W g f0 f1 f2 f3 f4) (ho : Kd.N d e W base ok v xs) (ht : e ≠ 58) : some g ≠ v.ownBlock := by
  obtain ⟨A2, c2, A3, c3, A4, c4, hb, hg, hr2, hr3, hr4⟩ := h
  exact Kd.N_ne ho hb ht
theorem IsS58.fresh {w0 W : World} {g : Nat} {f0 : Int} {f1 : Int} {f2 : List (S66)} {f3 : List (S99)} {f4 : List (S73)} (h : IsS58 w0 W g f0 f1 f2 f3 f4) : ∀ k, W.heap.size ≤ k → k ≠ g := by
  obtain ⟨A2, c2, A3, c3, A4, c4, hb, hg, hr2, hr3, hr4⟩ := h
  exact Kd.freshB hb
theorem IsS58.kept {w0 W : World} {g : Nat} {f0 : Int} {f1 : Int} {f2 : List (S66)} {f3 : List (S99)} {f4 : List (S73)} {W1 : World} {S : Nat → Prop} (h : IsS58 w0 W g f0 f1 f2 f3 f4) (hk : Kept W W1 S) (hne : ¬ S g) : IsS58 w0 W1 g f0 f1 f2 f3 f4 := by
  obtain ⟨A2, c2, A3, c3, A4, c4, hb, hg, hr2, hr3, hr4⟩ := h
  exact ⟨A2, c2, A3, c3, A4, c4, blk_kept hb hk hne, hg, hr2, hr3, hr4⟩
theorem IsS58.below {w0 W : World} {g : Nat} {f0 : Int} {f1 : Int} {f2 : List (S66)} {f3 : List (S99)} {f4 : List (S73)} {W1 : World} (h : IsS58 w0 W g f0 f1 f2 f3 f4) (hw : Below W.heap.size W W1) : IsS58 w0 W1 g f0 f1 f2 f3 f4 := h.grown (grown_of_below hw none) (by simp)
theorem IsS58.alloc {w0 W : World} {g : Nat} {f0 : Int} {f1 : Int} {f2 : List (S66)} {f3 : List (S99)} {f4 : List (S73)} (h : IsS58 w0 W g f0 f1 f2 f3 f4) (o : Obj) : IsS58 w0 (W.alloc o) g f0 f1 f2 f3 f4 := h.below (below_alloc (Below.refl _ _) o)
theorem IsS58.drewN {w0 W : World} {g : Nat} {f0 : Int} {f1 : Int} {f2 : List (S66)} {f3 : List (S99)} {f4 : List (S73)} (h : IsS58 w0 W g f0 f1 f2 f3 f4) (m : Nat) : IsS58 w0 (W.drewN m) g f0 f1 f2 f3 f4 := h
theorem IsS58.drew {w0 W : World} {g : Nat} {f0 : Int} {f1 : Int} {f2 : List (S66)} {f3 : List (S99)} {f4 : List (S73)} (h : IsS58 w0 W g f0 f1 f2 f3 f4) : IsS58 w0 W.drew g f0 f1 f2 f3 f4 := h
theorem IsS58.at_ {w0 W : World} {g : Nat} {f0 : Int} {f1 : Int} {f2 : List (S66)} {f3 : List (S99)} {f4 : List (S73)} {w' : World} {m : Nat} (hq : W.drewN m = w') (h : IsS58 w0 W g f0 f1 f2 f3 f4) : IsS58 w0 w' g f0 f1 f2 f3 f4 := by subst hq; exact IsS58.drewN h m
theorem IsS58.apart {w0 W : World} {g : Nat} {f0 : Int} {f1 : Int} {f2 : List (S66)} {f3 : List (S99)} {f4 : List (S73)} {α : Type} {d : Kd α} {e : Nat} {base : Nat} {ok : Nat → Prop} {v : Value} {xs : List α} (h : IsS58 w0 W g f0 f1 f2 f3 f4) (ho : d.R e W base ok v xs) (ht : ∀ q, q ∈ e :: d.E → q ≠ 58) : d.R e W base (fun k => ok k ∧ k ≠ g) v xs := by
  obtain ⟨A2, c2, A3, c3, A4, c4, hb, hg, hr2, hr3, hr4⟩ := h
  exact Kd.R_types ho hb ht
theorem IsS58.own_ne {w0 W : World} {g : Nat} {f0 : Int} {f1 : Int} {f2 : List (S66)} {f3 : List (S99)} {f4 : List (S73)} {α : Type} {d : Kd α} {e : Nat} {base : Nat} {ok : Nat → Prop} {v : Value} {xs : List α} (h : IsS58 w0 W g f0 f1 f2 f3 f4) (ho : d.R e W base ok v xs) (ht : e ≠ 58) : some g ≠ v.ownBlock := by
  obtain ⟨A2, c2, A3, c3, A4, c4, hb, hg, hr2, hr3, hr4⟩ := h
  exact Kd.R_ne ho hb ht
theorem IsS58.apartQ {w0 W : World} {g : Nat} {f0 : Int} {f1 : Int} {f2 : List (S66)} {f3 : List (S99)} {f4 : List (S73)} {α : Type} {d : Kd α} {e : Nat} {base : Nat} {ok : Nat → Prop} {v : Value} {xs : List α} (h : IsS58 w0 W g f0 f1 f2 f3 f4) (ho : d.Q e W base ok v xs) (ht : ∀ q, q ∈ e :: d.E → q ≠ 58) : d.Q e W base (fun k => ok k ∧ k ≠ g) v xs := by
  obtain ⟨A2, c2, A3, c3, A4, c4, hb, hg, hr2, hr3, hr4⟩ := h
  exact Kd.Q_types ho hb ht
theorem IsS58.own_neQ {w0 W : World} {g : Nat} {f0 : Int} {f1 : Int} {f2 : List (S66)} {f3 : List (S99)} {f4 : List (S73)} {α : Type} {d : Kd α} {e : Nat} {base : Nat} {ok : Nat → Prop} {v : Value} {xs : List α} (h : IsS58 w0 W g f0 f1 f2 f3 f4) (ho : d.Q e W base ok v xs) (ht : e ≠ 58) : some g ≠ v.ownBlock := by
  obtain ⟨A2, c2, A3, c3, A4, c4, hb, hg, hr2, hr3, hr4⟩ := h
  exact Kd.Q_ne ho hb ht
theorem IsS58.apartS {w0 W : World} {g : Nat} {f0 : Int} {f1 : Int} {f2 : List (S66)} {f3 : List (S99)} {f4 : List (S73)} {α : Type} {d : Kd α} {e : Nat} {base : Nat} {ok : Nat → Prop} {v : Value} {xs : List α} (h : IsS58 w0 W g f0 f1 f2 f3 f4) (ho : d.S e W base ok v xs) (ht : ∀ q, q ∈ e :: d.E → q ≠ 58) : d.S e W base (fun k => ok k ∧ k ≠ g) v xs := by
  obtain ⟨A2, c2, A3, c3, A4, c4, hb, hg, hr2, hr3, hr4⟩ := h
  exact Kd.S_types ho hb ht
theorem IsS58.own_neS {w0 W : World} {g : Nat} {f0 : Int} {f1 : Int} {f2 : List (S66)} {f3 : List (S99)} {f4 : List (S73)} {α : Type} {d : Kd α} {e : Nat} {base : Nat} {ok : Nat → Prop} {v : Value} {xs : List α} (h : IsS58 w0 W g f0 f1 f2 f3 f4) (ho : d.S e W base ok v xs) (ht : e ≠ 58) : some g ≠ v.ownBlock := by
  obtain ⟨A2, c2, A3, c3, A4, c4, hb, hg, hr2, hr3, hr4⟩ := h
  exact Kd.S_ne ho hb ht
theorem IsS58.lt {w0 W : World} {g : Nat} {f0 : Int} {f1 : Int} {f2 : List (S66)} {f3 : List (S99)} {f4 : List (S73)} (h : IsS58 w0 W g f0 f1 f2 f3 f4) : g < W.heap.size := by
  obtain ⟨A2, c2, A3, c3, A4, c4, hb, hg, hr2, hr3, hr4⟩ := h
  exact blk_lt hb
theorem IsS58.ge {w0 W : World} {g : Nat} {f0 : Int} {f1 : Int} {f2 : List (S66)} {f3 : List (S99)} {f4 : List (S73)} (h : IsS58 w0 W g f0 f1 f2 f3 f4) : w0.heap.size ≤ g := by
  obtain ⟨A2, c2, A3, c3, A4, c4, hb, hg, hr2, hr3, hr4⟩ := h
  exact hg
theorem IsS58.ne_blk {w0 W : World} {g : Nat} {f0 : Int} {f1 : Int} {f2 : List (S66)} {f3 : List (S99)} {f4 : List (S73)} {a : Nat} {cs : Array Value} {t : TypeId} {fr : Nat × Nat} (h : IsS58 w0 W g f0 f1 f2 f3 f4) (hb2 : W.heap[a]? = some (.cells cs t fr)) (ht : t ≠ 58) : g ≠ a := by
  obtain ⟨A2, c2, A3, c3, A4, c4, hb, hg, hr2, hr3, hr4⟩ := h
  rintro rfl
  rw [hb] at hb2
  injection hb2 with hb2
  injection hb2 with _ ht2
  exact ht ht2.symm
theorem IsS58.far {w0 W : World} {g : Nat} {f0 : Int} {f1 : Int} {f2 : List (S66)} {f3 : List (S99)} {f4 : List (S73)} {p : Addr} (h : IsS58 w0 W g f0 f1 f2 f3 f4) (hne : g ≠ p.block) (u : Value) : IsS58 w0 (W.setCell p u) g f0 f1 f2 f3 f4 := by
  obtain ⟨A2, c2, A3, c3, A4, c4, hb, hg, hr2, hr3, hr4⟩ := h
  exact ⟨A2, c2, A3, c3, A4, c4, blk_far hb hne u, hg, hr2, hr3, hr4⟩
theorem cellS58_0 {W : World} {g : Nat} {A2 : Option Addr} {c2 : Nat} {A3 : Option Addr} {c3 : Nat} {A4 : Option Addr} {c4 : Nat} {f0 : Int} {f1 : Int} {f2 : List (S66)} {f3 : List (S99)} {f4 : List (S73)} (h : W.heap[g]? = some (.cells #[.int .i64 f0, .int .i64 f1, .slice A2 f2.length c2, .slice A3 f3.length c3, .slice A4 f4.length c4] 58 (0, 0))) : W.cell? ⟨g, 0, none⟩ = some (.int .i64 f0) := (blk_cell h 0).trans rfl
theorem IsS58.set_0 {w0 W : World} {g : Nat} {f0 : Int} {f1 : Int} {f2 : List (S66)} {f3 : List (S99)} {f4 : List (S73)} (h : IsS58 w0 W g f0 f1 f2 f3 f4) (x : Int) : IsS58 w0 (W.setCell ⟨g, 0, none⟩ (.int .i64 x)) g x f1 f2 f3 f4 := by
  obtain ⟨A2, c2, A3, c3, A4, c4, hb, hg, hr2, hr3, hr4⟩ := h
  exact ⟨A2, c2, A3, c3, A4, c4, by simpa using blk_set hb 0 (.int .i64 x), hg, hr2, hr3, hr4⟩
theorem cellS58_1 {W : World} {g : Nat} {A2 : Option Addr} {c2 : Nat} {A3 : Option Addr} {c3 : Nat} {A4 : Option Addr} {c4 : Nat} {f0 : Int} {f1 : Int} {f2 : List (S66)} {f3 : List (S99)} {f4 : List (S73)} (h : W.heap[g]? = some (.cells #[.int .i64 f0, .int .i64 f1, .slice A2 f2.length c2, .slice A3 f3.length c3, .slice A4 f4.length c4] 58 (0, 0))) : W.cell? ⟨g, 1, none⟩ = some (.int .i64 f1) := (blk_cell h 1).trans rfl
theorem IsS58.set_1 {w0 W : World} {g : Nat} {f0 : Int} {f1 : Int} {f2 : List (S66)} {f3 : List (S99)} {f4 : List (S73)} (h : IsS58 w0 W g f0 f1 f2 f3 f4) (x : Int) : IsS58 w0 (W.setCell ⟨g, 1, none⟩ (.int .i64 x)) g f0 x f2 f3 f4 := by
  obtain ⟨A2, c2, A3, c3, A4, c4, hb, hg, hr2, hr3, hr4⟩ := h
  exact ⟨A2, c2, A3, c3, A4, c4, by simpa using blk_set hb 1 (.int .i64 x), hg, hr2, hr3, hr4⟩
theorem cellS58_2 {W : World} {g : Nat} {A2 : Option Addr} {c2 : Nat} {A3 : Option Addr} {c3 : Nat} {A4 : Option Addr} {c4 : Nat} {f0 : Int} {f1 : Int} {f2 : List (S66)} {f3 : List (S99)} {f4 : List (S73)} (h : W.heap[g]? = some (.cells #[.int .i64 f0, .int .i64 f1, .slice A2 f2.length c2, .slice A3 f3.length c3, .slice A4 f4.length c4] 58 (0, 0))) : W.cell? ⟨g, 2, none⟩ = some (.slice A2 f2.length c2) := (blk_cell h 2).trans rfl
theorem cellS58_3 {W : World} {g : Nat} {A2 : Option Addr} {c2 : Nat} {A3 : Option Addr} {c3 : Nat} {A4 : Option Addr} {c4 : Nat} {f0 : Int} {f1 : Int} {f2 : List (S66)} {f3 : List (S99)} {f4 : List (S73)} (h : W.heap[g]? = some (.cells #[.int .i64 f0, .int .i64 f1, .slice A2 f2.length c2, .slice A3 f3.length c3, .slice A4 f4.length c4] 58 (0, 0))) : W.cell? ⟨g, 3, none⟩ = some (.slice A3 f3.length c3) := (blk_cell h 3).trans rfl
theorem cellS58_4 {W : World} {g : Nat} {A2 : Option Addr} {c2 : Nat} {A3 : Option Addr} {c3 : Nat} {A4 : Option Addr} {c4 : Nat} {f0 : Int} {f1 : Int} {f2 : List (S66)} {f3 : List (S99)} {f4 : List (S73)} (h : W.heap[g]? = some (.cells #[.int .i64 f0, .int .i64 f1, .slice A2 f2.length c2, .slice A3 f3.length c3, .slice A4 f4.length c4] 58 (0, 0))) : W.cell? ⟨g, 4, none⟩ = some (.slice A4 f4.length c4) := (blk_cell h 4).trans rfl
theorem IsS58.new (w0 W : World) (A2 : Option Addr) (c2 : Nat) (A3 : Option Addr) (c3 : Nat) (A4 : Option Addr) (c4 : Nat) (f0 : Int) (f1 : Int) (f2 : List (S66)) (f3 : List (S99)) (f4 : List (S73)) (hB : Below w0.heap.size w0 W) (hr2 : Kd.C k66 w0 A2 f2.length f2) (hr3 : Kd.C k99 w0 A3 f3.length f3) (hr4 : Kd.C k73 w0 A4 f4.length f4) : IsS58 w0 (W.alloc (.cells #[.int .i64 f0, .int .i64 f1, .slice A2 f2.length c2, .slice A3 f3.length c3, .slice A4 f4.length c4] 58)) W.heap.size f0 f1 f2 f3 f4 := ⟨A2, c2, A3, c3, A4, c4, by simpa using heap_alloc_new W _, hB.size, hr2, hr3, hr4⟩

/-! ### heap_New: function 7 -/
def heap_New.f (a0 : Int) (a1 : Int) : Option (Int × Int × (List (S66)) × (List (S99)) × (List (S73))) := some (mn (mx a0 0) 65536, mn (mx a1 0) 65536, ([] : List (S66)), ([] : List (S99)), ([] : List (S73)))
set_option maxHeartbeats 8000000 in
set_option maxRecDepth 100000 in
theorem heap_New.calls (a0 : Int) (a1 : Int) (r1 : Int) (r2 : Int) (r3 : List (S66)) (r4 : List (S99)) (r5 : List (S73)) (w0 w : World) (hB : Below w0.heap.size w0 w) (h : heap_New.f a0 a1 = some (r1, r2, r3, r4, r5)) :
    Calls Try.prog 7 #[.int .i64 a0, .int .i64 a1] w fun e w' => ∃ g_ : Nat, e = .returned (.pointer (some ⟨g_, 0, none⟩)) ∧ IsS58 w0 w' g_ r1 r2 r3 r4 r5 ∧ Below w0.heap.size w0 w' ∧ Below w.heap.size w w' := by
  have hu58 := Try.underlying58
  have HBW := Aside0.mk (Below.refl w.heap.size w)
  have HW0 := Aside0.mk hB.size
  have HB := Aside0.mk hB
  clear hB
  have H : (some (mn (mx a0 0) 65536, mn (mx a1 0) 65536, ([] : List (S66)), ([] : List (S99)), ([] : List (S73)))) = some (r1, r2, r3, r4, r5) := h
  clear h
  obtain ⟨ji3, hji3⟩ : ∃ j_ : Int, (mx a0 0) = j_ := ⟨_, rfl⟩
  replace H : (some (mn (ji3) 65536, mn (mx a1 0) 65536, ([] : List (S66)), ([] : List (S99)), ([] : List (S73)))) = some (r1, r2, r3, r4, r5) := by first | (rw [hji3] at H; exact H) | (simp only [hji3] at H ⊢; exact H)
  (try (have hji3l : 0 ≤ ji3 := by (rw [← hji3]; unfold mx; (repeat' split) <;> omega)))
  (try (have hji3m : 0 ≤ ji3 := by omega))
  have hji3_ : (if a0 < 0 then 0 else a0) = ji3 := hji3
  obtain ⟨ji4, hji4⟩ : ∃ j_ : Int, (mn (ji3) 65536) = j_ := ⟨_, rfl⟩
  replace H : (some (ji4, mn (mx a1 0) 65536, ([] : List (S66)), ([] : List (S99)), ([] : List (S73)))) = some (r1, r2, r3, r4, r5) := by first | (rw [hji4] at H; exact H) | (simp only [hji4] at H ⊢; exact H)
  have hji4_ : (if 65536 < (ji3) then 65536 else (ji3)) = ji4 := hji4
  obtain ⟨ji5, hji5⟩ : ∃ j_ : Int, (mx a1 0) = j_ := ⟨_, rfl⟩
  replace H : (some (ji4, mn (ji5) 65536, ([] : List (S66)), ([] : List (S99)), ([] : List (S73)))) = some (r1, r2, r3, r4, r5) := by first | (rw [hji5] at H; exact H) | (simp only [hji5] at H ⊢; exact H)
  (try (have hji5l : 0 ≤ ji5 := by (rw [← hji5]; unfold mx; (repeat' split) <;> omega)))
  (try (have hji5m : 0 ≤ ji5 := by omega))
  have hji5_ : (if a1 < 0 then 0 else a1) = ji5 := hji5
  obtain ⟨ji6, hji6⟩ : ∃ j_ : Int, (mn (ji5) 65536) = j_ := ⟨_, rfl⟩
  replace H : (some (ji4, ji6, ([] : List (S66)), ([] : List (S99)), ([] : List (S73)))) = some (r1, r2, r3, r4, r5) := by first | (rw [hji6] at H; exact H) | (simp only [hji6] at H ⊢; exact H)
  have hji6_ : (if 65536 < (ji5) then 65536 else (ji5)) = ji6 := hji6
  simp only [Option.some.injEq, Prod.mk.injEq] at H
  obtain ⟨rfl, rfl, rfl, rfl, rfl⟩ := H
  go_enter Try.func7, Try.ntmps7
  go_wp2_with (first | ((with_reducible refine gate_dst (N := 12) rfl ?_); refine box_event ?hg (N := 12) ?hd (cs := #[.int .i64 ji4, .int .i64 ji6, .slice none 0 0, .slice none 0 0, .slice none 0 0]) (t := 58) ?hr ?_; (case hd => rfl); (case hg => rfl); (case hr => first | (go_simp; done) | (go_simp; rfl)); intro gb101 hg w7 hbox hb; have n0_ := Aside0.mk (below_step HBW.out hb); have n1_ := Aside0.mk (below_step (by repeat (first | (with_reducible first | exact HB.out | apply below_alloc | apply pw_below_drewN | apply below_drew1) | exact HB.out)) hb); have n2_ := Aside0.mk (hbox); have n3_ := Aside0.mk ((by rw [hg]; exact (below_size (by repeat (first | (with_reducible first | exact HBW.out | apply below_alloc | apply pw_below_drewN | apply below_drew1) | exact HBW.out))) : w.heap.size ≤ gb101)); have n4_ := Aside0.mk ((Nat.le_trans HW0.out (by rw [hg]; exact (below_size (by repeat (first | (with_reducible first | exact HBW.out | apply below_alloc | apply pw_below_drewN | apply below_drew1) | exact HBW.out))) : w.heap.size ≤ gb101) : w0.heap.size ≤ gb101)); clear HBW; clear HB; have HBW := n0_; have HB := n1_; have BK101 := n2_; have GW101 := n3_; have GE101 := n4_; clear n0_ n1_ n2_ n3_ n4_; clear hb hbox hg))
  go_ret
  exact ⟨_, rfl, (show IsS58 w0 _ gb101 ji4 ji6 ([] : List (S66)) ([] : List (S99)) ([] : List (S73)) from ⟨none, 0, none, 0, none, 0, by (with_reducible repeat (first | refine blk_drewN ?_ _ | refine blk_drew ?_ | refine blk_alloc ?_ _)); exact BK101.out, GE101.out, (Kd.C_nil _ _), (Kd.C_nil _ _), (Kd.C_nil _ _)⟩), by repeat (first | (with_reducible first | exact HB.out | apply below_alloc | apply pw_below_drewN | apply below_drew1 | refine below_set ?_ GE101.out) | exact HB.out), by repeat (first | (with_reducible first | exact HBW.out | apply below_alloc | apply pw_below_drewN | apply below_drew1 | refine below_set ?_ GW101.out) | exact HBW.out)⟩

-- NOT PRINTED: function 42 (term_measure)

-- NOT PRINTED: function 41 (term_right)

-- NOT PRINTED: function 19 (term_Check)

/-! ### slices_Index_int64_int64: function 78 -/
def slices_Index_int64_int64.l0 : Nat → List Int → Int → Int → Int → Option (Int)
  | 0, _, _, _, _ => none
  | k + 1, x0, x1, x7, x8 => if x8 < x7 then (if 0 ≤ x8 then (if x8 < (x0.length : Int) then (if x1 = (rd x0 x8) then (some x8) else (slices_Index_int64_int64.l0 k x0 x1 x7 (wrap64 (x8 + 1)))) else (none)) else (none)) else (some (-1))
def slices_Index_int64_int64.f (k : Nat) (l0 : List Int) (a1 : Int) : Option (Int) := slices_Index_int64_int64.l0 k l0 a1 (l0.length : Int) 0
theorem slices_Index_int64_int64.mono_l : ∀ k, (∀ y0 y1 y2 y3, LeO (slices_Index_int64_int64.l0 k y0 y1 y2 y3) (slices_Index_int64_int64.l0 (k + 1) y0 y1 y2 y3))
  | 0 => fun _ _ _ _ r h => by simp [slices_Index_int64_int64.l0] at h
  | k + 1 => by
    have ih0 := slices_Index_int64_int64.mono_l k
    · intro y0 y1 y2 y3
      unfold slices_Index_int64_int64.l0
      repeat' first
      | (with_reducible exact ih0 _ _ _ _)
      | (with_reducible exact LeO.refl _)
      | (with_reducible exact LeO.none _)
      | (with_reducible refine LeO.ite ?_ ?_)
      | (with_reducible refine LeO.bind ?_ (fun _ => ?_))
      | exact ih0 _ _ _ _
      | exact LeO.none _
      | refine LeO.ite ?_ ?_
      | refine LeO.bind ?_ (fun _ => ?_)
theorem slices_Index_int64_int64.mono : ∀ a0 a1 k, LeO (slices_Index_int64_int64.f k a0 a1) (slices_Index_int64_int64.f (k + 1) a0 a1) := by
  intro a0 a1 k
  have ih0 := slices_Index_int64_int64.mono_l k
  unfold slices_Index_int64_int64.f
  repeat' first
      | (with_reducible exact ih0 _ _ _ _)
      | (with_reducible exact LeO.refl _)
      | (with_reducible exact LeO.none _)
      | (with_reducible refine LeO.ite ?_ ?_)
      | (with_reducible refine LeO.bind ?_ (fun _ => ?_))
      | exact ih0 _ _ _ _
      | exact LeO.none _
      | refine LeO.ite ?_ ?_
      | refine LeO.bind ?_ (fun _ => ?_)
set_option maxHeartbeats 8000000 in
set_option maxRecDepth 100000 in
theorem slices_Index_int64_int64.calls (k : Nat) (A0 : Option Addr) (c0 : Nat) (l0 : List Int) (a1 : Int) (r : Int) (w : World) (hr0 : Kd.C (Kd.int .i64) w A0 l0.length l0) (hc0 : l0.length ≤ c0) (h : slices_Index_int64_int64.f k l0 a1 = some r) :
    Calls Try.prog 78 #[.slice A0 l0.length c0, .int .i64 a1] w fun e w' => e = .returned (.int .i64 r) ∧ Drawn0 w w' := by
  have HR0 := Aside0.mk hr0
  have HC0 := Aside0.mk hc0
  clear hr0 hc0
  have H : (slices_Index_int64_int64.l0 k l0 a1 (l0.length : Int) 0) = some r := h
  clear h
  have H' := Aside0.mk H
  clear H
  go_enter Try.func78, Try.ntmps78
  go_wp2
  go_loopg [8] k (fun kq v8 w' => ∃ (x8_1 : Int), v8 = .int .i64 x8_1 ∧ Aside0 (slices_Index_int64_int64.l0 kq l0 a1 (l0.length : Int) x8_1 = some r) ∧ Aside0 (kq ≤ k) ∧ Drawn0 w w')
  case atStart => exact ⟨(0), (by first | rfl | (simp; done) | (simp [*]; done)), H', ⟨Nat.le_refl _⟩, by repeat (first | exact Drawn0.refl _ | apply Drawn0.step)⟩
  case round =>
    clear H'
    try clear p2
    obtain ⟨x8_1, rfl, HA, HK1, ⟨m1, rfl⟩⟩ := hrel
    cases gk with
    | zero => exact absurd HA.out (by simp [slices_Index_int64_int64.l0])
    | succ k1 =>
      have H := HA.out
      clear HA
      simp only [slices_Index_int64_int64.l0] at H
      by_cases c3 : x8_1 < (l0.length : Int)
      · rw [if_pos c3] at H
        have c3b0 : decide (x8_1 < (l0.length : Int)) = true := decide_eq_true c3
        clear c3
        by_cases c4 : 0 ≤ x8_1
        · rw [if_pos c4] at H
          have c4b0 : decide (0 ≤ x8_1) = true := decide_eq_true c4
          clear c4
          by_cases c5 : x8_1 < (l0.length : Int)
          · rw [if_pos c5] at H
            have c5b0 : decide (x8_1 < (l0.length : Int)) = true := decide_eq_true c5
            clear c5
            by_cases c6 : a1 = (rd l0 x8_1)
            · rw [if_pos c6] at H
              have c6b0 : (a1 == (rd l0 x8_1)) = true := beq_iff_eq.mpr c6
              have c6b1 : (a1 != (rd l0 x8_1)) = false := bne_eq_false_iff_eq.mpr c6
              clear c6
              obtain rfl := Option.some.inj H
              have p108 : 0 ≤ (x8_1 : Int) := of_decide_eq_true (by first | (with_reducible assumption) | assumption)
              have q108 : x8_1 < (l0.length : Int) := of_decide_eq_true (by first | (with_reducible assumption) | assumption)
              obtain ⟨ad108, e108, hx108_0⟩ := Kd.at_int HR0.out x8_1 p108 q108
              cases e108
              replace p108 := eq_true p108
              replace q108 := eq_true q108
              go_wp2
              go_ret
              exact ⟨by first | rfl | (simp; done) | (simp [*]; done), by repeat (first | exact Drawn0.refl _ | apply Drawn0.step)⟩
            · rw [if_neg c6] at H
              have c6b0 : (a1 == (rd l0 x8_1)) = false := beq_eq_false_iff_ne.mpr c6
              have c6b1 : (a1 != (rd l0 x8_1)) = true := bne_iff_ne.mpr c6
              have H' := Aside0.mk H
              clear H
              have p108 : 0 ≤ (x8_1 : Int) := of_decide_eq_true (by first | (with_reducible assumption) | assumption)
              have q108 : x8_1 < (l0.length : Int) := of_decide_eq_true (by first | (with_reducible assumption) | assumption)
              obtain ⟨ad108, e108, hx108_0⟩ := Kd.at_int HR0.out x8_1 p108 q108
              cases e108
              replace p108 := eq_true p108
              replace q108 := eq_true q108
              go_wp2
              go_roundg k1
              case measure => have := HK1.out; omega
              case rel => exact ⟨(wrap64 (x8_1 + 1)), (by first | rfl | (simp; done) | (simp [*]; done)), H', ⟨by have := HK1.out; omega⟩, by repeat (first | exact Drawn0.refl _ | apply Drawn0.step)⟩
          · rw [if_neg c5] at H
            exact absurd H (by simp)
        · rw [if_neg c4] at H
          exact absurd H (by simp)
      · rw [if_neg c3] at H
        have c3b0 : decide (x8_1 < (l0.length : Int)) = false := decide_eq_false c3
        clear c3
        obtain rfl := Option.some.inj H
        go_wp2
        go_ret
        exact ⟨by first | rfl | (simp; done) | (simp [*]; done), by repeat (first | exact Drawn0.refl _ | apply Drawn0.step)⟩

/-! ### slices_Contains_int64_int64: function 67 -/
def slices_Contains_int64_int64.f (k : Nat) (l0 : List Int) (a1 : Int) : Option (Bool) := (slices_Index_int64_int64.f k l0 a1).bind fun t109 => (some (decide (t109 ≥ 0)))
theorem slices_Contains_int64_int64.mono : ∀ a0 a1 k, LeO (slices_Contains_int64_int64.f k a0 a1) (slices_Contains_int64_int64.f (k + 1) a0 a1) := by
  intro a0 a1 k
  unfold slices_Contains_int64_int64.f
  repeat' first
      | (with_reducible exact slices_Index_int64_int64.mono _ _ _)
      | (with_reducible exact LeO.refl _)
      | (with_reducible exact LeO.none _)
      | (with_reducible refine LeO.ite ?_ ?_)
      | (with_reducible refine LeO.bind ?_ (fun _ => ?_))
      | exact slices_Index_int64_int64.mono _ _ _
      | exact LeO.none _
      | refine LeO.ite ?_ ?_
      | refine LeO.bind ?_ (fun _ => ?_)
set_option maxHeartbeats 8000000 in
set_option maxRecDepth 100000 in
theorem slices_Contains_int64_int64.calls (k : Nat) (A0 : Option Addr) (c0 : Nat) (l0 : List Int) (a1 : Int) (r : Bool) (w : World) (hr0 : Kd.C (Kd.int .i64) w A0 l0.length l0) (hc0 : l0.length ≤ c0) (h : slices_Contains_int64_int64.f k l0 a1 = some r) :
    Calls Try.prog 67 #[.slice A0 l0.length c0, .int .i64 a1] w fun e w' => e = .returned (.bool r) ∧ Drawn0 w w' := by
  have HR0 := Aside0.mk hr0
  have HC0 := Aside0.mk hc0
  clear hr0 hc0
  have H : ((slices_Index_int64_int64.f k l0 a1).bind fun t109 => (some (decide (t109 ≥ 0)))) = some r := h
  clear h
  replace H := Option.bind_eq_some_iff.mp H
  obtain ⟨t109, A30, H⟩ := H
  replace H : (some (decide (t109 ≥ 0))) = some r := H
  have A3 := Aside0.mk A30
  clear A30
  obtain rfl := Option.some.inj H
  go_enter Try.func67, Try.ntmps67
  go_wp2_with (first | ((with_reducible refine gate_callee (f := 78) rfl ?_); refine goesL_ (some 7) rfl rfl Try.func78 (by kernel_rfl) rfl #[.slice A0 l0.length c0, .int .i64 a1] rfl (by (try simp only [List.map_toArray, List.map_cons, List.map_nil]); first | done | rfl | (simp only [List.length_drop, List.length_take]; rfl)) ?_; (with_reducible refine (slices_Index_int64_int64.calls k _ _ l0 a1 t109 _ ?side1 ?side2 A3.out).mono ?_); (case side1 => repeat (first | exact HR0.out | (with_reducible refine Kd.C_alloc ?_ _) | (with_reducible refine Kd.C_drewN ?_ _) | (with_reducible refine Kd.C_drew ?_))); (case side2 => exact HC0.out); rintro e w' ⟨rfl, ⟨nd, rfl⟩⟩; refine ⟨_, rfl, ?_⟩))
  go_ret
  exact ⟨by first | rfl | (simp; done) | (simp [*]; done), by repeat (first | exact Drawn0.refl _ | apply Drawn0.step)⟩

-- NOT PRINTED: function 50 (term_vars)

-- NOT PRINTED: function 28 (term_Vars)

/-! ### heap_greatest: function 29 -/
def heap_greatest.l0 : Nat → Int → List Int → Int → Int → Option (Int)
  | 0, _, _, _, _ => none
  | k + 1, x3, x6, x7, x8 => if x8 < x7 then (if 0 ≤ x8 then (if x8 < (x6.length : Int) then (heap_greatest.l0 k (mx x3 (rd x6 x8)) x6 x7 (wrap64 (x8 + 1))) else (none)) else (none)) else (some x3)
def heap_greatest.f (k : Nat) (l0 : List Int) : Option (Int) := heap_greatest.l0 k 0 l0 (l0.length : Int) 0
theorem heap_greatest.mono_l : ∀ k, (∀ y0 y1 y2 y3, LeO (heap_greatest.l0 k y0 y1 y2 y3) (heap_greatest.l0 (k + 1) y0 y1 y2 y3))
  | 0 => fun _ _ _ _ r h => by simp [heap_greatest.l0] at h
  | k + 1 => by
    have ih0 := heap_greatest.mono_l k
    · intro y0 y1 y2 y3
      unfold heap_greatest.l0
      repeat' first
      | (with_reducible exact ih0 _ _ _ _)
      | (with_reducible exact LeO.refl _)
      | (with_reducible exact LeO.none _)
      | (with_reducible refine LeO.ite ?_ ?_)
      | (with_reducible refine LeO.bind ?_ (fun _ => ?_))
      | exact ih0 _ _ _ _
      | exact LeO.none _
      | refine LeO.ite ?_ ?_
      | refine LeO.bind ?_ (fun _ => ?_)
theorem heap_greatest.mono : ∀ a0 k, LeO (heap_greatest.f k a0) (heap_greatest.f (k + 1) a0) := by
  intro a0 k
  have ih0 := heap_greatest.mono_l k
  unfold heap_greatest.f
  repeat' first
      | (with_reducible exact ih0 _ _ _ _)
      | (with_reducible exact LeO.refl _)
      | (with_reducible exact LeO.none _)
      | (with_reducible refine LeO.ite ?_ ?_)
      | (with_reducible refine LeO.bind ?_ (fun _ => ?_))
      | exact ih0 _ _ _ _
      | exact LeO.none _
      | refine LeO.ite ?_ ?_
      | refine LeO.bind ?_ (fun _ => ?_)
set_option maxHeartbeats 8000000 in
set_option maxRecDepth 100000 in
theorem heap_greatest.calls (k : Nat) (A0 : Option Addr) (c0 : Nat) (l0 : List Int) (r : Int) (w : World) (hr0 : Kd.C (Kd.int .i64) w A0 l0.length l0) (hc0 : l0.length ≤ c0) (h : heap_greatest.f k l0 = some r) :
    Calls Try.prog 29 #[.slice A0 l0.length c0] w fun e w' => e = .returned (.int .i64 r) ∧ Below w.heap.size w w' := by
  have HR0 := Aside0.mk hr0
  have HC0 := Aside0.mk hc0
  clear hr0 hc0
  have HB := Aside0.mk (Below.refl w.heap.size w)
  have H : (heap_greatest.l0 k 0 l0 (l0.length : Int) 0) = some r := h
  clear h
  have H' := Aside0.mk H
  clear H
  go_enter Try.func29, Try.ntmps29
  go_wp2
  go_loopg [3, 8] k (fun kq v3 v8 w' => ∃ (x3_1 : Int) (x8_1 : Int), v3 = .int .i64 x3_1 ∧ v8 = .int .i64 x8_1 ∧ Aside0 (heap_greatest.l0 kq x3_1 l0 (l0.length : Int) x8_1 = some r) ∧ Aside0 (kq ≤ k) ∧ Aside0 (Below w.heap.size w w'))
  case atStart => exact ⟨(0), (0), (by first | rfl | (simp; done) | (simp [*]; done)), (by first | rfl | (simp; done) | (simp [*]; done)), H', ⟨Nat.le_refl _⟩, ⟨by repeat (first | (with_reducible first | exact HB.out | apply below_alloc | apply pw_below_drewN | apply below_drew1) | exact HB.out)⟩⟩
  case round =>
    clear H'
    obtain ⟨x3_1, x8_1, rfl, rfl, HA, HK1, HB⟩ := hrel
    cases gk with
    | zero => exact absurd HA.out (by simp [heap_greatest.l0])
    | succ k1 =>
      have H := HA.out
      clear HA
      simp only [heap_greatest.l0] at H
      by_cases c2 : x8_1 < (l0.length : Int)
      · rw [if_pos c2] at H
        have c2b0 : decide (x8_1 < (l0.length : Int)) = true := decide_eq_true c2
        clear c2
        by_cases c3 : 0 ≤ x8_1
        · rw [if_pos c3] at H
          have c3b0 : decide (0 ≤ x8_1) = true := decide_eq_true c3
          clear c3
          by_cases c4 : x8_1 < (l0.length : Int)
          · rw [if_pos c4] at H
            have c4b0 : decide (x8_1 < (l0.length : Int)) = true := decide_eq_true c4
            clear c4
            obtain ⟨ji5, hji5⟩ : ∃ j_ : Int, (mx x3_1 (rd l0 x8_1)) = j_ := ⟨_, rfl⟩
            replace H : (heap_greatest.l0 k1 ji5 l0 (l0.length : Int) (wrap64 (x8_1 + 1))) = some r := by first | (rw [hji5] at H; exact H) | (simp only [hji5] at H ⊢; exact H)
            have hji5_ : (if x3_1 < (rd l0 x8_1) then (rd l0 x8_1) else x3_1) = ji5 := hji5
            have H' := Aside0.mk H
            clear H
            have p124 : 0 ≤ (x8_1 : Int) := of_decide_eq_true (by first | (with_reducible assumption) | assumption)
            have q124 : x8_1 < (l0.length : Int) := of_decide_eq_true (by first | (with_reducible assumption) | assumption)
            obtain ⟨ad124, e124, hx124_0⟩ := Kd.at_int HR0.out x8_1 p124 q124
            cases e124
            replace hx124_0 := (HB.out.cell (World.block_lt_of_cell? w _ hx124_0)).trans hx124_0
            replace p124 := eq_true p124
            replace q124 := eq_true q124
            go_wp2
            go_roundg k1
            case measure => have := HK1.out; omega
            case rel => exact ⟨(ji5), (wrap64 (x8_1 + 1)), (by first | rfl | (simp; done) | (simp only [← hji5] <;> (first | rfl | simp)) | (simp [*]; done)), (by first | rfl | (simp; done) | (simp [*]; done)), H', ⟨by have := HK1.out; omega⟩, ⟨by repeat (first | (with_reducible first | exact HB.out | apply below_alloc | apply pw_below_drewN | apply below_drew1) | exact HB.out)⟩⟩
          · rw [if_neg c4] at H
            exact absurd H (by simp)
        · rw [if_neg c3] at H
          exact absurd H (by simp)
      · rw [if_neg c2] at H
        have c2b0 : decide (x8_1 < (l0.length : Int)) = false := decide_eq_false c2
        clear c2
        obtain rfl := Option.some.inj H
        go_wp2
        go_ret
        exact ⟨by first | rfl | (simp [errW_none, errW_some] <;> rfl) | (simp [*, errW_none, errW_some] <;> rfl), by repeat (first | (with_reducible first | exact HB.out | apply below_alloc | apply pw_below_drewN | apply below_drew1) | exact HB.out)⟩

/-! ### heap_given: function 30 -/
def heap_given.f (a0 : Int) (l1 : List Int) : Option (Bool) := if a0 ≤ (l1.length : Int) then (if 0 ≤ (wrap64 (a0 - 1)) then (if (wrap64 (a0 - 1)) < (l1.length : Int) then (some (decide ((rd l1 (wrap64 (a0 - 1))) ≥ 0))) else (none)) else (none)) else (some false)
set_option maxHeartbeats 8000000 in
set_option maxRecDepth 100000 in
theorem heap_given.calls (a0 : Int) (A1 : Option Addr) (c1 : Nat) (l1 : List Int) (r : Bool) (w : World) (hr1 : Kd.C (Kd.int .i64) w A1 l1.length l1) (hc1 : l1.length ≤ c1) (h : heap_given.f a0 l1 = some r) :
    Calls Try.prog 30 #[.int .i64 a0, .slice A1 l1.length c1] w fun e w' => e = .returned (.bool r) ∧ Drawn0 w w' := by
  have HR1 := Aside0.mk hr1
  have HC1 := Aside0.mk hc1
  clear hr1 hc1
  have H : (if a0 ≤ (l1.length : Int) then (if 0 ≤ (wrap64 (a0 - 1)) then (if (wrap64 (a0 - 1)) < (l1.length : Int) then (some (decide ((rd l1 (wrap64 (a0 - 1))) ≥ 0))) else (none)) else (none)) else (some false)) = some r := h
  clear h
  by_cases c3 : a0 ≤ (l1.length : Int)
  · rw [if_pos c3] at H
    have c3b0 : decide (a0 ≤ (l1.length : Int)) = true := decide_eq_true c3
    clear c3
    obtain ⟨ji4, hji4⟩ : ∃ j_ : Int, (wrap64 (a0 - 1)) = j_ := ⟨_, rfl⟩
    replace H : (if 0 ≤ (ji4) then (if (ji4) < (l1.length : Int) then (some (decide ((rd l1 (ji4)) ≥ 0))) else (none)) else (none)) = some r := by first | (rw [hji4] at H; exact H) | (simp only [hji4] at H ⊢; exact H)
    have hji4w : (IntKind.i64.wrap (a0 - 1)) = ji4 := (i64_w _).trans hji4
    by_cases c5 : 0 ≤ (ji4)
    · rw [if_pos c5] at H
      have c5b0 : decide (0 ≤ (ji4)) = true := decide_eq_true c5
      clear c5
      by_cases c6 : (ji4) < (l1.length : Int)
      · rw [if_pos c6] at H
        have c6b0 : decide ((ji4) < (l1.length : Int)) = true := decide_eq_true c6
        clear c6
        obtain rfl := Option.some.inj H
        have p125 : 0 ≤ ((ji4) : Int) := of_decide_eq_true (by first | (with_reducible assumption) | assumption)
        have q125 : (ji4) < (l1.length : Int) := of_decide_eq_true (by first | (with_reducible assumption) | assumption)
        obtain ⟨ad125, e125, hx125_0⟩ := Kd.at_int HR1.out (ji4) p125 q125
        cases e125
        replace p125 := eq_true p125
        replace q125 := eq_true q125
        go_enter Try.func30, Try.ntmps30
        go_wp2
        go_ret
        exact ⟨by first | rfl | (simp; done) | (simp only [← hji4] <;> (first | rfl | simp)) | (simp [*]; done), by repeat (first | exact Drawn0.refl _ | apply Drawn0.step)⟩
      · rw [if_neg c6] at H
        exact absurd H (by simp)
    · rw [if_neg c5] at H
      exact absurd H (by simp)
  · rw [if_neg c3] at H
    have c3b0 : decide (a0 ≤ (l1.length : Int)) = false := decide_eq_false c3
    clear c3
    obtain rfl := Option.some.inj H
    go_enter Try.func30, Try.ntmps30
    go_wp2
    go_ret
    exact ⟨by first | rfl | (simp; done) | (simp [*]; done), by repeat (first | exact Drawn0.refl _ | apply Drawn0.step)⟩

-- NOT PRINTED: function 68 (slices_IndexFunc_int_int)

-- NOT PRINTED: function 51 (slices_ContainsFunc_int_int)

-- NOT PRINTED: function 31 (heap_Heap_bad)

-- NOT PRINTED: function 20 (term_Size)

-- NOT PRINTED: function 32 (heap_cost)

-- NOT PRINTED: function 33 (slices_Clone_int_int)

-- NOT PRINTED: function 34 (heap_Heap_lay)

-- NOT PRINTED: function 9 (heap_Heap_Put)

/-! ### heap_Heap_walk: function 53 -/
def heap_Heap_walk.l0 : Nat → Int → Int → Int → List (S66) → List (S99) → List (S73) → Option (Int × Int × Int)
  | 0, _, _, _, _, _, _ => none
  | k + 1, x1, x1000, x1001, x1002, x1003, x1004 => if 0 ≤ x1 then (if x1 < (x1002.length : Int) then (if ((rd_T66 x1002 x1).f0) = 1 then (heap_Heap_walk.l0 k ((rd_T66 x1002 x1).f3) x1000 x1001 x1002 x1003 x1004) else (some (x1, x1000, x1001))) else (none)) else (none)
def heap_Heap_walk.f (k : Nat) (s0_0 : Int) (s0_1 : Int) (s0_2 : List (S66)) (s0_3 : List (S99)) (s0_4 : List (S73)) (a1 : Int) : Option (Int × Int × Int) := heap_Heap_walk.l0 k a1 s0_0 s0_1 s0_2 s0_3 s0_4
theorem heap_Heap_walk.mono_l : ∀ k, (∀ y0 y1 y2 y3 y4 y5, LeO (heap_Heap_walk.l0 k y0 y1 y2 y3 y4 y5) (heap_Heap_walk.l0 (k + 1) y0 y1 y2 y3 y4 y5))
  | 0 => fun _ _ _ _ _ _ r h => by simp [heap_Heap_walk.l0] at h
  | k + 1 => by
    have ih0 := heap_Heap_walk.mono_l k
    · intro y0 y1 y2 y3 y4 y5
      unfold heap_Heap_walk.l0
      repeat' first
      | (with_reducible exact ih0 _ _ _ _ _ _)
      | (with_reducible exact LeO.refl _)
      | (with_reducible exact LeO.none _)
      | (with_reducible refine LeO.ite ?_ ?_)
      | (with_reducible refine LeO.bind ?_ (fun _ => ?_))
      | exact ih0 _ _ _ _ _ _
      | exact LeO.none _
      | refine LeO.ite ?_ ?_
      | refine LeO.bind ?_ (fun _ => ?_)
theorem heap_Heap_walk.mono : ∀ a0 a1 a2 a3 a4 a5 k, LeO (heap_Heap_walk.f k a0 a1 a2 a3 a4 a5) (heap_Heap_walk.f (k + 1) a0 a1 a2 a3 a4 a5) := by
  intro a0 a1 a2 a3 a4 a5 k
  have ih0 := heap_Heap_walk.mono_l k
  unfold heap_Heap_walk.f
  repeat' first
      | (with_reducible exact ih0 _ _ _ _ _ _)
      | (with_reducible exact LeO.refl _)
      | (with_reducible exact LeO.none _)
      | (with_reducible refine LeO.ite ?_ ?_)
      | (with_reducible refine LeO.bind ?_ (fun _ => ?_))
      | exact ih0 _ _ _ _ _ _
      | exact LeO.none _
      | refine LeO.ite ?_ ?_
      | refine LeO.bind ?_ (fun _ => ?_)
set_option maxHeartbeats 8000000 in
set_option maxRecDepth 100000 in
theorem heap_Heap_walk.calls (k : Nat) (g : Nat) (s0_0 : Int) (s0_1 : Int) (s0_2 : List (S66)) (s0_3 : List (S99)) (s0_4 : List (S73)) (a1 : Int) (r1 : Int) (r2 : Int) (r3 : Int) (w0 w : World) (hI : IsS58 w0 w g s0_0 s0_1 s0_2 s0_3 s0_4) (hB : Below w0.heap.size w0 w) (h : heap_Heap_walk.f k s0_0 s0_1 s0_2 s0_3 s0_4 a1 = some (r1, r2, r3)) :
    Calls Try.prog 53 #[.pointer (some ⟨g, 0, none⟩), .int .i64 a1] w fun e w' => e = .returned (.int .i64 r1) ∧ IsS58 w0 w' g r2 r3 s0_2 s0_3 s0_4 ∧ Below w0.heap.size w0 w' ∧ KeepBut w w' g none := by
  have HI0 := Aside0.mk hI
  have HK := Aside0.mk (KeepBut.refl w g none)
  have HL := Aside0.mk hB.size
  clear hI
  have HW0 := Aside0.mk hB.size
  have HB := Aside0.mk hB
  clear hB
  have H : (heap_Heap_walk.l0 k a1 s0_0 s0_1 s0_2 s0_3 s0_4) = some (r1, r2, r3) := h
  clear h
  have H' := Aside0.mk H
  clear H
  go_enter Try.func53, Try.ntmps53
  go_wp2
  go_loopg [1] k (fun kq v1 w' => ∃ (x1_1 : Int), v1 = .int .i64 x1_1 ∧ Aside0 (heap_Heap_walk.l0 kq x1_1 s0_0 s0_1 s0_2 s0_3 s0_4 = some (r1, r2, r3)) ∧ Aside0 (kq ≤ k) ∧ Aside0 (IsS58 w0 w' g s0_0 s0_1 s0_2 s0_3 s0_4) ∧ Aside0 (KeepBut w w' g none) ∧ Aside0 (Below w0.heap.size w0 w'))
  case atStart => exact ⟨(a1), (by first | rfl | (simp; done) | (simp [*]; done)), H', ⟨Nat.le_refl _⟩, ⟨by repeat (first | (with_reducible first | exact HI0.out | apply IsS58.alloc | apply IsS58.drewN | apply IsS58.drew | apply IsS58.set_0 | apply IsS58.set_1) | exact HI0.out)⟩, ⟨by repeat (first | (with_reducible first | exact HK.out | apply KeepBut.set_ | apply keep_drewN | apply keep_drew | apply keep_alloc) | exact HK.out)⟩, ⟨by repeat (first | (with_reducible first | exact HB.out | apply below_alloc | apply pw_below_drewN | apply below_drew1 | refine below_set ?_ (IsS58.ge HI0.out)) | exact HB.out)⟩⟩
  case round =>
    clear H'
    try clear p2
    obtain ⟨x1_1, rfl, HA, HK1, HI0, HK, HB⟩ := hrel
    cases gk with
    | zero => exact absurd HA.out (by simp [heap_Heap_walk.l0])
    | succ k1 =>
      have H := HA.out
      clear HA
      simp only [heap_Heap_walk.l0] at H
      by_cases c3 : 0 ≤ x1_1
      · rw [if_pos c3] at H
        have c3b0 : decide (0 ≤ x1_1) = true := decide_eq_true c3
        clear c3
        by_cases c4 : x1_1 < (s0_2.length : Int)
        · rw [if_pos c4] at H
          have c4b0 : decide (x1_1 < (s0_2.length : Int)) = true := decide_eq_true c4
          clear c4
          by_cases c5 : ((rd_T66 s0_2 x1_1).f0) = 1
          · rw [if_pos c5] at H
            have c5b0 : (((rd_T66 s0_2 x1_1).f0) == 1) = true := beq_iff_eq.mpr c5
            have c5b1 : (((rd_T66 s0_2 x1_1).f0) != 1) = false := bne_eq_false_iff_eq.mpr c5
            clear c5
            have H' := Aside0.mk H
            clear H
            obtain ⟨ASz6_2, cSz6_2, ASz6_3, cSz6_3, ASz6_4, cSz6_4, HGz6, hgz6, HSz6_2, HSz6_3, HSz6_4⟩ := HI0.out
            have hcz6_0 := cellS58_0 HGz6
            have hcz6_1 := cellS58_1 HGz6
            have hcz6_2 := cellS58_2 HGz6
            have hcz6_3 := cellS58_3 HGz6
            have hcz6_4 := cellS58_4 HGz6
            have hfz6_0 := blk_frozen HGz6 0
            have hfz6_1 := blk_frozen HGz6 1
            clear HGz6 hgz6
            have p133 : 0 ≤ (x1_1 : Int) := of_decide_eq_true (by first | (with_reducible assumption) | assumption)
            have q133 : x1_1 < (s0_2.length : Int) := of_decide_eq_true (by first | (with_reducible assumption) | assumption)
            obtain ⟨ad133, e133, hx133_0, hx133_1, hx133_2, hx133_3, hx133_4⟩ := at_T66 HSz6_2 x1_1 p133 q133
            cases e133
            replace hx133_0 := pw_cell_below HB.out hx133_0
            replace hx133_1 := pw_cell_below HB.out hx133_1
            replace hx133_2 := pw_cell_below HB.out hx133_2
            replace hx133_3 := pw_cell_below HB.out hx133_3
            replace hx133_4 := pw_cell_below HB.out hx133_4
            replace p133 := eq_true p133
            replace q133 := eq_true q133
            have p134 : 0 ≤ (x1_1 : Int) := of_decide_eq_true (by first | (with_reducible assumption) | assumption)
            have q134 : x1_1 < (s0_2.length : Int) := of_decide_eq_true (by first | (with_reducible assumption) | assumption)
            obtain ⟨ad134, e134, hx134_0, hx134_1, hx134_2, hx134_3, hx134_4⟩ := at_T66 HSz6_2 x1_1 p134 q134
            obtain rfl : ad133 = ad134 := (by injection e134)
            replace hx134_0 := pw_cell_below HB.out hx134_0
            replace hx134_1 := pw_cell_below HB.out hx134_1
            replace hx134_2 := pw_cell_below HB.out hx134_2
            replace hx134_3 := pw_cell_below HB.out hx134_3
            replace hx134_4 := pw_cell_below HB.out hx134_4
            replace p134 := eq_true p134
            replace q134 := eq_true q134
            go_wp2
            go_roundg k1
            case measure => have := HK1.out; omega
            case rel => exact ⟨((rd_T66 s0_2 x1_1).f3), (by first | rfl | (simp; done) | (simp [*]; done)), H', ⟨by have := HK1.out; omega⟩, ⟨by repeat (first | (with_reducible first | exact HI0.out | apply IsS58.alloc | apply IsS58.drewN | apply IsS58.drew | apply IsS58.set_0 | apply IsS58.set_1) | exact HI0.out)⟩, ⟨by repeat (first | (with_reducible first | exact HK.out | apply KeepBut.set_ | apply keep_drewN | apply keep_drew | apply keep_alloc) | exact HK.out)⟩, ⟨by repeat (first | (with_reducible first | exact HB.out | apply below_alloc | apply pw_below_drewN | apply below_drew1 | refine below_set ?_ (IsS58.ge HI0.out)) | exact HB.out)⟩⟩
          · rw [if_neg c5] at H
            have c5b0 : (((rd_T66 s0_2 x1_1).f0) == 1) = false := beq_eq_false_iff_ne.mpr c5
            have c5b1 : (((rd_T66 s0_2 x1_1).f0) != 1) = true := bne_iff_ne.mpr c5
            simp only [Option.some.injEq, Prod.mk.injEq] at H
            obtain ⟨rfl, rfl, rfl⟩ := H
            obtain ⟨ASz7_2, cSz7_2, ASz7_3, cSz7_3, ASz7_4, cSz7_4, HGz7, hgz7, HSz7_2, HSz7_3, HSz7_4⟩ := HI0.out
            have hcz7_0 := cellS58_0 HGz7
            have hcz7_1 := cellS58_1 HGz7
            have hcz7_2 := cellS58_2 HGz7
            have hcz7_3 := cellS58_3 HGz7
            have hcz7_4 := cellS58_4 HGz7
            have hfz7_0 := blk_frozen HGz7 0
            have hfz7_1 := blk_frozen HGz7 1
            clear HGz7 hgz7
            have p133 : 0 ≤ (x1_1 : Int) := of_decide_eq_true (by first | (with_reducible assumption) | assumption)
            have q133 : x1_1 < (s0_2.length : Int) := of_decide_eq_true (by first | (with_reducible assumption) | assumption)
            obtain ⟨ad133, e133, hx133_0, hx133_1, hx133_2, hx133_3, hx133_4⟩ := at_T66 HSz7_2 x1_1 p133 q133
            cases e133
            replace hx133_0 := pw_cell_below HB.out hx133_0
            replace hx133_1 := pw_cell_below HB.out hx133_1
            replace hx133_2 := pw_cell_below HB.out hx133_2
            replace hx133_3 := pw_cell_below HB.out hx133_3
            replace hx133_4 := pw_cell_below HB.out hx133_4
            replace p133 := eq_true p133
            replace q133 := eq_true q133
            go_wp2
            go_ret
            exact ⟨by first | rfl | (simp [errW_none, errW_some] <;> rfl) | (simp [*, errW_none, errW_some] <;> rfl), by repeat (first | (with_reducible first | exact HI0.out | apply IsS58.alloc | apply IsS58.drewN | apply IsS58.drew | apply IsS58.set_0 | apply IsS58.set_1) | exact HI0.out), by repeat (first | (with_reducible first | exact HB.out | apply below_alloc | apply pw_below_drewN | apply below_drew1 | refine below_set ?_ (IsS58.ge HI0.out)) | exact HB.out), by repeat (first | (with_reducible first | exact HK.out | apply KeepBut.set_ | apply keep_drewN | apply keep_drew | apply keep_alloc) | exact HK.out)⟩
        · rw [if_neg c4] at H
          exact absurd H (by simp)
      · rw [if_neg c3] at H
        exact absurd H (by simp)

-- NOT PRINTED: function 55 (heap_Heap_set)

-- NOT PRINTED: function 69 (heap_Heap_within)

-- NOT PRINTED: function 54 (heap_Heap_bind)

-- NOT PRINTED: function 35 (heap_Heap_unify)

-- NOT PRINTED: function 56 (heap_note)

-- NOT PRINTED: function 36 (heap_Heap_back)

-- NOT PRINTED: function 10 (heap_Heap_Unify)

-- NOT PRINTED: function 37 (heap_Heap_take)

-- NOT PRINTED: function 11 (heap_Heap_Take)

/-! ### heap_Heap_Used: function 12 -/
def heap_Heap_Used.f (s0_0 : Int) (s0_1 : Int) (s0_2 : List (S66)) (s0_3 : List (S99)) (s0_4 : List (S73)) : Option (Int × Int × Int × Int × Int) := some ((s0_2.length : Int), (s0_3.length : Int), (s0_4.length : Int), s0_0, s0_1)
set_option maxHeartbeats 8000000 in
set_option maxRecDepth 100000 in
theorem heap_Heap_Used.calls (g : Nat) (s0_0 : Int) (s0_1 : Int) (s0_2 : List (S66)) (s0_3 : List (S99)) (s0_4 : List (S73)) (r1 : Int) (r2 : Int) (r3 : Int) (r4 : Int) (r5 : Int) (w0 w : World) (hI : IsS58 w0 w g s0_0 s0_1 s0_2 s0_3 s0_4) (hB : Below w0.heap.size w0 w) (h : heap_Heap_Used.f s0_0 s0_1 s0_2 s0_3 s0_4 = some (r1, r2, r3, r4, r5)) :
    Calls Try.prog 12 #[.pointer (some ⟨g, 0, none⟩)] w fun e w' => e = .returned (.tuple #[.int .i64 r1, .int .i64 r2, .int .i64 r3]) ∧ IsS58 w0 w' g r4 r5 s0_2 s0_3 s0_4 ∧ Below w0.heap.size w0 w' ∧ KeepBut w w' g none := by
  have HI0 := Aside0.mk hI
  have HK := Aside0.mk (KeepBut.refl w g none)
  have HL := Aside0.mk hB.size
  clear hI
  have HW0 := Aside0.mk hB.size
  have HB := Aside0.mk hB
  clear hB
  have H : (some ((s0_2.length : Int), (s0_3.length : Int), (s0_4.length : Int), s0_0, s0_1)) = some (r1, r2, r3, r4, r5) := h
  clear h
  simp only [Option.some.injEq, Prod.mk.injEq] at H
  obtain ⟨rfl, rfl, rfl, rfl, rfl⟩ := H
  obtain ⟨ASz2_2, cSz2_2, ASz2_3, cSz2_3, ASz2_4, cSz2_4, HGz2, hgz2, HSz2_2, HSz2_3, HSz2_4⟩ := HI0.out
  have hcz2_0 := cellS58_0 HGz2
  have hcz2_1 := cellS58_1 HGz2
  have hcz2_2 := cellS58_2 HGz2
  have hcz2_3 := cellS58_3 HGz2
  have hcz2_4 := cellS58_4 HGz2
  have hfz2_0 := blk_frozen HGz2 0
  have hfz2_1 := blk_frozen HGz2 1
  clear HGz2 hgz2
  go_enter Try.func12, Try.ntmps12
  go_wp2
  repeat (go_quiet (fail); try go_wp2)
  go_ret3
  exact ⟨by first | rfl | (simp [errW_none, errW_some] <;> rfl) | (simp [*, errW_none, errW_some] <;> rfl), by repeat (first | (with_reducible first | exact HI0.out | apply IsS58.alloc | apply IsS58.drewN | apply IsS58.drew | apply IsS58.set_0 | apply IsS58.set_1) | exact HI0.out), by repeat (first | (with_reducible first | exact HB.out | apply below_alloc | apply pw_below_drewN | apply below_drew1 | refine below_set ?_ (IsS58.ge HI0.out)) | exact HB.out), by repeat (first | (with_reducible first | exact HK.out | apply KeepBut.set_ | apply keep_drewN | apply keep_drew | apply keep_alloc) | exact HK.out)⟩

-- NOT PRINTED: function 13 (heap_Heap_Mark)

-- NOT PRINTED: function 14 (heap_Heap_Undo)

-- NOT PRINTED: function 15 (heap_Heap_Keep)

/-! ### pythiaref07_sign: function 57 -/
def pythiaref07_sign.f (a0 : Bool) (a1 : Bool) : Option (Int) := if a0 = true then (some (-1)) else (if a1 = true then (some 1) else (some 0))
set_option maxHeartbeats 8000000 in
set_option maxRecDepth 100000 in
theorem pythiaref07_sign.calls (a0 : Bool) (a1 : Bool) (r : Int) (w : World) (h : pythiaref07_sign.f a0 a1 = some r) :
    Calls Try.prog 57 #[.bool a0, .bool a1] w fun e w' => e = .returned (.int .i64 r) ∧ Drawn0 w w' := by
  have H : (if a0 = true then (some (-1)) else (if a1 = true then (some 1) else (some 0))) = some r := h
  clear h
  by_cases c3 : a0 = true
  · subst c3
    have H1 : (some (-1)) = some r := by rw [if_pos rfl] at H; exact H
    clear H
    have H := H1
    clear H1
    obtain rfl := Option.some.inj H
    go_enter Try.func57, Try.ntmps57
    go_wp2
    go_ret
    exact ⟨by first | rfl | (simp; done) | (simp [*]; done), by repeat (first | exact Drawn0.refl _ | apply Drawn0.step)⟩
  · replace c3 := Bool.eq_false_iff.mpr c3
    subst c3
    have H1 : (if a1 = true then (some 1) else (some 0)) = some r := by rw [if_neg (show ¬ (false = true) by decide)] at H; exact H
    clear H
    have H := H1
    clear H1
    by_cases c4 : a1 = true
    · subst c4
      have H1 : (some 1) = some r := by rw [if_pos rfl] at H; exact H
      clear H
      have H := H1
      clear H1
      obtain rfl := Option.some.inj H
      go_enter Try.func57, Try.ntmps57
      go_wp2
      go_ret
      exact ⟨by first | rfl | (simp; done) | (simp [*]; done), by repeat (first | exact Drawn0.refl _ | apply Drawn0.step)⟩
    · replace c4 := Bool.eq_false_iff.mpr c4
      subst c4
      have H1 : (some 0) = some r := by rw [if_neg (show ¬ (false = true) by decide)] at H; exact H
      clear H
      have H := H1
      clear H1
      obtain rfl := Option.some.inj H
      go_enter Try.func57, Try.ntmps57
      go_wp2
      go_ret
      exact ⟨by first | rfl | (simp; done) | (simp [*]; done), by repeat (first | exact Drawn0.refl _ | apply Drawn0.step)⟩

end Go.Proofs.Ytjhhacighfpdbaa.PHeapShares
