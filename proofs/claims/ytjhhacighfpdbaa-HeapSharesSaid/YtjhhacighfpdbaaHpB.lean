/- The walks of set, within, bind. -/
import Derived.Test.YtjhhacighfpdbaaHpS
import Derived.Deep.AppendLies
import Derived.Deep.RegionLaw
import Derived.RegionTactic
namespace Go.Proofs.Ytjhhacighfpdbaa
set_option linter.unusedVariables false
open Go.RowKit Go.Maps Go.Proofs.YtjhhacighfpdbaaW.PrintWords Go.Proofs.YtjhhacighfpdbaaW.PrintLast Go.Proofs.YtjhhacighfpdbaaW.PrintMore Go.Proofs.Ytjhhacighfpdbaa.PHeapShares Go.Extern

theorem new_cells (w : World) (cs : Array Value) (t : TypeId) : ∀ j u, cs.toList[j]? = some u → (w.alloc (.cells cs t)).cell? ((⟨w.heap.size, 0, none⟩ : Addr).add j) = some u := fun j u hu => by
  rw [add_plain, blk_cell (blk_new w (.cells cs t)) j]
  rw [← Array.getElem?_toList]; exact hu
theorem oneC (c : Cl) : ∀ u ∈ cellsC c, u.oneCell' = true := by intro u hu; simp [cellsC] at hu; rcases hu with rfl | rfl | rfl | rfl | rfl <;> rfl
theorem oneN (c : Nt) : ∀ u ∈ cellsN c, u.oneCell' = true := by intro u hu; simp [cellsN] at hu; rcases hu with rfl | rfl | rfl | rfl | rfl | rfl <;> rfl
theorem infoN : (Try.prog.info? 99).map (fun i => (i.zero, i.size, i.bytes)) = some (some (.agg #[.int .i64 0, .int .i64 0, .string ⟨#[]⟩, .int .i64 0, .int .i64 0, .int .i64 0]), 6, 56) := by kernel_rfl

theorem HpV.drew {S : Nat → Prop} {w : World} {hb : Nat} {H : Hp} {vc vn vm : Value} (h : HpV w hb S H vc vn vm) : HpV w.drew hb S H vc vn vm := h.step (fun _ _ => rfl) (Nat.le_refl _)
theorem Fs.drew {S : Nat → Prop} {w w1 : World} (h : Fs S w w1) : Fs S w w1.drew := ⟨h.os, h.tape, h.output, h.size, h.block⟩

/-- What set does. -/
def SetPost (w : World) (hb : Nat) (S : Nat → Prop) (H : Hp) (x : Nat) (c0 c : Cl) (e : Ending) (w' : World) : Prop :=
  (H.trail ≤ H.N.length ∧ e = .returned (.bool false) ∧ HpTo w hb S H w') ∨ (H.N.length < H.trail ∧ e = .returned (.bool true) ∧ HpTo w hb S { H with C := H.C.set x c, N := H.N ++ [(x, c0)] } w')

theorem set_close {w W3 : World} {hb x g cap : Nat} {S S3 : Nat → Prop} {H : Hp} {c0 c : Cl} {vn vm : Value} (ht : H.N.length < H.trail) (hx : x < H.C.length) (hp3 : HpV W3 hb S3 { H with N := H.N ++ [(x, c0)] } (.slice (some ⟨g, 0, none⟩) H.C.length cap) vn vm) (hf : Fs S w W3) (hs : ∀ k, S3 k → S k ∨ w.heap.size ≤ k) :
    SetPost w hb S H x c0 c (.returned (.bool true)) (((((W3.setCell ⟨g, x * 5, none⟩ (.int .i64 c.kd)).setCell ⟨g, x * 5 + 1, none⟩ (.string c.nm)).setCell ⟨g, x * 5 + 2, none⟩ (.int .i64 c.n)).setCell ⟨g, x * 5 + 3, none⟩ (.int .i64 c.a)).setCell ⟨g, x * 5 + 4, none⟩ (.int .i64 c.ar)).drew := by
  obtain ⟨hp4, hf4⟩ := HpV.putC hp3 hx c
  exact .inr ⟨ht, rfl, _, ⟨_, _, _, hp4.drew⟩, (hf.trans hf4 hs).drew, hs⟩

set_option maxHeartbeats 2000000 in
set_option maxRecDepth 100000 in
theorem set_any (w : World) (hb : Nat) (S : Nat → Prop) (H : Hp) (h : HpAt w hb S H) (x : Nat) (c0 c : Cl) (hx : H.C[x]? = some c0) :
    Calls Try.prog 55 #[.pointer (some ⟨hb, 0, none⟩), .int .i64 x, .agg #[.int .i64 c.kd, .string c.nm, .int .i64 c.n, .int .i64 c.a, .int .i64 c.ar]] w (SetPost w hb S H x c0 c) := by
  obtain ⟨vc, vn, vm, h⟩ := h
  obtain ⟨vn', hvn⟩ : ∃ A c, vn = .slice A H.N.length c := own_slice h.rn
  obtain ⟨cn, rfl⟩ := hvn
  obtain ⟨g, cap, rfl, h1, h2, h3, h4, h5, h6⟩ := h.cell hx
  have hln := h.ln
  have hlc := h.lc
  have htr := h.tr
  have hbl := blk_lt h.blk
  have ha := h.alloc (.cells #[.int .i64 c.kd, .string c.nm, .int .i64 c.n, .int .i64 c.a, .int .i64 c.ar] 66)
  by_cases ht : H.N.length < H.trail
  · have hd : decide (H.trail ≤ (H.N.length : Int)) = false := decide_eq_false (by omega)
    have c1 := h.c1
    have c2 := h.c2
    have c3 := h.c3
    have d0 := h5.d0
    have d1 := h5.d1
    have d2 := h5.d2
    have d3 := h5.d3
    have d4 := h5.d4
    obtain ⟨i0, hi, hz0, hz1, hz2⟩ := info_parts infoN
    go_enter Try.func55, Try.ntmps55
    go_wp2
    go_quiet (fail)
    go_wp2
    have hv := ha.drewN nq
    have hsz : ((w.alloc (.cells #[.int .i64 c.kd, .string c.nm, .int .i64 c.n, .int .i64 c.a, .int .i64 c.ar] 66)).drewN nq).heap.size = w.heap.size + 1 := by simp
    have kx := blk_new w (.cells #[.int .i64 c.kd, .string c.nm, .int .i64 c.n, .int .i64 c.a, .int .i64 c.ar] 66)
    clear c1 c2 c3 d0 d1 d2 d3 d4 h6 h5 h4 h3
    have kx' : ((w.alloc (.cells #[.int .i64 c.kd, .string c.nm, .int .i64 c.n, .int .i64 c.a, .int .i64 c.ar] 66)).drewN nq).heap[w.heap.size]? = some (.cells #[.int .i64 c.kd, .string c.nm, .int .i64 c.n, .int .i64 c.a, .int .i64 c.ar] 66 (0, 0)) := kx
    generalize hWe : ((w.alloc (.cells #[.int .i64 c.kd, .string c.nm, .int .i64 c.n, .int .i64 c.a, .int .i64 c.ar] 66)).drewN nq) = W at hv hsz kx' ⊢
    obtain ⟨g, cap, hg, h1, h2, h3, h4, h5, h6⟩ := hv.cell hx
    cases hg
    have c1 := hv.c1
    have c2 := hv.c2
    have c3 := hv.c3
    have d0 := h5.d0
    have d1 := h5.d1
    have d2 := h5.d2
    have d3 := h5.d3
    have d4 := h5.d4
    have hbw : hb < W.heap.size := by omega
    have f3 : W.frozen? ⟨hb, 3, none⟩ = false := blk_frozen hv.blk 3
    have Hsz := Lib.hid hsz
    have hf0 : Fs S w (((W.alloc (.cells #[.int .i64 x, .int .i64 c0.kd, .string c0.nm, .int .i64 c0.n, .int .i64 c0.a, .int .i64 c0.ar] 99))).drewN 1) := by rw [← hWe]; exact (((((Fs.refl S w).alloc _).drewN nq).alloc _).drewN 1)
    have hle1 : ((W.alloc (.cells #[.int .i64 x, .int .i64 c0.kd, .string c0.nm, .int .i64 c0.n, .int .i64 c0.a, .int .i64 c0.ar] 99)).drewN 1).heap.size ≤ W.heap.size + 1 := by simp
    have hW1 : w.heap.size ≤ W.heap.size := by omega
    clear hWe
    clear hsz
    go_region_law ((refine step_append_lies _ rfl (.tmp 21) (.tmp 31) 55 rfl 0 99 i0 _ 6 56 Try.underlying55 hi hz0 hz1 hz2 rfl (by decide) _ H.N.length (H.N.flatMap cellsN) rfl (hv.rn.alloc _).drew ⟨W.heap.size, 0, none⟩ 1 1 (cellsN (x, c0)) rfl rfl (new_cells W #[.int .i64 x, .int .i64 c0.kd, .string c0.nm, .int .i64 c0.n, .int .i64 c0.a, .int .i64 c0.ar] 99) (oneN (x, c0)) (hm := by decide) (h63 := by unfold maxLen; omega) (hbytes := by omega) (hbase := Nat.zero_le _) (H := W.heap.size + 1) (hH := by simp) (h := ?_)); intro gN cN w2 hown2 hgrow2 hor2 hlt2; have kb2 := blk_grown (w := (W.alloc (.cells #[.int .i64 x, .int .i64 c0.kd, .string c0.nm, .int .i64 c0.n, .int .i64 c0.a, .int .i64 c0.ar] 99)).drew) (blk_alloc hv.blk _) hgrow2 hv.neN; have kx2 := blk_grown (w := (W.alloc (.cells #[.int .i64 x, .int .i64 c0.kd, .string c0.nm, .int .i64 c0.n, .int .i64 c0.a, .int .i64 c0.ar] 99)).drew) (blk_alloc kx' _) hgrow2 (own_ne hv.rn kx' (by decide)); have e3 := blk_cell kb2 3; have q3 := blk_frozen kb2 3)
    all_goals
      have hor3 : (Value.slice vn' H.N.length cn).ownBlock = some gN ∨ gN = W.heap.size + 1 := hor2
      obtain ⟨hp3, hf3, hs3⟩ := HpV.setN (u := .slice (some ⟨gN, 0, none⟩) (H.N.length + 1) cN) (X := H.N ++ [(x, c0)]) ((hv.alloc (.cells #[.int .i64 x, .int .i64 c0.kd, .string c0.nm, .int .i64 c0.n, .int .i64 c0.a, .int .i64 c0.ar] 99)).drewN 1) hgrow2 (by simpa using hown2) (fun k hk => by
        rcases hor3 with h | h
        · left; rw [h]; exact hk
        · right
          have hk' : gN = k := by simpa [Value.ownBlock] using hk
          rw [← hk', h]; exact hle1) (by simp; omega)
      have hsx := hv.Sl hb hv.Sh
      have kx3 := blk_far kx2 (p := ⟨hb, 3, none⟩) (show w.heap.size ≠ hb by omega) (.slice (some ⟨gN, 0, none⟩) (H.N.length + 1) cN)
      go_wp2
      generalize (w2.setCell ⟨hb, 3, none⟩ (.slice (some ⟨gN, 0, none⟩) (H.N.length + 1) cN)) = W3 at hp3 hf3 kx3 ⊢
      obtain ⟨g', cap', hg', h1', h2', h3', h4', h5', h6'⟩ := hp3.cell hx
      simp only [Value.slice.injEq, Option.some.injEq, Addr.mk.injEq, true_and, and_true] at hg'
      obtain ⟨rfl, rfl⟩ := hg'
      have y2 := hp3.c2
      have y3 := blk_cell kx3 0
      have y4 := blk_cell kx3 1
      have y5 := blk_cell kx3 2
      have y6 := blk_cell kx3 3
      have y7 := blk_cell kx3 4
      have b0 := h5'.d0
      have b1 := h5'.d1
      have b2 := h5'.d2
      have b3 := h5'.d3
      have b4 := h5'.d4
      have p0 := h6' (x * 5)
      have p1 := h6' (x * 5 + 1)
      have p2 := h6' (x * 5 + 2)
      have p3 := h6' (x * 5 + 3)
      have p4 := h6' (x * 5 + 4)
      clear e3 q3 kb2 kx2 hgrow2 hown2 hor2 hor3 h6' kx'
      go_region
      all_goals
        go_wp2
        go_ret
        exact set_close ht h4' hp3 (hf0.trans hf3 (S' := S) fun k h => .inl h) (fun k hk => (hs3 k hk).imp_right (Nat.le_trans hf0.size))
  · have hd : decide (H.trail ≤ (H.N.length : Int)) = true := decide_eq_true (by omega)
    have c1 := h.c1
    have c3 := h.c3
    go_enter Try.func55, Try.ntmps55
    go_wp2
    go_quiet (fail)
    go_wp2
    go_ret
    exact .inl ⟨by omega, rfl, HpAt.to ⟨_, _, _, ha.drewN nq⟩ (((Fs.refl S w).alloc _).drewN nq)⟩

end Go.Proofs.Ytjhhacighfpdbaa
