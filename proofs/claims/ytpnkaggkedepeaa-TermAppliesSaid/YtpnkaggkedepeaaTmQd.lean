/- The document's Copy, apply, Rename and Variant, walked. -/
import Derived.Test.YtpnkaggkedepeaaTmQc
import Derived.Test.YtpnkaggkedepeaaTmPl
import Derived.Deep.RegionHeld3
import Derived.Deep.QuietTactic
import Derived.BigQuiet
namespace Go.Proofs.Ytpnkaggkedepeaa
set_option linter.unusedVariables false
open Go.RowKit Go.Maps Go.Proofs.YtpnkaggkedepeaaW.PrintWords Go.Proofs.YtpnkaggkedepeaaW.PrintLast Go.Proofs.YtpnkaggkedepeaaW.PrintMore Go.Proofs.Ytpnkaggkedepeaa.PTermTells Go.Extern

set_option maxHeartbeats 1000000 in
set_option maxRecDepth 100000 in
theorem rcopy_any (t : S24) (w0 w : World) (A : Option Addr) (c : Nat) (hC : Kd.C k24 w0 A t.f3.length t.f3) (hc : t.f3.length ≤ c) (hB : Below w0.heap.size w0 w) (hn : nodes t < 1000000) :
    Calls Try.prog 36 #[.agg #[.int .i64 t.f0, .string t.f1, .int .i64 t.f2, .slice A t.f3.length c]] w fun e w' => ∃ v,
      e = .returned (.agg #[.int .i64 (cpR t).f0, .string (cpR t).f1, .int .i64 (cpR t).f2, v]) ∧ Kd.R k24 24 w' w.heap.size (fun _ => True) v (cpR t).f3 ∧ Below w.heap.size w w' := by
  have hB2 := below_alloc (below_alloc (Below.refl w.heap.size w) (.cells #[.int .i64 t.f0, .string t.f1, .int .i64 t.f2, .slice A t.f3.length c] 24)) (.cells #[.int .i64 0, .string ⟨#[]⟩, .int .i64 0, .slice none 0 0] 24)
  have kR := blk_new (w.alloc (.cells #[.int .i64 t.f0, .string t.f1, .int .i64 t.f2, .slice A t.f3.length c] 24)) (.cells #[.int .i64 0, .string ⟨#[]⟩, .int .i64 0, .slice none 0 0] 24)
  rw [World.size_alloc] at kR
  have hcall := rput_any _ t rfl w0 _ c A hC hc (below_step hB hB2) hn
  generalize cpR t = r at hcall ⊢
  obtain ⟨e0, e1, e2, e3⟩ := r
  simp only at hcall ⊢
  go_enter Try.func36, Try.ntmps36
  go_wp2_with fail
  refine hcall.mono ?_
  rintro e w1 ⟨v, rfl, R, hb⟩
  obtain ⟨A5, c5, rfl, hc5, C5⟩ := Kd.R_reads R
  replace kR := blk_below kR hb
  have hB3 := below_step hB2 hb
  clear hcall hb
  have r0 := blk_cell kR 0
  have r1 := blk_cell kR 1
  have r2 := blk_cell kR 2
  have r3 := blk_cell kR 3
  have fr := fun i => blk_frozen kR i
  have lr := blk_lt kR
  go_wp2
  have kF := res_box kR (.int .i64 e0) (.string e1) (.int .i64 e2) (.slice A5 e3.length c5)
  have hBF : Below w.heap.size w ((((w1.setCell ⟨w.heap.size + 1, 0, none⟩ (.int .i64 e0)).setCell ⟨w.heap.size + 1, 1, none⟩ (.string e1)).setCell ⟨w.heap.size + 1, 2, none⟩ (.int .i64 e2)).setCell ⟨w.heap.size + 1, 3, none⟩ (.slice A5 e3.length c5)) := below_set (below_set (below_set (below_set hB3 (by omega)) (by omega)) (by omega)) (by omega)
  have hRF := R_set4 (g := w.heap.size + 1) (Kd.R_bound R) (fun j hj => by have := hj.2.1; simp at this; omega) (.int .i64 e0) (.string e1) (.int .i64 e2) (.slice A5 e3.length c5)
  generalize ((((w1.setCell ⟨w.heap.size + 1, 0, none⟩ (.int .i64 e0)).setCell ⟨w.heap.size + 1, 1, none⟩ (.string e1)).setCell ⟨w.heap.size + 1, 2, none⟩ (.int .i64 e2)).setCell ⟨w.heap.size + 1, 3, none⟩ (.slice A5 e3.length c5)) = WF at kF hBF hRF ⊢
  have q0 := blk_cell kF 0
  have q1 := blk_cell kF 1
  have q2 := blk_cell kF 2
  have q3 := blk_cell kF 3
  refine bodyPost_ret (v := .agg #[.int .i64 e0, .string e1, .int .i64 e2, .slice A5 e3.length c5]) (by simp [results, Try.results36, go_sem, q0, q1, q2, q3]) rfl ?_
  exact ⟨_, rfl, Kd.R_mono (Kd.R_lower hRF (by simp; omega)) (fun _ _ => trivial), hBF⟩

/-- What the first binding of a variable puts in. -/
def apV (bs : List S50) (t : S24) : S24 := match firstB bs t.f2 with | some y => cpR y | none => bareR t
mutual
/-- The first binding of each variable put in, as the document does it. -/
def apR (bs : List S50) : S24 → S24
  | ⟨kd, nm, nt, xs⟩ => if kd = 1 then apV bs ⟨kd, nm, nt, xs⟩ else if kd = 4 then ⟨4, nm, 0, apRL bs xs⟩ else bareR ⟨kd, nm, nt, xs⟩
def apRL (bs : List S50) : List S24 → List S24
  | [] => []
  | a :: r => apR bs a :: apRL bs r
end
theorem apRL_map (bs : List S50) : ∀ xs : List S24, apRL bs xs = xs.map (apR bs)
  | [] => by rw [apRL]; rfl
  | a :: r => by rw [apRL, apRL_map bs r]; rfl
theorem apRL_take (bs : List S50) (xs : List S24) (k : Nat) (h : k < xs.length) : apRL bs (xs.take (k + 1)) = apRL bs (xs.take k) ++ [apR bs xs[k]] := by
  rw [List.take_succ_eq_append_getElem h, apRL_map, apRL_map, List.map_append]; rfl
theorem apRL_len (bs : List S50) (xs : List S24) : (apRL bs xs).length = xs.length := by rw [apRL_map, List.length_map]
theorem bareR_eq {t : S24} (h : shT t = true) (h4 : t.f0 ≠ 4) : bareR t = bareT t := by
  have := sh_kind' h
  obtain ⟨kd, nm, nt, xs⟩ := t
  simp only at this h4
  unfold bareR
  rw [bare_kind]
  simp only
  by_cases h2 : kd ≤ 2
  · rw [if_pos h2, if_pos (by omega)]
  · rw [if_neg h2, if_neg (by omega)]
mutual
/-- Of right terms it is what is put in. -/
theorem apR_sg (bs : List S50) (hb : ∀ b ∈ bs, shT b.f1 = true) : ∀ t : S24, shT t = true → apR bs t = sg (bS bs) t
  | ⟨kd, nm, nt, xs⟩, h => by
    rw [apR, sg_eq]
    by_cases h1 : kd = 1
    · rw [if_pos h1, if_pos h1]
      unfold bS apV
      simp only
      cases hf : firstB bs nt with
      | none =>
        simp only [Option.map_none, Option.getD_none]
        rw [bareR_eq h (by simp only; omega), bare_kind, if_pos (.inl h1), h1]; rfl
      | some y =>
        simp only [Option.map_some, Option.getD_some]
        unfold firstB at hf
        obtain ⟨b, hb1, rfl⟩ := Option.map_eq_some_iff.1 hf
        exact cpR_nrm _ (hb b (List.mem_of_find?_eq_some hb1))
    rw [if_neg h1, if_neg h1]
    by_cases h4 : kd = 4
    · subst h4
      rw [if_pos rfl, if_pos rfl]
      rw [shT, if_neg (by decide), if_neg (by decide), if_pos rfl] at h
      simp only [Bool.and_eq_true] at h
      rw [apRL_sg bs hb xs h.1.2]
    · rw [if_neg h4, if_neg h4]
      exact bareR_eq h h4
theorem apRL_sg (bs : List S50) (hb : ∀ b ∈ bs, shT b.f1 = true) : ∀ xs : List S24, shL xs = true → apRL bs xs = sgL (bS bs) xs
  | [], _ => by rw [apRL]; unfold sgL; rw [subL_nil]
  | a :: r, h => by
    rw [shL_cons, Bool.and_eq_true] at h
    have h1 := apR_sg bs hb a h.1
    have h2 := apRL_sg bs hb r h.2
    unfold sgL at h2 ⊢
    unfold sg at h1
    rw [apRL, subL_cons, h1, h2]
end

def rapply_T14 : Bool × List (List Nat × List Nat) := (true, [([], []), ([0], [0]), ([], []), ([2], [2]), ([], []), ([3, 4], [3, 4]), ([5], [5]), ([], []), ([6, 7], [6, 7]), ([8], [8]), ([1, 9, 8], [1, 9]), ([0, 1, 2, 3, 4, 5, 6, 7, 8, 9, 10], []), ([11, 10, 10, 0, 1, 2, 3, 4, 5, 6, 7, 8, 9, 10], [10, 11])])
def rapply_B14 : List Nat := [0, 1, 0, 4, 0, 28, 60, 0, 252, 508, 1023, 2047, 4095]
theorem rapply_tab14 : rtab .any (opsOf Try.f67 14) = rapply_T14 := by kernel_rfl
theorem rapply_bits14 : waitsOk rapply_T14.2 rapply_B14 = true := by kernel_rfl

set_option maxHeartbeats 4000000 in
set_option maxRecDepth 100000 in
theorem rapply_any (bs : List S50) (E : Option Addr) (ce : Nat) (hbl : bs.length < 1000000) (hbn : ∀ b ∈ bs, nodes b.f1 < 1000000) : ∀ (n : Nat) (t : S24), SizeOf.sizeOf t = n → ∀ (w0 w : World) (c : Nat) (A : Option Addr), Kd.C k24 w0 A t.f3.length t.f3 → t.f3.length ≤ c → Kd.C k50 w0 E bs.length bs → Below w0.heap.size w0 w → nodes t < 1000000 →
    Calls Try.prog 67 #[.agg #[.int .i64 t.f0, .string t.f1, .int .i64 t.f2, .slice A t.f3.length c], .slice E bs.length ce] w fun e w' => ∃ v,
      e = .returned (.agg #[.int .i64 (apR bs t).f0, .string (apR bs t).f1, .int .i64 (apR bs t).f2, v]) ∧ Kd.R k24 24 w' w.heap.size (fun _ => True) v (apR bs t).f3 ∧ Below w.heap.size w w' := by
  intro n
  induction n using Nat.strongRecOn with
  | _ n ih =>
  intro t hn w0 w c A hC hc hE hB hnd
  obtain ⟨kd, nm, nt, xs⟩ := t
  simp only at hC hc ⊢
  have hB2 := below_alloc (below_alloc (Below.refl w.heap.size w) (.cells #[.int .i64 kd, .string nm, .int .i64 nt, .slice A xs.length c] 24)) (.cells #[.int .i64 0, .string ⟨#[]⟩, .int .i64 0, .slice none 0 0] 24)
  have kT : ((w.alloc (.cells #[.int .i64 kd, .string nm, .int .i64 nt, .slice A xs.length c] 24)).alloc (.cells #[.int .i64 0, .string ⟨#[]⟩, .int .i64 0, .slice none 0 0] 24)).heap[w.heap.size]? = some (.cells #[.int .i64 kd, .string nm, .int .i64 nt, .slice A xs.length c] 24 (0, 0)) := blk_alloc (blk_new w _) _
  have kR := blk_new (w.alloc (.cells #[.int .i64 kd, .string nm, .int .i64 nt, .slice A xs.length c] 24)) (.cells #[.int .i64 0, .string ⟨#[]⟩, .int .i64 0, .slice none 0 0] 24)
  rw [World.size_alloc] at kR
  have hbare := fun (W : World) => rbare_any ⟨kd, nm, nt, xs⟩ W A c
  rw [apR]
  by_cases k1 : kd = 1
  · subst k1
    rw [if_pos rfl]
    clear ih
    obtain ⟨rv, hr0⟩ : ∃ rv, rv = apV bs ⟨1, nm, nt, xs⟩ := ⟨_, rfl⟩
    rw [← hr0]
    have HR0 := Lib.hid hr0
    clear hr0
    go_enter Try.func67, Try.ntmps67
    go_upto_region 3 with (fail)
    generalize ((w.alloc (.cells #[.int .i64 1, .string nm, .int .i64 nt, .slice A xs.length c] 24)).alloc (.cells #[.int .i64 0, .string ⟨#[]⟩, .int .i64 0, .slice none 0 0] 24)) = w1 at hB2 kT kR ⊢
    go_loopw [5] (fun i wr => ∃ k : Nat, k ≤ bs.length ∧ i = .int .i64 k ∧ firstB bs nt = firstB (bs.drop k) nt ∧ wr.heap[w.heap.size]? = some (.cells #[.int .i64 1, .string nm, .int .i64 nt, .slice A xs.length c] 24 (0, 0)) ∧
        wr.heap[w.heap.size + 1]? = some (.cells #[.int .i64 0, .string ⟨#[]⟩, .int .i64 0, .slice none 0 0] 24 (0, 0)) ∧ Below w.heap.size w wr) (fun i _ => bs.length - (intOf i).toNat)
    case atStart => exact ⟨0, Nat.zero_le _, rfl, rfl, kT, kR, hB2⟩
    case round =>
      clear kT kR hB2
      obtain ⟨k, hk, rfl, hf, kT, kR, hBr⟩ := hrel
      have hB0 := below_step hB hBr
      by_cases hlt : k < bs.length
      · have hgr := C50_rd hE k hlt rfl
        have hxn := hbn _ (List.getElem_mem hlt)
        rw [List.drop_eq_getElem_cons hlt, firstB_cons] at hf
        generalize bs[k] = b50 at hgr hxn hf
        obtain ⟨xv, xt⟩ := b50
        obtain ⟨ad, A4, c4, rfl, y0, y1, y2, y3, y4, l4, g4⟩ := hgr
        simp only at y0 y1 y2 y3 y4 l4 g4 hxn hf
        replace y0 := (hB0.cell (World.block_lt_of_cell? w0 _ y0)).trans y0
        replace y1 := (hB0.cell (World.block_lt_of_cell? w0 _ y1)).trans y1
        replace y2 := (hB0.cell (World.block_lt_of_cell? w0 _ y2)).trans y2
        replace y3 := (hB0.cell (World.block_lt_of_cell? w0 _ y3)).trans y3
        replace y4 := (hB0.cell (World.block_lt_of_cell? w0 _ y4)).trans y4
        have x2 := blk_cell kT 2
        have f0 : (0 : Int) ≤ (k : Int) := by omega
        have f1 : (k : Int) < (bs.length : Int) := by omega
        by_cases e : xv = nt
        · subst e
          rw [if_pos rfl] at hf
          have hr1 : cpR xt = rv := by rw [HR0.out]; unfold apV; simp only; rw [hf]
          have HR1 := Lib.hid hr1
          clear hf hr1
          have e' : (xv == xv) = true := by simp
          go_wp2_with fail
          go_quiet (fail)
          go_wp2_with fail
          refine (rcopy_any xt w0 _ A4 c4 g4 l4 (below_drewN hB0 _) hxn).mono ?_
          rw [HR1.out]
          clear HR1 HR0
          obtain ⟨e0, e1, e2, e3⟩ := rv
          simp only
          rintro e w5 ⟨v, rfl, R, hb⟩
          obtain ⟨A5, c5, rfl, hc5, C5⟩ := Kd.R_reads R
          have lr0 := blk_lt kR
          replace kR := blk_below (show (World.drewN wr _).heap[w.heap.size + 1]? = _ from kR) hb
          have hB3 := below_step (below_drewN hBr _) hb
          clear hb y0 y1 y2 y3 y4 x2
          have r0 := blk_cell kR 0
          have r1 := blk_cell kR 1
          have r2 := blk_cell kR 2
          have r3 := blk_cell kR 3
          have fr := fun i => blk_frozen kR i
          have lr := blk_lt kR
          go_wp2
          have kF := res_box kR (.int .i64 e0) (.string e1) (.int .i64 e2) (.slice A5 e3.length c5)
          have hBF : Below w.heap.size w ((((w5.setCell ⟨w.heap.size + 1, 0, none⟩ (.int .i64 e0)).setCell ⟨w.heap.size + 1, 1, none⟩ (.string e1)).setCell ⟨w.heap.size + 1, 2, none⟩ (.int .i64 e2)).setCell ⟨w.heap.size + 1, 3, none⟩ (.slice A5 e3.length c5)) := below_set (below_set (below_set (below_set hB3 (by omega)) (by omega)) (by omega)) (by omega)
          have hRF := R_set4 (g := w.heap.size + 1) (Kd.R_bound R) (fun j hj => by have := hj.2.1; simp at this; omega) (.int .i64 e0) (.string e1) (.int .i64 e2) (.slice A5 e3.length c5)
          generalize ((((w5.setCell ⟨w.heap.size + 1, 0, none⟩ (.int .i64 e0)).setCell ⟨w.heap.size + 1, 1, none⟩ (.string e1)).setCell ⟨w.heap.size + 1, 2, none⟩ (.int .i64 e2)).setCell ⟨w.heap.size + 1, 3, none⟩ (.slice A5 e3.length c5)) = WF at kF hBF hRF ⊢
          have q0 := blk_cell kF 0
          have q1 := blk_cell kF 1
          have q2 := blk_cell kF 2
          have q3 := blk_cell kF 3
          refine bodyPost_ret (v := .agg #[.int .i64 e0, .string e1, .int .i64 e2, .slice A5 e3.length c5]) (by simp [results, Try.results67, go_sem, q0, q1, q2, q3]) rfl ?_
          exact ⟨_, rfl, Kd.R_mono (Kd.R_lower hRF (by have := hBr.size; exact this)) (fun _ _ => trivial), hBF⟩
        · rw [if_neg e] at hf
          have HF := Lib.hid hf
          clear hf
          have e' : (xv == nt) = false := by simpa using e
          go_wp2_with fail
          go_quiet (fail)
          go_wp2
          go_roundw
          case rel => exact ⟨k + 1, by omega, by go_num, HF.out, kT, kR, below_drewN hBr _⟩
          case measure => simp [intOf]; omega
      · obtain rfl : k = bs.length := by omega
        rw [List.drop_of_length_le (Nat.le_refl _)] at hf
        have hr1 : bareR ⟨1, nm, nt, xs⟩ = rv := by rw [HR0.out]; unfold apV; simp only; rw [hf]; rfl
        clear hf
        have x0 := blk_cell kT 0
        have x1 := blk_cell kT 1
        have x2 := blk_cell kT 2
        have x3 := blk_cell kT 3
        have hcall := hbare wr
        clear hbare
        have hb3 : (bareR ⟨1, nm, nt, xs⟩).f3 = [] := by unfold bareR; split <;> rfl
        rw [hr1] at hcall hb3
        clear hr1 HR0
        go_wp2_with fail
        refine hcall.mono ?_
        rintro e w5 ⟨rfl, hb⟩
        replace kR := blk_below kR hb
        have hB3 := below_step hBr hb
        clear hb hcall x0 x1 x2 x3
        have r0 := blk_cell kR 0
        have r1 := blk_cell kR 1
        have r2 := blk_cell kR 2
        have r3 := blk_cell kR 3
        have fr := fun i => blk_frozen kR i
        have lr := blk_lt kR
        go_wp2
        have kF := res_box kR (.int .i64 rv.f0) (.string rv.f1) (.int .i64 rv.f2) (.slice none 0 0)
        have hBF : Below w.heap.size w ((((w5.setCell ⟨w.heap.size + 1, 0, none⟩ (.int .i64 rv.f0)).setCell ⟨w.heap.size + 1, 1, none⟩ (.string rv.f1)).setCell ⟨w.heap.size + 1, 2, none⟩ (.int .i64 rv.f2)).setCell ⟨w.heap.size + 1, 3, none⟩ (.slice none 0 0)) := below_set (below_set (below_set (below_set hB3 (by omega)) (by omega)) (by omega)) (by omega)
        have hRF := R_set4 (g := w.heap.size + 1) (Kd.R_nil k24 24 w5 w.heap.size (fun j => w.heap.size + 1 < j)) (fun j hj => by omega) (.int .i64 rv.f0) (.string rv.f1) (.int .i64 rv.f2) (.slice none 0 0)
        generalize ((((w5.setCell ⟨w.heap.size + 1, 0, none⟩ (.int .i64 rv.f0)).setCell ⟨w.heap.size + 1, 1, none⟩ (.string rv.f1)).setCell ⟨w.heap.size + 1, 2, none⟩ (.int .i64 rv.f2)).setCell ⟨w.heap.size + 1, 3, none⟩ (.slice none 0 0)) = WF at kF hBF hRF ⊢
        have q0 := blk_cell kF 0
        have q1 := blk_cell kF 1
        have q2 := blk_cell kF 2
        have q3 := blk_cell kF 3
        refine bodyPost_ret (v := .agg #[.int .i64 rv.f0, .string rv.f1, .int .i64 rv.f2, .slice none 0 0]) (by simp [results, Try.results67, go_sem, q0, q1, q2, q3]) rfl ?_
        exact ⟨.slice none 0 0, rfl, by rw [hb3]; exact Kd.R_nil _ _ _ _ _, hBF⟩
  rw [if_neg k1]
  have k1' : (kd == 1) = false := by simpa using k1
  by_cases k4 : kd = 4
  · subst k4
    rw [if_pos rfl]
    have hn4 : nodes ⟨4, nm, nt, xs⟩ = 1 + nodesL xs := by rw [nodes, if_pos rfl]
    rw [hn4] at hnd
    have hz : ∀ a ∈ xs, SizeOf.sizeOf a < n ∧ nodes a < 1000000 := fun a ha => ⟨by rw [← hn]; exact sz_mem (t := ⟨4, nm, nt, xs⟩) ha, by have := (nodesL_mem ha).1; omega⟩
    have hxl : xs.length ≤ nodesL xs := nodesL_length xs
    clear hn hn4 hbare
    have hmx := hC.2.1
    go_enter Try.func67, Try.ntmps67
    go_upto_region 12 with (fail)
    have hB4 := below_alloc hB2 (.cells #[.int .i64 4, .string nm, .int .i64 0, .slice none 0 0] 24)
    replace kT := blk_alloc kT (.cells #[.int .i64 4, .string nm, .int .i64 0, .slice none 0 0] 24)
    replace kR := blk_alloc kR (.cells #[.int .i64 4, .string nm, .int .i64 0, .slice none 0 0] 24)
    have kO : (((w.alloc (.cells #[.int .i64 4, .string nm, .int .i64 nt, .slice A xs.length c] 24)).alloc (.cells #[.int .i64 0, .string ⟨#[]⟩, .int .i64 0, .slice none 0 0] 24)).alloc (.cells #[.int .i64 4, .string nm, .int .i64 0, .slice none 0 0] 24)).heap[w.heap.size + 1 + 1]? = some (.cells #[.int .i64 4, .string nm, .int .i64 0, .slice none 0 0] 24 (0, 0)) := by
      have := blk_new ((w.alloc (.cells #[.int .i64 4, .string nm, .int .i64 nt, .slice A xs.length c] 24)).alloc (.cells #[.int .i64 0, .string ⟨#[]⟩, .int .i64 0, .slice none 0 0] 24)) (.cells #[.int .i64 4, .string nm, .int .i64 0, .slice none 0 0] 24)
      rw [World.size_alloc, World.size_alloc] at this
      exact this
    generalize ((w.alloc (.cells #[.int .i64 4, .string nm, .int .i64 nt, .slice A xs.length c] 24)).alloc (.cells #[.int .i64 0, .string ⟨#[]⟩, .int .i64 0, .slice none 0 0] 24)).alloc (.cells #[.int .i64 4, .string nm, .int .i64 0, .slice none 0 0] 24) = w4 at hB4 kT kR kO ⊢
    clear hB2
    go_loopw [7] (fun i wr => ∃ (k : Nat) (v : Value), k ≤ xs.length ∧ i = .int .i64 k ∧ wr.heap[w.heap.size]? = some (.cells #[.int .i64 4, .string nm, .int .i64 nt, .slice A xs.length c] 24 (0, 0)) ∧
        wr.heap[w.heap.size + 1]? = some (.cells #[.int .i64 0, .string ⟨#[]⟩, .int .i64 0, .slice none 0 0] 24 (0, 0)) ∧
        wr.heap[w.heap.size + 1 + 1]? = some (.cells #[.int .i64 4, .string nm, .int .i64 0, v] 24 (0, 0)) ∧ Kd.R k24 24 wr w.heap.size (fun j => w.heap.size + 1 + 1 < j) v (apRL bs (xs.take k)) ∧ Below w.heap.size w wr)
      (fun i _ => xs.length - (intOf i).toNat)
    case atStart => exact ⟨0, .slice none 0 0, Nat.zero_le _, rfl, kT, kR, kO, by rw [List.take_zero, apRL]; exact Kd.R_nil _ _ _ _ _, hB4⟩
    case round =>
      clear kT kR kO hB4
      obtain ⟨k, v, hk, rfl, kT, kR, kO, hRv, hBr⟩ := hrel
      have hB0 := below_step hB hBr
      have x3 := blk_cell kT 3
      by_cases hlt : k < xs.length
      · obtain ⟨ad, A3, c3, rfl, y0, y1, y2, y3, l3, g3⟩ := C_rd hC k hlt rfl
        have htk := apRL_take bs xs k hlt
        have hza := hz _ (List.getElem_mem hlt)
        have hal := apRL_len bs (xs.take k)
        rw [List.length_take, Nat.min_eq_left hk] at hal
        replace hal : (apRL bs (xs.take k)).length ≤ xs.length := by omega
        generalize xs[k] = a at y0 y1 y2 y3 l3 g3 htk hza
        generalize hac : apRL bs (xs.take k) = acc at hRv htk hal
        clear hac
        have HTK := Lib.hid htk
        clear htk
        have HS := Lib.hid (show ∀ W, W.heap[w.heap.size]? = some (.cells #[.int .i64 4, .string nm, .int .i64 nt, .slice (some ad) xs.length c] 24 (0, 0)) → Below w0.heap.size w0 W → W.cell? ⟨w.heap.size, 3, none⟩ = some (.slice (some ad) xs.length c) ∧ W.cell? (ad.add (k * 4)) = some (.int .i64 a.f0) ∧ W.cell? ⟨(ad.add (k * 4)).block, (ad.add (k * 4)).off + 1, none⟩ = some (.string a.f1) ∧ W.cell? ⟨(ad.add (k * 4)).block, (ad.add (k * 4)).off + 2, none⟩ = some (.int .i64 a.f2) ∧ W.cell? ⟨(ad.add (k * 4)).block, (ad.add (k * 4)).off + 3, none⟩ = some (.slice A3 a.f3.length c3) from fun W k1 hW =>
          ⟨blk_cell k1 3, (hW.cell (World.block_lt_of_cell? w0 _ y0)).trans y0, (hW.cell (World.block_lt_of_cell? w0 _ y1)).trans y1, (hW.cell (World.block_lt_of_cell? w0 _ y2)).trans y2, (hW.cell (World.block_lt_of_cell? w0 _ y3)).trans y3⟩)
        have hS1 := HS.out wr.drew kT hB0.drew
        have hi := ih _ hza.1 a rfl w0 wr.drew c3 A3 g3 l3 hE hB0.drew hza.2
        have d0 : Below wr.heap.size wr wr.drew := (Below.refl _ wr).drew
        have o30 : wr.drew.cell? ⟨w.heap.size + 1 + 1, 3, none⟩ = some v := blk_cell (show wr.drew.heap[w.heap.size + 1 + 1]? = some (.cells #[.int .i64 4, .string nm, .int .i64 0, v] 24 (0, 0)) from kO) 3
        have hvo : ∀ j, v.ownBlock = some j → w.heap.size + 1 + 1 < j ∧ j < wr.heap.size := fun j hj => ⟨hRv.1 j hj, ((Kd.R_bound hRv).1 j hj).2.2.1⟩
        have hwr := hBr.size
        have hsz := blk_lt kO
        obtain ⟨r, hr⟩ : ∃ r, r = apR bs a := ⟨_, rfl⟩
        rw [← hr] at hi HTK
        clear hr ih y0 y1 y2 y3 hB0 hk
        obtain ⟨e0, e1, e2, e3⟩ := r
        simp only at hi
        go_wp2_with fail
        refine start_ (n := 13) (S := fun W => W.cell? ⟨w.heap.size, 3, none⟩ = some (.slice (some ad) xs.length c) ∧ W.cell? (ad.add (k * 4)) = some (.int .i64 a.f0) ∧ W.cell? ⟨(ad.add (k * 4)).block, (ad.add (k * 4)).off + 1, none⟩ = some (.string a.f1) ∧ W.cell? ⟨(ad.add (k * 4)).block, (ad.add (k * 4)).off + 2, none⟩ = some (.int .i64 a.f2) ∧ W.cell? ⟨(ad.add (k * 4)).block, (ad.add (k * 4)).off + 3, none⟩ = some (.slice A3 a.f3.length c3) ∧ W.cell? ⟨w.heap.size + 1 + 1, 3, none⟩ = some v) (ds := [12]) #[false, false, false, false, false, false, false, false, false, false, false, false, false] (by kernel_rfl) rfl rfl (by obtain ⟨a0, a1, a2, a3, a4⟩ := hS1; exact ⟨a0, a1, a2, a3, a4, o30⟩) (fun hHeld => ?_)
        refine with_tabW rapply_tab14 rapply_bits14 (fun HT_ HW_ => ?_)
        refine pure_ (i := 0) (N := some 48) (v := ?_) (a' := ?_) #[true, false, false, false, false, false, false, false, false, false, false, false, false] rfl rfl (any_of HT_.out (by kernel_rfl)) (fun _ _ _ h => h) (Or.inl ⟨by rfl, ?_⟩) ?_ ?_
        rotate_left
        · intro w'
          go_simp
          with_reducible rfl
        rotate_left
        · simp only [Act.put, List.setIfInBounds_toArray, List.set_cons_zero, List.set_cons_succ]
          rfl
        refine pure_ (i := 2) (N := some 50) (v := ?_) (a' := ?_) #[true, false, true, false, false, false, false, false, false, false, false, false, false] rfl rfl (any_of HT_.out (by kernel_rfl)) (fun _ _ _ h => h) (Or.inl ⟨by rfl, ?_⟩) ?_ ?_
        rotate_left
        · intro w'
          go_simp
          with_reducible rfl
        rotate_left
        · simp only [Act.put, List.setIfInBounds_toArray, List.set_cons_zero, List.set_cons_succ]
          rfl
        refine pure_ (i := 4) (N := some 52) (v := ?_) (a' := ?_) #[true, false, true, false, true, false, false, false, false, false, false, false, false] rfl rfl (any_of HT_.out (by kernel_rfl)) (fun _ _ _ h => h) (Or.inl ⟨by rfl, ?_⟩) ?_ ?_
        rotate_left
        · intro w'
          go_simp
          with_reducible rfl
        rotate_left
        · simp only [Act.put, List.setIfInBounds_toArray, List.set_cons_zero, List.set_cons_succ]
          rfl
        refine pure_ (i := 7) (N := some 55) (v := ?_) (a' := ?_) #[true, false, true, false, true, false, false, true, false, false, false, false, false] rfl rfl (any_of HT_.out (by kernel_rfl)) (fun _ _ _ h => h) (Or.inl ⟨by rfl, ?_⟩) ?_ ?_
        rotate_left
        · intro w'
          go_simp
          with_reducible rfl
        rotate_left
        · simp only [Act.put, List.setIfInBounds_toArray, List.set_cons_zero, List.set_cons_succ]
          rfl
        refine take_ (i := 1) (N := some 49) (v := ?_) (a' := ?_) #[true, true, true, false, true, false, false, true, false, false, false, false, false] rfl rfl (take_ofW HT_.out HW_.out (by kernel_rfl)) (fun _ _ _ h => h) (Or.inl ⟨by rfl, ?_⟩) hHeld ?_ ?_
        rotate_left
        · rintro w' ⟨s0, s1, s2, s3, s4, s5⟩
          go_simp
          with_reducible rfl
        rotate_left
        · simp only [Act.put, List.setIfInBounds_toArray, List.set_cons_zero, List.set_cons_succ]
          rfl
        refine take_ (i := 3) (N := some 51) (v := ?_) (a' := ?_) #[true, true, true, true, true, false, false, true, false, false, false, false, false] rfl rfl (take_ofW HT_.out HW_.out (by kernel_rfl)) (fun _ _ _ h => h) (Or.inl ⟨by rfl, ?_⟩) hHeld ?_ ?_
        rotate_left
        · rintro w' ⟨s0, s1, s2, s3, s4, s5⟩
          go_simp
          with_reducible rfl
        rotate_left
        · simp only [Act.put, List.setIfInBounds_toArray, List.set_cons_zero, List.set_cons_succ]
          rfl
        refine pure_ (i := 5) (N := some 53) (v := ?_) (a' := ?_) #[true, true, true, true, true, true, false, true, false, false, false, false, false] rfl rfl (any_of HT_.out (by kernel_rfl)) (fun _ _ _ h => h) (Or.inl ⟨by rfl, ?_⟩) ?_ ?_
        rotate_left
        · intro w'
          go_simp
          with_reducible rfl
        rotate_left
        · simp only [Act.put, List.setIfInBounds_toArray, List.set_cons_zero, List.set_cons_succ]
          rfl
        refine take_ (i := 6) (N := some 54) (v := ?_) (a' := ?_) #[true, true, true, true, true, true, true, true, false, false, false, false, false] rfl rfl (take_ofW HT_.out HW_.out (by kernel_rfl)) (fun _ _ _ h => h) (Or.inl ⟨by rfl, ?_⟩) hHeld ?_ ?_
        rotate_left
        · rintro w' ⟨s0, s1, s2, s3, s4, s5⟩
          go_simp
          with_reducible rfl
        rotate_left
        · simp only [Act.put, List.setIfInBounds_toArray, List.set_cons_zero, List.set_cons_succ]
          rfl
        refine one_ (i := 8) (N := some 56) #[true, true, true, true, true, true, true, true, true, false, false, false, false] rfl rfl (one_of HT_.out (by kernel_rfl)) (by decide) (fun K hK => ?_)
        refine goes_ Try.func67 (by kernel_rfl) rfl #[.agg #[.int .i64 a.f0, .string a.f1, .int .i64 a.f2, .slice A3 a.f3.length c3], .slice E bs.length ce] (by rfl) rfl rfl (by (try simp only [List.map_toArray, List.map_cons, List.map_nil]); first | done | rfl) ?_
        with_reducible refine hi.mono ?_
        rintro e wy ⟨v5, rfl, R5, d5⟩
        obtain ⟨A5, c5, rfl, hc5, C5⟩ := Kd.R_reads R5
        have D5 := below_step d0 d5
        have kT5 := blk_below kT D5
        have kR5 := blk_below kR D5
        have kO5 := blk_below kO D5
        have B5 := below_step (below_step hB hBr) D5
        have hRy := Kd.R_below hRv D5
        have hwy := D5.size
        have hM : Kd.M k24 wy w.heap.size (fun j => wr.heap.size ≤ j) ⟨e0, e1, e2, e3⟩ [.int .i64 e0, .string e1, .int .i64 e2, .slice A5 e3.length c5] := k24_mkM wy w.heap.size _ ⟨e0, e1, e2, e3⟩ (Kd.R_mono (Kd.R_lower (Kd.R_bound R5) (by simpa using hwr)) (fun j hj => by have := hj.2.1; simpa using this))
        refine ⟨_, rfl, ?_⟩
        refine hK.out _ _ (by obtain ⟨a0, a1, a2, a3, a4⟩ := HS.out wy kT5 B5; exact ⟨a0, a1, a2, a3, a4, blk_cell kO5 3⟩) (fun hHeld => ?_)
        clear hK K
        refine norm_ (a' := ?_) ?_ ?_
        rotate_left
        · show Act.put _ (some 56) _ = _
          simp only [Act.put, List.setIfInBounds_toArray, List.set_cons_zero, List.set_cons_succ]
          rfl
        refine one_ (i := 9) (N := some 57) #[true, true, true, true, true, true, true, true, true, true, false, false, false] rfl rfl (one_of HT_.out (by kernel_rfl)) (by decide) (fun K hK => ?_)
        refine value_ (w1 := ?_) (v := ?_) (by rfl) rfl ?_ ?_
        rotate_left 2
        · go_simp
          constructor
          · rfl
          · rfl
        refine hK.out _ _ (by obtain ⟨a0, a1, a2, a3, a4⟩ := HS.out _ (blk_alloc kT5 _) (below_alloc B5 _); exact ⟨a0, a1, a2, a3, a4, blk_cell (blk_alloc kO5 _) 3⟩) (fun hHeld => ?_)
        clear hK K
        refine norm_ (a' := ?_) ?_ ?_
        rotate_left
        · show Act.put _ (some 57) _ = _
          simp only [Act.put, List.setIfInBounds_toArray, List.set_cons_zero, List.set_cons_succ]
          rfl
        refine one_ (i := 10) (N := some 58) #[true, true, true, true, true, true, true, true, true, true, true, false, false] rfl rfl (one_of HT_.out (by kernel_rfl)) (by decide) (fun K hK => ?_)
        refine Kd.R_append_step k24 (w0 := w) w.heap.size (by rfl) (.tmp 49) (.tmp 57) 22 24 (.agg #[.int .i64 0, .string ⟨#[]⟩, .int .i64 0, .slice none 0 0]) 56 rfl Try.underlying22 info24 rfl (by decide) (by omega) v acc (⟨e0, e1, e2, e3⟩ : S24) [.int .i64 e0, .string e1, .int .i64 e2, .slice A5 e3.length c5] (fun j => w.heap.size + 1 + 1 < j) (fun j => wr.heap.size ≤ j) (by rfl) (by rfl) hM (fun j hj => ⟨by omega, fun e => by have := hvo j e.symm; omega⟩) (fun j hj => by omega) hRy (below_step hBr D5) (by omega) (by omega) ?_
        intro v8 w8 hR8 hb8 hg8 hat8
        have hlen : (acc ++ [(⟨e0, e1, e2, e3⟩ : S24)]).length = acc.length + 1 := by simp
        obtain ⟨A8, c8, rfl, hc8, C8⟩ := Kd.R_reads hR8
        rw [hlen] at hR8 ⊢
        clear hlen
        have kT8 := blk_grown kT5 hg8 (fun e => by have := hvo _ e.symm; omega)
        have kR8 := blk_grown kR5 hg8 (fun e => by have := hvo _ e.symm; omega)
        have kO8 := blk_grown kO5 hg8 (fun e => by have := hvo _ e.symm; omega)
        have B8 := below_step hB hb8
        refine hK.out _ _ (by obtain ⟨a0, a1, a2, a3, a4⟩ := HS.out w8 kT8 B8; exact ⟨a0, a1, a2, a3, a4, blk_cell kO8 3⟩) (fun hHeld => ?_)
        clear hK K
        refine norm_ (a' := ?_) ?_ ?_
        rotate_left
        · show Act.put _ (some 58) _ = _
          simp only [Act.put, List.setIfInBounds_toArray, List.set_cons_zero, List.set_cons_succ]
          rfl
        refine pure_ (i := 11) (N := some 59) (v := ?_) (a' := ?_) #[true, true, true, true, true, true, true, true, true, true, true, true, false] rfl rfl (any_of HT_.out (by kernel_rfl)) (fun _ _ _ h => h) (Or.inl ⟨by rfl, ?_⟩) ?_ ?_
        rotate_left
        · intro w'
          go_simp
          with_reducible rfl
        rotate_left
        · simp only [Act.put, List.setIfInBounds_toArray, List.set_cons_zero, List.set_cons_succ]
          rfl
        refine last_ (i := 12) (N := none) #[true, true, true, true, true, true, true, true, true, true, true, true, true] rfl rfl (one_of HT_.out (by kernel_rfl)) (by decide) (fun K hK => ?_)
        have p3 := blk_cell kO8 3
        have fo := fun i => blk_frozen kO8 i
        have lo := blk_lt kO8
        refine skip_ (w1 := ?_) (by rfl) rfl ?_ ?_
        rotate_left
        · go_simp
          rfl
        refine hK.out _ _ ?_
        clear hK K
        refine done_ (done_of HT_.out (by kernel_rfl)) ?_
        go_wp2
        go_roundw
        case rel => exact ⟨k + 1, .slice A8 (acc.length + 1) c8, by omega, by go_num, blk_far kT8 (show w.heap.size ≠ w.heap.size + 1 + 1 by omega) _, blk_far kR8 (show w.heap.size + 1 ≠ w.heap.size + 1 + 1 by omega) _, blk_set kO8 3 _, by rw [HTK.out]; exact Kd.R_step hR8 (fun j hj _ => Below.heap_setCell _ _ _ j (show j ≠ w.heap.size + 1 + 1 by omega)), below_set hb8 (by omega)⟩
        case measure => simp [intOf]; omega
      · obtain rfl : k = xs.length := by omega
        rw [List.take_length] at hRv
        obtain ⟨Av, cv, rfl, hcv, Cv⟩ := Kd.R_reads hRv
        have o0 := blk_cell kO 0
        have o1 := blk_cell kO 1
        have o2 := blk_cell kO 2
        have o3 := blk_cell kO 3
        clear ih
        have r0 := blk_cell kR 0
        have r1 := blk_cell kR 1
        have r2 := blk_cell kR 2
        have r3 := blk_cell kR 3
        have fr := fun i => blk_frozen kR i
        have lr := blk_lt kR
        go_wp2
        have kF := res_box kR (.int .i64 4) (.string nm) (.int .i64 0) (.slice Av (apRL bs xs).length cv)
        have hBF : Below w.heap.size w ((((wr.setCell ⟨w.heap.size + 1, 0, none⟩ (.int .i64 4)).setCell ⟨w.heap.size + 1, 1, none⟩ (.string nm)).setCell ⟨w.heap.size + 1, 2, none⟩ (.int .i64 0)).setCell ⟨w.heap.size + 1, 3, none⟩ (.slice Av (apRL bs xs).length cv)) := below_set (below_set (below_set (below_set hBr (by omega)) (by omega)) (by omega)) (by omega)
        have hRF := R_set4 (g := w.heap.size + 1) hRv (fun j hj => by omega) (.int .i64 4) (.string nm) (.int .i64 0) (.slice Av (apRL bs xs).length cv)
        generalize ((((wr.setCell ⟨w.heap.size + 1, 0, none⟩ (.int .i64 4)).setCell ⟨w.heap.size + 1, 1, none⟩ (.string nm)).setCell ⟨w.heap.size + 1, 2, none⟩ (.int .i64 0)).setCell ⟨w.heap.size + 1, 3, none⟩ (.slice Av (apRL bs xs).length cv)) = WF at kF hBF hRF ⊢
        have q0 := blk_cell kF 0
        have q1 := blk_cell kF 1
        have q2 := blk_cell kF 2
        have q3 := blk_cell kF 3
        refine bodyPost_ret (v := .agg #[.int .i64 4, .string nm, .int .i64 0, .slice Av (apRL bs xs).length cv]) (by simp [results, Try.results67, go_sem, q0, q1, q2, q3]) rfl ?_
        exact ⟨_, rfl, Kd.R_mono hRF (fun _ _ => trivial), hBF⟩
  · rw [if_neg k4]
    have k4' : (kd != 4) = true := by simpa using k4
    have hcall := hbare ((w.alloc (.cells #[.int .i64 kd, .string nm, .int .i64 nt, .slice A xs.length c] 24)).alloc (.cells #[.int .i64 0, .string ⟨#[]⟩, .int .i64 0, .slice none 0 0] 24))
    have hb3 : (bareR ⟨kd, nm, nt, xs⟩).f3 = [] := by unfold bareR; split <;> rfl
    generalize bareR ⟨kd, nm, nt, xs⟩ = bt at hcall hb3 ⊢
    clear hbare ih
    go_enter Try.func67, Try.ntmps67
    go_wp2_with fail
    refine hcall.mono ?_
    rintro e w5 ⟨rfl, hb⟩
    replace kR := blk_below kR hb
    have hB3 := below_step hB2 hb
    clear hb hcall kT hB2
    have r0 := blk_cell kR 0
    have r1 := blk_cell kR 1
    have r2 := blk_cell kR 2
    have r3 := blk_cell kR 3
    have fr := fun i => blk_frozen kR i
    have lr := blk_lt kR
    go_wp2
    have kF := res_box kR (.int .i64 bt.f0) (.string bt.f1) (.int .i64 bt.f2) (.slice none 0 0)
    have hBF : Below w.heap.size w ((((w5.setCell ⟨w.heap.size + 1, 0, none⟩ (.int .i64 bt.f0)).setCell ⟨w.heap.size + 1, 1, none⟩ (.string bt.f1)).setCell ⟨w.heap.size + 1, 2, none⟩ (.int .i64 bt.f2)).setCell ⟨w.heap.size + 1, 3, none⟩ (.slice none 0 0)) := below_set (below_set (below_set (below_set hB3 (by omega)) (by omega)) (by omega)) (by omega)
    have hRF := R_set4 (g := w.heap.size + 1) (Kd.R_nil k24 24 w5 w.heap.size (fun j => w.heap.size + 1 < j)) (fun j hj => by omega) (.int .i64 bt.f0) (.string bt.f1) (.int .i64 bt.f2) (.slice none 0 0)
    generalize ((((w5.setCell ⟨w.heap.size + 1, 0, none⟩ (.int .i64 bt.f0)).setCell ⟨w.heap.size + 1, 1, none⟩ (.string bt.f1)).setCell ⟨w.heap.size + 1, 2, none⟩ (.int .i64 bt.f2)).setCell ⟨w.heap.size + 1, 3, none⟩ (.slice none 0 0)) = WF at kF hBF hRF ⊢
    have q0 := blk_cell kF 0
    have q1 := blk_cell kF 1
    have q2 := blk_cell kF 2
    have q3 := blk_cell kF 3
    refine bodyPost_ret (v := .agg #[.int .i64 bt.f0, .string bt.f1, .int .i64 bt.f2, .slice none 0 0]) (by simp [results, Try.results67, go_sem, q0, q1, q2, q3]) rfl ?_
    exact ⟨.slice none 0 0, rfl, by rw [hb3]; exact Kd.R_nil _ _ _ _ _, hBF⟩

/-- The bindings of the first so many variables to their new names. -/
def rbinds (n : Int) : List Int → List S50
  | [] => []
  | v :: r => ⟨v, mkV n⟩ :: rbinds (n + 1) r
theorem rbinds_snoc : ∀ (vs : List Int) (n v : Int), rbinds n (vs ++ [v]) = rbinds n vs ++ [⟨v, mkV (n + vs.length)⟩]
  | [], n, v => by simp [rbinds]
  | u :: r, n, v => by
    rw [List.cons_append, rbinds, rbinds, rbinds_snoc r (n + 1) v, List.cons_append, List.length_cons]
    rw [show n + 1 + (r.length : Int) = n + ((r.length + 1 : Nat) : Int) by push_cast; omega]
theorem rbinds_len (n : Int) : ∀ vs : List Int, (rbinds n vs).length = vs.length
  | [] => rfl
  | v :: r => by rw [rbinds, List.length_cons, List.length_cons, rbinds_len (n + 1) r]
theorem rbinds_first : ∀ (vs : List Int) (n v : Int), firstB (rbinds n vs) v = (rnm vs n v).map mkV
  | [], n, v => by simp [rbinds, firstB, rnm]
  | u :: r, n, v => by
    rw [rbinds, firstB_cons, rnm]
    by_cases h : u = v
    · simp [h]
    · rw [if_neg h, if_neg (fun e => h e.symm)]
      exact rbinds_first r (n + 1) v
theorem rbinds_ok : ∀ (vs : List Int) (n : Int), 1 ≤ n → ∀ b ∈ rbinds n vs, shT b.f1 = true ∧ nodes b.f1 < 1000000
  | [], _, _, b, hb => by cases hb
  | v :: r, n, h, b, hb => by
    rw [rbinds] at hb
    rcases List.mem_cons.1 hb with rfl | hb
    · exact ⟨sh_mkV h, by show nodes (mkV n) < 1000000; unfold mkV; rw [nodes, if_neg (by decide)]; decide⟩
    · exact rbinds_ok r (n + 1) (by omega) b hb
/-- What the document's Rename makes of a right term. -/
theorem rbinds_ren {t : S24} (h : shT t = true) {n : Int} (hn : 1 ≤ n) : apR (rbinds n (varsT t [])) t = renS (rnf (varsT t []) n) t := by
  rw [apR_sg _ (fun b hb => (rbinds_ok _ _ hn b hb).1) t h]
  unfold renS
  refine sub_congr _ _ t (fun v hv => ?_)
  simp only [Option.getD_some]
  unfold bS rnf
  rw [rbinds_first]
  obtain ⟨k, hk, _⟩ := rnm_some (varsT t []) n v ((mem_varsT t v).2 hv)
  rw [hk]
  rfl

set_option maxHeartbeats 4000000 in
set_option maxRecDepth 100000 in
theorem rren_any (t : S24) (n : Int) (w0 w : World) (A : Option Addr) (c : Nat) (h : Lies w0 t A c) (hB : Below w0.heap.size w0 w) (ho : okT t = true) (h1 : 1 ≤ n) (h2 : n ≤ 4611686018427387904) :
    Calls Try.prog 39 #[.agg #[.int .i64 t.f0, .string t.f1, .int .i64 t.f2, .slice A t.f3.length c], .int .i64 n] w fun e w' => ∃ v,
      e = .returned (.tuple #[.agg #[.int .i64 (renS (rnf (varsT t []) n) t).f0, .string (renS (rnf (varsT t []) n) t).f1, .int .i64 (renS (rnf (varsT t []) n) t).f2, v], .int .i64 (n + (varsT t []).length)]) ∧ Kd.R k24 24 w' w.heap.size (fun _ => True) v (renS (rnf (varsT t []) n) t).f3 ∧ Below w.heap.size w w' := by
  have hB2 := below_alloc (below_alloc (Below.refl w.heap.size w) (.cells #[.int .i64 t.f0, .string t.f1, .int .i64 t.f2, .slice A t.f3.length c] 24)) (.cells #[.int .i64 0, .string ⟨#[]⟩, .int .i64 0, .slice none 0 0] 24)
  have kT : ((w.alloc (.cells #[.int .i64 t.f0, .string t.f1, .int .i64 t.f2, .slice A t.f3.length c] 24)).alloc (.cells #[.int .i64 0, .string ⟨#[]⟩, .int .i64 0, .slice none 0 0] 24)).heap[w.heap.size]? = some (.cells #[.int .i64 t.f0, .string t.f1, .int .i64 t.f2, .slice A t.f3.length c] 24 (0, 0)) := blk_alloc (blk_new w _) _
  have kR := blk_new (w.alloc (.cells #[.int .i64 t.f0, .string t.f1, .int .i64 t.f2, .slice A t.f3.length c] 24)) (.cells #[.int .i64 0, .string ⟨#[]⟩, .int .i64 0, .slice none 0 0] 24)
  rw [World.size_alloc] at kR
  have hshp := ((okT_iff t).1 ho)
  have hren := rbinds_ren hshp.1 h1
  have hvl : (varsT t []).length ≤ 2000 := by
    have h1 := varsT_len t []
    simp only [List.length_nil] at h1
    omega
  have hvw := varsT_i64 t [] h.wf (fun x hx => by cases hx)
  have hcall := rVars_at h (below_step hB hB2) (by omega)
  generalize varsT t [] = vs at hren hvl hvw hcall ⊢
  rw [← hren]
  clear hren
  obtain ⟨rv, hrv⟩ : ∃ rv, rv = apR (rbinds n vs) t := ⟨_, rfl⟩
  rw [← hrv]
  have HRV := Lib.hid hrv
  clear hrv
  go_enter Try.func39, Try.ntmps39
  go_wp2_with fail
  refine hcall.mono ?_
  rintro e w1 ⟨Av, cv, rfl, hcv, OV, hb1⟩
  replace kT := blk_below kT hb1
  replace kR := blk_below kR hb1
  have hB3 := below_step hB2 hb1
  clear hcall hb1 hB2
  go_upto_region 4 with (fail)
  have hR0 : Kd.R k50 50 (w1.alloc (.cells #[] 50)) w1.heap.size (fun j => w1.heap.size ≤ j) (.slice (some ⟨w1.heap.size, 0, none⟩) 0 0) [] := by
    refine ⟨fun j hj => by simp [Value.ownBlock] at hj; omega, [], World.ownsRow_made w1 #[] 0 (Nat.le_refl _) (by decide) (by simp), ?_⟩
    exact Reps.none _ _
  have kT1 := Lib.hid kT
  have kR1 := Lib.hid kR
  replace kT := blk_alloc kT (.cells #[] 50)
  replace kR := blk_alloc kR (.cells #[] 50)
  have hB4 := below_alloc hB3 (.cells #[] 50)
  have hB5 := below_alloc (Below.refl w1.heap.size w1) (.cells #[] 50)
  generalize w1.alloc (.cells #[] 50) = w2 at hR0 kT kR hB4 hB5 ⊢
  have hvs := World.ownsRow.lt OV
  have hsT := hB3.size
  go_loopw [7, 8] (fun v i wr => ∃ k : Nat, k ≤ vs.length ∧ i = .int .i64 k ∧ Kd.R k50 50 wr w1.heap.size (fun j => w1.heap.size ≤ j) v (rbinds n (vs.take k)) ∧ Below w1.heap.size w1 wr) (fun _ i _ => vs.length - (intOf i).toNat)
  case atStart => exact ⟨0, Nat.zero_le _, rfl, by rw [List.take_zero]; exact hR0, hB5⟩
  case round =>
    clear hR0 kT kR hB4 hB5
    obtain ⟨k, hk, rfl, hRv, hBr⟩ := hrel
    have OVr := outAt_belowB OV hBr
    by_cases hlt : k < vs.length
    · obtain ⟨A', cv', e', _, CV⟩ := OVr.reads
      cases e'
      obtain ⟨av, rfl, hy⟩ := ints_rd CV k hlt
      have htk : rbinds n (vs.take (k + 1)) = rbinds n (vs.take k) ++ [⟨vs[k], mkV (n + k)⟩] := by
        rw [List.take_succ_eq_append_getElem hlt, rbinds_snoc, List.length_take, Nat.min_eq_left hk]
      have HTK := Lib.hid htk
      have hal : (rbinds n (vs.take k)).length ≤ 2000 := by rw [rbinds_len, List.length_take]; omega
      clear htk CV
      generalize vs[k] = vk at hy HTK
      generalize hac : rbinds n (vs.take k) = acc at hRv HTK hal
      clear hac
      have hM : Kd.M k50 wr w1.heap.size (fun j => wr.heap.size ≤ j) ⟨vk, mkV (n + k)⟩ [.int .i64 vk, .int .i64 1, .string ⟨#[]⟩, .int .i64 (n + k), .slice none 0 0] := k50_mkM wr w1.heap.size _ ⟨vk, mkV (n + k)⟩ (Kd.R_nil _ _ _ _ _)
      have hvo : ∀ j, u7.ownBlock = some j → j < wr.heap.size := fun j hj => ((Kd.R_bound hRv).1 j hj).2.2.1
      have hsr := hBr.size
      go_wp2_with (at_builtin; refine Kd.R_append k50 (w0 := w1) w1.heap.size rfl (.tmp 18) (.tmp 28) 44 50 (.agg #[.int .i64 0, .int .i64 0, .string ⟨#[]⟩, .int .i64 0, .slice none 0 0]) 64 rfl Try.underlying44 info50 rfl (by decide) (by decide) u7 acc (⟨vk, mkV (n + k)⟩ : S50) [.int .i64 vk, .int .i64 1, .string ⟨#[]⟩, .int .i64 (n + k), .slice none 0 0] (fun j => w1.heap.size ≤ j) (fun j => wr.heap.size ≤ j) rfl rfl hM (fun j hj => ⟨by omega, fun e => by have := hvo j e.symm; omega⟩) (fun j hj => by omega) hRv hBr hsr (by omega) ?_; intro v8 w8 hR8 hb8 hg8 hat8)
      go_roundw
      case rel => exact ⟨k + 1, by omega, by go_num, by rw [HTK.out]; exact hR8, hb8⟩
      case measure => simp [intOf]; omega
    · obtain rfl : k = vs.length := by omega
      rw [List.take_length] at hRv
      obtain ⟨Eb, cb, rfl, hcb, CB⟩ := Kd.R_reads hRv
      have hcall := rapply_any (rbinds n vs) Eb cb (by rw [rbinds_len]; omega) (fun b hb => (rbinds_ok vs n h1 b hb).2) _ t rfl wr wr c A (h.at (below_step hB (below_step hB3 hBr))).C h.le CB (Below.refl _ _) (by omega)
      rw [← HRV.out] at hcall
      rw [rbinds_len] at hcall ⊢
      have kTr := blk_below kT1.out hBr
      have kRr := blk_below kR1.out hBr
      have t0 := blk_cell kTr 0
      have t1 := blk_cell kTr 1
      have t2 := blk_cell kTr 2
      have t3 := blk_cell kTr 3
      clear HRV CB hRv kT1 kR1
      obtain ⟨e0, e1, e2, e3⟩ := rv
      simp only at hcall
      go_wp2_with fail
      refine hcall.mono ?_
      rintro e w5 ⟨v, rfl, R, hb⟩
      obtain ⟨A5, c5, rfl, hc5, C5⟩ := Kd.R_reads R
      have kR := blk_below kRr hb
      have hB6 := below_step (below_step hB3 hBr) hb
      have hwr := hBr.size
      have lr0 := blk_lt kRr
      clear hcall hb t0 t1 t2 t3
      have r0 := blk_cell kR 0
      have r1 := blk_cell kR 1
      have r2 := blk_cell kR 2
      have r3 := blk_cell kR 3
      have fr := fun i => blk_frozen kR i
      have lr := blk_lt kR
      go_wp2
      have kF := res_box kR (.int .i64 e0) (.string e1) (.int .i64 e2) (.slice A5 e3.length c5)
      have hBF : Below w.heap.size w ((((w5.setCell ⟨w.heap.size + 1, 0, none⟩ (.int .i64 e0)).setCell ⟨w.heap.size + 1, 1, none⟩ (.string e1)).setCell ⟨w.heap.size + 1, 2, none⟩ (.int .i64 e2)).setCell ⟨w.heap.size + 1, 3, none⟩ (.slice A5 e3.length c5)) := below_set (below_set (below_set (below_set hB6 (by omega)) (by omega)) (by omega)) (by omega)
      have hRF := R_set4 (g := w.heap.size + 1) (Kd.R_bound R) (fun j hj => by have := hj.2.1; omega) (.int .i64 e0) (.string e1) (.int .i64 e2) (.slice A5 e3.length c5)
      generalize ((((w5.setCell ⟨w.heap.size + 1, 0, none⟩ (.int .i64 e0)).setCell ⟨w.heap.size + 1, 1, none⟩ (.string e1)).setCell ⟨w.heap.size + 1, 2, none⟩ (.int .i64 e2)).setCell ⟨w.heap.size + 1, 3, none⟩ (.slice A5 e3.length c5)) = WF at kF hBF hRF ⊢
      have q0 := blk_cell kF 0
      have q1 := blk_cell kF 1
      have q2 := blk_cell kF 2
      have q3 := blk_cell kF 3
      refine bodyPost_ret (v := .tuple #[.agg #[.int .i64 e0, .string e1, .int .i64 e2, .slice A5 e3.length c5], .int .i64 (n + vs.length)]) (by simp [results, Try.results39, go_sem, q0, q1, q2, q3]) rfl ?_
      exact ⟨_, rfl, Kd.R_mono (Kd.R_lower hRF (by omega)) (fun _ _ => trivial), hBF⟩

end Go.Proofs.Ytpnkaggkedepeaa
