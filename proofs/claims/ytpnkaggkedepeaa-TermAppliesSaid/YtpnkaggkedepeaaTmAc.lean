/- The document's grown walked. -/
import Derived.Test.YtpnkaggkedepeaaTmAa
import Derived.Deep.QuietTactic
namespace Go.Proofs.Ytpnkaggkedepeaa
set_option linter.unusedVariables false
open Go.RowKit Go.Maps Go.Proofs.YtpnkaggkedepeaaW.PrintWords Go.Proofs.YtpnkaggkedepeaaW.PrintLast Go.Proofs.YtpnkaggkedepeaaW.PrintMore Go.Proofs.Ytpnkaggkedepeaa.PTermTells Go.Extern

theorem grL_take (bs : List S50) (xs : List S24) (k : Nat) (h : k < xs.length) : grL bs (xs.take (k + 1)) = grL bs (xs.take k) + gr bs xs[k] := by
  rw [List.take_succ_eq_append_getElem h]
  generalize xs.take k = ys
  induction ys with
  | nil => rw [List.nil_append, grL_cons, grL_nil]; omega
  | cons a r ih => rw [List.cons_append, grL_cons, grL_cons, ih]; omega
theorem nodesL_take_le (xs : List S24) (k : Nat) : nodesL (xs.take k) ≤ nodesL xs := by
  induction xs generalizing k with
  | nil => simp
  | cons a r ih =>
    cases k with
    | zero => rw [List.take_zero, nodesL_nil]; omega
    | succ k => rw [List.take_succ_cons, nodesL_cons, nodesL_cons]; have := ih k; omega

set_option maxHeartbeats 4000000 in
set_option maxRecDepth 100000 in
theorem rgrown_any (bs : List S50) (E : Option Addr) (ce : Nat) (hbl : bs.length < 1000000) : ∀ (n : Nat) (t : S24), SizeOf.sizeOf t = n → ∀ (w0 w : World) (c : Nat) (A : Option Addr), Kd.C k24 w0 A t.f3.length t.f3 → t.f3.length ≤ c → Kd.C k50 w0 E bs.length bs → Below w0.heap.size w0 w → nodes t < 100000 →
    Calls Try.prog 66 #[.agg #[.int .i64 t.f0, .string t.f1, .int .i64 t.f2, .slice A t.f3.length c], .slice E bs.length ce] w fun e w' => e = .returned (.int .i64 (gr bs t)) ∧ Below w.heap.size w w' := by
  intro n
  induction n using Nat.strongRecOn with
  | _ n ih =>
  intro t hn w0 w c A hC hc hE hB hnd
  obtain ⟨kd, nm, nt, xs⟩ := t
  simp only at hC hc ⊢
  have hB2 := below_alloc (Below.refl w.heap.size w) (.cells #[.int .i64 kd, .string nm, .int .i64 nt, .slice A xs.length c] 24)
  have kT := blk_new w (.cells #[.int .i64 kd, .string nm, .int .i64 nt, .slice A xs.length c] 24)
  have hgb := gr_bounds bs ⟨kd, nm, nt, xs⟩
  rw [gr] at hgb ⊢
  by_cases k1 : kd = 1
  · subst k1
    rw [if_pos rfl] at hgb ⊢
    clear ih
    obtain ⟨rv, hr0⟩ : ∃ rv, rv = gV bs nt := ⟨_, rfl⟩
    rw [← hr0] at hgb ⊢
    have HR0 := Lib.hid hr0
    clear hr0
    go_enter Try.func66, Try.ntmps66
    go_upto_region 3 with (fail)
    generalize w.alloc (.cells #[.int .i64 1, .string nm, .int .i64 nt, .slice A xs.length c] 24) = w1 at hB2 kT ⊢
    go_loopw [5] (fun i wr => ∃ k : Nat, k ≤ bs.length ∧ i = .int .i64 k ∧ firstB bs nt = firstB (bs.drop k) nt ∧ wr.heap[w.heap.size]? = some (.cells #[.int .i64 1, .string nm, .int .i64 nt, .slice A xs.length c] 24 (0, 0)) ∧ Below w.heap.size w wr) (fun i _ => bs.length - (intOf i).toNat)
    case atStart => exact ⟨0, Nat.zero_le _, rfl, rfl, kT, hB2⟩
    case round =>
      clear kT hB2
      obtain ⟨k, hk, rfl, hf, kT, hBr⟩ := hrel
      have hB0 := below_step hB hBr
      by_cases hlt : k < bs.length
      · have hgr := C50_rd hE k hlt rfl
        rw [List.drop_eq_getElem_cons hlt, firstB_cons] at hf
        generalize bs[k] = b50 at hgr hf
        obtain ⟨xv, xt⟩ := b50
        obtain ⟨ad, A4, c4, rfl, y0, y1, y2, y3, y4, l4, g4⟩ := hgr
        simp only at y0 y1 y2 y3 y4 l4 g4 hf
        replace y0 := (hB0.cell (World.block_lt_of_cell? w0 _ y0)).trans y0
        replace y1 := (hB0.cell (World.block_lt_of_cell? w0 _ y1)).trans y1
        replace y2 := (hB0.cell (World.block_lt_of_cell? w0 _ y2)).trans y2
        replace y3 := (hB0.cell (World.block_lt_of_cell? w0 _ y3)).trans y3
        replace y4 := (hB0.cell (World.block_lt_of_cell? w0 _ y4)).trans y4
        have x2 := blk_cell kT 2
        have f0 : (0 : Int) ≤ (k : Int) := by omega
        have f1 : (k : Int) < (bs.length : Int) := by omega
        by_cases e : xv = nt
        · subst e
          rw [if_pos rfl] at hf
          have hr1 : min (nodes xt : Int) (2000 + 1) = rv := by rw [HR0.out]; unfold gV; rw [hf]; rfl
          have HR1 := Lib.hid hr1
          clear hf hr1
          have e' : (xv == xv) = true := by simp
          go_wp2_with fail
          go_quiet (fail)
          go_wp2_with fail
          refine (pythiaref07_Size.calls (2 * nodes xt) _ _ _ A4 c4 _ _ _ _ (Kd.C_below g4 (below_drewN hB0 _)) l4 (size_pure _ xt (Nat.lt_succ_self _) _ 2000 (by decide) (by decide) (Nat.le_refl _))).mono ?_
          rw [HR1.out]
          clear HR1 HR0
          rintro e w5 ⟨rfl, hb⟩
          have hB3 := below_step (below_drewN hBr _) hb
          clear hb y0 y1 y2 y3 y4 x2
          go_wp2
          go_ret
          exact ⟨rfl, hB3⟩
        · rw [if_neg e] at hf
          have HF := Lib.hid hf
          clear hf
          have e' : (xv == nt) = false := by simpa using e
          go_wp2_with fail
          go_quiet (fail)
          go_wp2
          go_roundw
          case rel => exact ⟨k + 1, by omega, by go_num, HF.out, kT, below_drewN hBr _⟩
          case measure => simp [intOf]; omega
      · obtain rfl : k = bs.length := by omega
        rw [List.drop_of_length_le (Nat.le_refl _)] at hf
        have hr1 : rv = 1 := by rw [HR0.out]; unfold gV; rw [hf]; rfl
        subst hr1
        clear hf
        have x0 := blk_cell kT 0
        clear HR0
        go_wp2
        go_ret
        exact ⟨rfl, hBr⟩
  rw [if_neg k1] at hgb ⊢
  have k1' : (kd == 1) = false := by simpa using k1
  by_cases k4 : kd = 4
  · subst k4
    rw [if_pos rfl] at hgb ⊢
    have hn4 : nodes ⟨4, nm, nt, xs⟩ = 1 + nodesL xs := by rw [nodes, if_pos rfl]
    rw [hn4] at hnd
    have hz : ∀ a ∈ xs, SizeOf.sizeOf a < n ∧ nodes a < 100000 := fun a ha => ⟨by rw [← hn]; exact sz_mem (t := ⟨4, nm, nt, xs⟩) ha, by have := (nodesL_mem ha).1; omega⟩
    have hxl : xs.length ≤ nodesL xs := nodesL_length xs
    clear hn hn4 hgb
    have hmx := hC.2.1
    go_enter Try.func66, Try.ntmps66
    go_upto_region 10 with (fail)
    generalize w.alloc (.cells #[.int .i64 4, .string nm, .int .i64 nt, .slice A xs.length c] 24) = w4 at hB2 kT ⊢
    go_loopw [6, 7] (fun s i wr => ∃ (k : Nat), k ≤ xs.length ∧ s = .int .i64 (1 + grL bs (xs.take k)) ∧ i = .int .i64 k ∧ wr.heap[w.heap.size]? = some (.cells #[.int .i64 4, .string nm, .int .i64 nt, .slice A xs.length c] 24 (0, 0)) ∧ Below w.heap.size w wr)
      (fun s i _ => xs.length - (intOf i).toNat)
    case atStart => exact ⟨0, Nat.zero_le _, by rw [List.take_zero, grL_nil]; rfl, rfl, kT, hB2⟩
    case round =>
      clear kT hB2
      obtain ⟨k, hk, rfl, rfl, kT, hBr⟩ := hrel
      have hB0 := below_step hB hBr
      have x3 := blk_cell kT 3
      by_cases hlt : k < xs.length
      · obtain ⟨ad, A3, c3, rfl, y0, y1, y2, y3, l3, g3⟩ := C_rd hC k hlt rfl
        have htk := grL_take bs xs k hlt
        have hza := hz _ (List.getElem_mem hlt)
        have hsb := grL_bounds bs (xs.take k)
        have hsn := nodesL_take_le xs k
        generalize xs[k] = a at y0 y1 y2 y3 l3 g3 htk hza
        have hrb := gr_bounds bs a
        replace y0 := (hB0.cell (World.block_lt_of_cell? w0 _ y0)).trans y0
        replace y1 := (hB0.cell (World.block_lt_of_cell? w0 _ y1)).trans y1
        replace y2 := (hB0.cell (World.block_lt_of_cell? w0 _ y2)).trans y2
        replace y3 := (hB0.cell (World.block_lt_of_cell? w0 _ y3)).trans y3
        have hcall := ih _ hza.1 a rfl w0 wr c3 A3 g3 l3 hE hB0 hza.2
        generalize gr bs a = r at hcall hrb htk
        generalize hs0 : grL bs (xs.take k) = s at hsb htk ⊢
        have hs1 : 0 ≤ s ∧ s ≤ 300000000 := by omega
        have hr1 : 0 ≤ r ∧ r ≤ 300000000 := by omega
        have HTK := Lib.hid htk
        clear hsb hrb hsn htk hs0 ih
        go_wp2_with fail
        refine hcall.mono ?_
        rintro e w5 ⟨rfl, hb⟩
        have kT5 := blk_below kT hb
        have hB5 := below_step hBr hb
        clear hcall y0 y1 y2 y3 hb
        go_wp2
        go_roundw
        case rel => exact ⟨k + 1, by omega, by rw [HTK.out]; go_num, by go_num, kT5, hB5⟩
        case measure => simp [intOf]; omega
      · obtain rfl : k = xs.length := by omega
        have htl : xs.take xs.length = xs := List.take_length
        rw [htl]
        clear htl hk hlt
        go_wp2
        go_ret
        exact ⟨rfl, hBr⟩
  · rw [if_neg k4]
    have k4' : (kd == 4) = false := by simpa using k4
    have x0 := blk_cell kT 0
    clear hgb ih
    go_enter Try.func66, Try.ntmps66
    go_wp2
    go_ret
    exact ⟨rfl, hB2⟩
end Go.Proofs.Ytpnkaggkedepeaa
