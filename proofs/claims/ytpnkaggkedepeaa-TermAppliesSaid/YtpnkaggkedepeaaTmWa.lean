/- The walk of TermApplies. -/
import Derived.Test.YtpnkaggkedepeaaTmAe
namespace Go.Proofs.Ytpnkaggkedepeaa
set_option linter.unusedVariables false
open Go.RowKit Go.Maps Go.Proofs.YtpnkaggkedepeaaW.PrintWords Go.Proofs.YtpnkaggkedepeaaW.PrintLast Go.Proofs.YtpnkaggkedepeaaW.PrintMore Go.Proofs.Ytpnkaggkedepeaa.PTermTells Go.Extern

set_option maxHeartbeats 64000000 in
set_option maxRecDepth 100000 in
theorem applies_law (hal : Alive) (t : S24) (bs : List S50) (n : Int) (ts : List S24) (w : World) (A B D : Option Addr) (ca cb cd : Nat) (la : Lies w t A ca) (hC : Kd.C k50 w B bs.length bs) (hwb : ∀ x ∈ bs, I64 x.f0 ∧ wfT x.f1) (hn : I64 n) (hT : Kd.C k24 w D ts.length ts) (hTl : ts.length ≤ cd) (hwt : ∀ x ∈ ts, wfT x) :
    Calls Try.prog 9 #[.agg #[.int .i64 t.f0, .string t.f1, .int .i64 t.f2, .slice A t.f3.length ca], .slice B bs.length cb, .int .i64 n, .slice D ts.length cd] w fun e w' => e = .returned (.bool true) ∧ Below w.heap.size w w' := by
  have HAL := Lib.hid hal
  have hB0 := below_alloc (Below.refl w.heap.size w) (.cells #[.int .i64 t.f0, .string t.f1, .int .i64 t.f2, .slice A t.f3.length ca] 24)
  have kA := blk_new w (.cells #[.int .i64 t.f0, .string t.f1, .int .i64 t.f2, .slice A t.f3.length ca] 24)
  have LA := la.at hB0
  have CB := Kd.C_below hC hB0
  have CT := Kd.C_below hT hB0
  have hmx := hC.2.1
  have hmt := hT.2.1
  clear hal la hC hT
  go_enter Try.func9, Try.ntmps9
  go_wp2_with fail
  refine (HAL.out _).mono ?_
  rintro e w1 ⟨rfl, hb⟩
  have hBw := hB0
  replace hBw := below_step hBw hb
  replace kA := blk_below kA hb
  replace LA := LA.at hb
  replace CB := Kd.C_below CB hb
  replace CT := Kd.C_below CT hb
  clear hb hB0 HAL
  have p0 := blk_cell kA 0
  have p1 := blk_cell kA 1
  have p2 := blk_cell kA 2
  have p3 := blk_cell kA 3
  have hBr := below_alloc (Below.refl w1.heap.size w1) (.cells #[.int .i64 t.f0, .string t.f1, .int .i64 t.f2, .slice A t.f3.length ca] 24)
  have hcall : Calls Try.prog 35 #[.slice (some ⟨w1.heap.size, 0, none⟩) 1 1] (w1.alloc (.cells #[.int .i64 t.f0, .string t.f1, .int .i64 t.f2, .slice A t.f3.length ca] 24)) fun e w' => e = .returned (.bool (tameT [t])) ∧ Below (w1.alloc (.cells #[.int .i64 t.f0, .string t.f1, .int .i64 t.f2, .slice A t.f3.length ca] 24)).heap.size (w1.alloc (.cells #[.int .i64 t.f0, .string t.f1, .int .i64 t.f2, .slice A t.f3.length ca] 24)) w' :=
    tame_any [t] _ _ _ 1 (C_one (blk_new w1 (.cells #[.int .i64 t.f0, .string t.f1, .int .i64 t.f2, .slice A t.f3.length ca] 24)) (LA.at hBr).le (LA.at hBr).C) (Below.refl _ _) (fun x hx => by rw [List.mem_singleton.1 hx]; exact LA.wf)
  obtain ⟨o1, ho1⟩ : ∃ o1, tameT [t] = o1 := ⟨_, rfl⟩
  rw [ho1] at hcall
  have HO1 := Lib.hid ho1
  clear ho1
  go_wp2_with fail
  refine hcall.mono ?_
  rintro e w2 ⟨rfl, hb⟩
  replace hb := below_step hBr hb
  clear hcall hBr p0 p1 p2 p3
  replace hBw := below_step hBw hb
  replace kA := blk_below kA hb
  replace LA := LA.at hb
  replace CB := Kd.C_below CB hb
  replace CT := Kd.C_below CT hb
  clear hb
  cases o1 with
  | false =>
    go_wp2
    go_ret
    exact ⟨rfl, hBw⟩
  | true =>
  by_cases h40 : (bs.length : Int) > 40
  · go_wp2
    go_ret
    exact ⟨rfl, hBw⟩
  by_cases h120 : (ts.length : Int) > 120
  · go_wp2
    go_ret
    exact ⟨rfl, hBw⟩
  go_wp2
  go_loopw [48] (fun i wr => ∃ k : Nat, k ≤ bs.length ∧ i = .int .i64 k ∧ (∀ b ∈ bs.take k, nodes b.f1 ≤ 100) ∧ Below w2.heap.size w2 wr) (fun i _ => bs.length - (intOf i).toNat)
  case atStart => exact ⟨0, Nat.zero_le _, rfl, (fun b hb => by simp at hb), Below.refl _ _⟩
  case round =>
  obtain ⟨k, hk, rfl, hall, hb⟩ := hrel
  by_cases hlt : k < bs.length
  · have hgr := C50_rd CB k hlt rfl
    have hbw := hwb _ (List.getElem_mem hlt)
    have htk := List.take_succ_eq_append_getElem hlt
    generalize bs[k] = b50 at hgr hbw htk
    obtain ⟨xv, xt⟩ := b50
    obtain ⟨ad, A4, c4, rfl, y0, y1, y2, y3, y4, l4, g4⟩ := hgr
    simp only at y0 y1 y2 y3 y4 l4 g4 hbw
    replace y0 := (hb.cell (World.block_lt_of_cell? w2 _ y0)).trans y0
    replace y1 := (hb.cell (World.block_lt_of_cell? w2 _ y1)).trans y1
    replace y2 := (hb.cell (World.block_lt_of_cell? w2 _ y2)).trans y2
    replace y3 := (hb.cell (World.block_lt_of_cell? w2 _ y3)).trans y3
    replace y4 := (hb.cell (World.block_lt_of_cell? w2 _ y4)).trans y4
    have HTK := Lib.hid htk
    clear htk
    have hb1 := below_alloc (Below.refl wr.heap.size wr) (.cells #[.int .i64 xv, .int .i64 xt.f0, .string xt.f1, .int .i64 xt.f2, .slice A4 xt.f3.length c4] 50)
    have hb2 := below_alloc (Below.refl (wr.alloc (.cells #[.int .i64 xv, .int .i64 xt.f0, .string xt.f1, .int .i64 xt.f2, .slice A4 xt.f3.length c4] 50)).heap.size (wr.alloc (.cells #[.int .i64 xv, .int .i64 xt.f0, .string xt.f1, .int .i64 xt.f2, .slice A4 xt.f3.length c4] 50))) (.cells #[.int .i64 xt.f0, .string xt.f1, .int .i64 xt.f2, .slice A4 xt.f3.length c4] 24)
    have g5 := Kd.C_below (Kd.C_below g4 hb) (below_step hb1 hb2)
    have hcall : Calls Try.prog 35 #[.slice (some ⟨wr.heap.size + 1, 0, none⟩) 1 1] ((wr.alloc (.cells #[.int .i64 xv, .int .i64 xt.f0, .string xt.f1, .int .i64 xt.f2, .slice A4 xt.f3.length c4] 50)).alloc (.cells #[.int .i64 xt.f0, .string xt.f1, .int .i64 xt.f2, .slice A4 xt.f3.length c4] 24)) fun e w' => e = .returned (.bool (tameT [xt])) ∧ Below ((wr.alloc (.cells #[.int .i64 xv, .int .i64 xt.f0, .string xt.f1, .int .i64 xt.f2, .slice A4 xt.f3.length c4] 50)).alloc (.cells #[.int .i64 xt.f0, .string xt.f1, .int .i64 xt.f2, .slice A4 xt.f3.length c4] 24)).heap.size ((wr.alloc (.cells #[.int .i64 xv, .int .i64 xt.f0, .string xt.f1, .int .i64 xt.f2, .slice A4 xt.f3.length c4] 50)).alloc (.cells #[.int .i64 xt.f0, .string xt.f1, .int .i64 xt.f2, .slice A4 xt.f3.length c4] 24)) w' := by
      rw [show wr.heap.size + 1 = (wr.alloc (.cells #[.int .i64 xv, .int .i64 xt.f0, .string xt.f1, .int .i64 xt.f2, .slice A4 xt.f3.length c4] 50)).heap.size from (World.size_alloc _ _).symm]
      exact tame_any [xt] _ _ _ 1 (C_one (blk_new (wr.alloc (.cells #[.int .i64 xv, .int .i64 xt.f0, .string xt.f1, .int .i64 xt.f2, .slice A4 xt.f3.length c4] 50)) (.cells #[.int .i64 xt.f0, .string xt.f1, .int .i64 xt.f2, .slice A4 xt.f3.length c4] 24)) l4 g5) (Below.refl _ _) (fun x hx => by rw [List.mem_singleton.1 hx]; exact hbw.2)
    obtain ⟨oy, hoy⟩ : ∃ oy, tameT [xt] = oy := ⟨_, rfl⟩
    rw [hoy] at hcall
    have HOY := Lib.hid hoy
    clear hoy
    go_wp2_with fail
    refine hcall.mono ?_
    rintro e wq ⟨rfl, hq⟩
    have hb3 := below_step hb (below_step (below_step hb1 hb2) hq)
    clear hcall y0 y1 y2 y3 y4 g5 hb1 hb2 hq
    cases oy with
    | false =>
      go_wp2
      go_ret
      exact ⟨rfl, below_step hBw hb3⟩
    | true =>
      go_wp2
      go_roundw
      case rel =>
        refine ⟨k + 1, by omega, by go_num, fun b hbb => ?_, hb3⟩
        rw [HTK.out] at hbb
        rcases List.mem_append.1 hbb with hbb | hbb
        · exact hall b hbb
        · rw [List.mem_singleton.1 hbb]; exact tame_one HOY.out
      case measure => simp [intOf]; omega
  obtain rfl : k = bs.length := by omega
  rw [List.take_length] at hall
  clear hlt hk
  replace hBw := below_step hBw hb
  replace kA := blk_below kA hb
  replace LA := LA.at hb
  replace CB := Kd.C_below CB hb
  replace CT := Kd.C_below CT hb
  clear hb
  have hnt := tame_one HO1.out
  have p0 := blk_cell kA 0
  have p1 := blk_cell kA 1
  have p2 := blk_cell kA 2
  have p3 := blk_cell kA 3
  have hcall := rcopy_any t wr wr A ca LA.C LA.le (Below.refl _ wr) (by omega)
  obtain ⟨cp, hcp⟩ : ∃ cp, cpR t = cp := ⟨_, rfl⟩
  rw [hcp] at hcall
  have HCP := Lib.hid hcp
  clear hcp
  go_wp2_with fail
  refine hcall.mono ?_
  rintro e w5 ⟨v5, rfl, r5, hb⟩
  clear hcall p0 p1 p2 p3
  obtain ⟨A5, c5, rfl, h5, C5⟩ := Kd.R_reads r5
  have L5 : shT t = true → Lies w5 cp A5 c5 := fun hs => ⟨C5, h5, by rw [← HCP.out, cpR_nrm t hs]; exact wfT_nrm LA.wf⟩
  clear r5 h5
  replace L5 : shT t = true → Lies (w5.alloc (.cells #[.int .i64 cp.f0, .string cp.f1, .int .i64 cp.f2, .slice A5 cp.f3.length c5] 24)) cp A5 c5 := fun hs => (L5 hs).at (below_alloc (Below.refl _ w5) _)
  clear C5
  have hbx := below_alloc hb (.cells #[.int .i64 cp.f0, .string cp.f1, .int .i64 cp.f2, .slice A5 cp.f3.length c5] 24)
  replace hBw := below_step hBw hbx
  replace kA := blk_below kA hbx
  replace LA := LA.at hbx
  replace CB := Kd.C_below CB hbx
  replace CT := Kd.C_below CT hbx
  have k11 := blk_new w5 (.cells #[.int .i64 cp.f0, .string cp.f1, .int .i64 cp.f2, .slice A5 cp.f3.length c5] 24)
  clear hb hbx
  have p0 := blk_cell kA 0
  have p1 := blk_cell kA 1
  have p2 := blk_cell kA 2
  have p3 := blk_cell kA 3
  have hcall := apply_at (cb := cb) LA bs CB hwb (Below.refl _ _)
  obtain ⟨x, hx⟩ : ∃ x, (applyT t bs).1 = x := ⟨_, rfl⟩
  obtain ⟨er, her⟩ : ∃ er, (applyT t bs).2 = er := ⟨_, rfl⟩
  rw [hx, her] at hcall
  have HX := Lib.hid hx
  have HER := Lib.hid her
  clear hx her
  go_wp2_with fail
  generalize w5.alloc (.cells #[.int .i64 cp.f0, .string cp.f1, .int .i64 cp.f2, .slice A5 cp.f3.length c5] 24) = xw5 at hBw kA k11 LA CB CT p0 p1 p2 p3 hcall L5 ⊢
  generalize w5.heap.size = g11 at k11 p0 p1 p2 p3 hcall ⊢
  refine hcall.mono ?_
  rintro e w6 ⟨A6, c6, rfl, L6, hb⟩
  clear hcall p0 p1 p2 p3
  replace L5 := fun hs => (L5 hs).at hb
  replace L5 := fun hs => (L5 hs).at (below_alloc (Below.refl _ w6) (.cells #[.int .i64 x.f0, .string x.f1, .int .i64 x.f2, .slice A6 x.f3.length c6] 24))
  replace L6 := L6.at (below_alloc (Below.refl _ w6) (.cells #[.int .i64 x.f0, .string x.f1, .int .i64 x.f2, .slice A6 x.f3.length c6] 24))
  have hbx := below_alloc hb (.cells #[.int .i64 x.f0, .string x.f1, .int .i64 x.f2, .slice A6 x.f3.length c6] 24)
  replace hBw := below_step hBw hbx
  replace kA := blk_below kA hbx
  replace k11 := blk_below k11 hbx
  replace LA := LA.at hbx
  replace CB := Kd.C_below CB hbx
  replace CT := Kd.C_below CT hbx
  have k12 := blk_new w6 (.cells #[.int .i64 x.f0, .string x.f1, .int .i64 x.f2, .slice A6 x.f3.length c6] 24)
  clear hb hbx
  have p0 := blk_cell kA 0
  have p1 := blk_cell kA 1
  have p2 := blk_cell kA 2
  have p3 := blk_cell kA 3
  have hcall := rApply_at (ce := cb) LA CB (by omega) hwb (fun b hb => by have := hall b hb; omega) (Below.refl _ _)
  rw [← apply_same, HX.out, HER.out] at hcall
  go_wp2_with fail
  generalize w6.alloc (.cells #[.int .i64 x.f0, .string x.f1, .int .i64 x.f2, .slice A6 x.f3.length c6] 24) = xw6 at hBw kA k11 k12 LA L6 CB CT p0 p1 p2 p3 hcall L5 ⊢
  generalize w6.heap.size = g12 at k12 p0 p1 p2 p3 hcall ⊢
  refine hcall.mono ?_
  rintro e w7 ⟨A7, c7, rfl, L7, hb⟩
  clear hcall p0 p1 p2 p3
  replace L5 := fun hs => (L5 hs).at (below_alloc hb (.cells #[.int .i64 x.f0, .string x.f1, .int .i64 x.f2, .slice A7 x.f3.length c7] 24))
  replace L7 := L7.at (below_alloc (Below.refl _ w7) (.cells #[.int .i64 x.f0, .string x.f1, .int .i64 x.f2, .slice A7 x.f3.length c7] 24))
  have hbx := below_alloc hb (.cells #[.int .i64 x.f0, .string x.f1, .int .i64 x.f2, .slice A7 x.f3.length c7] 24)
  replace hBw := below_step hBw hbx
  replace kA := blk_below kA hbx
  replace k11 := blk_below k11 hbx
  replace k12 := blk_below k12 hbx
  replace LA := LA.at hbx
  replace L6 := L6.at hbx
  replace CB := Kd.C_below CB hbx
  replace CT := Kd.C_below CT hbx
  have k14 := blk_new w7 (.cells #[.int .i64 x.f0, .string x.f1, .int .i64 x.f2, .slice A7 x.f3.length c7] 24)
  clear hb hbx
  have p0 := blk_cell k12 0
  have p1 := blk_cell k12 1
  have p2 := blk_cell k12 2
  have p3 := blk_cell k12 3
  have p4 := blk_cell k14 0
  have p5 := blk_cell k14 1
  have p6 := blk_cell k14 2
  have p7 := blk_cell k14 3
  have hcall := rlike_at L6 L7 (by have := apply_like t bs; rw [HX.out] at this; exact this)
  go_wp2_with fail
  generalize w7.alloc (.cells #[.int .i64 x.f0, .string x.f1, .int .i64 x.f2, .slice A7 x.f3.length c7] 24) = xw7 at hBw kA k11 k12 k14 LA L6 L7 CB CT p0 p1 p2 p3 p4 p5 p6 p7 hcall L5 ⊢
  generalize w7.heap.size = g14 at k14 p0 p1 p2 p3 p4 p5 p6 p7 hcall ⊢
  refine hcall.mono ?_
  rintro e w8 ⟨rfl, hb⟩
  clear hcall p0 p1 p2 p3 p4 p5 p6 p7
  replace L5 := fun hs => (L5 hs).at hb
  replace hBw := below_step hBw hb
  replace kA := blk_below kA hb
  replace k11 := blk_below k11 hb
  replace k12 := blk_below k12 hb
  replace k14 := blk_below k14 hb
  replace LA := LA.at hb
  replace L6 := L6.at hb
  replace L7 := L7.at hb
  replace CB := Kd.C_below CB hb
  replace CT := Kd.C_below CT hb
  clear hb L6 L7 k12 k14
  obtain ⟨z, hz⟩ : ∃ z, (renT t n).1 = z := ⟨_, rfl⟩
  obtain ⟨m, hm⟩ : ∃ m, (renT t n).2.1 = m := ⟨_, rfl⟩
  obtain ⟨gg, hg⟩ : ∃ gg, (renT t n).2.2 = gg := ⟨_, rfl⟩
  have HZ := Lib.hid hz
  have HM := Lib.hid hm
  have HGG := Lib.hid hg
  clear hz hm hg
  obtain ⟨o2, ho2⟩ : ∃ o2, okT t = o2 := ⟨_, rfl⟩
  have HO2 := Lib.hid ho2
  clear ho2
  go_upto_region 16 with (fail)
  go_cut [16, 17, 18] from 19 to 88 (fun x y v wx => ∃ (g16 : Nat) (A9 : Option Addr) (c9 : Nat), x = .pointer (some ⟨g16, 0, none⟩) ∧ y = .int .i64 m ∧ v = .int .i64 gg ∧ wx.heap[g16]? = some (.cells #[.int .i64 z.f0, .string z.f1, .int .i64 z.f2, .slice A9 z.f3.length c9] 24 (0, 0)) ∧ Lies wx z A9 c9 ∧ Below w8.heap.size w8 wx)
  case first =>
    have p0 := blk_cell kA 0
    have p1 := blk_cell kA 1
    have p2 := blk_cell kA 2
    have p3 := blk_cell kA 3
    have hcall := rename_at LA hn (Below.refl _ w8)
    rw [HZ.out, HM.out, HGG.out] at hcall
    go_wp2_with fail
    refine hcall.mono ?_
    rintro e w9 ⟨A9, c9, rfl, L9, hb⟩
    clear hcall p0 p1 p2 p3
    have k16 := blk_new w9 (.cells #[.int .i64 z.f0, .string z.f1, .int .i64 z.f2, .slice A9 z.f3.length c9] 24)
    go_wp2
    go_meet
    exact ⟨w9.heap.size, A9, c9, rfl, rfl, rfl, k16, L9.at (below_alloc (Below.refl _ w9) _), below_alloc hb _⟩
  case rest =>
  obtain ⟨g16, A9, c9, rfl, rfl, rfl, k16, L9, hb⟩ := hcut
  rename World => w10
  replace L5 := fun hs => (L5 hs).at hb
  replace hBw := below_step hBw hb
  replace kA := blk_below kA hb
  replace k11 := blk_below k11 hb
  replace LA := LA.at hb
  replace CB := Kd.C_below CB hb
  replace CT := Kd.C_below CT hb
  clear hb
  rename_i aK
  refine aK _ _ ?_
  refine wp_seq_k (fun K hK => ?_)
  go_cut [4] from 19 to 146 (fun x wx => x = .pointer (some ⟨w.heap.size, 0, none⟩) ∧ Below w10.heap.size w10 wx)
  case first =>
    have p0 := blk_cell kA 0
    have p1 := blk_cell kA 1
    have p2 := blk_cell kA 2
    have p3 := blk_cell kA 3
    have hcall := rright_at LA (Below.refl _ _)
    rw [HO2.out] at hcall
    go_wp2_with fail
    refine hcall.mono ?_
    rintro e wy ⟨rfl, hb⟩
    clear hcall p0 p1 p2 p3
    have hY := hb
    replace L5 := fun hs => (L5 hs).at hb
    replace hBw := below_step hBw hb
    replace kA := blk_below kA hb
    replace k11 := blk_below k11 hb
    replace k16 := blk_below k16 hb
    replace LA := LA.at hb
    replace L9 := L9.at hb
    replace CB := Kd.C_below CB hb
    replace CT := Kd.C_below CT hb
    clear hb
    cases o2 with
    | false =>
      have hz : z = z24 ∧ m = 0 ∧ gg = 70 := by rw [← HZ.out, ← HM.out, ← HGG.out]; unfold renT; rw [HO2.out, if_pos rfl]; exact ⟨rfl, rfl, rfl⟩
      obtain ⟨rfl, rfl, rfl⟩ := hz
      have k16z : wy.heap[g16]? = some (.cells #[.int .i64 0, .string ⟨#[]⟩, .int .i64 0, .slice A9 0 c9] 24 (0, 0)) := k16
      clear k16 HZ HM HGG L9 L5
      have z0 := blk_cell k16z 0
      go_wp2
      go_meet
      exact ⟨rfl, hY⟩
    | true =>
    by_cases hn1 : n < 1
    ·
      have hz : z = z24 ∧ m = 0 ∧ gg = 1 := by rw [← HZ.out, ← HM.out, ← HGG.out]; unfold renT; rw [HO2.out, if_neg (by decide), if_pos (.inl hn1)]; exact ⟨rfl, rfl, rfl⟩
      obtain ⟨rfl, rfl, rfl⟩ := hz
      have k16z : wy.heap[g16]? = some (.cells #[.int .i64 0, .string ⟨#[]⟩, .int .i64 0, .slice A9 0 c9] 24 (0, 0)) := k16
      clear k16 HZ HM HGG L9 L5
      have z0 := blk_cell k16z 0
      go_wp2
      go_meet
      exact ⟨rfl, hY⟩
    by_cases hn2 : n > 4611686018427387904
    ·
      have hz : z = z24 ∧ m = 0 ∧ gg = 1 := by rw [← HZ.out, ← HM.out, ← HGG.out]; unfold renT; rw [HO2.out, if_neg (by decide), if_pos (.inr hn2)]; exact ⟨rfl, rfl, rfl⟩
      obtain ⟨rfl, rfl, rfl⟩ := hz
      have k16z : wy.heap[g16]? = some (.cells #[.int .i64 0, .string ⟨#[]⟩, .int .i64 0, .slice A9 0 c9] 24 (0, 0)) := k16
      clear k16 HZ HM HGG L9 L5
      have z0 := blk_cell k16z 0
      go_wp2
      go_meet
      exact ⟨rfl, hY⟩
    have hok : okT t = true := HO2.out
    have hrt := renT_ok hok (n := n) (by omega) (by omega)
    have hzz : z = renS (rnf (varsT t []) n) t := by rw [← HZ.out, hrt]
    have hmm : m = n + (varsT t []).length := by rw [← HM.out, hrt]
    have hgg : gg = 0 := by rw [← HGG.out, hrt]
    subst hgg
    have sht := ((okT_iff t).1 hok).1
    have shz : shT z = true := by rw [hzz]; exact ((okT_iff _).1 (ok_renS (rnf (varsT t []) n) hok (fun v hv => by have := (rnf_bounds (n := n) v hv).1; omega))).1
    have hcpn : cp = nrm t := by rw [← HCP.out]; exact cpR_nrm t sht
    have shc : shT cp = true := by rw [hcpn]; exact ((okT_iff _).1 (nrm_ok hok)).1
    have hd1 : decide (ordT z z = 0) = true := decide_eq_true (ordT_refl z)
    have hd2 : decide (ordT t cp = 0) = true := by rw [hcpn]; exact decide_eq_true (nrm_same' hok)
    replace L5 := L5 sht
    have hcall := rrename_at LA (Below.refl _ _) hok (n := n) (by omega) (by omega)
    rw [← hzz, ← hmm] at hcall
    have HD1 := Lib.hid hd1
    have HD2 := Lib.hid hd2
    have HSZ := Lib.hid shz
    have HSC := Lib.hid shc
    have HST := Lib.hid sht
    clear hcpn hd1 hd2 hrt hzz hmm shz shc sht HZ HM HGG
    have p0 := blk_cell kA 0
    have p1 := blk_cell kA 1
    have p2 := blk_cell kA 2
    have p3 := blk_cell kA 3
    go_wp2_with fail
    refine hcall.mono ?_
    rintro e w11 ⟨A10, c10, rfl, L10, hb⟩
    clear hcall p0 p1 p2 p3
    replace L10 := L10.at (below_alloc (Below.refl _ w11) (.cells #[.int .i64 z.f0, .string z.f1, .int .i64 z.f2, .slice A10 z.f3.length c10] 24))
    replace hY := below_step hY (below_alloc hb (.cells #[.int .i64 z.f0, .string z.f1, .int .i64 z.f2, .slice A10 z.f3.length c10] 24))
    have hbx := below_alloc hb (.cells #[.int .i64 z.f0, .string z.f1, .int .i64 z.f2, .slice A10 z.f3.length c10] 24)
    replace hBw := below_step hBw hbx
    replace kA := blk_below kA hbx
    replace k11 := blk_below k11 hbx
    replace k16 := blk_below k16 hbx
    replace LA := LA.at hbx
    replace L9 := L9.at hbx
    replace L5 := L5.at hbx
    replace CB := Kd.C_below CB hbx
    replace CT := Kd.C_below CT hbx
    have k19 := blk_new w11 (.cells #[.int .i64 z.f0, .string z.f1, .int .i64 z.f2, .slice A10 z.f3.length c10] 24)
    clear hb hbx
    have p0 := blk_cell k16 0
    have p1 := blk_cell k16 1
    have p2 := blk_cell k16 2
    have p3 := blk_cell k16 3
    have p4 := blk_cell k19 0
    have p5 := blk_cell k19 1
    have p6 := blk_cell k19 2
    have p7 := blk_cell k19 3
    have hcall := rsame_at L9 L10 (Below.refl _ _) HSZ.out HSZ.out
    rw [HD1.out] at hcall
    go_wp2_with fail
    generalize w11.alloc (.cells #[.int .i64 z.f0, .string z.f1, .int .i64 z.f2, .slice A10 z.f3.length c10] 24) = xw11 at hBw kA k11 k16 k19 LA L9 L5 L10 CB CT p0 p1 p2 p3 p4 p5 p6 p7 hcall hY ⊢
    generalize w11.heap.size = g19 at k19 p0 p1 p2 p3 p4 p5 p6 p7 hcall ⊢
    refine hcall.mono ?_
    rintro e w12 ⟨rfl, hb⟩
    clear hcall p0 p1 p2 p3 p4 p5 p6 p7
    replace hY := below_step hY hb
    replace hBw := below_step hBw hb
    replace kA := blk_below kA hb
    replace k11 := blk_below k11 hb
    replace k16 := blk_below k16 hb
    replace k19 := blk_below k19 hb
    replace LA := LA.at hb
    replace L9 := L9.at hb
    replace L5 := L5.at hb
    replace L10 := L10.at hb
    replace CB := Kd.C_below CB hb
    replace CT := Kd.C_below CT hb
    clear hb
    have p0 := blk_cell kA 0
    have p1 := blk_cell kA 1
    have p2 := blk_cell kA 2
    have p3 := blk_cell kA 3
    have p4 := blk_cell k11 0
    have p5 := blk_cell k11 1
    have p6 := blk_cell k11 2
    have p7 := blk_cell k11 3
    have hcall := rsame_at LA L5 (Below.refl _ _) HST.out HSC.out
    rw [HD2.out] at hcall
    go_wp2_with fail
    refine hcall.mono ?_
    rintro e w13 ⟨rfl, hb⟩
    go_wp2
    go_meet
    exact ⟨rfl, below_step hY hb⟩
  case rest =>
  obtain ⟨rfl, hb⟩ := hcut
  rename World => w13
  replace hBw := below_step hBw hb
  replace kA := blk_below kA hb
  replace LA := LA.at hb
  replace CB := Kd.C_below CB hb
  replace CT := Kd.C_below CT hb
  clear hb L5 L9 k11 k16 HZ HM HGG HCP
  have p0 := blk_cell kA 0
  have p1 := blk_cell kA 1
  have p2 := blk_cell kA 2
  have p3 := blk_cell kA 3
  have hcall := list_at ts (cap := cd) CT hwt LA (Below.refl _ _)
  obtain ⟨l, hl⟩ : ∃ l, (listA ts t).1 = l := ⟨_, rfl⟩
  obtain ⟨hh, hhh⟩ : ∃ hh, (listA ts t).2 = hh := ⟨_, rfl⟩
  rw [hl, hhh] at hcall
  have HL := Lib.hid hl
  have HHH := Lib.hid hhh
  clear hl hhh
  go_wp2_with fail
  refine hcall.mono ?_
  rintro e wl ⟨A21, c21, rfl, L21, hb⟩
  clear hcall p0 p1 p2 p3
  replace L21 := L21.at (below_alloc (Below.refl _ wl) (.cells #[.int .i64 l.f0, .string l.f1, .int .i64 l.f2, .slice A21 l.f3.length c21] 24))
  have hbx := below_alloc hb (.cells #[.int .i64 l.f0, .string l.f1, .int .i64 l.f2, .slice A21 l.f3.length c21] 24)
  replace hBw := below_step hBw hbx
  replace kA := blk_below kA hbx
  replace LA := LA.at hbx
  replace CB := Kd.C_below CB hbx
  replace CT := Kd.C_below CT hbx
  have k21 := blk_new wl (.cells #[.int .i64 l.f0, .string l.f1, .int .i64 l.f2, .slice A21 l.f3.length c21] 24)
  clear hb hbx
  go_upto_region 28 with (fail)
  generalize wl.alloc (.cells #[.int .i64 l.f0, .string l.f1, .int .i64 l.f2, .slice A21 l.f3.length c21] 24) = xwl at hBw kA k21 LA L21 CB CT ⊢
  generalize wl.heap.size = g21 at k21 ⊢
  go_loopw [154] (fun i wr => ∃ k : Nat, k ≤ ts.length ∧ i = .int .i64 k ∧ Below xwl.heap.size xwl wr) (fun i _ => ts.length - (intOf i).toNat)
  case atStart => exact ⟨0, Nat.zero_le _, rfl, Below.refl _ _⟩
  case round =>
  obtain ⟨k, hk, rfl, hb⟩ := hrel
  by_cases hlt : k < ts.length
  · obtain ⟨ad, A4, c4, rfl, y0, y1, y2, y3, l4, g4⟩ := C_rd CT k hlt rfl
    have hbw := hwt _ (List.getElem_mem hlt)
    generalize ts[k] = a at y0 y1 y2 y3 l4 g4 hbw
    replace y0 := (hb.cell (World.block_lt_of_cell? xwl _ y0)).trans y0
    replace y1 := (hb.cell (World.block_lt_of_cell? xwl _ y1)).trans y1
    replace y2 := (hb.cell (World.block_lt_of_cell? xwl _ y2)).trans y2
    replace y3 := (hb.cell (World.block_lt_of_cell? xwl _ y3)).trans y3
    have hb1 := below_alloc (Below.refl wr.heap.size wr) (.cells #[.int .i64 a.f0, .string a.f1, .int .i64 a.f2, .slice A4 a.f3.length c4] 24)
    have hb2 := below_alloc (Below.refl (wr.alloc (.cells #[.int .i64 a.f0, .string a.f1, .int .i64 a.f2, .slice A4 a.f3.length c4] 24)).heap.size (wr.alloc (.cells #[.int .i64 a.f0, .string a.f1, .int .i64 a.f2, .slice A4 a.f3.length c4] 24))) (.cells #[.int .i64 a.f0, .string a.f1, .int .i64 a.f2, .slice A4 a.f3.length c4] 24)
    have g5 := Kd.C_below (Kd.C_below g4 hb) (below_step hb1 hb2)
    have hcall : Calls Try.prog 35 #[.slice (some ⟨wr.heap.size + 1, 0, none⟩) 1 1] ((wr.alloc (.cells #[.int .i64 a.f0, .string a.f1, .int .i64 a.f2, .slice A4 a.f3.length c4] 24)).alloc (.cells #[.int .i64 a.f0, .string a.f1, .int .i64 a.f2, .slice A4 a.f3.length c4] 24)) fun e w' => e = .returned (.bool (tameT [a])) ∧ Below ((wr.alloc (.cells #[.int .i64 a.f0, .string a.f1, .int .i64 a.f2, .slice A4 a.f3.length c4] 24)).alloc (.cells #[.int .i64 a.f0, .string a.f1, .int .i64 a.f2, .slice A4 a.f3.length c4] 24)).heap.size ((wr.alloc (.cells #[.int .i64 a.f0, .string a.f1, .int .i64 a.f2, .slice A4 a.f3.length c4] 24)).alloc (.cells #[.int .i64 a.f0, .string a.f1, .int .i64 a.f2, .slice A4 a.f3.length c4] 24)) w' := by
      rw [show wr.heap.size + 1 = (wr.alloc (.cells #[.int .i64 a.f0, .string a.f1, .int .i64 a.f2, .slice A4 a.f3.length c4] 24)).heap.size from (World.size_alloc _ _).symm]
      exact tame_any [a] _ _ _ 1 (C_one (blk_new (wr.alloc (.cells #[.int .i64 a.f0, .string a.f1, .int .i64 a.f2, .slice A4 a.f3.length c4] 24)) (.cells #[.int .i64 a.f0, .string a.f1, .int .i64 a.f2, .slice A4 a.f3.length c4] 24)) l4 g5) (Below.refl _ _) (fun x hx => by rw [List.mem_singleton.1 hx]; exact hbw)
    obtain ⟨oy, hoy⟩ : ∃ oy, tameT [a] = oy := ⟨_, rfl⟩
    rw [hoy] at hcall
    clear hoy
    go_wp2_with fail
    refine hcall.mono ?_
    rintro e wq ⟨rfl, hq⟩
    have hb3 := below_step hb (below_step (below_step hb1 hb2) hq)
    clear hcall y0 y1 y2 y3 g5 hb1 hb2 hq
    cases oy with
    | false =>
      go_wp2
      go_ret
      exact ⟨rfl, below_step hBw hb3⟩
    | true =>
      go_wp2
      go_roundw
      case rel => exact ⟨k + 1, by omega, by go_num, hb3⟩
      case measure => simp [intOf]; omega
  have hkf : ¬ ((k : Int) < (ts.length : Int)) := by omega
  clear hk
  replace hBw := below_step hBw hb
  replace kA := blk_below kA hb
  replace k21 := blk_below k21 hb
  replace LA := LA.at hb
  replace L21 := L21.at hb
  replace CB := Kd.C_below CB hb
  replace CT := Kd.C_below CT hb
  clear hb
  have p0 := blk_cell kA 0
  have p1 := blk_cell kA 1
  have p2 := blk_cell kA 2
  have p3 := blk_cell kA 3
  have hcall := rlist_at ts CT hTl (by omega) hwt LA (Below.refl _ _)
  obtain ⟨u, hu⟩ : ∃ u, listT ts t = u := ⟨_, rfl⟩
  rw [hu] at hcall
  have HU := Lib.hid hu
  clear hu
  go_wp2_with fail
  clear hlt hkf
  refine hcall.mono ?_
  rintro e wm ⟨A25, c25, rfl, L25, hb⟩
  clear hcall p0 p1 p2 p3
  replace L25 := L25.at (below_alloc (Below.refl _ wm) (.cells #[.int .i64 u.f0, .string u.f1, .int .i64 u.f2, .slice A25 u.f3.length c25] 24))
  have hbx := below_alloc hb (.cells #[.int .i64 u.f0, .string u.f1, .int .i64 u.f2, .slice A25 u.f3.length c25] 24)
  replace hBw := below_step hBw hbx
  replace kA := blk_below kA hbx
  replace k21 := blk_below k21 hbx
  replace LA := LA.at hbx
  replace L21 := L21.at hbx
  replace CB := Kd.C_below CB hbx
  replace CT := Kd.C_below CT hbx
  have k25 := blk_new wm (.cells #[.int .i64 u.f0, .string u.f1, .int .i64 u.f2, .slice A25 u.f3.length c25] 24)
  clear hb hbx
  by_cases h100 : (ts.length : Int) > 100
  · have hno : l = z24 ∧ hh = 70 := by rw [← HL.out, ← HHH.out, listA_no (.inl (by omega))]; exact ⟨rfl, rfl⟩
    obtain ⟨rfl, rfl⟩ := hno
    have z1 := blk_cell (show (_ : World).heap[g21]? = some (.cells #[.int .i64 0, .string ⟨#[]⟩, .int .i64 0, .slice A21 0 c21] 24 (0, 0)) from k21) 0
    go_wp2
    go_ret
    exact ⟨rfl, hBw⟩
  have p0 := blk_cell k25 0
  have p1 := blk_cell k25 1
  have p2 := blk_cell k25 2
  have p3 := blk_cell k25 3
  have hcall := rright_at L25 (Below.refl _ _)
  obtain ⟨o3, ho3⟩ : ∃ o3, okT u = o3 := ⟨_, rfl⟩
  rw [ho3] at hcall
  have HO3 := Lib.hid ho3
  clear ho3
  go_wp2_with fail
  generalize wm.alloc (.cells #[.int .i64 u.f0, .string u.f1, .int .i64 u.f2, .slice A25 u.f3.length c25] 24) = xwm at hBw kA k21 k25 LA L21 L25 CB CT p0 p1 p2 p3 hcall ⊢
  generalize wm.heap.size = g25 at k25 p0 p1 p2 p3 hcall ⊢
  refine hcall.mono ?_
  rintro e wo ⟨rfl, hb⟩
  clear hcall p0 p1 p2 p3
  replace hBw := below_step hBw hb
  replace kA := blk_below kA hb
  replace k21 := blk_below k21 hb
  replace k25 := blk_below k25 hb
  replace LA := LA.at hb
  replace L21 := L21.at hb
  replace L25 := L25.at hb
  replace CB := Kd.C_below CB hb
  replace CT := Kd.C_below CT hb
  clear hb
  cases o3 with
  | false =>
    have hno : l = z24 ∧ hh = 70 := by rw [← HL.out, ← HHH.out, listA_no (.inr (by rw [HU.out]; exact HO3.out))]; exact ⟨rfl, rfl⟩
    obtain ⟨rfl, rfl⟩ := hno
    have z1 := blk_cell (show (_ : World).heap[g21]? = some (.cells #[.int .i64 0, .string ⟨#[]⟩, .int .i64 0, .slice A21 0 c21] 24 (0, 0)) from k21) 0
    go_wp2
    go_ret
    exact ⟨rfl, hBw⟩
  | true =>
  have hoku : okT u = true := HO3.out
  have hly := listA_yes (ts := ts) (u := t) (by omega) (by rw [HU.out]; exact hoku)
  rw [HU.out] at hly
  have hl1 : l = nrm u := by rw [← HL.out, hly]
  have hh1 : hh = 0 := by rw [← HHH.out, hly]
  subst hh1
  have hal := items_alike hoku
  rw [← hl1] at hal
  have shl : shT l = true := by rw [hl1]; exact ((okT_iff _).1 (nrm_ok hoku)).1
  have shu := ((okT_iff u).1 hoku).1
  have hdl : decide (ordT l u = 0) = true := by rw [hl1]; exact decide_eq_true (nrm_same hoku)
  have hnu := nodes_ok hoku
  have hiu := items_len u
  obtain ⟨as1, has⟩ : ∃ q, (itemsT l).1 = q := ⟨_, rfl⟩
  obtain ⟨en, hen⟩ : ∃ q, (itemsT l).2 = q := ⟨_, rfl⟩
  obtain ⟨bs1, hbs⟩ : ∃ q, (itemsL u).1 = q := ⟨_, rfl⟩
  obtain ⟨tl, htl⟩ : ∃ q, (itemsL u).2 = q := ⟨_, rfl⟩
  replace hal : as1.length = bs1.length ∧ (∀ (i : Nat) (h1 : i < as1.length) (h2 : i < bs1.length), shT as1[i] = true ∧ shT bs1[i] = true ∧ ordT as1[i] bs1[i] = 0 ∧ 3 * nodes as1[i] ≤ 6000) ∧ shT en = true ∧ shT tl = true ∧ ordT en tl = 0 := by
    have hgo : ∀ (a b : List S24) (x y : S24), (itemsT l).1 = a → (itemsT l).2 = x → (itemsL u).1 = b → (itemsL u).2 = y → a.length = b.length ∧ (∀ (i : Nat) (h1 : i < a.length) (h2 : i < b.length), shT a[i] = true ∧ shT b[i] = true ∧ ordT a[i] b[i] = 0 ∧ 3 * nodes a[i] ≤ 6000) ∧ shT x = true ∧ shT y = true ∧ ordT x y = 0 := by
      rintro _ _ _ _ rfl rfl rfl rfl
      exact hal
    exact hgo _ _ _ _ has hen hbs htl
  rw [hbs] at hiu
  have hcall := items_at L21 (Below.refl _ _)
  rw [has, hen] at hcall
  have HBS := Lib.hid hbs
  have HTL := Lib.hid htl
  have HAL1 := Lib.hid hal
  have HIU := Lib.hid hiu
  have HNU := Lib.hid hnu
  have HSL := Lib.hid shl
  have HSU := Lib.hid shu
  have HDL := Lib.hid hdl
  clear hal hiu hnu shl shu hdl hoku hly hl1 has hen hbs htl
  have p0 := blk_cell k21 0
  have p1 := blk_cell k21 1
  have p2 := blk_cell k21 2
  have p3 := blk_cell k21 3
  go_wp2_with fail
  refine hcall.mono ?_
  rintro e wp ⟨A26, c26, A27, c27, rfl, h26, C26, L27, hb⟩
  clear hcall p0 p1 p2 p3
  replace L27 := L27.at (below_alloc (Below.refl _ wp) (.cells #[.int .i64 en.f0, .string en.f1, .int .i64 en.f2, .slice A27 en.f3.length c27] 24))
  replace C26 := Kd.C_below C26 (below_alloc (Below.refl _ wp) (.cells #[.int .i64 en.f0, .string en.f1, .int .i64 en.f2, .slice A27 en.f3.length c27] 24))
  have hbx := below_alloc hb (.cells #[.int .i64 en.f0, .string en.f1, .int .i64 en.f2, .slice A27 en.f3.length c27] 24)
  replace hBw := below_step hBw hbx
  replace kA := blk_below kA hbx
  replace k21 := blk_below k21 hbx
  replace k25 := blk_below k25 hbx
  replace LA := LA.at hbx
  replace L21 := L21.at hbx
  replace L25 := L25.at hbx
  replace CB := Kd.C_below CB hbx
  replace CT := Kd.C_below CT hbx
  have k27 := blk_new wp (.cells #[.int .i64 en.f0, .string en.f1, .int .i64 en.f2, .slice A27 en.f3.length c27] 24)
  clear hb hbx
  have hcall := ritems_at L25 (by have := HNU.out; omega) (Below.refl _ _)
  simp only [HBS.out, HTL.out] at hcall
  have p0 := blk_cell k25 0
  have p1 := blk_cell k25 1
  have p2 := blk_cell k25 2
  have p3 := blk_cell k25 3
  go_wp2_with fail
  generalize wp.alloc (.cells #[.int .i64 en.f0, .string en.f1, .int .i64 en.f2, .slice A27 en.f3.length c27] 24) = xwp at hBw kA k21 k25 k27 LA L21 L25 L27 CB CT p0 p1 p2 p3 hcall C26 ⊢
  generalize wp.heap.size = g27 at k27 p0 p1 p2 p3 hcall ⊢
  refine hcall.mono ?_
  rintro e wq ⟨A28, c28, A29, c29, rfl, h28, C28, L29, hb⟩
  clear hcall p0 p1 p2 p3
  replace L29 := L29.at (below_alloc (Below.refl _ wq) (.cells #[.int .i64 tl.f0, .string tl.f1, .int .i64 tl.f2, .slice A29 tl.f3.length c29] 24))
  replace C28 := Kd.C_below C28 (below_alloc (Below.refl _ wq) (.cells #[.int .i64 tl.f0, .string tl.f1, .int .i64 tl.f2, .slice A29 tl.f3.length c29] 24))
  replace C26 := Kd.C_below C26 (below_alloc hb (.cells #[.int .i64 tl.f0, .string tl.f1, .int .i64 tl.f2, .slice A29 tl.f3.length c29] 24))
  have hbx := below_alloc hb (.cells #[.int .i64 tl.f0, .string tl.f1, .int .i64 tl.f2, .slice A29 tl.f3.length c29] 24)
  replace hBw := below_step hBw hbx
  replace kA := blk_below kA hbx
  replace k21 := blk_below k21 hbx
  replace k25 := blk_below k25 hbx
  replace k27 := blk_below k27 hbx
  replace LA := LA.at hbx
  replace L21 := L21.at hbx
  replace L25 := L25.at hbx
  replace L27 := L27.at hbx
  replace CB := Kd.C_below CB hbx
  replace CT := Kd.C_below CT hbx
  have k29 := blk_new wq (.cells #[.int .i64 tl.f0, .string tl.f1, .int .i64 tl.f2, .slice A29 tl.f3.length c29] 24)
  clear hb hbx
  have p0 := blk_cell k21 0
  have p1 := blk_cell k21 1
  have p2 := blk_cell k21 2
  have p3 := blk_cell k21 3
  have p4 := blk_cell k25 0
  have p5 := blk_cell k25 1
  have p6 := blk_cell k25 2
  have p7 := blk_cell k25 3
  have hcall := rsame_at L21 L25 (Below.refl _ _) HSL.out HSU.out
  rw [HDL.out] at hcall
  go_wp2_with fail
  generalize wq.alloc (.cells #[.int .i64 tl.f0, .string tl.f1, .int .i64 tl.f2, .slice A29 tl.f3.length c29] 24) = xwq at hBw kA k21 k25 k27 k29 LA L21 L25 L27 L29 CB CT p0 p1 p2 p3 p4 p5 p6 p7 hcall C26 C28 ⊢
  generalize wq.heap.size = g29 at k29 p0 p1 p2 p3 p4 p5 p6 p7 hcall ⊢
  refine hcall.mono ?_
  rintro e wr1 ⟨rfl, hb⟩
  clear hcall p0 p1 p2 p3 p4 p5 p6 p7
  replace C26 := Kd.C_below C26 hb
  replace C28 := Kd.C_below C28 hb
  replace hBw := below_step hBw hb
  replace kA := blk_below kA hb
  replace k21 := blk_below k21 hb
  replace k25 := blk_below k25 hb
  replace k27 := blk_below k27 hb
  replace k29 := blk_below k29 hb
  replace LA := LA.at hb
  replace L21 := L21.at hb
  replace L25 := L25.at hb
  replace L27 := L27.at hb
  replace L29 := L29.at hb
  replace CB := Kd.C_below CB hb
  replace CT := Kd.C_below CT hb
  clear hb
  obtain ⟨hal1, hal2, hal3, hal4, hal5⟩ := HAL1.out
  have hcall := rsameAll_at C26 h26 C28 h28 hal1 (by have := HIU.out; have := HNU.out; omega) 6000 hal2
  have hde : decide (ordT en tl = 0) = true := decide_eq_true hal5
  have HDE := Lib.hid hde
  have HS3 := Lib.hid hal3
  have HS4 := Lib.hid hal4
  clear hal1 hal2 hal3 hal4 hal5 hde
  go_wp2_with fail
  refine hcall.mono ?_
  rintro e ws ⟨rfl, hb⟩
  clear hcall C26 C28
  replace hBw := below_step hBw hb
  replace kA := blk_below kA hb
  replace k21 := blk_below k21 hb
  replace k25 := blk_below k25 hb
  replace k27 := blk_below k27 hb
  replace k29 := blk_below k29 hb
  replace LA := LA.at hb
  replace L21 := L21.at hb
  replace L25 := L25.at hb
  replace L27 := L27.at hb
  replace L29 := L29.at hb
  replace CB := Kd.C_below CB hb
  replace CT := Kd.C_below CT hb
  clear hb
  have p0 := blk_cell k27 0
  have p1 := blk_cell k27 1
  have p2 := blk_cell k27 2
  have p3 := blk_cell k27 3
  have p4 := blk_cell k29 0
  have p5 := blk_cell k29 1
  have p6 := blk_cell k29 2
  have p7 := blk_cell k29 3
  have hcall := rsame_at L27 L29 (Below.refl _ _) HS3.out HS4.out
  rw [HDE.out] at hcall
  go_wp2_with fail
  refine hcall.mono ?_
  rintro e wt ⟨rfl, hb⟩
  clear hcall p0 p1 p2 p3 p4 p5 p6 p7
  go_wp2
  go_ret
  exact ⟨rfl, below_step hBw hb⟩
end Go.Proofs.Ytpnkaggkedepeaa
