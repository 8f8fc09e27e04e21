/- The walk of TermLists. -/
import Derived.Test.YtpnkaggkedepeaaTmGp
import Derived.StillTailTactics
namespace Go.Proofs.Ytpnkaggkedepeaa
set_option linter.unusedVariables false
open Go.RowKit Go.Maps Go.Proofs.YtpnkaggkedepeaaW.PrintWords Go.Proofs.YtpnkaggkedepeaaW.PrintLast Go.Proofs.YtpnkaggkedepeaaW.PrintMore Go.Proofs.Ytpnkaggkedepeaa.PTermTells Go.Extern

set_option maxHeartbeats 8000000 in
set_option maxRecDepth 100000 in
theorem lists_law (hal : Alive) (ts : List S24) (tail : S24) (w : World) (A B : Option Addr) (c ct : Nat) (hC : Kd.C k24 w A ts.length ts) (hwf : ∀ t ∈ ts, wfT t) (lt : Lies w tail B ct) :
    Calls Try.prog 5 #[.slice A ts.length c, .agg #[.int .i64 tail.f0, .string tail.f1, .int .i64 tail.f2, .slice B tail.f3.length ct]] w fun e w' => e = .returned (.bool true) ∧ Below w.heap.size w w' := by
  have HAL := Lib.hid hal
  have hm9 := hC.2.1
  have hB0 := below_alloc (Below.refl w.heap.size w) (.cells #[.int .i64 tail.f0, .string tail.f1, .int .i64 tail.f2, .slice B tail.f3.length ct] 24)
  have kT := blk_new w (.cells #[.int .i64 tail.f0, .string tail.f1, .int .i64 tail.f2, .slice B tail.f3.length ct] 24)
  have LT := lt.at hB0
  have CT := Kd.C_below hC hB0
  clear hal lt hC
  go_enter Try.func5, Try.ntmps5
  go_wp2_with fail
  refine (HAL.out _).mono ?_
  rintro e w1 ⟨rfl, hb1⟩
  have hBw := below_step hB0 hb1
  replace kT := blk_below kT hb1
  replace LT := LT.at hb1
  replace CT := Kd.C_below CT hb1
  clear hb1 hB0 HAL
  have KT := Lib.hid kT
  have HS := Lib.hid (show ∀ W, Below w1.heap.size w1 W → W.cell? ⟨w.heap.size, 0, none⟩ = some (.int .i64 tail.f0) ∧ W.cell? ⟨w.heap.size, 1, none⟩ = some (.string tail.f1) ∧ W.cell? ⟨w.heap.size, 2, none⟩ = some (.int .i64 tail.f2) ∧ W.cell? ⟨w.heap.size, 3, none⟩ = some (.slice B tail.f3.length ct) from fun W hW => by
    have k0 := blk_below kT hW
    exact ⟨blk_cell k0 0, blk_cell k0 1, blk_cell k0 2, blk_cell k0 3⟩)
  clear kT
  have hB := Below.refl w1.heap.size w1
  obtain ⟨p0, p1, p2, p3⟩ := HS.out _ hB
  have hcall := list_at ts (cap := c) CT hwf LT hB
  clear hB
  by_cases hok : ts.length ≤ 100 ∧ okT (listT ts tail) = true
  · obtain ⟨l, hl⟩ : ∃ l, l = nrm (listT ts tail) := ⟨_, rfl⟩
    have hla : listA ts tail = (l, 0) := by unfold listA; rw [if_neg (by omega), hok.2, if_neg (by decide), (cp_ok hok.2).1, hl]
    rw [hla] at hcall
    dsimp only at hcall
    have hk := ok_list ts tail hok.2
    obtain ⟨more, en, hme⟩ : ∃ more en, itemsT tail = (more, en) := ⟨_, _, rfl⟩
    have hit := itemsT_ok hk.2
    rw [hme] at hit
    have hokn := items_ok _ (nrm_ok hk.2)
    rw [← hit] at hokn
    have okl : okT l = true := by rw [hl]; exact nrm_ok hok.2
    have hitl : itemsT l = (ts.map nrm ++ more, en) := by rw [itemsT_ok okl, hl, nrm_nrm, nrm_list, items_list, ← hit]
    obtain ⟨got, hgot⟩ : ∃ got, got = ts.map nrm ++ more := ⟨_, rfl⟩
    rw [← hgot] at hitl
    have hgl : got.length = ts.length + more.length := by rw [hgot]; simp
    have hg1 : ∀ k (h : k < ts.length) (h2 : k < got.length), (okT got[k] && okT ts[k] && decide (ordT got[k] ts[k] = 0)) = true := by
      intro k h h2
      have e : got[k] = nrm ts[k] := by simp only [hgot]; rw [List.getElem_append_left (by simpa using h)]; simp
      have ho := hk.1 _ (List.getElem_mem h)
      rw [e, nrm_ok ho, ho, nrm_same ho]; rfl
    have hg2 : ∀ k (h : ¬ k < ts.length) (h2 : k < got.length) (h3 : k - ts.length < more.length), (okT got[k] && okT more[k - ts.length] && decide (ordT got[k] more[k - ts.length] = 0)) = true := by
      intro k h h2 h3
      have e : got[k] = more[k - ts.length] := by simp only [hgot]; rw [List.getElem_append_right (by simpa using h)]; simp
      have ho := hokn.1 _ (List.getElem_mem h3)
      rw [e, ho, ordT_refl]; rfl
    have hgwf : ∀ y ∈ got, wfT y := by have := (wf_items (t := l) (by rw [hl]; exact wfT_nrm (wfT_list ts tail hwf LT.wf))).1; rw [hitl] at this; exact this
    have hmwf : ∀ y ∈ more, wfT y := by have := (wf_items LT.wf).1; rw [hme] at this; exact this
    have hsame : (okT en && okT en && decide (ordT en en = 0)) = true := by rw [hokn.2, ordT_refl]; rfl
    have hno : listA [] tail = (nrm tail, 0) := by
      have : okT (listT [] tail) = true := hk.2
      unfold listA; rw [if_neg (by simp), this, if_neg (by decide), (cp_ok this).1]; rfl
    have hns : (okT (nrm tail) && okT tail && decide (ordT (nrm tail) tail = 0)) = true := by rw [nrm_ok hk.2, hk.2, nrm_same hk.2]; rfl
    have hdep : depthT l ≤ 100 := by rw [depthT_ok okl]; exact ((okT_iff l).1 okl).2.2
    have hml : more.length ≤ 2000 := by
      have h1 := items_len (nrm tail)
      have h2 := nodes_ok (nrm_ok hk.2)
      rw [← hit] at h1
      simp only at h1
      omega
    have htl := hok.1
    have HGL := Lib.hid hgl
    have HME := Lib.hid hme
    have HITL := Lib.hid hitl
    have HG1 := Lib.hid hg1
    have HG2 := Lib.hid hg2
    have HGW := Lib.hid hgwf
    have HMW := Lib.hid hmwf
    have HSA := Lib.hid hsame
    have HNO := Lib.hid hno
    have HNS := Lib.hid hns
    have HTW := Lib.hid hwf
    obtain ⟨dl, hdl⟩ : ∃ dl, depthT l = dl := ⟨_, rfl⟩
    rw [hdl] at hdep
    have HDL := Lib.hid hdl
    clear hok hla hk hit hokn okl hl hgot hgl hme hitl hg1 hg2 hgwf hmwf hsame hno hns hdl hwf
    go_wp2_with fail
    refine hcall.mono ?_
    rintro e w2 ⟨A2, c2, rfl, L2, hB2⟩
    clear hcall p0 p1 p2 p3
    go_upto_region 6 with (fail)
    have kL := blk_new w2 (.cells #[.int .i64 l.f0, .string l.f1, .int .i64 l.f2, .slice A2 l.f3.length c2] 24)
    have bb := below_alloc (Below.refl w2.heap.size w2) (.cells #[.int .i64 l.f0, .string l.f1, .int .i64 l.f2, .slice A2 l.f3.length c2] 24)
    have kT := blk_below (blk_below KT.out hB2) bb
    replace LT := (LT.at hB2).at bb
    replace CT := Kd.C_below (Kd.C_below CT hB2) bb
    have LL := L2.at bb
    replace hBw := below_step (below_step hBw hB2) bb
    generalize w2.alloc (.cells #[.int .i64 l.f0, .string l.f1, .int .i64 l.f2, .slice A2 l.f3.length c2] 24) = w3 at kL kT LT CT LL hBw bb ⊢
    clear bb L2 hB2 KT HS
    generalize w2.heap.size = gl at kL ⊢
    have KT := Lib.hid kT
    have KL := Lib.hid kL
    have q0 := blk_cell kT 0
    have q1 := blk_cell kT 1
    have q2 := blk_cell kT 2
    have q3 := blk_cell kT 3
    clear kT kL
    have hcall := items_at LT (Below.refl w3.heap.size w3)
    rw [HME.out] at hcall
    dsimp only at hcall
    go_wp2_with fail
    refine hcall.mono ?_
    rintro e w4 ⟨A4, c4, A5, c5, rfl, hc4, C4, LE, hB4⟩
    clear hcall q0 q1 q2 q3
    go_upto_region 7 with (fail)
    have kE := blk_new w4 (.cells #[.int .i64 en.f0, .string en.f1, .int .i64 en.f2, .slice A5 en.f3.length c5] 24)
    have bb := below_alloc (Below.refl w4.heap.size w4) (.cells #[.int .i64 en.f0, .string en.f1, .int .i64 en.f2, .slice A5 en.f3.length c5] 24)
    have kT := blk_below (blk_below KT.out hB4) bb
    have kL := blk_below (blk_below KL.out hB4) bb
    replace LT := (LT.at hB4).at bb
    replace LL := (LL.at hB4).at bb
    replace CT := Kd.C_below (Kd.C_below CT hB4) bb
    replace C4 := Kd.C_below C4 bb
    replace LE := LE.at bb
    replace hBw := below_step (below_step hBw hB4) bb
    generalize w4.alloc (.cells #[.int .i64 en.f0, .string en.f1, .int .i64 en.f2, .slice A5 en.f3.length c5] 24) = w5 at kL kT kE LT CT LL LE C4 hBw bb ⊢
    clear bb hB4 KT KL HME
    generalize w4.heap.size = ge at kE ⊢
    have KT := Lib.hid kT
    have KL := Lib.hid kL
    have KE := Lib.hid kE
    have q0 := blk_cell kL 0
    have q1 := blk_cell kL 1
    have q2 := blk_cell kL 2
    have q3 := blk_cell kL 3
    clear kT kL kE
    have hcall := items_at LL (Below.refl w5.heap.size w5)
    rw [HITL.out] at hcall
    dsimp only at hcall
    go_wp2_with fail
    refine hcall.mono ?_
    rintro e w6 ⟨A6, c6, A7, c7, rfl, hc6, C6, LF, hB6⟩
    clear hcall q0 q1 q2 q3
    go_upto_region 8 with (fail)
    have kF := blk_new w6 (.cells #[.int .i64 en.f0, .string en.f1, .int .i64 en.f2, .slice A7 en.f3.length c7] 24)
    have bb := below_alloc (Below.refl w6.heap.size w6) (.cells #[.int .i64 en.f0, .string en.f1, .int .i64 en.f2, .slice A7 en.f3.length c7] 24)
    have kT := blk_below (blk_below KT.out hB6) bb
    have kL := blk_below (blk_below KL.out hB6) bb
    have kE := blk_below (blk_below KE.out hB6) bb
    replace LT := (LT.at hB6).at bb
    replace LL := (LL.at hB6).at bb
    replace LE := (LE.at hB6).at bb
    replace CT := Kd.C_below (Kd.C_below CT hB6) bb
    replace C4 := Kd.C_below (Kd.C_below C4 hB6) bb
    replace C6 := Kd.C_below C6 bb
    replace LF := LF.at bb
    replace hBw := below_step (below_step hBw hB6) bb
    generalize w6.alloc (.cells #[.int .i64 en.f0, .string en.f1, .int .i64 en.f2, .slice A7 en.f3.length c7] 24) = w7 at kL kT kE kF LT CT LL LE LF C4 C6 hBw bb ⊢
    clear bb hB6 KT KL KE HITL
    generalize w6.heap.size = gf at kF ⊢
    have HS := Lib.hid (show ∀ W, Below w7.heap.size w7 W → W.cell? ⟨w.heap.size, 0, none⟩ = some (.int .i64 tail.f0) ∧ W.cell? ⟨w.heap.size, 1, none⟩ = some (.string tail.f1) ∧ W.cell? ⟨w.heap.size, 2, none⟩ = some (.int .i64 tail.f2) ∧ W.cell? ⟨w.heap.size, 3, none⟩ = some (.slice B tail.f3.length ct) ∧ W.cell? ⟨gl, 0, none⟩ = some (.int .i64 l.f0) ∧ W.cell? ⟨gl, 1, none⟩ = some (.string l.f1) ∧ W.cell? ⟨gl, 2, none⟩ = some (.int .i64 l.f2) ∧ W.cell? ⟨gl, 3, none⟩ = some (.slice A2 l.f3.length c2) ∧ W.cell? ⟨ge, 0, none⟩ = some (.int .i64 en.f0) ∧ W.cell? ⟨ge, 1, none⟩ = some (.string en.f1) ∧ W.cell? ⟨ge, 2, none⟩ = some (.int .i64 en.f2) ∧ W.cell? ⟨ge, 3, none⟩ = some (.slice A5 en.f3.length c5) ∧ W.cell? ⟨gf, 0, none⟩ = some (.int .i64 en.f0) ∧ W.cell? ⟨gf, 1, none⟩ = some (.string en.f1) ∧ W.cell? ⟨gf, 2, none⟩ = some (.int .i64 en.f2) ∧ W.cell? ⟨gf, 3, none⟩ = some (.slice A7 en.f3.length c7) from fun W hW => by
      have k0 := blk_below kT hW
      have k1 := blk_below kL hW
      have k2 := blk_below kE hW
      have k3 := blk_below kF hW
      exact ⟨blk_cell k0 0, blk_cell k0 1, blk_cell k0 2, blk_cell k0 3, blk_cell k1 0, blk_cell k1 1, blk_cell k1 2, blk_cell k1 3, blk_cell k2 0, blk_cell k2 1, blk_cell k2 2, blk_cell k2 3, blk_cell k3 0, blk_cell k3 1, blk_cell k3 2, blk_cell k3 3⟩)
    clear kT kL kE kF
    rw [HGL.out] at C6 hc6 ⊢
    have hB := Below.refl w7.heap.size w7
    obtain ⟨p0, p1, p2, p3, p4, p5, p6, p7, p8, p9, p10, p11, p12, p13, p14, p15⟩ := HS.out _ hB
    have hcall := same_at LF LE hB
    rw [HSA.out] at hcall
    clear hB
    go_wp2_with fail
    refine hcall.mono ?_
    rintro e w8 ⟨rfl, hB8⟩
    clear hcall p0 p1 p2 p3 p4 p5 p6 p7 p8 p9 p10 p11 p12 p13 p14 p15
    go_wp2_with fail
    go_loopw [58] (fun i wr => ∃ k : Nat, k ≤ ts.length + more.length ∧ i = .int .i64 k ∧ Below w7.heap.size w7 wr) (fun i _ => ts.length + more.length - (intOf i).toNat)
    case atStart => exact ⟨0, Nat.zero_le _, rfl, hB8⟩
    case round =>
      obtain ⟨k, hk, rfl, hBr⟩ := hrel
      by_cases hlt : k < ts.length + more.length
      · have hkg : k < got.length := by rw [HGL.out]; exact hlt
        have hgr := C_rd C6 k hkg HGL.out.symm
        have hxw := HGW.out _ (List.getElem_mem hkg)
        by_cases h1 : k < ts.length
        · have htr := C_rd CT k h1 rfl
          have hzw := HTW.out _ (List.getElem_mem h1)
          have hfact := HG1.out k h1 hkg
          generalize got[k] = x at hgr hxw hfact
          generalize ts[k] = z at htr hzw hfact
          obtain ⟨ad, A3, c3, rfl, y0, y1, y2, y3, l3, g3⟩ := hgr
          obtain ⟨az, A8, c8, rfl, z0, z1, z2, z3, l8, g8⟩ := htr
          have HF := Lib.hid hfact
          clear hfact
          have LX : Lies w7 x A3 c3 := ⟨g3, l3, hxw⟩
          have LZ : Lies w7 z A8 c8 := ⟨g8, l8, hzw⟩
          clear g3 g8 hxw hzw hkg
          replace y0 := (hBr.cell (World.block_lt_of_cell? w7 _ y0)).trans y0
          replace y1 := (hBr.cell (World.block_lt_of_cell? w7 _ y1)).trans y1
          replace y2 := (hBr.cell (World.block_lt_of_cell? w7 _ y2)).trans y2
          replace y3 := (hBr.cell (World.block_lt_of_cell? w7 _ y3)).trans y3
          replace z0 := (hBr.cell (World.block_lt_of_cell? w7 _ z0)).trans z0
          replace z1 := (hBr.cell (World.block_lt_of_cell? w7 _ z1)).trans z1
          replace z2 := (hBr.cell (World.block_lt_of_cell? w7 _ z2)).trans z2
          replace z3 := (hBr.cell (World.block_lt_of_cell? w7 _ z3)).trans z3
          have u0 := World.block_lt_of_cell? wr _ y0
          have v0 := World.block_lt_of_cell? wr _ z0
          go_upto_region 17 with (fail)
          have kz := blk_new wr (.cells #[.int .i64 z.f0, .string z.f1, .int .i64 z.f2, .slice A8 z.f3.length c8] 24)
          have bz := below_alloc (Below.refl wr.heap.size wr) (.cells #[.int .i64 z.f0, .string z.f1, .int .i64 z.f2, .slice A8 z.f3.length c8] 24)
          replace y0 := (bz.cell u0).trans y0
          replace y1 := (bz.cell (World.block_lt_of_cell? wr _ y1)).trans y1
          replace y2 := (bz.cell (World.block_lt_of_cell? wr _ y2)).trans y2
          replace y3 := (bz.cell (World.block_lt_of_cell? wr _ y3)).trans y3
          have q0 := blk_cell kz 0
          have q1 := blk_cell kz 1
          have q2 := blk_cell kz 2
          have q3 := blk_cell kz 3
          have hBz := below_step hBr bz
          clear z0 z1 z2 z3 u0 v0 hBr kz bz
          generalize wr.alloc (.cells #[.int .i64 z.f0, .string z.f1, .int .i64 z.f2, .slice A8 z.f3.length c8] 24) = wz at y0 y1 y2 y3 q0 q1 q2 q3 hBz ⊢
          go_still_tail 5, (by kernel_rfl)
          change wpList _ _ _ _ _ wz.drew
          have hcall := same_at LX LZ hBz.drew
          rw [HF.out] at hcall
          clear y0 y1 y2 y3 q0 q1 q2 q3 HF
          go_wp2_with fail
          refine hcall.mono ?_
          rintro e w9 ⟨rfl, hB9⟩
          clear hcall hBz
          go_wp2
          go_roundw
          case rel => exact ⟨k + 1, by omega, by go_num, hB9⟩
          case measure => simp [intOf]; omega
        · have hkm : k - ts.length < more.length := by omega
          have htr := C_rd C4 (k - ts.length) hkm rfl
          have hzw := HMW.out _ (List.getElem_mem hkm)
          have hfact := HG2.out k h1 hkg hkm
          generalize got[k] = x at hgr hxw hfact
          generalize more[k - ts.length] = z at htr hzw hfact
          obtain ⟨ad, A3, c3, rfl, y0, y1, y2, y3, l3, g3⟩ := hgr
          obtain ⟨az, A8, c8, rfl, z0, z1, z2, z3, l8, g8⟩ := htr
          have hge : ts.length ≤ k := by omega
          have HF := Lib.hid hfact
          clear hfact
          have LX : Lies w7 x A3 c3 := ⟨g3, l3, hxw⟩
          have LZ : Lies w7 z A8 c8 := ⟨g8, l8, hzw⟩
          clear g3 g8 hxw hzw hkg
          replace y0 := (hBr.cell (World.block_lt_of_cell? w7 _ y0)).trans y0
          replace y1 := (hBr.cell (World.block_lt_of_cell? w7 _ y1)).trans y1
          replace y2 := (hBr.cell (World.block_lt_of_cell? w7 _ y2)).trans y2
          replace y3 := (hBr.cell (World.block_lt_of_cell? w7 _ y3)).trans y3
          replace z0 := (hBr.cell (World.block_lt_of_cell? w7 _ z0)).trans z0
          replace z1 := (hBr.cell (World.block_lt_of_cell? w7 _ z1)).trans z1
          replace z2 := (hBr.cell (World.block_lt_of_cell? w7 _ z2)).trans z2
          replace z3 := (hBr.cell (World.block_lt_of_cell? w7 _ z3)).trans z3
          have u0 := World.block_lt_of_cell? wr _ y0
          have v0 := World.block_lt_of_cell? wr _ z0
          go_upto_region 17 with (fail)
          have kz := blk_new wr (.cells #[.int .i64 z.f0, .string z.f1, .int .i64 z.f2, .slice A8 z.f3.length c8] 24)
          have bz := below_alloc (Below.refl wr.heap.size wr) (.cells #[.int .i64 z.f0, .string z.f1, .int .i64 z.f2, .slice A8 z.f3.length c8] 24)
          replace y0 := (bz.cell u0).trans y0
          replace y1 := (bz.cell (World.block_lt_of_cell? wr _ y1)).trans y1
          replace y2 := (bz.cell (World.block_lt_of_cell? wr _ y2)).trans y2
          replace y3 := (bz.cell (World.block_lt_of_cell? wr _ y3)).trans y3
          have q0 := blk_cell kz 0
          have q1 := blk_cell kz 1
          have q2 := blk_cell kz 2
          have q3 := blk_cell kz 3
          have hBz := below_step hBr bz
          clear z0 z1 z2 z3 u0 v0 hBr kz bz
          generalize wr.alloc (.cells #[.int .i64 z.f0, .string z.f1, .int .i64 z.f2, .slice A8 z.f3.length c8] 24) = wz at y0 y1 y2 y3 q0 q1 q2 q3 hBz ⊢
          go_still_tail 5, (by kernel_rfl)
          change wpList _ _ _ _ _ wz.drew
          have hcall := same_at LX LZ hBz.drew
          rw [HF.out] at hcall
          clear y0 y1 y2 y3 q0 q1 q2 q3 HF
          go_wp2_with fail
          refine hcall.mono ?_
          rintro e w9 ⟨rfl, hB9⟩
          clear hcall hBz
          go_wp2
          go_roundw
          case rel => exact ⟨k + 1, by omega, by go_num, hB9⟩
          case measure => simp [intOf]; omega
      · obtain rfl : k = ts.length + more.length := by omega
        obtain ⟨p0, p1, p2, p3, p4, p5, p6, p7, p8, p9, p10, p11, p12, p13, p14, p15⟩ := HS.out _ hBr
        have hcall := list_at [] (A := none) (cap := 0) (Kd.C_nil _ _) (fun t ht => by cases ht) LT hBr
        rw [HNO.out] at hcall
        dsimp only at hcall
        go_wp2_with fail
        refine hcall.mono ?_
        rintro e w9 ⟨A9, c9, rfl, L9, hB9⟩
        clear hcall p0 p1 p2 p3 p4 p5 p6 p7 p8 p9 p10 p11 p12 p13 p14 p15
        go_upto_region 21 with (fail)
        have bb := below_alloc (Below.refl w9.heap.size w9) (.cells #[.int .i64 (nrm tail).f0, .string (nrm tail).f1, .int .i64 (nrm tail).f2, .slice A9 (nrm tail).f3.length c9] 24)
        have kN := blk_new w9 (.cells #[.int .i64 (nrm tail).f0, .string (nrm tail).f1, .int .i64 (nrm tail).f2, .slice A9 (nrm tail).f3.length c9] 24)
        have hB10 := below_step hB9 bb
        have LN := L9.at bb
        have LT' := LT.at hB10
        have LL' := LL.at hB10
        generalize w9.alloc (.cells #[.int .i64 (nrm tail).f0, .string (nrm tail).f1, .int .i64 (nrm tail).f2, .slice A9 (nrm tail).f3.length c9] 24) = w10 at bb kN hB10 LN LT' LL' ⊢
        obtain ⟨p0, p1, p2, p3, p4, p5, p6, p7, p8, p9, p10, p11, p12, p13, p14, p15⟩ := HS.out _ hB10
        have q0 := blk_cell kN 0
        have q1 := blk_cell kN 1
        have q2 := blk_cell kN 2
        have q3 := blk_cell kN 3
        clear kN bb
        have hcall := same_at LN LT' (Below.refl w10.heap.size w10)
        rw [HNS.out] at hcall
        go_wp2_with fail
        refine hcall.mono ?_
        rintro e w11 ⟨rfl, hB11⟩
        clear hcall q0 q1 q2 q3 p0 p1 p2 p3 p4 p5 p6 p7 p8 p9 p10 p11 p12 p13 p14 p15
        have hB12 := below_step hB10 hB11
        obtain ⟨p0, p1, p2, p3, p4, p5, p6, p7, p8, p9, p10, p11, p12, p13, p14, p15⟩ := HS.out _ hB12
        have hcall := depth_at LL hB12
        rw [HDL.out] at hcall
        go_wp2_with fail
        refine hcall.mono ?_
        rintro e w12 ⟨rfl, hB13⟩
        clear hcall p0 p1 p2 p3 p4 p5 p6 p7 p8 p9 p10 p11 p12 p13 p14 p15
        go_wp2
        go_ret
        exact ⟨rfl, below_step hBw hB13⟩
  · have hla : listA ts tail = (z24, 70) := by
      unfold listA
      by_cases h1 : 100 < ts.length
      · rw [if_pos h1]
      · rw [if_neg h1]
        have : okT (listT ts tail) = false := by
          cases h : okT (listT ts tail) with
          | false => rfl
          | true => exact absurd ⟨by omega, h⟩ hok
        rw [if_pos this]
    rw [hla] at hcall
    dsimp only [z24] at hcall
    clear hla hok
    go_wp2_with fail
    refine hcall.mono ?_
    rintro e w2 ⟨A2, c2, rfl, L2, hB2⟩
    clear hcall p0 p1 p2 p3
    go_wp2
    go_ret
    exact ⟨rfl, below_alloc (below_step hBw hB2) _⟩
end Go.Proofs.Ytpnkaggkedepeaa
