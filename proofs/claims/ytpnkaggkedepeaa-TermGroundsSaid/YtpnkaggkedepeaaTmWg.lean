/- The walk of TermGrounds. -/
import Derived.Test.YtpnkaggkedepeaaTmGp
import Derived.Deep.RegionHeld3
namespace Go.Proofs.Ytpnkaggkedepeaa
set_option linter.unusedVariables false
open Go.RowKit Go.Maps Go.Proofs.YtpnkaggkedepeaaW.PrintWords Go.Proofs.YtpnkaggkedepeaaW.PrintLast Go.Proofs.YtpnkaggkedepeaaW.PrintMore Go.Proofs.Ytpnkaggkedepeaa.PTermTells Go.Extern

theorem ownsRow_belowB {B : Nat} {e : TypeId} {k : Nat} {v : Value} {n : Nat} {xs : List Value} {w w' : World} (h : w.ownsRow B e k v n xs) (hb : Below w.heap.size w w') : w'.ownsRow B e k v n xs :=
  World.ownsRow.kept h ⟨hb.os, hb.tape, hb.output, hb.size, fun i hi _ => hb.block i hi⟩ (Classical.em _)

set_option maxHeartbeats 8000000 in
set_option maxRecDepth 100000 in
theorem grounds_law (hal : Alive) (a b : S24) (bs : List S50) (w : World) (A B E : Option Addr) (ca cb ce : Nat) (la : Lies w a A ca) (lb : Lies w b B cb) (hE : Kd.C k50 w E bs.length bs) (hwb : ∀ x ∈ bs, I64 x.f0 ∧ wfT x.f1) (hsz : bs.length * 64 ≤ 140737488351232) :
    Calls Try.prog 10 #[.agg #[.int .i64 a.f0, .string a.f1, .int .i64 a.f2, .slice A a.f3.length ca], .agg #[.int .i64 b.f0, .string b.f1, .int .i64 b.f2, .slice B b.f3.length cb], .slice E bs.length ce] w fun e w' => e = .returned (.bool true) ∧ Below w.heap.size w w' := by
  have HAL := Lib.hid hal
  have hB0 := below_alloc (below_alloc (Below.refl w.heap.size w) (.cells #[.int .i64 a.f0, .string a.f1, .int .i64 a.f2, .slice A a.f3.length ca] 24)) (.cells #[.int .i64 b.f0, .string b.f1, .int .i64 b.f2, .slice B b.f3.length cb] 24)
  have kA := blk_alloc (blk_new w (.cells #[.int .i64 a.f0, .string a.f1, .int .i64 a.f2, .slice A a.f3.length ca] 24)) (.cells #[.int .i64 b.f0, .string b.f1, .int .i64 b.f2, .slice B b.f3.length cb] 24)
  have kB := blk_new (w.alloc (.cells #[.int .i64 a.f0, .string a.f1, .int .i64 a.f2, .slice A a.f3.length ca] 24)) (.cells #[.int .i64 b.f0, .string b.f1, .int .i64 b.f2, .slice B b.f3.length cb] 24)
  rw [World.size_alloc] at kB
  have LA := la.at hB0
  have LB := lb.at hB0
  have CE := Kd.C_below hE hB0
  have HWB := Lib.hid hwb
  clear hal la lb hE hwb
  go_enter Try.func10, Try.ntmps10
  go_wp2_with fail
  refine (HAL.out _).mono ?_
  rintro e w1 ⟨rfl, hb1⟩
  have hBw := below_step hB0 hb1
  replace kA := blk_below kA hb1
  replace kB := blk_below kB hb1
  replace LA := LA.at hb1
  replace LB := LB.at hb1
  replace CE := Kd.C_below CE hb1
  clear hb1 hB0 HAL
  generalize w.heap.size + 1 = gb at kB ⊢
  have HS := Lib.hid (show ∀ W, Below w1.heap.size w1 W → W.cell? ⟨w.heap.size, 0, none⟩ = some (.int .i64 a.f0) ∧ W.cell? ⟨w.heap.size, 1, none⟩ = some (.string a.f1) ∧ W.cell? ⟨w.heap.size, 2, none⟩ = some (.int .i64 a.f2) ∧ W.cell? ⟨w.heap.size, 3, none⟩ = some (.slice A a.f3.length ca) ∧ W.cell? ⟨gb, 0, none⟩ = some (.int .i64 b.f0) ∧ W.cell? ⟨gb, 1, none⟩ = some (.string b.f1) ∧ W.cell? ⟨gb, 2, none⟩ = some (.int .i64 b.f2) ∧ W.cell? ⟨gb, 3, none⟩ = some (.slice B b.f3.length cb) from fun W hW => by
    have k1 := blk_below kA hW
    have k2 := blk_below kB hW
    exact ⟨blk_cell k1 0, blk_cell k1 1, blk_cell k1 2, blk_cell k1 3, blk_cell k2 0, blk_cell k2 1, blk_cell k2 2, blk_cell k2 3⟩)
  clear kA kB
  obtain ⟨p0, p1, p2, p3, p4, p5, p6, p7⟩ := HS.out _ (Below.refl w1.heap.size w1)
  have hcall := check_at LA (Below.refl w1.heap.size w1)
  cases hoka : okT a with
  | false =>
    rw [hoka, if_neg (by decide)] at hcall
    clear hoka
    go_wp2_with fail
    refine hcall.mono ?_
    rintro e w2 ⟨rfl, hB2⟩
    clear hcall p0 p1 p2 p3 p4 p5 p6 p7
    go_wp2
    go_ret
    exact ⟨rfl, below_step hBw hB2⟩
  | true =>
  rw [hoka, if_pos rfl] at hcall
  have HOA := Lib.hid hoka
  clear hoka
  go_wp2_with fail
  refine hcall.mono ?_
  rintro e w2 ⟨rfl, hB2⟩
  clear hcall p0 p1 p2 p3 p4 p5 p6 p7
  obtain ⟨p0, p1, p2, p3, p4, p5, p6, p7⟩ := HS.out _ hB2
  have hcall := check_at LB hB2
  cases hokb : okT b with
  | false =>
    rw [hokb, if_neg (by decide)] at hcall
    clear hokb
    go_wp2_with fail
    refine hcall.mono ?_
    rintro e w3 ⟨rfl, hB3⟩
    clear hcall p0 p1 p2 p3 p4 p5 p6 p7
    go_wp2
    go_ret
    exact ⟨rfl, below_step hBw hB3⟩
  | true =>
  rw [hokb, if_pos rfl] at hcall
  have HOB := Lib.hid hokb
  clear hokb
  go_wp2_with fail
  refine hcall.mono ?_
  rintro e w3 ⟨rfl, hB3⟩
  clear hcall hB2 p0 p1 p2 p3 p4 p5 p6 p7
  obtain ⟨va, hva⟩ : ∃ va, va = varsT a [] := ⟨_, rfl⟩
  have HVA := Lib.hid hva
  have HVO : Hid (varsOf a = va) := Lib.hid (by unfold varsOf; rw [if_pos HOA.out, hva])
  have hlv : va.length ≤ 2000 := by
    have h1 := varsT_len a []
    have h2 := nodes_ok HOA.out
    rw [← hva] at h1
    simp only [List.length_nil] at h1
    omega
  clear hva
  have hm9 := CE.2.1
  go_upto_region 6 with (fail)
  have hO0 : (w3.alloc (.cells #[] 50)).ownsRow w1.heap.size 50 5 (.slice (some ⟨w3.heap.size, 0, none⟩) 0 0) 0 [] := World.ownsRow_made w3 #[] 0 hB3.size (by decide) (by simp)
  have hB4 := below_alloc hB3 (.cells #[] 50)
  clear hB3
  generalize w3.alloc (.cells #[] 50) = w4 at hO0 hB4 ⊢
  go_wp2_with fail
  go_loopw [7, 28] (fun v i wr => ∃ (k : Nat) (M : List (Int × Tv)), k ≤ bs.length ∧ i = .int .i64 k ∧ wr.ownsRow w1.heap.size 50 5 v M.length (M.flatMap cellsB) ∧ M.length ≤ k ∧ (∀ p ∈ M, p.1 ∉ va ∧ I64 p.1 ∧ Lies w1 p.2.1 p.2.2.1 p.2.2.2) ∧ Below w1.heap.size w1 wr)
    (fun _ i _ => bs.length - (intOf i).toNat)
  case atStart => exact ⟨0, [], Nat.zero_le _, rfl, hO0, Nat.zero_le _, (fun p hp => by cases hp), hB4⟩
  case round =>
    clear hO0 hB4
    obtain ⟨k, M, hk, rfl, hO, hMk, hM, hBr⟩ := hrel
    have HM := Lib.hid hM
    clear hM
    by_cases hlt : k < bs.length
    · have hgr := C50_rd CE k hlt rfl
      have hxw := HWB.out _ (List.getElem_mem hlt)
      generalize bs[k] = x at hgr hxw
      obtain ⟨xv, x⟩ := x
      obtain ⟨ad, A4, c4, rfl, y0, y1, y2, y3, y4, l4, g4⟩ := hgr
      simp only at y0 y1 y2 y3 y4 l4 g4 hxw
      have LX : Lies w1 x A4 c4 := ⟨g4, l4, hxw.2⟩
      have hxi := hxw.1
      clear g4 hxw
      replace y0 := (hBr.cell (World.block_lt_of_cell? w1 _ y0)).trans y0
      replace y1 := (hBr.cell (World.block_lt_of_cell? w1 _ y1)).trans y1
      replace y2 := (hBr.cell (World.block_lt_of_cell? w1 _ y2)).trans y2
      replace y3 := (hBr.cell (World.block_lt_of_cell? w1 _ y3)).trans y3
      replace y4 := (hBr.cell (World.block_lt_of_cell? w1 _ y4)).trans y4
      go_upto_region 9 with (fail)
      have bz := below_alloc (Below.refl wr.heap.size wr) (.cells #[.int .i64 xv, .int .i64 x.f0, .string x.f1, .int .i64 x.f2, .slice A4 x.f3.length c4] 50)
      have kz := blk_new wr (.cells #[.int .i64 xv, .int .i64 x.f0, .string x.f1, .int .i64 x.f2, .slice A4 x.f3.length c4] 50)
      have hOz := World.ownsRow.alloc hO (.cells #[.int .i64 xv, .int .i64 x.f0, .string x.f1, .int .i64 x.f2, .slice A4 x.f3.length c4] 50)
      have hBz := below_step hBr bz
      have hwr := hBr.size
      clear y0 y1 y2 y3 y4 hO hBr bz
      generalize wr.alloc (.cells #[.int .i64 xv, .int .i64 x.f0, .string x.f1, .int .i64 x.f2, .slice A4 x.f3.length c4] 50) = wz at kz hOz hBz ⊢
      generalize wr.heap.size = gz at kz hwr ⊢
      have HS2 := Lib.hid (show ∀ W, Below wz.heap.size wz W → W.cell? ⟨w.heap.size, 0, none⟩ = some (.int .i64 a.f0) ∧ W.cell? ⟨w.heap.size, 1, none⟩ = some (.string a.f1) ∧ W.cell? ⟨w.heap.size, 2, none⟩ = some (.int .i64 a.f2) ∧ W.cell? ⟨w.heap.size, 3, none⟩ = some (.slice A a.f3.length ca) ∧ W.cell? ⟨gz, 0, none⟩ = some (.int .i64 xv) from fun W hW => by
        obtain ⟨p0, p1, p2, p3, p4, p5, p6, p7⟩ := HS.out _ (below_step hBz hW)
        exact ⟨p0, p1, p2, p3, blk_cell (blk_below kz hW) 0⟩)
      have KZ := Lib.hid kz
      clear kz
      have T1 := Lib.hid trivial
      have T2 := Lib.hid trivial
      have d0 : Below wz.heap.size wz wz.drew := (Below.refl _ wz).drew
      have LAz := LA.at hBz
      go_cut [28, 37] from 28 to 42 (fun i r wx => i = .int .i64 k ∧ r = .bool (!decide (xv ∈ va)) ∧ Below wz.heap.size wz wx)
      case first =>
        go_region_held3 (fun W : World => W.cell? ⟨w.heap.size, 0, none⟩ = some (.int .i64 a.f0) ∧ W.cell? ⟨w.heap.size, 1, none⟩ = some (.string a.f1) ∧ W.cell? ⟨w.heap.size, 2, none⟩ = some (.int .i64 a.f2) ∧ W.cell? ⟨w.heap.size, 3, none⟩ = some (.slice A a.f3.length ca) ∧ W.cell? ⟨gz, 0, none⟩ = some (.int .i64 xv)) ((refine HS2.out _ ?_; with_reducible assumption))
          (first
          | (go_at_call 18; clear T1; refine (vars_at LAz (by with_reducible assumption)).mono ?_; rw [HVO.out]; rintro e wy ⟨A5, c5, rfl, hc5, C5, d1⟩)
          | (go_at_call 34; clear T2; refine (hasLong_at va xv C5 hc5 (by omega) (by with_reducible assumption)).mono ?_; rintro e wy2 ⟨rfl, d2⟩))
        all_goals go_wp2_with fail
        all_goals go_meet
        all_goals exact ⟨rfl, rfl, by assumption⟩
      case rest =>
      obtain ⟨rfl, rfl, hBx⟩ := hcut
      clear T1 T2 d0 HS2
      have kx := blk_below KZ.out hBx
      have hBy := below_step hBz hBx
      have hOx := ownsRow_belowB hOz hBx
      clear KZ hOz
      by_cases hmem : xv ∈ va
      · have hd : (!decide (xv ∈ va)) = false := by simp [hmem]
        rw [hd]
        clear hd
        go_wp2
        go_roundw
        case rel => exact ⟨k + 1, M, by omega, by go_num, hOx, by omega, HM.out, hBy⟩
        case measure => simp [intOf]; omega
      · have hd : (!decide (xv ∈ va)) = true := by simp [hmem]
        rw [hd]
        clear hd
        have q0 := blk_cell kx 0
        have q1 := blk_cell kx 1
        have q2 := blk_cell kx 2
        have q3 := blk_cell kx 3
        have q4 := blk_cell kx 4
        clear kx
        have hsy := hBy.size
        go_wp2_with (at_builtin; refine print_append_cells (w0 := w1) w1.heap.size rfl (.tmp 38) (.tmp 40) 44 50 (.agg #[.int .i64 0, .int .i64 0, .string ⟨#[]⟩, .int .i64 0, .slice none 0 0]) 5 64 rfl Try.underlying44 info50 rfl (by decide) (by decide) u7 M.length _ [.int .i64 xv, .int .i64 x.f0, .string x.f1, .int .i64 x.f2, .slice A4 x.f3.length c4] rfl rfl rfl (by simp [Value.oneCell']) hOx hBy hsy (by omega) ?_; intro v1 w9 hown1 hB9 _ _)
        go_roundw
        case rel => exact ⟨k + 1, M ++ [(xv, x, A4, c4)], by omega, by go_num, by rw [List.flatMap_append, List.length_append]; exact hown1, by rw [List.length_append]; simp; omega, (fun p hp => by
            rcases List.mem_append.1 hp with h | h
            · exact HM.out p h
            · rw [List.mem_singleton.1 h]; exact ⟨hmem, hxi, LX⟩), hB9⟩
        case measure => simp [intOf]; omega
    · obtain rfl : k = bs.length := by omega
      obtain ⟨Am, cm, rfl, CM⟩ := binds_read hO (fun p hp => (HM.out p hp).2.2) hBr (by omega)
      have HAP : Hid (applyT a (M.map toS50) = (nrm a, 0)) := Lib.hid (apply_none HOA.out (fun x hx => by
        obtain ⟨p, hp, rfl⟩ := List.mem_map.1 hx
        have := (HM.out p hp).1
        rw [HVA.out] at this; exact this))
      have hcall := apply_at LA (M.map toS50) (cb := cm) (by rw [List.length_map]; exact CM) (fun x hx => by
        obtain ⟨p, hp, rfl⟩ := List.mem_map.1 hx
        exact ⟨(HM.out p hp).2.1, (HM.out p hp).2.2.wf⟩) hBr
      rw [HAP.out, List.length_map] at hcall
      dsimp only at hcall
      obtain ⟨p0, p1, p2, p3, p4, p5, p6, p7⟩ := HS.out _ hBr
      clear CM hO HM HAP hMk hlt
      go_wp2_with fail
      refine hcall.mono ?_
      rintro e w5 ⟨A5, c5, rfl, L5, hB5⟩
      clear hcall p0 p1 p2 p3 p4 p5 p6 p7
      go_upto_region 13 with (fail)
      have bb := below_alloc (Below.refl w5.heap.size w5) (.cells #[.int .i64 (nrm a).f0, .string (nrm a).f1, .int .i64 (nrm a).f2, .slice A5 (nrm a).f3.length c5] 24)
      have kN := blk_new w5 (.cells #[.int .i64 (nrm a).f0, .string (nrm a).f1, .int .i64 (nrm a).f2, .slice A5 (nrm a).f3.length c5] 24)
      have hB6 := below_step hB5 bb
      have LN := L5.at bb
      have LA' := LA.at hB6
      clear L5 bb hB5
      generalize w5.alloc (.cells #[.int .i64 (nrm a).f0, .string (nrm a).f1, .int .i64 (nrm a).f2, .slice A5 (nrm a).f3.length c5] 24) = w6 at kN hB6 LN LA' ⊢
      obtain ⟨p0, p1, p2, p3, p4, p5, p6, p7⟩ := HS.out _ hB6
      have q0 := blk_cell kN 0
      have q1 := blk_cell kN 1
      have q2 := blk_cell kN 2
      have q3 := blk_cell kN 3
      clear kN
      have hcall := same_at LN LA' (Below.refl w6.heap.size w6)
      rw [nrm_ok HOA.out, HOA.out, nrm_same HOA.out] at hcall
      simp only [decide_true, Bool.and_self] at hcall
      go_wp2_with fail
      refine hcall.mono ?_
      rintro e w7 ⟨rfl, hB7⟩
      clear hcall q0 q1 q2 q3 LN LA' p0 p1 p2 p3 p4 p5 p6 p7
      replace hB7 := below_step hB6 hB7
      obtain ⟨p0, p1, p2, p3, p4, p5, p6, p7⟩ := HS.out _ hB7
      have hcall := vars_at LA hB7
      rw [HVO.out] at hcall
      go_wp2_with fail
      refine hcall.mono ?_
      rintro e w8 ⟨A8, c8, rfl, _, _, hB8⟩
      clear hcall p0 p1 p2 p3 p4 p5 p6 p7
      by_cases hv1 : 0 < va.length
      · go_wp2
        go_ret
        exact ⟨rfl, below_step hBw hB8⟩
      obtain ⟨vb, hvb⟩ : ∃ vb, vb = varsT b [] := ⟨_, rfl⟩
      have HVB := Lib.hid hvb
      have HVP : Hid (varsOf b = vb) := Lib.hid (by unfold varsOf; rw [if_pos HOB.out, hvb])
      have hlb : vb.length ≤ 2000 := by
        have h1 := varsT_len b []
        have h2 := nodes_ok HOB.out
        rw [← hvb] at h1
        simp only [List.length_nil] at h1
        omega
      clear hvb
      obtain ⟨p0, p1, p2, p3, p4, p5, p6, p7⟩ := HS.out _ hB8
      have hcall := vars_at LB hB8
      rw [HVP.out] at hcall
      go_wp2_with fail
      refine hcall.mono ?_
      rintro e w9 ⟨A9, c9, rfl, _, _, hB9⟩
      clear hcall p0 p1 p2 p3 p4 p5 p6 p7
      by_cases hv2 : 0 < vb.length
      · go_wp2
        go_ret
        exact ⟨rfl, below_step hBw hB9⟩
      have ea : varsT a [] = [] := by rw [← HVA.out]; exact List.length_eq_zero_iff.1 (by omega)
      have eb : varsT b [] = [] := by rw [← HVB.out]; exact List.length_eq_zero_iff.1 (by omega)
      have hsg := solve_grounds HOA.out HOB.out ea eb
      have hvg := variant_ground HOA.out HOB.out ea eb
      obtain ⟨d, hd⟩ : ∃ d, decide (ordT a b = 0) = d := ⟨_, rfl⟩
      have hsm : (okT a && okT b && decide (ordT a b = 0)) = d := by rw [HOA.out, HOB.out, hd]; rfl
      rw [hd] at hsg hvg
      have HSG := Lib.hid hsg
      have HVG := Lib.hid hvg
      have HSM := Lib.hid hsm
      clear ea eb hsg hvg hd hsm
      obtain ⟨p0, p1, p2, p3, p4, p5, p6, p7⟩ := HS.out _ hB9
      have hcall := solve_at 1 2500 1 1 _ HSG.out (by decide) LA LB hB9
      dsimp only [List.length_nil] at hcall
      go_wp2_with fail
      refine hcall.mono ?_
      rintro e w10 ⟨Aa, ca', rfl, _, _, hB10⟩
      clear hcall p0 p1 p2 p3 p4 p5 p6 p7
      obtain ⟨p0, p1, p2, p3, p4, p5, p6, p7⟩ := HS.out _ hB10
      have hcall := same_at LA LB hB10
      rw [HSM.out] at hcall
      cases d with
      | true =>
        go_wp2_with fail
        refine hcall.mono ?_
        rintro e w11 ⟨rfl, hB11⟩
        clear hcall p0 p1 p2 p3 p4 p5 p6 p7
        obtain ⟨p0, p1, p2, p3, p4, p5, p6, p7⟩ := HS.out _ hB11
        have hcall := variant_at LA LB hB11
        rw [HVG.out] at hcall
        go_wp2_with fail
        refine hcall.mono ?_
        rintro e w12 ⟨rfl, hB12⟩
        clear hcall p0 p1 p2 p3 p4 p5 p6 p7
        go_wp2
        go_ret
        exact ⟨rfl, below_step hBw hB12⟩
      | false =>
        go_wp2_with fail
        refine hcall.mono ?_
        rintro e w11 ⟨rfl, hB11⟩
        clear hcall p0 p1 p2 p3 p4 p5 p6 p7
        obtain ⟨p0, p1, p2, p3, p4, p5, p6, p7⟩ := HS.out _ hB11
        have hcall := variant_at LA LB hB11
        rw [HVG.out] at hcall
        go_wp2_with fail
        refine hcall.mono ?_
        rintro e w12 ⟨rfl, hB12⟩
        clear hcall p0 p1 p2 p3 p4 p5 p6 p7
        go_wp2
        go_ret
        exact ⟨rfl, below_step hBw hB12⟩
end Go.Proofs.Ytpnkaggkedepeaa
