/- The walk of TermKeeps. -/
import Derived.Test.YtpnkaggkedepeaaTmKa
import Derived.Deep.RegionHeld3
namespace Go.Proofs.Ytpnkaggkedepeaa
set_option linter.unusedVariables false
open Go.RowKit Go.Maps Go.Proofs.YtpnkaggkedepeaaW.PrintWords Go.Proofs.YtpnkaggkedepeaaW.PrintLast Go.Proofs.YtpnkaggkedepeaaW.PrintMore Go.Proofs.Ytpnkaggkedepeaa.PTermTells Go.Extern

set_option maxHeartbeats 8000000 in
set_option maxRecDepth 100000 in
theorem keeps_law (hal : Alive) (t : S24) (bs : List S50) (w : World) (A B : Option Addr) (ca cb : Nat) (la : Lies w t A ca) (hC : Kd.C k50 w B bs.length bs) :
    Calls Try.prog 12 #[.agg #[.int .i64 t.f0, .string t.f1, .int .i64 t.f2, .slice A t.f3.length ca], .slice B bs.length cb] w fun e w' => e = .returned (.bool true) ∧ Below w.heap.size w w' := by
  have HAL := Lib.hid hal
  have hB0 := below_alloc (Below.refl w.heap.size w) (.cells #[.int .i64 t.f0, .string t.f1, .int .i64 t.f2, .slice A t.f3.length ca] 24)
  have kA := blk_new w (.cells #[.int .i64 t.f0, .string t.f1, .int .i64 t.f2, .slice A t.f3.length ca] 24)
  have LA := la.at hB0
  have hmx := hC.2.1
  have hgt : w.heap.size < w.heap.size + 1 := Nat.lt_succ_self _
  clear hal la hC
  go_enter Try.func12, Try.ntmps12
  go_wp2_with fail
  refine (HAL.out _).mono ?_
  rintro e w1 ⟨rfl, hb1⟩
  have hBw := below_step hB0 hb1
  replace kA := blk_below kA hb1
  replace LA := LA.at hb1
  clear hb1 hB0 HAL
  have p0 := blk_cell kA 0
  have p1 := blk_cell kA 1
  have p2 := blk_cell kA 2
  have p3 := blk_cell kA 3
  have hBr := below_alloc (Below.refl w1.heap.size w1) (.cells #[.int .i64 t.f0, .string t.f1, .int .i64 t.f2, .slice A t.f3.length ca] 24)
  have hcall : Calls Try.prog 35 #[.slice (some ⟨w1.heap.size, 0, none⟩) 1 1] (w1.alloc (.cells #[.int .i64 t.f0, .string t.f1, .int .i64 t.f2, .slice A t.f3.length ca] 24)) fun e w' => e = .returned (.bool (tameT [t])) ∧ Below (w1.alloc (.cells #[.int .i64 t.f0, .string t.f1, .int .i64 t.f2, .slice A t.f3.length ca] 24)).heap.size (w1.alloc (.cells #[.int .i64 t.f0, .string t.f1, .int .i64 t.f2, .slice A t.f3.length ca] 24)) w' :=
    tame_any [t] _ _ _ 1 (C_one (blk_new w1 (.cells #[.int .i64 t.f0, .string t.f1, .int .i64 t.f2, .slice A t.f3.length ca] 24)) (LA.at hBr).le (LA.at hBr).C) (Below.refl _ _) (fun x hx => by rw [List.mem_singleton.1 hx]; exact LA.wf)
  obtain ⟨o1, ho1⟩ : ∃ o1, tameT [t] = o1 := ⟨_, rfl⟩
  rw [ho1] at hcall
  clear ho1
  go_wp2_with fail
  refine hcall.mono ?_
  rintro e w2 ⟨rfl, hb2⟩
  replace hb2 := below_step hBr hb2
  clear hcall hBr p0 p1 p2 p3
  have hBw2 := below_step hBw hb2
  replace kA := blk_below kA hb2
  replace LA := LA.at hb2
  clear hb2 hBw
  have p0 := blk_cell kA 0
  have p1 := blk_cell kA 1
  have p2 := blk_cell kA 2
  have p3 := blk_cell kA 3
  cases o1 with
  | false =>
    go_wp2
    go_ret
    exact ⟨rfl, hBw2⟩
  | true =>
  have hcall := rright_at LA (Below.refl _ w2)
  obtain ⟨o2, ho2⟩ : ∃ o2, okT t = o2 := ⟨_, rfl⟩
  rw [ho2] at hcall
  have HO := Lib.hid ho2
  clear ho2
  go_wp2_with fail
  refine hcall.mono ?_
  rintro e w3 ⟨rfl, hb3⟩
  clear hcall p0 p1 p2 p3
  have hBw3 := below_step hBw2 hb3
  replace kA := blk_below kA hb3
  replace LA := LA.at hb3
  clear hb3 hBw2
  have p0 := blk_cell kA 0
  have p1 := blk_cell kA 1
  have p2 := blk_cell kA 2
  have p3 := blk_cell kA 3
  cases o2 with
  | false =>
    go_wp2
    go_ret
    exact ⟨rfl, hBw3⟩
  | true =>
  by_cases h20 : (bs.length : Int) > 20
  · go_wp2
    go_ret
    exact ⟨rfl, hBw3⟩
  have hok : okT t = true := HO.out
  have hsh := ((okT_iff t).1 hok).1
  have hnd := nodes_ok hok
  obtain ⟨cp, hcp⟩ : ∃ cp, cpR t = cp := ⟨_, rfl⟩
  have hcall := rcopy_any t w3 w3 A ca LA.C LA.le (Below.refl _ w3) (by omega)
  rw [hcp] at hcall
  have hcpn : cp = nrm t := by rw [← hcp]; exact cpR_nrm t hsh
  have HC := Lib.hid hcpn
  have HOK := Lib.hid hok
  clear hcp hcpn hok hsh hnd HO
  go_wp2_with fail
  refine hcall.mono ?_
  rintro e w5 ⟨v5, rfl, r5, hb5⟩
  obtain ⟨A5, c5, rfl, h5, C5⟩ := Kd.R_reads r5
  have LW : Lies w5 cp A5 c5 := ⟨C5, h5, by rw [HC.out]; exact wfT_nrm LA.wf⟩
  clear hcall p0 p1 p2 p3 h20 hmx r5 h5 C5
  have hBw5 := below_alloc (below_step hBw3 hb5) (.cells #[.int .i64 cp.f0, .string cp.f1, .int .i64 cp.f2, .slice A5 cp.f3.length c5] 24)
  have hAlt := blk_lt (blk_below kA hb5)
  replace kA := blk_alloc (blk_below kA hb5) (.cells #[.int .i64 cp.f0, .string cp.f1, .int .i64 cp.f2, .slice A5 cp.f3.length c5] 24)
  have kW := blk_new w5 (.cells #[.int .i64 cp.f0, .string cp.f1, .int .i64 cp.f2, .slice A5 cp.f3.length c5] 24)
  replace LA := LA.at (below_alloc hb5 (.cells #[.int .i64 cp.f0, .string cp.f1, .int .i64 cp.f2, .slice A5 cp.f3.length c5] 24))
  replace LW := LW.at (below_alloc (Below.refl _ w5) (.cells #[.int .i64 cp.f0, .string cp.f1, .int .i64 cp.f2, .slice A5 cp.f3.length c5] 24))
  have hsa : (w5.alloc (.cells #[.int .i64 cp.f0, .string cp.f1, .int .i64 cp.f2, .slice A5 cp.f3.length c5] 24)).heap.size = w5.heap.size + 1 := World.size_alloc _ _
  clear hb5 hBw3
  have p0 := blk_cell kA 0
  have p1 := blk_cell kA 1
  have p2 := blk_cell kA 2
  have p3 := blk_cell kA 3
  have hcall := apply_nil_made LA (Below.refl _ _)
  go_wp2_with fail
  generalize w5.alloc (.cells #[.int .i64 cp.f0, .string cp.f1, .int .i64 cp.f2, .slice A5 cp.f3.length c5] 24) = wa at hcall kA kW LA LW hsa hBw5 p0 p1 p2 p3 ⊢
  generalize w5.heap.size = g5 at kW hsa hAlt ⊢
  refine hcall.mono ?_
  rintro e w6 ⟨q6, r6, e6, s6, A6, n6, c6, rfl, M6, hb6⟩
  clear hcall p0 p1 p2 p3
  have hs6 := hb6.size
  have hB := below_alloc hb6 (.cells #[.int .i64 q6, .string s6, .int .i64 r6, .slice A6 n6 c6] 24)
  have k6 := blk_new w6 (.cells #[.int .i64 q6, .string s6, .int .i64 r6, .slice A6 n6 c6] 24)
  replace M6 := M6.below (below_alloc (Below.refl _ w6) (.cells #[.int .i64 q6, .string s6, .int .i64 r6, .slice A6 n6 c6] 24))
  have hsb : (w6.alloc (.cells #[.int .i64 q6, .string s6, .int .i64 r6, .slice A6 n6 c6] 24)).heap.size = w6.heap.size + 1 := World.size_alloc _ _
  have k2 := blk_below kA hB
  have p0 := blk_cell k2 0
  have p1 := blk_cell k2 1
  have p2 := blk_cell k2 2
  have p3 := blk_cell k2 3
  have hcall := rename_made LA hB (n := 1) (by unfold I64; omega)
  obtain ⟨x, hx⟩ : ∃ x, (renT t 1).1 = x := ⟨_, rfl⟩
  obtain ⟨m1, hm1⟩ : ∃ m1, (renT t 1).2.1 = m1 := ⟨_, rfl⟩
  obtain ⟨m2, hm2⟩ : ∃ m2, (renT t 1).2.2 = m2 := ⟨_, rfl⟩
  rw [hx, hm1, hm2] at hcall
  have HX := Lib.hid hx
  have HM1 := Lib.hid hm1
  have HM2 := Lib.hid hm2
  clear hx hm1 hm2
  go_wp2_with fail
  generalize w6.alloc (.cells #[.int .i64 q6, .string s6, .int .i64 r6, .slice A6 n6 c6] 24) = wb at hcall k6 M6 hsb hB k2 p0 p1 p2 p3 ⊢
  generalize w6.heap.size = g6 at k6 M6 hsb hs6 ⊢
  refine hcall.mono ?_
  rintro e w7 ⟨A8, c8, rfl, -, r8, hb7⟩
  clear hcall p0 p1 p2 p3 hb6
  have hs7 := hb7.size
  have M8 := MadeIn.of r8
  clear r8
  have hb7' := below_alloc hb7 (.cells #[.int .i64 x.f0, .string x.f1, .int .i64 x.f2, .slice A8 x.f3.length c8] 24)
  have hB7 := below_step hB hb7'
  have k8 := blk_new w7 (.cells #[.int .i64 x.f0, .string x.f1, .int .i64 x.f2, .slice A8 x.f3.length c8] 24)
  replace M8 := M8.below (below_alloc (Below.refl _ w7) (.cells #[.int .i64 x.f0, .string x.f1, .int .i64 x.f2, .slice A8 x.f3.length c8] 24))
  replace M6 := M6.below hb7'
  replace k6 := blk_below k6 hb7'
  replace k2 := blk_below kA hB7
  have hsc : (w7.alloc (.cells #[.int .i64 x.f0, .string x.f1, .int .i64 x.f2, .slice A8 x.f3.length c8] 24)).heap.size = w7.heap.size + 1 := World.size_alloc _ _
  clear hb7 hb7' hB
  have p0 := blk_cell k2 0
  have p1 := blk_cell k2 1
  have p2 := blk_cell k2 2
  have p3 := blk_cell k2 3
  have kr := blk_new (w7.alloc (.cells #[.int .i64 x.f0, .string x.f1, .int .i64 x.f2, .slice A8 x.f3.length c8] 24)) (.cells #[.int .i64 t.f0, .string t.f1, .int .i64 t.f2, .slice A t.f3.length ca, .int .i64 t.f0, .string t.f1, .int .i64 t.f2, .slice A t.f3.length ca] 24)
  have k2' := blk_alloc k2 (.cells #[.int .i64 t.f0, .string t.f1, .int .i64 t.f2, .slice A t.f3.length ca, .int .i64 t.f0, .string t.f1, .int .i64 t.f2, .slice A t.f3.length ca] 24)
  have p4 := blk_cell k2' 0
  have p5 := blk_cell k2' 1
  have p6 := blk_cell k2' 2
  have p7 := blk_cell k2' 3
  have hcall := list_made (LA.at (below_alloc hB7 (.cells #[.int .i64 t.f0, .string t.f1, .int .i64 t.f2, .slice A t.f3.length ca, .int .i64 t.f0, .string t.f1, .int .i64 t.f2, .slice A t.f3.length ca] 24))) kr
  go_wp2_with fail
  generalize w7.alloc (.cells #[.int .i64 x.f0, .string x.f1, .int .i64 x.f2, .slice A8 x.f3.length c8] 24) = wc at hcall k8 M8 M6 k6 hsc hB7 k2 kr k2' p0 p1 p2 p3 p4 p5 p6 p7 ⊢
  generalize w7.heap.size = g8 at k8 M8 hsc hs7 ⊢
  rw [hsc] at hcall
  refine hcall.mono ?_
  rintro e w8 ⟨l, er, A11, c11, rfl, her, LL, M11, hb8⟩
  clear hcall p0 p1 p2 p3 p4 p5 p6 p7 k2' kr
  have hs8 := hb8.size
  rw [World.size_alloc] at hs8 M11
  have hbw8 := below_step (below_alloc (Below.refl _ wc) (.cells #[.int .i64 t.f0, .string t.f1, .int .i64 t.f2, .slice A t.f3.length ca, .int .i64 t.f0, .string t.f1, .int .i64 t.f2, .slice A t.f3.length ca] 24)) hb8
  have hbw8' := below_alloc hbw8 (.cells #[.int .i64 l.f0, .string l.f1, .int .i64 l.f2, .slice A11 l.f3.length c11] 24)
  have hB8 := below_step hB7 hbw8'
  have k11 := blk_new w8 (.cells #[.int .i64 l.f0, .string l.f1, .int .i64 l.f2, .slice A11 l.f3.length c11] 24)
  replace M11 := M11.below (below_alloc (Below.refl _ w8) (.cells #[.int .i64 l.f0, .string l.f1, .int .i64 l.f2, .slice A11 l.f3.length c11] 24))
  replace M8 := M8.below hbw8'
  replace M6 := M6.below hbw8'
  replace k8 := blk_below k8 hbw8'
  replace k6 := blk_below k6 hbw8'
  replace k2 := blk_below kA hB8
  replace LL := LL.at (below_alloc (Below.refl _ w8) (.cells #[.int .i64 l.f0, .string l.f1, .int .i64 l.f2, .slice A11 l.f3.length c11] 24))
  have hsd : (w8.alloc (.cells #[.int .i64 l.f0, .string l.f1, .int .i64 l.f2, .slice A11 l.f3.length c11] 24)).heap.size = w8.heap.size + 1 := World.size_alloc _ _
  clear hb8 hbw8 hbw8' hB7
  have p0 := blk_cell k11 0
  have p1 := blk_cell k11 1
  have p2 := blk_cell k11 2
  have p3 := blk_cell k11 3
  have hcall := items_made LL
  go_wp2_with fail
  generalize w8.alloc (.cells #[.int .i64 l.f0, .string l.f1, .int .i64 l.f2, .slice A11 l.f3.length c11] 24) = wd at hcall k11 M11 k8 M8 M6 k6 hsd hB8 k2 LL p0 p1 p2 p3 ⊢
  generalize w8.heap.size = g11 at k11 M11 hsd hs8 ⊢
  refine hcall.mono ?_
  rintro e w9 ⟨A13, n13, c13, q14, r14, s14, A14, n14, c14, rfl, M13, M14, hb9⟩
  clear hcall p0 p1 p2 p3 LL
  have hs9 := hb9.size
  have hb9' := below_alloc hb9 (.cells #[.int .i64 q14, .string s14, .int .i64 r14, .slice A14 n14 c14] 24)
  have hB9 := below_step hB8 hb9'
  have k14 := blk_new w9 (.cells #[.int .i64 q14, .string s14, .int .i64 r14, .slice A14 n14 c14] 24)
  replace M13 := M13.below (below_alloc (Below.refl _ w9) (.cells #[.int .i64 q14, .string s14, .int .i64 r14, .slice A14 n14 c14] 24))
  replace M14 := M14.below (below_alloc (Below.refl _ w9) (.cells #[.int .i64 q14, .string s14, .int .i64 r14, .slice A14 n14 c14] 24))
  replace M11 := M11.below hb9'
  replace M8 := M8.below hb9'
  replace M6 := M6.below hb9'
  replace k11 := blk_below k11 hb9'
  replace k8 := blk_below k8 hb9'
  replace k6 := blk_below k6 hb9'
  replace k2 := blk_below kA hB9
  have hse : (w9.alloc (.cells #[.int .i64 q14, .string s14, .int .i64 r14, .slice A14 n14 c14] 24)).heap.size = w9.heap.size + 1 := World.size_alloc _ _
  clear hb9 hb9' hB8
  go_upto_region 10 with (fail)
  generalize w9.alloc (.cells #[.int .i64 q14, .string s14, .int .i64 r14, .slice A14 n14 c14] 24) = we at k14 M13 M14 k11 M11 k8 M8 M6 k6 hse hB9 k2 ⊢
  generalize w9.heap.size = g14 at k14 M13 M14 hse hs9 ⊢
  have LE := LA.at hB9
  have hq := Lib.hid (show ∀ W, Below we.heap.size we W → W.cell? ⟨w.heap.size, 0, none⟩ = some (.int .i64 t.f0) ∧ W.cell? ⟨w.heap.size, 1, none⟩ = some (.string t.f1) ∧ W.cell? ⟨w.heap.size, 2, none⟩ = some (.int .i64 t.f2) ∧ W.cell? ⟨w.heap.size, 3, none⟩ = some (.slice A t.f3.length ca) from fun W hW => by
    have k1 := blk_below k2 hW
    exact ⟨blk_cell k1 0, blk_cell k1 1, blk_cell k1 2, blk_cell k1 3⟩)
  have cV : ∀ W, Below we.heap.size we W → Calls Try.prog 44 #[.int .i64 1099511627776] W fun e w' => ∃ (A1 : Option Addr) (c1 : Nat), e = .returned (.agg #[.int .i64 1, .string ⟨#[]⟩, .int .i64 1099511627776, .slice A1 0 c1]) ∧ Lies w' ⟨1, ⟨#[]⟩, 1099511627776, []⟩ A1 c1 ∧ Below we.heap.size we w' := fun W hW =>
    (v_made W).mono fun e w' ⟨A1, c1, a, b, d⟩ => ⟨A1, c1, a, b, below_step hW d⟩
  have cS : ∀ (A1 : Option Addr) (c1 : Nat) (W : World), Lies W ⟨1, ⟨#[]⟩, 1099511627776, []⟩ A1 c1 → Below we.heap.size we W → Calls Try.prog 31 #[.agg #[.int .i64 t.f0, .string t.f1, .int .i64 t.f2, .slice A t.f3.length ca], .agg #[.int .i64 1, .string ⟨#[]⟩, .int .i64 1099511627776, .slice A1 0 c1]] W fun e w' => ∃ (A2 : Option Addr) (n2 c2 : Nat) (b : Bool) (er : Int),
      e = .returned (.tuple #[.slice A2 n2 c2, .bool b, .int .i64 er]) ∧ MadeB W.heap.size w'.heap.size w' (.slice A2 n2 c2) ∧ we.heap.size ≤ W.heap.size ∧ Below we.heap.size we w' := fun A1 c1 W h hW =>
    (solve_made LE hW HOK.out h).mono fun e w' ⟨A2, n2, c2, b, er, a, m, d⟩ => ⟨A2, n2, c2, b, er, a, m, hW.size, below_step hW d⟩
  have d0 : Below we.heap.size we we.drew := (Below.refl _ we).drew
  go_cut [15] from 16 to 77 (fun x wx => ∃ (A15 : Option Addr) (n15 c15 lo : Nat), x = .slice A15 n15 c15 ∧ MadeB lo wx.heap.size wx (.slice A15 n15 c15) ∧ we.heap.size ≤ lo ∧ Below we.heap.size we wx)
  case first =>
    go_region_held3 (fun W : World => W.cell? ⟨w.heap.size, 0, none⟩ = some (.int .i64 t.f0) ∧ W.cell? ⟨w.heap.size, 1, none⟩ = some (.string t.f1) ∧ W.cell? ⟨w.heap.size, 2, none⟩ = some (.int .i64 t.f2) ∧ W.cell? ⟨w.heap.size, 3, none⟩ = some (.slice A t.f3.length ca)) ((refine hq.out _ ?_; with_reducible assumption))
      (first
      | (go_at_call 44; (with_reducible refine (cV _ (by assumption)).mono ?_); rintro e wy ⟨A16, c16, rfl, lv, d1⟩)
      | (go_at_call 31; (with_reducible refine (cS _ _ _ (by assumption) (by assumption)).mono ?_); rintro e wz ⟨A15, n15, c15, b15, e15, rfl, m15, hlo, d2⟩))
    all_goals (go_wp2_with fail; go_meet; exact ⟨A15, n15, c15, _, rfl, m15, hlo, d2⟩)
  case rest =>
  obtain ⟨A15, n15, c15, lo, rfl, M15, hlo, hBf⟩ := hcut
  rename World => wf
  clear cV cS d0 hq LE
  have hB := below_step hB9 hBf
  replace k2 := blk_below k2 hBf
  replace k6 := blk_below k6 hBf
  replace k8 := blk_below k8 hBf
  replace k11 := blk_below k11 hBf
  replace k14 := blk_below k14 hBf
  replace M6 := M6.below hBf
  replace M8 := M8.below hBf
  replace M11 := M11.below hBf
  replace M13 := M13.below hBf
  replace M14 := M14.below hBf
  have hsf := hBf.size
  clear hBf hB9
  rcases her with rfl | rfl
  rotate_left
  · go_wp2
    go_ret
    exact ⟨rfl, below_step hBw5 hB⟩
  have p0 := blk_cell k2 0
  have p1 := blk_cell k2 1
  have p2 := blk_cell k2 2
  have p3 := blk_cell k2 3
  have hcall := rename_made LA hB (n := 1) (by unfold I64; omega)
  rw [HX.out, HM1.out, HM2.out] at hcall
  go_wp2_with fail
  refine hcall.mono ?_
  rintro e w13 ⟨A18, c18, rfl, L18, r18, hb13⟩
  clear hcall p0 p1 p2 p3
  have wfx := L18.wf
  have hs13 := hb13.size
  have hbg := below_alloc hb13 (.cells #[.int .i64 x.f0, .string x.f1, .int .i64 x.f2, .slice A18 x.f3.length c18] 24)
  have k18 := blk_new w13 (.cells #[.int .i64 x.f0, .string x.f1, .int .i64 x.f2, .slice A18 x.f3.length c18] 24)
  have R18 : Kd.R k24 24 (w13.alloc (.cells #[.int .i64 x.f0, .string x.f1, .int .i64 x.f2, .slice A18 x.f3.length c18] 24)) wf.heap.size (fun k => wf.heap.size ≤ k) (.slice A18 x.f3.length c18) x.f3 := Kd.R_below (Kd.R_mono (Kd.R_bound r18) (fun k hk => hk.2.1)) (below_alloc (Below.refl _ w13) _)
  replace hB := below_step hB hbg
  replace k2 := blk_below k2 hbg
  replace k6 := blk_below k6 hbg
  replace k8 := blk_below k8 hbg
  replace k11 := blk_below k11 hbg
  replace k14 := blk_below k14 hbg
  replace M6 := M6.below hbg
  replace M8 := M8.below hbg
  replace M11 := M11.below hbg
  replace M13 := M13.below hbg
  replace M14 := M14.below hbg
  replace M15 := M15.below hbg
  have hsg : (w13.alloc (.cells #[.int .i64 x.f0, .string x.f1, .int .i64 x.f2, .slice A18 x.f3.length c18] 24)).heap.size = w13.heap.size + 1 := World.size_alloc _ _
  clear hb13 hbg L18 r18
  have p0 := blk_cell k6 0
  have p1 := blk_cell k6 1
  have p2 := blk_cell k6 2
  have p3 := blk_cell k6 3
  go_wp2_with fail
  generalize w13.alloc (.cells #[.int .i64 x.f0, .string x.f1, .int .i64 x.f2, .slice A18 x.f3.length c18] 24) = wg at k18 R18 hB k2 k6 k8 k11 k14 M6 M8 M11 M13 M14 M15 hsg p0 p1 p2 p3 ⊢
  generalize w13.heap.size = g18 at k18 hs13 hsg ⊢
  obtain ⟨P, hP⟩ : ∃ P : Nat → Prop, P = fun k => g5 < k ∧ k < wf.heap.size ∧ k ≠ g6 ∧ k ≠ g8 ∧ k ≠ g11 ∧ k ≠ g14 ∧ ∃ cells, wg.heap[k]? = some (.cells cells 24 (0, 0)) := ⟨_, rfl⟩
  have pg6 : ¬ P g6 := by rw [hP]; exact fun h => h.2.2.1 rfl
  have pg8 : ¬ P g8 := by rw [hP]; exact fun h => h.2.2.2.1 rfl
  have pg11 : ¬ P g11 := by rw [hP]; exact fun h => h.2.2.2.2.1 rfl
  have pg14 : ¬ P g14 := by rw [hP]; exact fun h => h.2.2.2.2.2.1 rfl
  have pg18 : ¬ P g18 := by rw [hP]; exact fun h => by have := h.2.1; omega
  have plt : ∀ W : World, wg.heap.size ≤ W.heap.size → ∀ k, P k → k < W.heap.size := fun W hW k hk => by rw [hP] at hk; have := hk.2.1; omega
  have pge : ∀ k, P k → wa.heap.size ≤ k := fun k hk => by rw [hP] at hk; have := hk.1; omega
  have ptop : ∀ k, wf.heap.size ≤ k → ¬ P k := fun k hk => by rw [hP]; exact fun h => by have := h.2.1; omega
  have p50 : ∀ g cur, wg.heap[g]? = some (.cells cur 50 (0, 0)) → ¬ P g := fun g cur hg => by
    rw [hP]
    intro h
    obtain ⟨cells, hc⟩ := h.2.2.2.2.2.2
    rw [hg] at hc
    injection hc with hc
    injection hc with _ hc
    exact absurd hc (by decide)
  obtain ⟨d6, S6⟩ := M6.sp (P := P) (fun k h1 h2 h3 => by rw [hP]; exact ⟨by omega, by omega, by omega, by omega, by omega, by omega, h3⟩)
  obtain ⟨d8, S8⟩ := M8.sp (P := P) (fun k h1 h2 h3 => by rw [hP]; exact ⟨by omega, by omega, by omega, by omega, by omega, by omega, h3⟩)
  obtain ⟨d11, S11⟩ := M11.sp (P := P) (fun k h1 h2 h3 => by rw [hP]; exact ⟨by omega, by omega, by omega, by omega, by omega, by omega, h3⟩)
  obtain ⟨d13, S13⟩ := M13.sp (P := P) (fun k h1 h2 h3 => by rw [hP]; exact ⟨by omega, by omega, by omega, by omega, by omega, by omega, h3⟩)
  obtain ⟨d14, S14⟩ := M14.sp (P := P) (fun k h1 h2 h3 => by rw [hP]; exact ⟨by omega, by omega, by omega, by omega, by omega, by omega, h3⟩)
  obtain ⟨hm15, d15, S15⟩ := M15.sp (P := P) (fun k h1 h2 h3 => by rw [hP]; exact ⟨by omega, by omega, by omega, by omega, by omega, by omega, h3⟩)
  have hm13 : n13 ≤ 9223372036854775807 := by
    obtain ⟨ys, hy⟩ := M13
    obtain ⟨A', c', e', h', C'⟩ := Kd.R_reads hy
    simp only [Value.slice.injEq] at e'
    have := C'.2.1
    omega
  have hm15' : n15 ≤ 9223372036854775807 := by unfold maxLen at hm15; exact hm15
  have H5 := Lib.hid hBw5
  have HP := Lib.hid hP
  clear hP M6 M8 M11 M13 M14 M15 hm15 hs6 hsb hs7 hsc hs8 hsd hs9 hse hsf hlo hsg hs13 hBw5
  have hcall := spoil_any P d6 _ q6 r6 s6 wg S6 (plt wg (Nat.le_refl _))
  refine hcall.mono ?_
  rintro e wh ⟨rfl, F⟩
  clear hcall p0 p1 p2 p3 S6
  replace k8 := F.blk k8 pg8
  have p0 := blk_cell k8 0
  have p1 := blk_cell k8 1
  have p2 := blk_cell k8 2
  have p3 := blk_cell k8 3
  have hcall := spoil_any P d8 _ x.f0 x.f2 x.f1 wh (S8.step F) (plt wh F.size)
  go_wp2_with fail
  refine hcall.mono ?_
  rintro e wi ⟨rfl, F2⟩
  replace F := F.trans F2
  clear hcall p0 p1 p2 p3 S8 F2
  replace k11 := F.blk k11 pg11
  have p0 := blk_cell k11 0
  have p1 := blk_cell k11 1
  have p2 := blk_cell k11 2
  have p3 := blk_cell k11 3
  have hcall := spoil_any P d11 _ l.f0 l.f2 l.f1 wi (S11.step F) (plt wi F.size)
  go_wp2_with fail
  refine hcall.mono ?_
  rintro e wj ⟨rfl, F2⟩
  replace F := F.trans F2
  clear hcall p0 p1 p2 p3 S11 F2
  go_wp2
  go_loopw [95] (fun i wr => ∃ k : Nat, k ≤ n13 ∧ i = .int .i64 k ∧ SpF P wg wr) (fun i _ => n13 - (intOf i).toNat)
  case atStart => exact ⟨0, Nat.zero_le _, rfl, F⟩
  case round =>
  clear F
  obtain ⟨k, hk, rfl, F⟩ := hrel
  by_cases hlt : k < n13
  · have hx := S13.step F
    generalize hv : Value.slice A13 n13 c13 = v13 at hx
    cases hx with
    | none => simp only [Value.slice.injEq] at hv; omega
    | row d g len c cur kd nt nm vs hPg hg hs hc hm hcell hvs =>
      simp only [Value.slice.injEq] at hv
      obtain ⟨rfl, rfl, rfl⟩ := hv
      obtain ⟨e0, e1, e2, e3⟩ := hcell k hlt
      have y0 := (blk_cell hg (k * 4)).trans e0
      have y1 := (blk_cell hg (k * 4 + 1)).trans e1
      have y2 := (blk_cell hg (k * 4 + 2)).trans e2
      have y3 := (blk_cell hg (k * 4 + 3)).trans e3
      have Su := hvs k hlt
      obtain ⟨Au, mu, cu, hu⟩ := Su.slice
      rw [hu] at y3 Su
      generalize kd k = kdk at y0
      generalize nm k = nmk at y1
      generalize nt k = ntk at y2
      clear hcell hvs e0 e1 e2 e3 hu
      have F1 : SpF P wr (wr.alloc (.cells #[.int .i64 kdk, .string nmk, .int .i64 ntk, .slice Au mu cu] 24)) := .of_below (below_alloc (Below.refl _ wr) _)
      have hcall := spoil_any P d _ kdk ntk nmk _ (Su.step F1) (plt _ (Nat.le_trans F.size F1.size))
      go_wp2_with fail
      refine hcall.mono ?_
      rintro e wr2 ⟨rfl, F2⟩
      clear hcall
      go_wp2
      go_roundw
      case rel => exact ⟨k + 1, by omega, by go_num, F.trans (F1.trans F2)⟩
      case measure => simp [intOf]; omega
  have hf : ¬ ((k : Int) < (n13 : Int)) := by omega
  replace k14 := F.blk k14 pg14
  have p0 := blk_cell k14 0
  have p1 := blk_cell k14 1
  have p2 := blk_cell k14 2
  have p3 := blk_cell k14 3
  have hcall := spoil_any P d14 _ q14 r14 s14 wr (S14.step F) (plt wr F.size)
  clear hk hlt
  go_wp2_with fail
  refine hcall.mono ?_
  rintro e wl ⟨rfl, F2⟩
  replace F := F.trans F2
  clear hcall p0 p1 p2 p3 S14 F2 S13
  go_wp2
  go_loopw [106] (fun i wr => ∃ k : Nat, k ≤ n15 ∧ i = .int .i64 k ∧ SpF P wg wr) (fun i _ => n15 - (intOf i).toNat)
  case atStart => exact ⟨0, Nat.zero_le _, rfl, F⟩
  case round =>
  clear F
  obtain ⟨k, hk, rfl, F⟩ := hrel
  by_cases hlt : k < n15
  · obtain ⟨g, cur, qk, kdk, ntk, nmk, u, rfl, hg, e0, e1, e2, e3, e4, Su⟩ := S15 k hlt
    replace hg := F.blk hg (p50 g cur hg)
    have y0 := (blk_cell hg (k * 5)).trans e0
    have y1 := (blk_cell hg (k * 5 + 1)).trans e1
    have y2 := (blk_cell hg (k * 5 + 2)).trans e2
    have y3 := (blk_cell hg (k * 5 + 3)).trans e3
    have y4 := (blk_cell hg (k * 5 + 4)).trans e4
    replace Su := Su.step F
    obtain ⟨Au, mu, cu, rfl⟩ := Su.slice
    clear e0 e1 e2 e3 e4 S15
    have F1 : SpF P wr (wr.alloc (.cells #[.int .i64 qk, .int .i64 kdk, .string nmk, .int .i64 ntk, .slice Au mu cu] 50)) := .of_below (below_alloc (Below.refl _ wr) _)
    have hcall := spoil_any P d15 _ kdk ntk nmk _ (Su.step F1) (plt _ (Nat.le_trans F.size F1.size))
    go_wp2_with fail
    refine hcall.mono ?_
    rintro e wr2 ⟨rfl, F2⟩
    clear hcall
    go_wp2
    go_roundw
    case rel => exact ⟨k + 1, by omega, by go_num, F.trans (F1.trans F2)⟩
    case measure => simp [intOf]; omega
  have hf2 : ¬ ((k : Int) < (n15 : Int)) := by omega
  have hBr := F.below hB pge
  have kA' := blk_below kA hBr
  have p0 := blk_cell kA' 0
  have p1 := blk_cell kA' 1
  have p2 := blk_cell kA' 2
  have p3 := blk_cell kA' 3
  have hcall := rename_made LA hBr (n := 1) (by unfold I64; omega)
  rw [HX.out, HM1.out, HM2.out] at hcall
  have R18' : Kd.R k24 24 wr wf.heap.size (fun k => wf.heap.size ≤ k) (.slice A18 x.f3.length c18) x.f3 := Kd.R_step R18 (fun k hk hl => F.block k hl (ptop k hk))
  have k18' := F.blk k18 pg18
  clear hk hlt S15
  go_wp2_with fail
  refine hcall.mono ?_
  rintro e w28 ⟨A25, c25, rfl, L25, r25, hb28⟩
  clear hcall p0 p1 p2 p3 r25 R18 k18 kA'
  have hbh := below_alloc hb28 (.cells #[.int .i64 x.f0, .string x.f1, .int .i64 x.f2, .slice A25 x.f3.length c25] 24)
  have k25 := blk_new w28 (.cells #[.int .i64 x.f0, .string x.f1, .int .i64 x.f2, .slice A25 x.f3.length c25] 24)
  have L25' := L25.at (below_alloc (Below.refl _ w28) (.cells #[.int .i64 x.f0, .string x.f1, .int .i64 x.f2, .slice A25 x.f3.length c25] 24))
  have hBz := below_step hBr hbh
  have k18 := blk_below k18' hbh
  have kA' := blk_below kA hBz
  have kW' := blk_below kW hBz
  have LA' := LA.at hBz
  have LW' := LW.at hBz
  have L18 : Lies (w28.alloc (.cells #[.int .i64 x.f0, .string x.f1, .int .i64 x.f2, .slice A25 x.f3.length c25] 24)) x A18 c18 := by
    obtain ⟨A', c', e', h', C'⟩ := Kd.R_reads (Kd.R_below R18' hbh)
    simp only [Value.slice.injEq, true_and] at e'
    obtain ⟨rfl, rfl⟩ := e'
    exact ⟨C', h', wfx⟩
  clear hb28 hbh L25 R18' k18' hBr
  go_upto_region 29 with (fail)
  generalize w28.alloc (.cells #[.int .i64 x.f0, .string x.f1, .int .i64 x.f2, .slice A25 x.f3.length c25] 24) = wz at k25 L25' hBz k18 kA' kW' LA' LW' L18 ⊢
  generalize w28.heap.size = g25 at k25 ⊢
  have HS := Lib.hid (show ∀ W, Below wz.heap.size wz W → W.cell? ⟨w.heap.size, 0, none⟩ = some (.int .i64 t.f0) ∧ W.cell? ⟨w.heap.size, 1, none⟩ = some (.string t.f1) ∧ W.cell? ⟨w.heap.size, 2, none⟩ = some (.int .i64 t.f2) ∧ W.cell? ⟨w.heap.size, 3, none⟩ = some (.slice A t.f3.length ca) ∧ W.cell? ⟨g5, 0, none⟩ = some (.int .i64 cp.f0) ∧ W.cell? ⟨g5, 1, none⟩ = some (.string cp.f1) ∧ W.cell? ⟨g5, 2, none⟩ = some (.int .i64 cp.f2) ∧ W.cell? ⟨g5, 3, none⟩ = some (.slice A5 cp.f3.length c5) ∧ W.cell? ⟨g18, 0, none⟩ = some (.int .i64 x.f0) ∧ W.cell? ⟨g18, 1, none⟩ = some (.string x.f1) ∧ W.cell? ⟨g18, 2, none⟩ = some (.int .i64 x.f2) ∧ W.cell? ⟨g18, 3, none⟩ = some (.slice A18 x.f3.length c18) ∧ W.cell? ⟨g25, 0, none⟩ = some (.int .i64 x.f0) ∧ W.cell? ⟨g25, 1, none⟩ = some (.string x.f1) ∧ W.cell? ⟨g25, 2, none⟩ = some (.int .i64 x.f2) ∧ W.cell? ⟨g25, 3, none⟩ = some (.slice A25 x.f3.length c25) from fun W hW => by
    have m1 := blk_below kA' hW
    have m2 := blk_below kW' hW
    have m3 := blk_below k18 hW
    have m4 := blk_below k25 hW
    exact ⟨blk_cell m1 0, blk_cell m1 1, blk_cell m1 2, blk_cell m1 3, blk_cell m2 0, blk_cell m2 1, blk_cell m2 2, blk_cell m2 3, blk_cell m3 0, blk_cell m3 1, blk_cell m3 2, blk_cell m3 3, blk_cell m4 0, blk_cell m4 1, blk_cell m4 2, blk_cell m4 3⟩)
  have hok := HOK.out
  have sht := ((okT_iff t).1 hok).1
  have shc : shT cp = true := by rw [HC.out]; exact ((okT_iff _).1 (nrm_ok hok)).1
  have shx : shT x = true := by
    rw [← HX.out, renT_ok hok (by decide) (by decide)]
    exact ((okT_iff _).1 (ok_renS (rnf (varsT t []) 1) hok (fun v hv => (rnf_bounds v hv).1))).1
  have e1 : decide (ordT t cp = 0) = true := by rw [HC.out]; exact decide_eq_true (nrm_same' hok)
  have e2 : decide (ordT x x = 0) = true := decide_eq_true (ordT_refl x)
  have E1 := Lib.hid e1
  have E2 := Lib.hid e2
  have cA : ∀ W, Below wz.heap.size wz W → Calls Try.prog 40 #[.agg #[.int .i64 t.f0, .string t.f1, .int .i64 t.f2, .slice A t.f3.length ca], .agg #[.int .i64 cp.f0, .string cp.f1, .int .i64 cp.f2, .slice A5 cp.f3.length c5]] W fun e w' => e = .returned (.bool true) ∧ Below wz.heap.size wz w' := fun W hW => by
    have := rsame_at LA' LW' hW sht shc; rw [E1.out] at this; exact this
  have cX : ∀ W, Below wz.heap.size wz W → Calls Try.prog 40 #[.agg #[.int .i64 x.f0, .string x.f1, .int .i64 x.f2, .slice A25 x.f3.length c25], .agg #[.int .i64 x.f0, .string x.f1, .int .i64 x.f2, .slice A18 x.f3.length c18]] W fun e w' => e = .returned (.bool true) ∧ Below wz.heap.size wz w' := fun W hW => by
    have := rsame_at L25' L18 hW shx shx; rw [E2.out] at this; exact this
  clear hok sht shc shx e1 e2 E1 E2 HC HOK HX HM1 HM2 LA LW LA' LW' L18 L25' k18 k25 kA' kW' kA kW k2 k6 k8 k11 k14 wfx HP plt pge ptop p50 pg6 pg8 pg11 pg14 pg18 hm13 hm15' hB F hf hf2 hAlt hsa
  obtain ⟨p0, p1, p2, p3, p4, p5, p6, p7, p8, p9, p10, p11, p12, p13, p14, p15⟩ := HS.out _ (Below.refl _ wz)
  have hcall := cA wz (Below.refl _ wz)
  go_wp2_with fail
  refine hcall.mono ?_
  rintro e wy ⟨rfl, d1⟩
  clear hcall p0 p1 p2 p3 p4 p5 p6 p7 p8 p9 p10 p11 p12 p13 p14 p15
  obtain ⟨p0, p1, p2, p3, p4, p5, p6, p7, p8, p9, p10, p11, p12, p13, p14, p15⟩ := HS.out _ d1
  have hcall := cX wy d1
  go_wp2_with fail
  refine hcall.mono ?_
  rintro e wx ⟨rfl, d2⟩
  clear hcall p0 p1 p2 p3 p4 p5 p6 p7 p8 p9 p10 p11 p12 p13 p14 p15
  go_wp2
  go_ret
  exact ⟨rfl, below_step (below_step H5.out hBz) d2⟩
end Go.Proofs.Ytpnkaggkedepeaa
