/- The walk of TermRenames. -/
import Derived.Test.YtpnkaggkedepeaaTmGp
namespace Go.Proofs.Ytpnkaggkedepeaa
set_option linter.unusedVariables false
open Go.RowKit Go.Maps Go.Proofs.YtpnkaggkedepeaaW.PrintWords Go.Proofs.YtpnkaggkedepeaaW.PrintLast Go.Proofs.YtpnkaggkedepeaaW.PrintMore Go.Proofs.Ytpnkaggkedepeaa.PTermTells Go.Extern

set_option maxHeartbeats 8000000 in
set_option maxRecDepth 100000 in
theorem renames_law (hal : Alive) (t : S24) (a b : Int) (ha : I64 a) (hb : I64 b) (w : World) (A : Option Addr) (ct : Nat) (lt : Lies w t A ct) :
    Calls Try.prog 6 #[.agg #[.int .i64 t.f0, .string t.f1, .int .i64 t.f2, .slice A t.f3.length ct], .int .i64 a, .int .i64 b] w fun e w' => e = .returned (.bool true) ∧ Below w.heap.size w w' := by
  have HAL := Lib.hid hal
  have hB0 := below_alloc (Below.refl w.heap.size w) (.cells #[.int .i64 t.f0, .string t.f1, .int .i64 t.f2, .slice A t.f3.length ct] 24)
  have kT := blk_new w (.cells #[.int .i64 t.f0, .string t.f1, .int .i64 t.f2, .slice A t.f3.length ct] 24)
  have LT := lt.at hB0
  clear hal lt
  go_enter Try.func6, Try.ntmps6
  go_wp2_with fail
  refine (HAL.out _).mono ?_
  rintro e w1 ⟨rfl, hb1⟩
  have hBw := below_step hB0 hb1
  replace kT := blk_below kT hb1
  replace LT := LT.at hb1
  clear hb1 hB0 HAL
  have KT := Lib.hid kT
  have q0 := blk_cell kT 0
  have q1 := blk_cell kT 1
  have q2 := blk_cell kT 2
  have q3 := blk_cell kT 3
  clear kT
  have hcall := check_at LT (Below.refl w1.heap.size w1)
  cases hok : okT t with
  | false =>
    rw [hok, if_neg (by decide)] at hcall
    clear hok
    go_wp2_with fail
    refine hcall.mono ?_
    rintro e w2 ⟨rfl, hB2⟩
    clear hcall
    go_wp2
    go_ret
    exact ⟨rfl, below_step hBw hB2⟩
  | true =>
  rw [hok, if_pos rfl] at hcall
  have HOK := Lib.hid hok
  clear hok
  go_wp2_with fail
  refine hcall.mono ?_
  rintro e w2 ⟨rfl, hB2⟩
  clear hcall q0 q1 q2 q3
  by_cases ha1 : a < 1
  · go_wp2
    go_ret
    exact ⟨rfl, below_step hBw hB2⟩
  by_cases hb1 : b < 1
  · go_wp2
    go_ret
    exact ⟨rfl, below_step hBw hB2⟩
  by_cases ha2 : 1152921504606846976 < a
  · go_wp2
    go_ret
    exact ⟨rfl, below_step hBw hB2⟩
  by_cases hb2 : 1152921504606846976 < b
  · go_wp2
    go_ret
    exact ⟨rfl, below_step hBw hB2⟩
  have ha3 : 1 ≤ a := by omega
  have hb3 : 1 ≤ b := by omega
  have ha4 : a ≤ 1152921504606846976 := by omega
  have hb4 : b ≤ 1152921504606846976 := by omega
  obtain ⟨va, hva⟩ : ∃ va, va = varsT t [] := ⟨_, rfl⟩
  have hlv : va.length ≤ 2000 := by
    have h1 := varsT_len t []
    have h2 := nodes_ok HOK.out
    rw [← hva] at h1
    simp only [List.length_nil] at h1
    omega
  obtain ⟨x, hx⟩ : ∃ x, x = renS (rnf (varsT t []) a) t := ⟨_, rfl⟩
  obtain ⟨z, hz⟩ : ∃ z, z = renS (rnf (varsT t []) b) t := ⟨_, rfl⟩
  obtain ⟨p, hp⟩ : ∃ p, p = max a b + (va.length : Int) := ⟨_, rfl⟩
  obtain ⟨u, hu⟩ : ∃ u, u = renS (rnf (varsT t []) p) t := ⟨_, rfl⟩
  have g1 : ∀ n : Int, 1 ≤ n → ∀ v ∈ occT t, 1 ≤ rnf (varsT t []) n v := fun n hn v hv => by have := rnf_bounds (t := t) (n := n) v hv; omega
  have okx : okT x = true := by rw [hx]; exact ok_renS _ HOK.out (g1 a ha3)
  have okz : okT z = true := by rw [hz]; exact ok_renS _ HOK.out (g1 b hb3)
  have oku : okT u = true := by rw [hu]; exact ok_renS _ HOK.out (g1 p (by omega))
  have HRA : Hid (renT t a = (x, a + (va.length : Int), 0)) := Lib.hid (by rw [renT_ok HOK.out ha3 (by omega), hx, hva])
  have HRB : Hid (renT t b = (z, b + (va.length : Int), 0)) := Lib.hid (by rw [renT_ok HOK.out hb3 (by omega), hz, hva])
  have HRX : Hid (renT x b = (z, b + (va.length : Int), 0)) := Lib.hid (by
    rw [renT_ok okx hb3 (by omega), hx, ren_ren rnf_inj, vars_renS rnf_inj, List.length_map, hz, hva])
  have HRP : Hid (renT t (max a b + (va.length : Int)) = (u, p + (va.length : Int), 0)) := Lib.hid (by rw [← hp, renT_ok HOK.out (by omega) (by omega), hu, hva])
  have HSZ : Hid ((okT z && okT z && decide (ordT z z = 0)) = true) := Lib.hid (by rw [okz, ordT_refl]; rfl)
  have HVU : Hid (variantT u t = true) := Lib.hid (by
    unfold variantT
    rw [oku, HOK.out, renT_ok oku (by decide) (by decide), renT_ok HOK.out (by decide) (by decide), hu, ren_ren rnf_inj, ordT_refl]; rfl)
  have HVX : Hid (variantT x z = true) := Lib.hid (by rw [hx, hz]; exact variant_renS HOK.out rnf_inj rnf_inj (g1 a ha3) (g1 b hb3))
  obtain ⟨bs, hbs, hbl⟩ := solve_rens (g := rnf (varsT t []) p) (h := rnf (varsT t []) b) HOK.out rnf_inj (fun i hi j hj => by
    have h1 := rnf_bounds (t := t) (n := b) i hi
    have h2 := rnf_bounds (t := t) (n := p) j hj
    have h0 : (varsT t []).length = va.length := by rw [hva]
    omega) (g1 b hb3)
  rw [← hu, ← hz] at hbs
  have HBS := Lib.hid hbs
  have HBL : Hid (bs.length = va.length) := Lib.hid (by rw [hbl, hva])
  have HVA : Hid (varsOf t = va) := Lib.hid (by unfold varsOf; rw [if_pos HOK.out, hva])
  have HP := Lib.hid hp
  have ip : I64 (max a b + (va.length : Int)) := by unfold I64; omega
  clear hva hx hz hp hu g1 okx okz oku hbs hbl ha1 hb1 ha2 hb2
  have kT := blk_below KT.out hB2
  replace LT := LT.at hB2
  replace hBw := below_step hBw hB2
  clear KT hB2
  have q0 := blk_cell kT 0
  have q1 := blk_cell kT 1
  have q2 := blk_cell kT 2
  have q3 := blk_cell kT 3
  have KT := Lib.hid kT
  clear kT
  have hcall := rename_at LT ha (Below.refl w2.heap.size w2)
  rw [HRA.out] at hcall
  dsimp only at hcall
  go_wp2_with fail
  refine hcall.mono ?_
  rintro e w3 ⟨A3, c3, rfl, LX, hB3⟩
  clear hcall q0 q1 q2 q3
  go_upto_region 6 with (fail)
  have bb := below_alloc (Below.refl w3.heap.size w3) (.cells #[.int .i64 x.f0, .string x.f1, .int .i64 x.f2, .slice A3 x.f3.length c3] 24)
  have kT := blk_below (blk_below KT.out hB3) bb
  replace LT := (LT.at hB3).at bb
  have kX := blk_new w3 (.cells #[.int .i64 x.f0, .string x.f1, .int .i64 x.f2, .slice A3 x.f3.length c3] 24)
  have MX := LX.at bb
  replace hBw := below_step (below_step hBw hB3) bb
  generalize w3.alloc (.cells #[.int .i64 x.f0, .string x.f1, .int .i64 x.f2, .slice A3 x.f3.length c3] 24) = w4 at kT kX LT MX hBw bb ⊢
  clear bb hB3 LX KT
  generalize w3.heap.size = gX at kX ⊢
  have q0 := blk_cell kX 0
  have q1 := blk_cell kX 1
  have q2 := blk_cell kX 2
  have q3 := blk_cell kX 3
  have KT := Lib.hid kT
  have KX := Lib.hid kX
  clear kT kX
  have hcall := rename_at MX hb (Below.refl w4.heap.size w4)
  rw [HRX.out] at hcall
  dsimp only at hcall
  go_wp2_with fail
  refine hcall.mono ?_
  rintro e w5 ⟨A5, c5, rfl, LZ, hB5⟩
  clear hcall q0 q1 q2 q3
  go_upto_region 7 with (fail)
  have bb := below_alloc (Below.refl w5.heap.size w5) (.cells #[.int .i64 z.f0, .string z.f1, .int .i64 z.f2, .slice A5 z.f3.length c5] 24)
  have kT := blk_below (blk_below KT.out hB5) bb
  replace LT := (LT.at hB5).at bb
  have kX := blk_below (blk_below KX.out hB5) bb
  replace MX := (MX.at hB5).at bb
  have kZ := blk_new w5 (.cells #[.int .i64 z.f0, .string z.f1, .int .i64 z.f2, .slice A5 z.f3.length c5] 24)
  have MZ := LZ.at bb
  replace hBw := below_step (below_step hBw hB5) bb
  generalize w5.alloc (.cells #[.int .i64 z.f0, .string z.f1, .int .i64 z.f2, .slice A5 z.f3.length c5] 24) = w6 at kT kX kZ LT MX MZ hBw bb ⊢
  clear bb hB5 LZ KT KX
  generalize w5.heap.size = gZ at kZ ⊢
  have q0 := blk_cell kT 0
  have q1 := blk_cell kT 1
  have q2 := blk_cell kT 2
  have q3 := blk_cell kT 3
  have KT := Lib.hid kT
  have KX := Lib.hid kX
  have KZ := Lib.hid kZ
  clear kT kX kZ
  have hcall := rename_at LT hb (Below.refl w6.heap.size w6)
  rw [HRB.out] at hcall
  dsimp only at hcall
  go_wp2_with fail
  refine hcall.mono ?_
  rintro e w7 ⟨A7, c7, rfl, LZ, hB7⟩
  clear hcall q0 q1 q2 q3
  go_upto_region 8 with (fail)
  have bb := below_alloc (Below.refl w7.heap.size w7) (.cells #[.int .i64 z.f0, .string z.f1, .int .i64 z.f2, .slice A7 z.f3.length c7] 24)
  have kT := blk_below (blk_below KT.out hB7) bb
  replace LT := (LT.at hB7).at bb
  have kX := blk_below (blk_below KX.out hB7) bb
  replace MX := (MX.at hB7).at bb
  have kZ := blk_below (blk_below KZ.out hB7) bb
  replace MZ := (MZ.at hB7).at bb
  have kZ2 := blk_new w7 (.cells #[.int .i64 z.f0, .string z.f1, .int .i64 z.f2, .slice A7 z.f3.length c7] 24)
  have MZ2 := LZ.at bb
  replace hBw := below_step (below_step hBw hB7) bb
  generalize w7.alloc (.cells #[.int .i64 z.f0, .string z.f1, .int .i64 z.f2, .slice A7 z.f3.length c7] 24) = w8 at kT kX kZ kZ2 LT MX MZ MZ2 hBw bb ⊢
  clear bb hB7 LZ KT KX KZ
  generalize w7.heap.size = gZ2 at kZ2 ⊢
  have q0 := blk_cell kZ 0
  have q1 := blk_cell kZ 1
  have q2 := blk_cell kZ 2
  have q3 := blk_cell kZ 3
  have q4 := blk_cell kZ2 0
  have q5 := blk_cell kZ2 1
  have q6 := blk_cell kZ2 2
  have q7 := blk_cell kZ2 3
  have KT := Lib.hid kT
  have KX := Lib.hid kX
  have KZ := Lib.hid kZ
  have KZ2 := Lib.hid kZ2
  clear kT kX kZ kZ2
  have hcall := same_at MZ MZ2 (Below.refl w8.heap.size w8)
  rw [HSZ.out] at hcall
  go_wp2_with fail
  refine hcall.mono ?_
  rintro e w9 ⟨rfl, hB9⟩
  clear hcall q0 q1 q2 q3 q4 q5 q6 q7
  have kT := blk_below KT.out hB9
  replace LT := LT.at hB9
  have kX := blk_below KX.out hB9
  replace MX := MX.at hB9
  have kZ := blk_below KZ.out hB9
  replace MZ := MZ.at hB9
  have kZ2 := blk_below KZ2.out hB9
  replace MZ2 := MZ2.at hB9
  replace hBw := below_step hBw hB9
  clear hB9 KT KX KZ KZ2
  go_upto_region 10 with (fail)
  have q0 := blk_cell kT 0
  have q1 := blk_cell kT 1
  have q2 := blk_cell kT 2
  have q3 := blk_cell kT 3
  have KT := Lib.hid kT
  have KX := Lib.hid kX
  have KZ := Lib.hid kZ
  have KZ2 := Lib.hid kZ2
  clear kT kX kZ kZ2
  have hcall := rename_at LT ip (Below.refl w9.heap.size w9)
  rw [HRP.out] at hcall
  dsimp only at hcall
  go_wp2_with fail
  refine hcall.mono ?_
  rintro e w10 ⟨A10, c10, rfl, LU, hB10⟩
  clear hcall q0 q1 q2 q3
  go_upto_region 11 with (fail)
  have bb := below_alloc (Below.refl w10.heap.size w10) (.cells #[.int .i64 u.f0, .string u.f1, .int .i64 u.f2, .slice A10 u.f3.length c10] 24)
  have kT := blk_below (blk_below KT.out hB10) bb
  replace LT := (LT.at hB10).at bb
  have kX := blk_below (blk_below KX.out hB10) bb
  replace MX := (MX.at hB10).at bb
  have kZ := blk_below (blk_below KZ.out hB10) bb
  replace MZ := (MZ.at hB10).at bb
  have kZ2 := blk_below (blk_below KZ2.out hB10) bb
  replace MZ2 := (MZ2.at hB10).at bb
  have kU := blk_new w10 (.cells #[.int .i64 u.f0, .string u.f1, .int .i64 u.f2, .slice A10 u.f3.length c10] 24)
  have MU := LU.at bb
  replace hBw := below_step (below_step hBw hB10) bb
  generalize w10.alloc (.cells #[.int .i64 u.f0, .string u.f1, .int .i64 u.f2, .slice A10 u.f3.length c10] 24) = w11 at kT kX kZ kZ2 kU LT MX MZ MZ2 MU hBw bb ⊢
  clear bb hB10 LU KT KX KZ KZ2
  generalize w10.heap.size = gU at kU ⊢
  have q0 := blk_cell kU 0
  have q1 := blk_cell kU 1
  have q2 := blk_cell kU 2
  have q3 := blk_cell kU 3
  have q4 := blk_cell kT 0
  have q5 := blk_cell kT 1
  have q6 := blk_cell kT 2
  have q7 := blk_cell kT 3
  have KT := Lib.hid kT
  have KX := Lib.hid kX
  have KZ := Lib.hid kZ
  have KZ2 := Lib.hid kZ2
  have KU := Lib.hid kU
  clear kT kX kZ kZ2 kU
  have hcall := variant_at MU LT (Below.refl w11.heap.size w11)
  rw [HVU.out] at hcall
  go_wp2_with fail
  refine hcall.mono ?_
  rintro e w12 ⟨rfl, hB12⟩
  clear hcall q0 q1 q2 q3 q4 q5 q6 q7
  have kT := blk_below KT.out hB12
  replace LT := LT.at hB12
  have kX := blk_below KX.out hB12
  replace MX := MX.at hB12
  have kZ := blk_below KZ.out hB12
  replace MZ := MZ.at hB12
  have kZ2 := blk_below KZ2.out hB12
  replace MZ2 := MZ2.at hB12
  have kU := blk_below KU.out hB12
  replace MU := MU.at hB12
  replace hBw := below_step hBw hB12
  clear hB12 KT KX KZ KZ2 KU
  have q0 := blk_cell kX 0
  have q1 := blk_cell kX 1
  have q2 := blk_cell kX 2
  have q3 := blk_cell kX 3
  have q4 := blk_cell kZ2 0
  have q5 := blk_cell kZ2 1
  have q6 := blk_cell kZ2 2
  have q7 := blk_cell kZ2 3
  have KT := Lib.hid kT
  have KX := Lib.hid kX
  have KZ := Lib.hid kZ
  have KZ2 := Lib.hid kZ2
  have KU := Lib.hid kU
  clear kT kX kZ kZ2 kU
  have hcall := variant_at MX MZ2 (Below.refl w12.heap.size w12)
  rw [HVX.out] at hcall
  go_wp2_with fail
  refine hcall.mono ?_
  rintro e w13 ⟨rfl, hB13⟩
  clear hcall q0 q1 q2 q3 q4 q5 q6 q7
  have kT := blk_below KT.out hB13
  replace LT := LT.at hB13
  have kX := blk_below KX.out hB13
  replace MX := MX.at hB13
  have kZ := blk_below KZ.out hB13
  replace MZ := MZ.at hB13
  have kZ2 := blk_below KZ2.out hB13
  replace MZ2 := MZ2.at hB13
  have kU := blk_below KU.out hB13
  replace MU := MU.at hB13
  replace hBw := below_step hBw hB13
  clear hB13 KT KX KZ KZ2 KU
  go_upto_region 13 with (fail)
  have q0 := blk_cell kU 0
  have q1 := blk_cell kU 1
  have q2 := blk_cell kU 2
  have q3 := blk_cell kU 3
  have q4 := blk_cell kZ2 0
  have q5 := blk_cell kZ2 1
  have q6 := blk_cell kZ2 2
  have q7 := blk_cell kZ2 3
  have KT := Lib.hid kT
  clear kT kX kZ kZ2 kU
  have hcall := solve_at 3 3000 2 1 _ HBS.out (by decide) MU MZ2 (Below.refl w13.heap.size w13)
  dsimp only at hcall
  rw [HBL.out] at hcall
  go_wp2_with fail
  refine hcall.mono ?_
  rintro e wa ⟨Aa, ca, rfl, _, _, hBa⟩
  clear hcall q0 q1 q2 q3 q4 q5 q6 q7
  replace LT := LT.at hBa
  have kT := blk_below KT.out hBa
  replace hBw := below_step hBw hBa
  have q0 := blk_cell kT 0
  have q1 := blk_cell kT 1
  have q2 := blk_cell kT 2
  have q3 := blk_cell kT 3
  clear kT KT hBa
  have hcall := vars_at LT (Below.refl wa.heap.size wa)
  rw [HVA.out] at hcall
  go_wp2_with fail
  refine hcall.mono ?_
  rintro e wb ⟨Ab, cb, rfl, _, _, hBb⟩
  clear hcall q0 q1 q2 q3
  go_wp2
  go_ret
  exact ⟨rfl, below_step hBw hBb⟩
end Go.Proofs.Ytpnkaggkedepeaa
