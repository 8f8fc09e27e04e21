/- OpsApart walked. -/
import Derived.Test.YtlphglmjfklndaaDoorOpPl
namespace Go.Proofs.YtlphglmjfklndaaDoor
set_option linter.unusedVariables false
open Go.RowKit Go.Shelf Go.Maps Go.Proofs.YtlphglmjfklndaaDoorW.PrintWords Go.Proofs.YtlphglmjfklndaaDoorW.PrintLast Go.Proofs.YtlphglmjfklndaaDoorW.PrintMore Go.Proofs.YtlphglmjfklndaaDoor.POpsApart Go.Extern

theorem op_read {w0 W : World} {A : Option Addr} {len k : Nat} {os : List S27} (h : OpsAt w0 A len os) (hb : Below w0.heap.size w0 W) (hk : k < os.length) : ∃ ad o, o = rd_T27 os k ∧ OpW o ∧ A = some ad ∧
    W.cell? (ad.add (k * 3)) = some (.string o.f0) ∧ W.cell? ⟨(ad.add (k * 3)).block, (ad.add (k * 3)).off + 1, none⟩ = some (.int .i64 o.f1) ∧ W.cell? ⟨(ad.add (k * 3)).block, (ad.add (k * 3)).off + 2, none⟩ = some (.int .i64 o.f2) := by
  obtain ⟨ad, e, x0, x1, x2⟩ := at_T27 (Kd.C_below h.C hb) (k : Int) (by omega) (by omega)
  simp only [Int.toNat_natCast] at x0 x1 x2
  exact ⟨ad, _, rfl, h.wf _ (rd_mem hk), e, x0, x1, x2⟩
/-- Where operators lie, their number still fits. -/
theorem OpsAt.le {w0 : World} {A : Option Addr} {len : Nat} {os : List S27} (h : OpsAt w0 A len os) : len ≤ 4611686018427387904 := by
  have := h.sz
  unfold reachBytes at this
  omega

set_option maxHeartbeats 8000000 in
set_option maxRecDepth 100000 in
theorem apart_law (w : World) (A B C : Option Addr) (na nb nc ca cb cc : Nat) (xa xb xc : List S27) (hA : OpsAt w A na xa) (hB : OpsAt w B nb xb) (hC : OpsAt w C nc xc) :
    Calls Tryd.prog 3 #[.slice A na ca, .slice B nb cb, .slice C nc cc] w fun e w' => e = .returned (.bool true) ∧ Below w.heap.size w w' := by
  have la := hA.le
  have lb := hB.le
  have lc := hC.le
  obtain rfl := hA.leq
  obtain rfl := hB.leq
  obtain rfl := hC.leq
  have hN := new_at w w [] (Tabs.nil w)
  go_enter Tryd.func3, Tryd.ntmps3
  go_wp2_with fail
  refine hN.mono ?_
  rintro e w1 ⟨rfl, hT1, hb1⟩
  clear hN hb1
  obtain ⟨mt, hmt⟩ : ∃ mt, mt = w.heap.size := ⟨_, rfl⟩
  rw [← hmt] at hT1 ⊢
  have HMT := Lib.hid hmt
  clear hmt
  have hN := new_at w w1 _ hT1
  go_wp2_with fail
  refine hN.mono ?_
  rintro e w2 ⟨rfl, hT2, hb2⟩
  clear hN hb2 hT1
  obtain ⟨mu, hmu⟩ : ∃ mu, mu = w1.heap.size := ⟨_, rfl⟩
  rw [← hmu] at hT2 ⊢
  have HMU := Lib.hid hmu
  clear hmu
  have hA2 := alive_any w2
  go_wp2_with fail
  refine hA2.mono ?_
  rintro e w3 ⟨rfl, hb3⟩
  have hT3 := hT2.mono hb3
  clear hA2 hb3 hT2
  go_wp2
  go_loopw [36] (fun i wr => ∃ k : Nat, k ≤ xa.length ∧ i = .int .i64 k ∧ ∃ L, Tabs w wr [(mu + 1, mu, L), (mt + 1, mt, L)]) (fun i _ => xa.length - (intOf i).toNat)
  case atStart => exact ⟨0, Nat.zero_le _, rfl, L0, hT3⟩
  case round =>
    clear hT3
    obtain ⟨k, hk, rfl, L, hT⟩ := hrel
    by_cases hlt : k < xa.length
    · obtain ⟨ad, o, ho, ⟨hos, _, _⟩, e, x0, x1, x2⟩ := op_read hA hT.below (k := k) (by omega)
      cases e
      clear ho hA hB hC
      have hT2 := hT.alloc (.cells #[.string o.f0, .int .i64 o.f1, .int .i64 o.f2] 27)
      have kO := blk_new wr (.cells #[.string o.f0, .int .i64 o.f1, .int .i64 o.f2] 27)
      have hAll := all_at w _ _ hT2 (mt + 1) mt L (by simp)
      go_wp2_with fail
      refine hAll.mono ?_
      rintro e w4 ⟨A1, cap1, ys1, rfl, _, _, _, _, _, hT4, hb4⟩
      have kO4 := blk_below kO hb4
      obtain ⟨bx, hbx⟩ : ∃ bx, bx = wr.heap.size := ⟨_, rfl⟩
      rw [← hbx] at kO4 ⊢
      have hx1 : bx ≠ mt := fun e => by have := (hT.tab _ (by simp : (mt + 1, mt, L) ∈ _)).mlt; simp only at this; omega
      have hx2 : bx ≠ mu := fun e => by have := (hT.tab _ (by simp : (mu + 1, mu, L) ∈ _)).mlt; simp only at this; omega
      clear hAll x0 x1 x2 hT2 kO hT hb4 hbx
      obtain ⟨c1, hc1⟩ : ∃ c1, c1 = (addT o L).1 := ⟨_, rfl⟩
      obtain ⟨L1, hL1⟩ : ∃ L1, L1 = (addT o L).2 := ⟨_, rfl⟩
      have hcode : (c1 = 0 ∧ addT o L1 = (0, L1)) ∨ ((c1 != 0) = true ∧ addT o L1 = (c1, L1) ∧ L1 = L) := by
        by_cases hz : (addT o L).1 = 0
        · exact .inl ⟨by rw [hc1, hz], by rw [hL1]; exact addT_again o L hz⟩
        · have h2 := addT_refused o L hz
          refine .inr ⟨by rw [hc1]; simpa using hz, ?_, by rw [hL1, h2]⟩
          rw [hL1, h2, hc1]
          exact Prod.ext rfl h2
      go_upto_region 8 with (fail)
      have HCO := Lib.hid hcode
      obtain ⟨ob, hob⟩ : ∃ ob : Obj, ob = .cells #[.string o.f0, .int .i64 o.f1, .int .i64 o.f2] 27 (0, 0) := ⟨_, rfl⟩
      have hF1 : Calls Tryd.prog 10 #[.pointer (some ⟨mt + 1, 0, none⟩), .agg #[.string o.f0, .int .i64 o.f1, .int .i64 o.f2]] w4.drew fun e w' => e = .returned (.int .i64 c1) ∧ Tabs w w' [(mu + 1, mu, L), (mt + 1, mt, L1)] ∧ w'.heap[bx]? = some ob ∧
          w'.cell? ⟨bx, 0, none⟩ = some (.string o.f0) ∧ w'.cell? ⟨bx, 1, none⟩ = some (.int .i64 o.f1) ∧ w'.cell? ⟨bx, 2, none⟩ = some (.int .i64 o.f2) := by
        have := add_at w w4.drew [(mu + 1, mu, L)] [] (mt + 1) mt L hT4.drew o hos
        rw [← hc1, ← hL1] at this
        refine this.mono ?_
        rintro e wa ⟨he, hTa, hga⟩
        have ka := (hga.block bx (blk_lt kO4) (fun e => hx1 (Option.some.inj e))).trans kO4
        exact ⟨he, hTa, by rw [hob]; exact ka, blk_cell ka 0, blk_cell ka 1, blk_cell ka 2⟩
      have hF2 : ∀ W, Tabs w W [(mu + 1, mu, L), (mt + 1, mt, L1)] → W.heap[bx]? = some ob → Calls Tryd.prog 10 #[.pointer (some ⟨mu + 1, 0, none⟩), .agg #[.string o.f0, .int .i64 o.f1, .int .i64 o.f2]] W fun e w' => e = .returned (.int .i64 c1) ∧ Tabs w w' [(mu + 1, mu, L1), (mt + 1, mt, L1)] ∧ w'.heap[bx]? = some ob := fun W h hk => by
        have := add_at w W [] [(mt + 1, mt, L1)] (mu + 1) mu L h o hos
        rw [← hc1, ← hL1] at this
        exact this.mono fun e w' ⟨a, b, c⟩ => ⟨a, b, (c.block bx (blk_lt hk) (fun e => hx2 (Option.some.inj e))).trans hk⟩
      have HC1 := Lib.hid hc1
      have HL1 := Lib.hid hL1
      have HOB := Lib.hid hob
      clear hcode hc1 hL1 hob
      go_cut [48] from 42 to 48 (fun v wx => v = .bool false ∧ Tabs w wx [(mu + 1, mu, L1), (mt + 1, mt, L1)] ∧ wx.heap[bx]? = some ob)
      case first =>
        have o0 := blk_cell kO4 0
        have o1 := blk_cell kO4 1
        have o2 := blk_cell kO4 2
        go_region_with (first
          | (go_at_call 10; with_reducible refine hF1.mono ?_; rintro e wa ⟨rfl, hTa, ka, q0, q1, q2⟩)
          | (go_at_call 10; with_reducible refine (hF2 _ hTa ka).mono ?_; rintro e wb ⟨rfl, hTb, kb⟩))
        all_goals
          go_wp2
          go_meet
          case rel => exact ⟨rfl, hTb, kb⟩
      case rest =>
      obtain ⟨rfl, hT5, kO5⟩ := hcut
      rw [HOB.out] at kO5
      have o0 := blk_cell kO5 0
      have o1 := blk_cell kO5 1
      have o2 := blk_cell kO5 2
      have hF := add_at w wc [(mu + 1, mu, L1)] [] (mt + 1) mt L1 hT5 o hos
      clear kO5 hT5 hT4 hF1 hF2 kO4
      rcases HCO.out with ⟨hc, h2⟩ | ⟨hc, h2, h3⟩
      · rw [h2] at hF
        have HK := Lib.hid hlt
        clear hc h2 HCO hlt
        go_wp2_with fail
        refine hF.mono ?_
        rintro e w6 ⟨rfl, hT6, _⟩
        clear hF o0 o1 o2
        go_wp2
        go_roundw
        case rel => exact ⟨k + 1, HK.out, by simp, L1, hT6⟩
        case measure => have := HK.out; simp [intOf]; omega
      · rw [h2] at hF
        have HK := Lib.hid hlt
        have H3 := Lib.hid h3
        clear h2 h3 HCO hlt
        go_wp2_with fail
        refine hF.mono ?_
        rintro e w6 ⟨rfl, hT6, _⟩
        clear hF o0 o1 o2
        have hAll := all_at w w6 _ hT6 (mt + 1) mt L1 (by simp)
        rw [H3.out] at hAll
        go_wp2_with fail
        refine hAll.mono ?_
        rintro e w7 ⟨A2, cap2, ys2, rfl, _, _, _, _, _, hT7, _⟩
        clear hAll hT6
        go_wp2
        go_roundw
        case rel => exact ⟨k + 1, HK.out, by simp, L, hT7⟩
        case measure => have := HK.out; simp [intOf]; omega
    · obtain rfl : k = xa.length := by omega
      have HH := Lib.hid (And.intro hA (And.intro hB hC))
      clear hA hB hC hlt
      have hCl := clone_at w wr _ hT (mt + 1) mt L (by simp)
      go_wp2_with fail
      refine hCl.mono ?_
      rintro e w8 ⟨rfl, hT8, _⟩
      obtain ⟨mc, hmc⟩ : ∃ mc, mc = wr.heap.size := ⟨_, rfl⟩
      rw [← hmc] at hT8 ⊢
      clear hCl hT hmc
      obtain ⟨hA, hB, hC⟩ := HH.out
      go_wp2
      go_loopw [68] (fun i wr => ∃ k : Nat, k ≤ xb.length ∧ i = .int .i64 k ∧ Tabs w wr [(mc + 1, mc, L), (mu + 1, mu, L), (mt + 1, mt, addL L (xb.take k))]) (fun i _ => xb.length - (intOf i).toNat)
      case atStart => exact ⟨0, Nat.zero_le _, rfl, hT8⟩
      case round =>
        clear hT8
        obtain ⟨k, hk, rfl, hT⟩ := hrel
        by_cases hlt : k < xb.length
        · obtain ⟨ad, o, ho, ⟨hos, _, _⟩, e, x0, x1, x2⟩ := op_read hB hT.below (k := k) hlt
          cases e
          have hs := addL_snoc L xb k hlt
          rw [← ho] at hs
          have HS := Lib.hid hs
          clear ho hs hA hB hC HH
          have hF := add_at w _ [(mc + 1, mc, L), (mu + 1, mu, L)] [] (mt + 1) mt _ (hT.alloc (.cells #[.string o.f0, .int .i64 o.f1, .int .i64 o.f2] 27)) o hos
          rw [← HS.out] at hF
          have kO := blk_new wr (.cells #[.string o.f0, .int .i64 o.f1, .int .i64 o.f2] 27)
          have o0 := blk_cell kO 0
          have o1 := blk_cell kO 1
          have o2 := blk_cell kO 2
          clear kO hT
          have HK := Lib.hid hlt
          go_wp2_with fail
          refine hF.mono ?_
          rintro e w6 ⟨rfl, hT6, _⟩
          clear hF o0 o1 o2 x0 x1 x2
          go_wp2
          go_roundw
          case rel => exact ⟨k + 1, HK.out, by simp, hT6⟩
          case measure => have := HK.out; simp [intOf]; omega
        · obtain rfl : k = xb.length := by omega
          rw [List.take_length] at hT
          clear hlt hk
          obtain ⟨M2, hM2⟩ : ∃ M, M = addL L xb := ⟨_, rfl⟩
          rw [← hM2] at hT
          have HM2 := Lib.hid hM2
          clear hM2
          go_wp2
          go_loopw [78] (fun i wr => ∃ k : Nat, k ≤ xc.length ∧ i = .int .i64 k ∧ Tabs w wr [(mc + 1, mc, addL L (xc.take k)), (mu + 1, mu, L), (mt + 1, mt, M2)]) (fun i _ => xc.length - (intOf i).toNat)
          case atStart => exact ⟨0, Nat.zero_le _, rfl, hT⟩
          case round =>
            clear hT
            obtain ⟨k, hk, rfl, hT⟩ := hrel
            by_cases hlt : k < xc.length
            · obtain ⟨ad, o, ho, ⟨hos, _, _⟩, e, x0, x1, x2⟩ := op_read hC hT.below (k := k) hlt
              cases e
              have hs := addL_snoc L xc k hlt
              rw [← ho] at hs
              have HS := Lib.hid hs
              clear ho hs hA hB hC HH
              have hF := add_at w _ [] [(mu + 1, mu, L), (mt + 1, mt, M2)] (mc + 1) mc _ (hT.alloc (.cells #[.string o.f0, .int .i64 o.f1, .int .i64 o.f2] 27)) o hos
              rw [← HS.out] at hF
              have kO := blk_new wr (.cells #[.string o.f0, .int .i64 o.f1, .int .i64 o.f2] 27)
              have o0 := blk_cell kO 0
              have o1 := blk_cell kO 1
              have o2 := blk_cell kO 2
              clear kO hT
              have HK := Lib.hid hlt
              go_wp2_with fail
              refine hF.mono ?_
              rintro e w6 ⟨rfl, hT6, _⟩
              clear hF o0 o1 o2 x0 x1 x2
              go_wp2
              go_roundw
              case rel => exact ⟨k + 1, HK.out, by simp, hT6⟩
              case measure => have := HK.out; simp [intOf]; omega
            · obtain rfl : k = xc.length := by omega
              rw [List.take_length] at hT
              clear hlt hk
              obtain ⟨M3, hM3⟩ : ∃ M, M = addL L xc := ⟨_, rfl⟩
              rw [← hM3] at hT
              have HM3 := Lib.hid hM3
              clear hM3
              have hCl := clone_at w wr _ hT (mu + 1) mu L (by simp)
              clear hA hB hC
              go_wp2_with fail
              refine hCl.mono ?_
              rintro e w9 ⟨rfl, hT9, _⟩
              obtain ⟨mv, hmv⟩ : ∃ mv, mv = wr.heap.size := ⟨_, rfl⟩
              rw [← hmv] at hT9 ⊢
              clear hCl hT hmv
              obtain ⟨hA, hB, hC⟩ := HH.out
              go_wp2
              go_loopw [90] (fun i wr => ∃ k : Nat, k ≤ xb.length ∧ i = .int .i64 k ∧ Tabs w wr [(mv + 1, mv, addL L (xb.take k)), (mc + 1, mc, M3), (mu + 1, mu, L), (mt + 1, mt, M2)]) (fun i _ => xb.length - (intOf i).toNat)
              case atStart => exact ⟨0, Nat.zero_le _, rfl, hT9⟩
              case round =>
                clear hT9
                obtain ⟨k, hk, rfl, hT⟩ := hrel
                by_cases hlt : k < xb.length
                · obtain ⟨ad, o, ho, ⟨hos, _, _⟩, e, x0, x1, x2⟩ := op_read hB hT.below (k := k) hlt
                  cases e
                  have hs := addL_snoc L xb k hlt
                  rw [← ho] at hs
                  have HS := Lib.hid hs
                  clear ho hs hA hB hC HH
                  have hF := add_at w _ [] [(mc + 1, mc, M3), (mu + 1, mu, L), (mt + 1, mt, M2)] (mv + 1) mv _ (hT.alloc (.cells #[.string o.f0, .int .i64 o.f1, .int .i64 o.f2] 27)) o hos
                  rw [← HS.out] at hF
                  have kO := blk_new wr (.cells #[.string o.f0, .int .i64 o.f1, .int .i64 o.f2] 27)
                  have o0 := blk_cell kO 0
                  have o1 := blk_cell kO 1
                  have o2 := blk_cell kO 2
                  clear kO hT
                  have HK := Lib.hid hlt
                  go_wp2_with fail
                  refine hF.mono ?_
                  rintro e w6 ⟨rfl, hT6, _⟩
                  clear hF o0 o1 o2 x0 x1 x2
                  go_wp2
                  go_roundw
                  case rel => exact ⟨k + 1, HK.out, by simp, hT6⟩
                  case measure => have := HK.out; simp [intOf]; omega
                · obtain rfl : k = xb.length := by omega
                  rw [List.take_length] at hT
                  clear hlt hk
                  obtain ⟨M4, hM4⟩ : ∃ M, M = addL L xb := ⟨_, rfl⟩
                  rw [← hM4] at hT
                  have HM4 := Lib.hid hM4
                  clear hM4
                  go_wp2
                  go_loopw [100] (fun i wr => ∃ k : Nat, k ≤ xc.length ∧ i = .int .i64 k ∧ Tabs w wr [(mv + 1, mv, M4), (mc + 1, mc, M3), (mu + 1, mu, addL L (xc.take k)), (mt + 1, mt, M2)]) (fun i _ => xc.length - (intOf i).toNat)
                  case atStart => exact ⟨0, Nat.zero_le _, rfl, hT⟩
                  case round =>
                    clear hT
                    obtain ⟨k, hk, rfl, hT⟩ := hrel
                    by_cases hlt : k < xc.length
                    · obtain ⟨ad, o, ho, ⟨hos, _, _⟩, e, x0, x1, x2⟩ := op_read hC hT.below (k := k) hlt
                      cases e
                      have hs := addL_snoc L xc k hlt
                      rw [← ho] at hs
                      have HS := Lib.hid hs
                      clear ho hs hA hB hC HH
                      have hF := add_at w _ [(mv + 1, mv, M4), (mc + 1, mc, M3)] [(mt + 1, mt, M2)] (mu + 1) mu _ (hT.alloc (.cells #[.string o.f0, .int .i64 o.f1, .int .i64 o.f2] 27)) o hos
                      rw [← HS.out] at hF
                      have kO := blk_new wr (.cells #[.string o.f0, .int .i64 o.f1, .int .i64 o.f2] 27)
                      have o0 := blk_cell kO 0
                      have o1 := blk_cell kO 1
                      have o2 := blk_cell kO 2
                      clear kO hT
                      have HK := Lib.hid hlt
                      go_wp2_with fail
                      refine hF.mono ?_
                      rintro e w6 ⟨rfl, hT6, _⟩
                      clear hF o0 o1 o2 x0 x1 x2
                      go_wp2
                      go_roundw
                      case rel => exact ⟨k + 1, HK.out, by simp, hT6⟩
                      case measure => have := HK.out; simp [intOf]; omega
                    · obtain rfl : k = xc.length := by omega
                      rw [List.take_length] at hT
                      clear hlt hk
                      obtain ⟨M5, hM5⟩ : ∃ M, M = addL L xc := ⟨_, rfl⟩
                      rw [← hM5] at hT
                      have HM5 := Lib.hid hM5
                      clear hM5
                      obtain rfl : M4 = M2 := HM4.out.trans HM2.out.symm
                      obtain rfl : M5 = M3 := HM5.out.trans HM3.out.symm
                      clear hA hB hC HH HM2 HM3 HM4 HM5
                      have l2 := (hT.tab _ (by simp : (mt + 1, mt, M4) ∈ _)).len
                      have l3 := (hT.tab _ (by simp : (mc + 1, mc, M5) ∈ _)).len
                      simp only at l2 l3
                      have HL := Lib.hid (And.intro l2 l3)
                      clear l2 l3
                      have hAll := all_at w wr _ hT (mt + 1) mt M4 (by simp)
                      go_wp2_with fail
                      refine hAll.mono ?_
                      rintro e w10 ⟨A10, cap10, ys10, rfl, hl10, hc10, hp10, ho10, hC10, hT10, hb10⟩
                      clear hAll
                      have hAll := all_at w w10 _ hT10 (mv + 1) mv M4 (by simp)
                      go_wp2_with fail
                      refine hAll.mono ?_
                      rintro e w11 ⟨A11, cap11, ys11, rfl, hl11, hc11, hp11, ho11, hC11, hT11, hb11⟩
                      clear hAll
                      obtain rfl : ys10 = ys11 := Ord.perm_eq ho10 ho11 (hp10.trans hp11.symm)
                      have hSm := same_at w11 A10 A11 cap10 cap11 M4.length ys10 hl10.symm (by have := HL.out.1; omega) (Kd.C_below hC10 hb11) hc10 hC11 hc11
                      go_wp2_with fail
                      refine hSm.mono ?_
                      rintro e w12 ⟨rfl, hb12⟩
                      have hT12 := hT11.mono hb12
                      clear hSm hC10 hC11 hp10 hp11 ho10 ho11 hl10 hl11 hc10 hc11 hT10 hT11 hT hb10 hb11 hb12
                      have hAll := all_at w w12 _ hT12 (mc + 1) mc M5 (by simp)
                      go_wp2_with fail
                      refine hAll.mono ?_
                      rintro e w13 ⟨A13, cap13, ys13, rfl, hl13, hc13, hp13, ho13, hC13, hT13, hb13⟩
                      clear hAll
                      have hAll := all_at w w13 _ hT13 (mu + 1) mu M5 (by simp)
                      go_wp2_with fail
                      refine hAll.mono ?_
                      rintro e w14 ⟨A14, cap14, ys14, rfl, hl14, hc14, hp14, ho14, hC14, hT14, hb14⟩
                      clear hAll
                      obtain rfl : ys13 = ys14 := Ord.perm_eq ho13 ho14 (hp13.trans hp14.symm)
                      have hSm := same_at w14 A13 A14 cap13 cap14 M5.length ys13 hl13.symm (by have := HL.out.2; omega) (Kd.C_below hC13 hb14) hc13 hC14 hc14
                      go_wp2_with fail
                      refine hSm.mono ?_
                      rintro e w15 ⟨rfl, hb15⟩
                      clear hSm
                      go_wp2
                      go_ret
                      exact ⟨rfl, (hT14.mono hb15).below⟩

end Go.Proofs.YtlphglmjfklndaaDoor
