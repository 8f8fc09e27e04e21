/- The walk of TermTells. -/
import Derived.Test.YtpnkaggkedepeaaTmQe
import Derived.Deep.RegionHeld3
namespace Go.Proofs.Ytpnkaggkedepeaa
set_option linter.unusedVariables false
open Go.RowKit Go.Maps Go.Proofs.YtpnkaggkedepeaaW.PrintWords Go.Proofs.YtpnkaggkedepeaaW.PrintLast Go.Proofs.YtpnkaggkedepeaaW.PrintMore Go.Proofs.Ytpnkaggkedepeaa.PTermTells Go.Extern

set_option maxHeartbeats 8000000 in
set_option maxRecDepth 100000 in
theorem tells_law (hal : Alive) (a b : S24) (w : World) (A B : Option Addr) (ca cb : Nat) (la : Lies w a A ca) (lb : Lies w b B cb) :
    Calls Try.prog 3 #[.agg #[.int .i64 a.f0, .string a.f1, .int .i64 a.f2, .slice A a.f3.length ca], .agg #[.int .i64 b.f0, .string b.f1, .int .i64 b.f2, .slice B b.f3.length cb]] w fun e w' => e = .returned (.bool true) ∧ Below w.heap.size w w' := by
  have HAL := Lib.hid hal
  have hB0 := below_alloc (below_alloc (Below.refl w.heap.size w) (.cells #[.int .i64 a.f0, .string a.f1, .int .i64 a.f2, .slice A a.f3.length ca] 24)) (.cells #[.int .i64 b.f0, .string b.f1, .int .i64 b.f2, .slice B b.f3.length cb] 24)
  have kA := blk_alloc (blk_new w (.cells #[.int .i64 a.f0, .string a.f1, .int .i64 a.f2, .slice A a.f3.length ca] 24)) (.cells #[.int .i64 b.f0, .string b.f1, .int .i64 b.f2, .slice B b.f3.length cb] 24)
  have kB := blk_new (w.alloc (.cells #[.int .i64 a.f0, .string a.f1, .int .i64 a.f2, .slice A a.f3.length ca] 24)) (.cells #[.int .i64 b.f0, .string b.f1, .int .i64 b.f2, .slice B b.f3.length cb] 24)
  rw [World.size_alloc] at kB
  have LA := la.at hB0
  have LB := lb.at hB0
  clear hal la lb
  go_enter Try.func3, Try.ntmps3
  go_wp2_with fail
  refine (HAL.out _).mono ?_
  rintro e w1 ⟨rfl, hb1⟩
  have hBw := below_step hB0 hb1
  replace kA := blk_below kA hb1
  replace kB := blk_below kB hb1
  replace LA := LA.at hb1
  replace LB := LB.at hb1
  clear hb1 hB0 HAL
  generalize w.heap.size + 1 = gb at kB ⊢
  have HS := Lib.hid (show ∀ W, Below w1.heap.size w1 W → W.cell? ⟨w.heap.size, 0, none⟩ = some (.int .i64 a.f0) ∧ W.cell? ⟨w.heap.size, 1, none⟩ = some (.string a.f1) ∧ W.cell? ⟨w.heap.size, 2, none⟩ = some (.int .i64 a.f2) ∧ W.cell? ⟨w.heap.size, 3, none⟩ = some (.slice A a.f3.length ca) ∧ W.cell? ⟨gb, 0, none⟩ = some (.int .i64 b.f0) ∧ W.cell? ⟨gb, 1, none⟩ = some (.string b.f1) ∧ W.cell? ⟨gb, 2, none⟩ = some (.int .i64 b.f2) ∧ W.cell? ⟨gb, 3, none⟩ = some (.slice B b.f3.length cb) from fun W hW => by
    have k1 := blk_below kA hW
    have k2 := blk_below kB hW
    exact ⟨blk_cell k1 0, blk_cell k1 1, blk_cell k1 2, blk_cell k1 3, blk_cell k2 0, blk_cell k2 1, blk_cell k2 2, blk_cell k2 3⟩)
  clear kA kB
  go_upto_region 3 with (fail)
  have d0 : Below w1.heap.size w1 w1.drew := (Below.refl _ w1).drew
  obtain ⟨oa, hoa⟩ : ∃ oa, oa = okT a := ⟨_, rfl⟩
  obtain ⟨ob, hob⟩ : ∃ ob, ob = okT b := ⟨_, rfl⟩
  have HOA := Lib.hid hoa
  have HOB := Lib.hid hob
  clear hoa hob
  have ca1 : ∀ W, Below w1.heap.size w1 W → Calls Try.prog 14 #[.agg #[.int .i64 a.f0, .string a.f1, .int .i64 a.f2, .slice A a.f3.length ca]] W fun e w' => e = .returned (.bool oa) ∧ Below w1.heap.size w1 w' := fun W hW => by
    rw [HOA.out]; exact rright_at LA hW
  have cb1 : ∀ W, Below w1.heap.size w1 W → Calls Try.prog 14 #[.agg #[.int .i64 b.f0, .string b.f1, .int .i64 b.f2, .slice B b.f3.length cb]] W fun e w' => e = .returned (.bool ob) ∧ Below w1.heap.size w1 w' := fun W hW => by
    rw [HOB.out]; exact rright_at LB hW
  go_cut [5, 6] from 11 to 17 (fun x y wx => x = .bool oa ∧ y = .bool ob ∧ Below w1.heap.size w1 wx)
  case first =>
    go_region_held3 (fun W : World => W.cell? ⟨w.heap.size, 0, none⟩ = some (.int .i64 a.f0) ∧ W.cell? ⟨w.heap.size, 1, none⟩ = some (.string a.f1) ∧ W.cell? ⟨w.heap.size, 2, none⟩ = some (.int .i64 a.f2) ∧ W.cell? ⟨w.heap.size, 3, none⟩ = some (.slice A a.f3.length ca) ∧ W.cell? ⟨gb, 0, none⟩ = some (.int .i64 b.f0) ∧ W.cell? ⟨gb, 1, none⟩ = some (.string b.f1) ∧ W.cell? ⟨gb, 2, none⟩ = some (.int .i64 b.f2) ∧ W.cell? ⟨gb, 3, none⟩ = some (.slice B b.f3.length cb)) ((refine HS.out _ ?_; with_reducible assumption))
      (first
      | (go_at_call 14; (with_reducible refine (ca1 _ (by assumption)).mono ?_); rintro e wy ⟨rfl, d1⟩)
      | (go_at_call 14; (with_reducible refine (cb1 _ (by assumption)).mono ?_); rintro e wy ⟨rfl, d1⟩))
    all_goals (go_wp2_with fail; go_meet; exact ⟨rfl, rfl, by assumption⟩)
  case rest =>
  obtain ⟨rfl, rfl, hB2⟩ := hcut
  rename World => w2
  clear ca1 cb1 d0
  obtain ⟨p0, p1, p2, p3, p4, p5, p6, p7⟩ := HS.out _ hB2
  have hcall := check_at LA hB2
  cases oa with
  | false =>
    have hno : okT a = false := HOA.out.symm
    have e1 : sizeT a = 0 := by unfold sizeT; rw [hno, if_neg (by decide)]
    have e2 : depthT a = 0 := by unfold depthT; rw [hno, if_neg (by decide)]
    have e3 : varsOf a = [] := by unfold varsOf; rw [hno, if_neg (by decide)]
    have e4 : (okT a && okT b && decide (ordT a b = 0)) = false := by rw [hno]; rfl
    have e5 : (if (okT a && okT b) = true then ordT a b else 0) = 0 := by rw [hno]; rfl
    have e6 : variantT a b = false := by unfold variantT; rw [hno]; rfl
    have E1 := Lib.hid e1
    have E2 := Lib.hid e2
    have E3 := Lib.hid e3
    have E4 := Lib.hid e4
    have E5 := Lib.hid e5
    have E6 := Lib.hid e6
    rw [hno, if_neg (by decide)] at hcall
    have HNO := Lib.hid hno
    clear hno e1 e2 e3 e4 e5 e6
    go_wp2_with fail
    refine hcall.mono ?_
    rintro e w3 ⟨rfl, hB3⟩
    clear hcall p0 p1 p2 p3 p4 p5 p6 p7
    obtain ⟨p0, p1, p2, p3, p4, p5, p6, p7⟩ := HS.out _ hB3
    have hcall := check_at LA hB3
    rw [HNO.out, if_neg (by decide)] at hcall
    go_wp2_with fail
    refine hcall.mono ?_
    rintro e w4 ⟨rfl, hB4⟩
    clear hcall p0 p1 p2 p3 p4 p5 p6 p7
    obtain ⟨p0, p1, p2, p3, p4, p5, p6, p7⟩ := HS.out _ hB4
    have hcall := size_at LA hB4
    rw [E1.out] at hcall
    go_wp2_with fail
    refine hcall.mono ?_
    rintro e w5 ⟨rfl, hB5⟩
    clear hcall p0 p1 p2 p3 p4 p5 p6 p7
    obtain ⟨p0, p1, p2, p3, p4, p5, p6, p7⟩ := HS.out _ hB5
    have hcall := depth_at LA hB5
    rw [E2.out] at hcall
    go_wp2_with fail
    refine hcall.mono ?_
    rintro e w6 ⟨rfl, hB6⟩
    clear hcall p0 p1 p2 p3 p4 p5 p6 p7
    obtain ⟨p0, p1, p2, p3, p4, p5, p6, p7⟩ := HS.out _ hB6
    have hcall := vars_at LA hB6
    rw [E3.out] at hcall
    go_wp2_with fail
    refine hcall.mono ?_
    rintro e w7 ⟨A7, c7, rfl, _, _, hB7⟩
    clear hcall p0 p1 p2 p3 p4 p5 p6 p7
    obtain ⟨p0, p1, p2, p3, p4, p5, p6, p7⟩ := HS.out _ hB7
    have hcall := same_at LA LB hB7
    rw [E4.out] at hcall
    go_wp2_with fail
    refine hcall.mono ?_
    rintro e w8 ⟨rfl, hB8⟩
    clear hcall p0 p1 p2 p3 p4 p5 p6 p7
    obtain ⟨p0, p1, p2, p3, p4, p5, p6, p7⟩ := HS.out _ hB8
    have hcall := order_at LA LB hB8
    rw [E5.out] at hcall
    go_wp2_with fail
    refine hcall.mono ?_
    rintro e w9 ⟨rfl, hB9⟩
    clear hcall p0 p1 p2 p3 p4 p5 p6 p7
    obtain ⟨p0, p1, p2, p3, p4, p5, p6, p7⟩ := HS.out _ hB9
    have hcall := variant_at LA LB hB9
    rw [E6.out] at hcall
    go_wp2_with fail
    refine hcall.mono ?_
    rintro e w10 ⟨rfl, hB10⟩
    clear hcall p0 p1 p2 p3 p4 p5 p6 p7
    go_wp2
    go_ret
    exact ⟨rfl, below_step hBw hB10⟩
  | true =>
  have hyes : okT a = true := HOA.out.symm
  rw [hyes, if_pos rfl] at hcall
  have HYA := Lib.hid hyes
  clear hyes HOA
  go_wp2_with fail
  refine hcall.mono ?_
  rintro e w3 ⟨rfl, hB3⟩
  clear hcall hB2 p0 p1 p2 p3 p4 p5 p6 p7
  go_upto_region 8 with (fail)
  replace LA := LA.at hB3
  replace LB := LB.at hB3
  replace hBw := below_step hBw hB3
  have HT := Lib.hid (show ∀ W, Below w3.heap.size w3 W → W.cell? ⟨w.heap.size, 0, none⟩ = some (.int .i64 a.f0) ∧ W.cell? ⟨w.heap.size, 1, none⟩ = some (.string a.f1) ∧ W.cell? ⟨w.heap.size, 2, none⟩ = some (.int .i64 a.f2) ∧ W.cell? ⟨w.heap.size, 3, none⟩ = some (.slice A a.f3.length ca) ∧ W.cell? ⟨gb, 0, none⟩ = some (.int .i64 b.f0) ∧ W.cell? ⟨gb, 1, none⟩ = some (.string b.f1) ∧ W.cell? ⟨gb, 2, none⟩ = some (.int .i64 b.f2) ∧ W.cell? ⟨gb, 3, none⟩ = some (.slice B b.f3.length cb) from fun W hW => HS.out _ (below_step hB3 hW))
  clear HS hB3
  obtain ⟨va, hva⟩ : ∃ va, va = varsT a [] := ⟨_, rfl⟩
  have lva : va.length ≤ 2000 := by
    have h1 := varsT_len a []
    have h2 := nodes_ok HYA.out
    rw [← hva] at h1
    simp only [List.length_nil] at h1
    omega
  have hvo : varsOf a = va := by unfold varsOf; rw [if_pos HYA.out, hva]
  have HVA := Lib.hid hva
  have HVO := Lib.hid hvo
  clear hva hvo
  have cva : ∀ W, Below w3.heap.size w3 W → Calls Try.prog 18 #[.agg #[.int .i64 a.f0, .string a.f1, .int .i64 a.f2, .slice A a.f3.length ca]] W fun e w' => ∃ A' c', e = .returned (.slice A' va.length c') ∧ OutAt w' w3.heap.size (.slice A' va.length c') va ∧ (∀ q, (Value.slice A' va.length c').ownBlock = some q → W.heap.size ≤ q) ∧ Below W.heap.size W w' ∧ Below w3.heap.size w3 w' := fun W hW => by
    have := vars_of a W A ca (LA.at hW).C LA.le
    rw [HVO.out] at this
    refine this.mono fun e w' ⟨v, x, o, d⟩ => ?_
    obtain ⟨A', c', rfl, _, _⟩ := o.reads
    exact ⟨A', c', x, own_weaken o hW.size, fun q hq => (World.ownsRow.lt o q hq).1, d, below_step hW d⟩
  have d0 : Below w3.heap.size w3 w3.drew := (Below.refl _ w3).drew
  have T1 := Lib.hid trivial
  have T2 := Lib.hid trivial
  go_cut [7, 8] from 9 to 69 (fun x y wx => ∃ (A1 : Option Addr) (c1 : Nat) (A2 : Option Addr) (c2 : Nat), x = .slice A1 va.length c1 ∧ y = .slice A2 va.length c2 ∧ OutAt wx w3.heap.size (.slice A1 va.length c1) va ∧ OutAt wx w3.heap.size (.slice A2 va.length c2) va ∧
    (∀ q, (Value.slice A1 va.length c1).ownBlock = some q → (Value.slice A2 va.length c2).ownBlock ≠ some q) ∧ Below w3.heap.size w3 wx)
  case first =>
    go_region_held3 (fun W : World => W.cell? ⟨w.heap.size, 0, none⟩ = some (.int .i64 a.f0) ∧ W.cell? ⟨w.heap.size, 1, none⟩ = some (.string a.f1) ∧ W.cell? ⟨w.heap.size, 2, none⟩ = some (.int .i64 a.f2) ∧ W.cell? ⟨w.heap.size, 3, none⟩ = some (.slice A a.f3.length ca) ∧ W.cell? ⟨gb, 0, none⟩ = some (.int .i64 b.f0) ∧ W.cell? ⟨gb, 1, none⟩ = some (.string b.f1) ∧ W.cell? ⟨gb, 2, none⟩ = some (.int .i64 b.f2) ∧ W.cell? ⟨gb, 3, none⟩ = some (.slice B b.f3.length cb)) ((refine HT.out _ ?_; with_reducible assumption))
      (first
      | (go_at_call 18; clear T1; (with_reducible refine (cva _ (by assumption)).mono ?_); rintro e wy ⟨A1, c1, rfl, o1, n1, d1, D1⟩)
      | (go_at_call 18; clear T2; (with_reducible refine (cva _ (by assumption)).mono ?_); rintro e wz ⟨A2, c2, rfl, o2, n2, d2, D2⟩))
    all_goals
      have o3 := outAt_belowB o1 d2
      have hne : ∀ q, (Value.slice A1 va.length c1).ownBlock = some q → (Value.slice A2 va.length c2).ownBlock ≠ some q := fun q hq e2 => by
        have g1 := (World.ownsRow.lt o1 q hq).2
        have g2 := n2 q e2
        omega
      go_wp2_with fail
      go_meet
      first
      | exact ⟨A1, c1, A2, c2, rfl, rfl, o3, o2, hne, D2⟩
      | exact ⟨A2, c2, A1, c1, rfl, rfl, o2, o3, fun q hq e2 => hne q e2 hq, D2⟩
  case rest =>
  obtain ⟨A1, c1, A2, c2, rfl, rfl, O1, O2, hne, hB4⟩ := hcut
  rename World => w4
  clear cva d0 T1 T2
  have HNE := Lib.hid hne
  clear hne
  have LA3 := Lib.hid LA
  have LB3 := Lib.hid LB
  replace LA := LA.at hB4
  replace LB := LB.at hB4
  have HS := Lib.hid (show ∀ W, Below w4.heap.size w4 W → W.cell? ⟨w.heap.size, 0, none⟩ = some (.int .i64 a.f0) ∧ W.cell? ⟨w.heap.size, 1, none⟩ = some (.string a.f1) ∧ W.cell? ⟨w.heap.size, 2, none⟩ = some (.int .i64 a.f2) ∧ W.cell? ⟨w.heap.size, 3, none⟩ = some (.slice A a.f3.length ca) ∧ W.cell? ⟨gb, 0, none⟩ = some (.int .i64 b.f0) ∧ W.cell? ⟨gb, 1, none⟩ = some (.string b.f1) ∧ W.cell? ⟨gb, 2, none⟩ = some (.int .i64 b.f2) ∧ W.cell? ⟨gb, 3, none⟩ = some (.slice B b.f3.length cb) from fun W hW => HT.out _ (below_step hB4 hW))
  have hs4 := hB4.size
  have H4 := Lib.hid hB4
  clear hB4
  go_upto_region 9 with (fail)
  have hn2 := nodes_ok HYA.out
  have hd2 := ((okT_iff a).1 HYA.out).2.2
  have e1 : sizeT a = (nodes a : Int) := sizeT_ok HYA.out
  have e2 : depthT a = dpt a := depthT_ok HYA.out
  have e3 : min (nodes a : Int) (3000 + 1) = (nodes a : Int) := by omega
  have e4 : min (dpt a) (200 + 1) = dpt a := by omega
  have hnn := nodes_ok HYA.out
  obtain ⟨sz, hsz⟩ : ∃ sz : Int, sz = (nodes a : Int) := ⟨_, rfl⟩
  obtain ⟨dp, hdp⟩ : ∃ dp, dp = dpt a := ⟨_, rfl⟩
  have E1 := Lib.hid (e1.trans hsz.symm)
  have E2 := Lib.hid (e2.trans hdp.symm)
  have E3 := Lib.hid (e3.trans hsz.symm)
  have E4 := Lib.hid (e4.trans hdp.symm)
  have HNN := Lib.hid hnn
  clear e1 e2 e3 e4 hsz hdp hn2 hd2 hnn
  have c16 : ∀ W, Below w4.heap.size w4 W → Calls Try.prog 16 #[.agg #[.int .i64 a.f0, .string a.f1, .int .i64 a.f2, .slice A a.f3.length ca]] W fun e w' => e = .returned (.int .i64 sz) ∧ Below w4.heap.size w4 w' := fun W hW => by
    have := size_at LA hW; rw [E1.out] at this; exact this
  have c22 : ∀ W, Below w4.heap.size w4 W → Calls Try.prog 22 #[.agg #[.int .i64 a.f0, .string a.f1, .int .i64 a.f2, .slice A a.f3.length ca], .int .i64 3000] W fun e w' => e = .returned (.int .i64 sz) ∧ Below w4.heap.size w4 w' := fun W hW => by
    have := rsize_at LA hW (most := 3000) (by decide) (by decide); rw [E3.out] at this; exact this
  have c17 : ∀ W, Below w4.heap.size w4 W → Calls Try.prog 17 #[.agg #[.int .i64 a.f0, .string a.f1, .int .i64 a.f2, .slice A a.f3.length ca]] W fun e w' => e = .returned (.int .i64 dp) ∧ Below w4.heap.size w4 w' := fun W hW => by
    have := depth_at LA hW; rw [E2.out] at this; exact this
  have c23 : ∀ W, Below w4.heap.size w4 W → Calls Try.prog 23 #[.agg #[.int .i64 a.f0, .string a.f1, .int .i64 a.f2, .slice A a.f3.length ca], .int .i64 200] W fun e w' => e = .returned (.int .i64 dp) ∧ Below w4.heap.size w4 w' := fun W hW => by
    have := rdepth_at LA hW (left := 200) (by decide) (by decide) (by have := HNN.out; omega); rw [E4.out] at this; exact this
  have c25 : ∀ W, Below w4.heap.size w4 W → Calls Try.prog 25 #[.agg #[.int .i64 a.f0, .string a.f1, .int .i64 a.f2, .slice A a.f3.length ca]] W fun e w' => ∃ A' c', e = .returned (.slice A' va.length c') ∧ va.length ≤ c' ∧ OutAt w' w4.heap.size (.slice A' va.length c') va ∧ Below w4.heap.size w4 w' := fun W hW => by
    have := rVars_at LA hW (by have := HNN.out; omega)
    rw [← HVA.out] at this
    refine this.mono fun e w' ⟨A', c', x, l, o, d⟩ => ?_
    exact ⟨A', c', x, l, own_weaken o hW.size, below_step hW d⟩
  have hrow : ∀ {base : Nat} {A' : Option Addr} {c' : Nat} {W : World}, OutAt W base (.slice A' va.length c') va → va.length ≤ c' ∧ Kd.C (Kd.int .i64) W A' va.length va := fun {base A' c' W} o => by
    obtain ⟨A5, c5, e5, h5, C5⟩ := o.reads
    simp only [Value.slice.injEq, true_and] at e5
    obtain ⟨rfl, rfl⟩ := e5
    exact ⟨h5, C5⟩
  have c24 : ∀ {b1 b2 : Nat} {A' A'' : Option Addr} {c' c'' : Nat} (W : World), Below w4.heap.size w4 W → OutAt W b1 (.slice A' va.length c') va → OutAt W b2 (.slice A'' va.length c'') va →
      Calls Try.prog 24 #[.slice A' va.length c', .slice A'' va.length c''] W fun e w' => e = .returned (.bool true) ∧ Below w4.heap.size w4 w' := fun W hW o1 o2 => by
    have := pythiaref01_SameLongs.calls (va.length + 1) _ _ va _ _ va true W (hrow o1).2 (hrow o1).1 (hrow o2).2 (hrow o2).1 (by rw [sameLongs_pure va va (by omega)]; simp)
    exact this.mono fun e w' ⟨x, d⟩ => ⟨x, below_step hW (drawn_below d)⟩
  clear hrow
  have d0 : Below w4.heap.size w4 w4.drew := (Below.refl _ w4).drew
  have O14 : ∀ W, Below w4.heap.size w4 W → OutAt W w3.heap.size (.slice A1 va.length c1) va := fun W hW => outAt_belowB O1 hW
  go_cut [87] from 9 to 88 (fun x wx => x = .bool false ∧ Below w4.heap.size w4 wx)
  case first =>
    go_region_held3 (fun W : World => W.cell? ⟨w.heap.size, 0, none⟩ = some (.int .i64 a.f0) ∧ W.cell? ⟨w.heap.size, 1, none⟩ = some (.string a.f1) ∧ W.cell? ⟨w.heap.size, 2, none⟩ = some (.int .i64 a.f2) ∧ W.cell? ⟨w.heap.size, 3, none⟩ = some (.slice A a.f3.length ca)) ((obtain ⟨p0, p1, p2, p3, p4, p5, p6, p7⟩ := HS.out _ (by with_reducible assumption); exact ⟨p0, p1, p2, p3⟩))
      (first
      | (go_at_call 16; (with_reducible refine (c16 _ (by assumption)).mono ?_); rintro e wy ⟨rfl, d1⟩)
      | (go_at_call 22; (with_reducible refine (c22 _ (by assumption)).mono ?_); rintro e wy ⟨rfl, d1⟩)
      | (go_at_call 17; (with_reducible refine (c17 _ (by assumption)).mono ?_); rintro e wy ⟨rfl, d1⟩)
      | (go_at_call 23; (with_reducible refine (c23 _ (by assumption)).mono ?_); rintro e wy ⟨rfl, d1⟩)
      | (go_at_call 25; (with_reducible refine (c25 _ (by assumption)).mono ?_); rintro e wy ⟨A5, c5, rfl, l5, o5, d5⟩)
      | (go_at_call 24; (with_reducible refine (c24 _ (by assumption) (O14 _ (by assumption)) (by assumption)).mono ?_); rintro e wy ⟨rfl, d1⟩))
    all_goals (go_wp2_with fail; go_meet; exact ⟨rfl, by assumption⟩)
  case rest =>
  obtain ⟨rfl, hB5⟩ := hcut
  rename World => w5
  have O1' := outAt_belowB O1 hB5
  have O2' := outAt_belowB O2 hB5
  replace hB5 := below_step H4.out hB5
  clear c16 c22 c17 c23 c25 c24 d0 O14 O1 O2 LA LB HS E1 E2 E3 E4 H4
  have hva64 : va.length < 2 ^ 63 := by omega
  go_wp2
  go_loopw [90] (fun i wr => ∃ (k : Nat) (l : List Int), k ≤ va.length ∧ i = .int .i64 k ∧ l.length = va.length ∧ OutAt wr w3.heap.size (.slice A1 va.length c1) l ∧ OutAt wr w3.heap.size (.slice A2 va.length c2) va ∧ Below w3.heap.size w3 wr)
    (fun i _ => va.length - (intOf i).toNat)
  case atStart => exact ⟨0, va, Nat.zero_le _, rfl, rfl, O1', O2', hB5⟩
  case round =>
    obtain ⟨k, l, hk, rfl, hl, q1, q2, hb⟩ := hrel
    by_cases hlt : k < va.length
    · obtain ⟨g, rfl⟩ : ∃ g, A1 = some ⟨g, 0, none⟩ := by
        rcases q1.2 with ⟨h', _⟩ | ⟨g', cap', cur, h', _⟩
        · simp only [Value.slice.injEq] at h'; omega
        · simp only [Value.slice.injEq] at h'; exact ⟨g', h'.1⟩
      have hgg := World.ownsRow.lt q1 g rfl
      have y0 := World.ownsRow.cellAt (n := va.length) (by rw [← hl]; rw [← hl] at q1; exact q1) k (by omega)
      have y1 := World.ownsRow.frozenAt (n := l.length) (by rw [← hl] at q1; exact q1) k
      have hs := World.ownsRow.stored (n := l.length) (by rw [← hl] at q1; exact q1) k (.int .i64 (-1))
      go_wp2
      go_roundw
      case rel =>
        have hs1 : OutAt (wr.setCell ⟨g, k, none⟩ (.int .i64 (-1))) w3.heap.size (.slice (some ⟨g, 0, none⟩) va.length c1) (l.set k (-1)) := by
          have h1 := hs.1
          rw [← List.map_set] at h1
          unfold OutAt
          rw [List.length_set, ← hl]
          exact h1
        exact ⟨k + 1, l.set k (-1), by omega, by go_num, by rw [List.length_set]; exact hl, hs1, World.ownsRow.kept q2 hs.2 (.inr (HNE.out g rfl)), below_set hb hgg.1⟩
      case measure => simp [intOf]; omega
    · have hkl : k = va.length := by omega
      subst hkl
      clear hlt hk q1 hl HNE O1' O2' hB5
      replace hBw := below_step hBw hb
      have LA := LA3.out.at hb
      have LB := LB3.out.at hb
      have HS := Lib.hid (show ∀ W, Below wr.heap.size wr W → W.cell? ⟨w.heap.size, 0, none⟩ = some (.int .i64 a.f0) ∧ W.cell? ⟨w.heap.size, 1, none⟩ = some (.string a.f1) ∧ W.cell? ⟨w.heap.size, 2, none⟩ = some (.int .i64 a.f2) ∧ W.cell? ⟨w.heap.size, 3, none⟩ = some (.slice A a.f3.length ca) ∧ W.cell? ⟨gb, 0, none⟩ = some (.int .i64 b.f0) ∧ W.cell? ⟨gb, 1, none⟩ = some (.string b.f1) ∧ W.cell? ⟨gb, 2, none⟩ = some (.int .i64 b.f2) ∧ W.cell? ⟨gb, 3, none⟩ = some (.slice B b.f3.length cb) from fun W hW => HT.out _ (below_step hb hW))
      go_upto_region 16 with (fail)
      obtain ⟨p0, p1, p2, p3, p4, p5, p6, p7⟩ := HS.out _ (Below.refl _ wr)
      have hcall := rVars_at LA (Below.refl _ wr) (by have := HNN.out; omega)
      rw [← HVA.out] at hcall
      go_wp2_with fail
      refine hcall.mono ?_
      rintro e w7 ⟨A7, c7, rfl, l7, o7, d7⟩
      clear hcall p0 p1 p2 p3 p4 p5 p6 p7
      have hcall : Calls Try.prog 24 #[.slice A2 va.length c2, .slice A7 va.length c7] w7 fun e w' => e = .returned (.bool true) ∧ Below wr.heap.size wr w' := by
        have o2 := outAt_belowB q2 d7
        obtain ⟨A5, c5, e5, h5, C5⟩ := o2.reads
        obtain ⟨A6, c6, e6, h6, C6⟩ := o7.reads
        simp only [Value.slice.injEq, true_and] at e5 e6
        obtain ⟨rfl, rfl⟩ := e5
        obtain ⟨rfl, rfl⟩ := e6
        have := pythiaref01_SameLongs.calls (va.length + 1) _ _ va _ _ va true w7 C5 h5 C6 h6 (by rw [sameLongs_pure va va (by omega)]; simp)
        exact this.mono fun e w' ⟨x, d⟩ => ⟨x, below_step d7 (drawn_below d)⟩
      go_wp2_with fail
      refine hcall.mono ?_
      rintro e w8 ⟨rfl, hB8⟩
      clear hcall q2 o7 d7
      cases ob with
      | false =>
        have hno : okT b = false := HOB.out.symm
        have e1 : (okT a && okT b && decide (ordT a b = 0)) = false := by rw [hno]; simp
        have e2 : (okT b && okT a && decide (ordT b a = 0)) = false := by rw [hno]; rfl
        have e3 : (if (okT b && okT a) = true then ordT b a else 0) = 0 := by rw [hno]; rfl
        have e4 : variantT a b = false := by unfold variantT; rw [hno]; simp
        have E1 := Lib.hid e1
        have E2 := Lib.hid e2
        have E3 := Lib.hid e3
        have E4 := Lib.hid e4
        clear hno e1 e2 e3 e4
        obtain ⟨p0, p1, p2, p3, p4, p5, p6, p7⟩ := HS.out _ hB8
        have hcall := same_at LA LB hB8
        rw [E1.out] at hcall
        go_wp2_with fail
        refine hcall.mono ?_
        rintro e w9 ⟨rfl, hB9⟩
        clear hcall p0 p1 p2 p3 p4 p5 p6 p7
        obtain ⟨p0, p1, p2, p3, p4, p5, p6, p7⟩ := HS.out _ hB9
        have hcall := same_at LB LA hB9
        rw [E2.out] at hcall
        go_wp2_with fail
        refine hcall.mono ?_
        rintro e w10 ⟨rfl, hB10⟩
        clear hcall p0 p1 p2 p3 p4 p5 p6 p7
        obtain ⟨p0, p1, p2, p3, p4, p5, p6, p7⟩ := HS.out _ hB10
        have hcall := order_at LB LA hB10
        rw [E3.out] at hcall
        go_wp2_with fail
        refine hcall.mono ?_
        rintro e w11 ⟨rfl, hB11⟩
        clear hcall p0 p1 p2 p3 p4 p5 p6 p7
        obtain ⟨p0, p1, p2, p3, p4, p5, p6, p7⟩ := HS.out _ hB11
        have hcall := variant_at LA LB hB11
        rw [E4.out] at hcall
        go_wp2_with fail
        refine hcall.mono ?_
        rintro e w12 ⟨rfl, hB12⟩
        clear hcall p0 p1 p2 p3 p4 p5 p6 p7
        go_wp2
        go_ret
        exact ⟨rfl, below_step hBw hB12⟩
      | true =>
      have hyb : okT b = true := HOB.out.symm
      obtain ⟨k, hk, hk3⟩ := ordT_lo a b
      have hshA := ((okT_iff a).1 HYA.out).1
      have hshB := ((okT_iff b).1 hyb).1
      have e1 : (okT a && okT b && decide (ordT a b = 0)) = decide (k = 0) := by rw [hyb, HYA.out, hk]; rfl
      have e2 : (if (okT a && okT b) = true then ordT a b else 0) = k := by rw [hyb, HYA.out, hk]; rfl
      have e3 : (if (okT b && okT a) = true then ordT b a else 0) = -k := by rw [hyb, HYA.out, ordT_anti, hk]; rfl
      obtain ⟨va2, hv2⟩ : ∃ z, z = variantT a b := ⟨_, rfl⟩
      have E0 := Lib.hid hk
      have E1 := Lib.hid e1
      have E2 := Lib.hid e2
      have E3 := Lib.hid e3
      have E4 := Lib.hid hv2.symm
      have HYB := Lib.hid hyb
      have hshA := Lib.hid hshA
      have hshB := Lib.hid hshB
      clear e1 e2 e3 hk hv2 hyb HOB
      obtain ⟨p0, p1, p2, p3, p4, p5, p6, p7⟩ := HS.out _ hB8
      have hcall := rorder_at LA LB hB8 hshA.out hshB.out
      rw [E0.out] at hcall
      go_wp2_with fail
      refine hcall.mono ?_
      rintro e w9 ⟨rfl, hB9⟩
      clear hcall hB8 p0 p1 p2 p3 p4 p5 p6 p7
      go_upto_region 21 with (fail)
      replace hBw := below_step hBw hB9
      replace LA := LA.at hB9
      replace LB := LB.at hB9
      have HS9 := Lib.hid (show ∀ W, Below w9.heap.size w9 W → W.cell? ⟨w.heap.size, 0, none⟩ = some (.int .i64 a.f0) ∧ W.cell? ⟨w.heap.size, 1, none⟩ = some (.string a.f1) ∧ W.cell? ⟨w.heap.size, 2, none⟩ = some (.int .i64 a.f2) ∧ W.cell? ⟨w.heap.size, 3, none⟩ = some (.slice A a.f3.length ca) ∧ W.cell? ⟨gb, 0, none⟩ = some (.int .i64 b.f0) ∧ W.cell? ⟨gb, 1, none⟩ = some (.string b.f1) ∧ W.cell? ⟨gb, 2, none⟩ = some (.int .i64 b.f2) ∧ W.cell? ⟨gb, 3, none⟩ = some (.slice B b.f3.length cb) from fun W hW => HS.out _ (below_step hB9 hW))
      clear HS hB9
      have cV : ∀ W, Below w9.heap.size w9 W → Calls Try.prog 21 #[.agg #[.int .i64 a.f0, .string a.f1, .int .i64 a.f2, .slice A a.f3.length ca], .agg #[.int .i64 b.f0, .string b.f1, .int .i64 b.f2, .slice B b.f3.length cb]] W fun e w' => e = .returned (.bool va2) ∧ Below w9.heap.size w9 w' := fun W hW => by
        have := variant_at LA LB hW; rw [E4.out] at this; exact this
      have cR : ∀ W, Below w9.heap.size w9 W → Calls Try.prog 27 #[.agg #[.int .i64 a.f0, .string a.f1, .int .i64 a.f2, .slice A a.f3.length ca], .agg #[.int .i64 b.f0, .string b.f1, .int .i64 b.f2, .slice B b.f3.length cb]] W fun e w' => e = .returned (.bool va2) ∧ Below w9.heap.size w9 w' := fun W hW => by
        have := rvariant_at LA LB hW HYA.out HYB.out; rw [E4.out] at this; exact this
      have d0 : Below w9.heap.size w9 w9.drew := (Below.refl _ w9).drew
      rcases hk3 with rfl | rfl | rfl
      · have f1 : IntKind.i64.wrap 1 = 1 := by decide
        have cS : ∀ W, Below w9.heap.size w9 W → Calls Try.prog 19 #[.agg #[.int .i64 a.f0, .string a.f1, .int .i64 a.f2, .slice A a.f3.length ca], .agg #[.int .i64 b.f0, .string b.f1, .int .i64 b.f2, .slice B b.f3.length cb]] W fun e w' => e = .returned (.bool false) ∧ Below w9.heap.size w9 w' := fun W hW => by
          have := same_at LA LB hW; rw [E1.out] at this; exact this
        have cO : ∀ W, Below w9.heap.size w9 W → Calls Try.prog 20 #[.agg #[.int .i64 a.f0, .string a.f1, .int .i64 a.f2, .slice A a.f3.length ca], .agg #[.int .i64 b.f0, .string b.f1, .int .i64 b.f2, .slice B b.f3.length cb]] W fun e w' => e = .returned (.int .i64 (-1)) ∧ Below w9.heap.size w9 w' := fun W hW => by
          have := order_at LA LB hW; rw [E2.out] at this; exact this
        have cP : ∀ W, Below w9.heap.size w9 W → Calls Try.prog 20 #[.agg #[.int .i64 b.f0, .string b.f1, .int .i64 b.f2, .slice B b.f3.length cb], .agg #[.int .i64 a.f0, .string a.f1, .int .i64 a.f2, .slice A a.f3.length ca]] W fun e w' => e = .returned (.int .i64 (1)) ∧ Below w9.heap.size w9 w' := fun W hW => by
          have := order_at LB LA hW; rw [E3.out] at this; exact this
        clear E1 E2 E3 E4 E0
        go_region_held3 (fun W : World => W.cell? ⟨w.heap.size, 0, none⟩ = some (.int .i64 a.f0) ∧ W.cell? ⟨w.heap.size, 1, none⟩ = some (.string a.f1) ∧ W.cell? ⟨w.heap.size, 2, none⟩ = some (.int .i64 a.f2) ∧ W.cell? ⟨w.heap.size, 3, none⟩ = some (.slice A a.f3.length ca) ∧ W.cell? ⟨gb, 0, none⟩ = some (.int .i64 b.f0) ∧ W.cell? ⟨gb, 1, none⟩ = some (.string b.f1) ∧ W.cell? ⟨gb, 2, none⟩ = some (.int .i64 b.f2) ∧ W.cell? ⟨gb, 3, none⟩ = some (.slice B b.f3.length cb)) ((refine HS9.out _ ?_; with_reducible assumption))
          (first
          | (go_at_call 19; (with_reducible refine (cS _ (by assumption)).mono ?_); rintro e wy ⟨rfl, d1⟩)
          | (go_at_call 20; (with_reducible refine (cO _ (by assumption)).mono ?_); rintro e wy ⟨rfl, d1⟩)
          | (go_at_call 20; (with_reducible refine (cP _ (by assumption)).mono ?_); rintro e wy ⟨rfl, d1⟩)
          | (go_at_call 21; (with_reducible refine (cV _ (by assumption)).mono ?_); rintro e wy ⟨rfl, d1⟩)
          | (go_at_call 27; (with_reducible refine (cR _ (by assumption)).mono ?_); rintro e wy ⟨rfl, d1⟩))
        all_goals (go_wp2_with fail; go_ret; exact ⟨rfl, below_step hBw (by assumption)⟩)
      · have f1 : IntKind.i64.wrap 0 = 0 := by decide
        have cS : ∀ W, Below w9.heap.size w9 W → Calls Try.prog 19 #[.agg #[.int .i64 a.f0, .string a.f1, .int .i64 a.f2, .slice A a.f3.length ca], .agg #[.int .i64 b.f0, .string b.f1, .int .i64 b.f2, .slice B b.f3.length cb]] W fun e w' => e = .returned (.bool true) ∧ Below w9.heap.size w9 w' := fun W hW => by
          have := same_at LA LB hW; rw [E1.out] at this; exact this
        have cO : ∀ W, Below w9.heap.size w9 W → Calls Try.prog 20 #[.agg #[.int .i64 a.f0, .string a.f1, .int .i64 a.f2, .slice A a.f3.length ca], .agg #[.int .i64 b.f0, .string b.f1, .int .i64 b.f2, .slice B b.f3.length cb]] W fun e w' => e = .returned (.int .i64 (0)) ∧ Below w9.heap.size w9 w' := fun W hW => by
          have := order_at LA LB hW; rw [E2.out] at this; exact this
        have cP : ∀ W, Below w9.heap.size w9 W → Calls Try.prog 20 #[.agg #[.int .i64 b.f0, .string b.f1, .int .i64 b.f2, .slice B b.f3.length cb], .agg #[.int .i64 a.f0, .string a.f1, .int .i64 a.f2, .slice A a.f3.length ca]] W fun e w' => e = .returned (.int .i64 (0)) ∧ Below w9.heap.size w9 w' := fun W hW => by
          have := order_at LB LA hW; rw [E3.out] at this; exact this
        clear E1 E2 E3 E4 E0
        go_region_held3 (fun W : World => W.cell? ⟨w.heap.size, 0, none⟩ = some (.int .i64 a.f0) ∧ W.cell? ⟨w.heap.size, 1, none⟩ = some (.string a.f1) ∧ W.cell? ⟨w.heap.size, 2, none⟩ = some (.int .i64 a.f2) ∧ W.cell? ⟨w.heap.size, 3, none⟩ = some (.slice A a.f3.length ca) ∧ W.cell? ⟨gb, 0, none⟩ = some (.int .i64 b.f0) ∧ W.cell? ⟨gb, 1, none⟩ = some (.string b.f1) ∧ W.cell? ⟨gb, 2, none⟩ = some (.int .i64 b.f2) ∧ W.cell? ⟨gb, 3, none⟩ = some (.slice B b.f3.length cb)) ((refine HS9.out _ ?_; with_reducible assumption))
          (first
          | (go_at_call 19; (with_reducible refine (cS _ (by assumption)).mono ?_); rintro e wy ⟨rfl, d1⟩)
          | (go_at_call 20; (with_reducible refine (cO _ (by assumption)).mono ?_); rintro e wy ⟨rfl, d1⟩)
          | (go_at_call 20; (with_reducible refine (cP _ (by assumption)).mono ?_); rintro e wy ⟨rfl, d1⟩)
          | (go_at_call 21; (with_reducible refine (cV _ (by assumption)).mono ?_); rintro e wy ⟨rfl, d1⟩)
          | (go_at_call 27; (with_reducible refine (cR _ (by assumption)).mono ?_); rintro e wy ⟨rfl, d1⟩))
        all_goals (go_wp2_with fail; go_ret; exact ⟨rfl, below_step hBw (by assumption)⟩)
      · have f1 : IntKind.i64.wrap (-1) = -1 := by decide
        have cS : ∀ W, Below w9.heap.size w9 W → Calls Try.prog 19 #[.agg #[.int .i64 a.f0, .string a.f1, .int .i64 a.f2, .slice A a.f3.length ca], .agg #[.int .i64 b.f0, .string b.f1, .int .i64 b.f2, .slice B b.f3.length cb]] W fun e w' => e = .returned (.bool false) ∧ Below w9.heap.size w9 w' := fun W hW => by
          have := same_at LA LB hW; rw [E1.out] at this; exact this
        have cO : ∀ W, Below w9.heap.size w9 W → Calls Try.prog 20 #[.agg #[.int .i64 a.f0, .string a.f1, .int .i64 a.f2, .slice A a.f3.length ca], .agg #[.int .i64 b.f0, .string b.f1, .int .i64 b.f2, .slice B b.f3.length cb]] W fun e w' => e = .returned (.int .i64 (1)) ∧ Below w9.heap.size w9 w' := fun W hW => by
          have := order_at LA LB hW; rw [E2.out] at this; exact this
        have cP : ∀ W, Below w9.heap.size w9 W → Calls Try.prog 20 #[.agg #[.int .i64 b.f0, .string b.f1, .int .i64 b.f2, .slice B b.f3.length cb], .agg #[.int .i64 a.f0, .string a.f1, .int .i64 a.f2, .slice A a.f3.length ca]] W fun e w' => e = .returned (.int .i64 (-1)) ∧ Below w9.heap.size w9 w' := fun W hW => by
          have := order_at LB LA hW; rw [E3.out] at this; exact this
        clear E1 E2 E3 E4 E0
        go_region_held3 (fun W : World => W.cell? ⟨w.heap.size, 0, none⟩ = some (.int .i64 a.f0) ∧ W.cell? ⟨w.heap.size, 1, none⟩ = some (.string a.f1) ∧ W.cell? ⟨w.heap.size, 2, none⟩ = some (.int .i64 a.f2) ∧ W.cell? ⟨w.heap.size, 3, none⟩ = some (.slice A a.f3.length ca) ∧ W.cell? ⟨gb, 0, none⟩ = some (.int .i64 b.f0) ∧ W.cell? ⟨gb, 1, none⟩ = some (.string b.f1) ∧ W.cell? ⟨gb, 2, none⟩ = some (.int .i64 b.f2) ∧ W.cell? ⟨gb, 3, none⟩ = some (.slice B b.f3.length cb)) ((refine HS9.out _ ?_; with_reducible assumption))
          (first
          | (go_at_call 19; (with_reducible refine (cS _ (by assumption)).mono ?_); rintro e wy ⟨rfl, d1⟩)
          | (go_at_call 20; (with_reducible refine (cO _ (by assumption)).mono ?_); rintro e wy ⟨rfl, d1⟩)
          | (go_at_call 20; (with_reducible refine (cP _ (by assumption)).mono ?_); rintro e wy ⟨rfl, d1⟩)
          | (go_at_call 21; (with_reducible refine (cV _ (by assumption)).mono ?_); rintro e wy ⟨rfl, d1⟩)
          | (go_at_call 27; (with_reducible refine (cR _ (by assumption)).mono ?_); rintro e wy ⟨rfl, d1⟩))
        all_goals (go_wp2_with fail; go_ret; exact ⟨rfl, below_step hBw (by assumption)⟩)
end Go.Proofs.Ytpnkaggkedepeaa
