/- The walk of TermOrder. -/
import Derived.Test.YtpnkaggkedepeaaTmGp
import Derived.Deep.RegionHeld3
namespace Go.Proofs.Ytpnkaggkedepeaa
set_option linter.unusedVariables false
open Go.RowKit Go.Maps Go.Proofs.YtpnkaggkedepeaaW.PrintWords Go.Proofs.YtpnkaggkedepeaaW.PrintLast Go.Proofs.YtpnkaggkedepeaaW.PrintMore Go.Proofs.Ytpnkaggkedepeaa.PTermTells Go.Extern



theorem box3 (w : World) (o1 o2 o3 : Obj) : (((w.alloc o1).alloc o2).alloc o3).heap[w.heap.size]? = some o1 ∧ (((w.alloc o1).alloc o2).alloc o3).heap[w.heap.size + 1]? = some o2 ∧ (((w.alloc o1).alloc o2).alloc o3).heap[w.heap.size + 2]? = some o3 := by
  refine ⟨blk_alloc (blk_alloc (blk_new w o1) o2) o3, ?_, ?_⟩
  · have := blk_alloc (blk_new (w.alloc o1) o2) o3
    rwa [World.size_alloc] at this
  · have := blk_new ((w.alloc o1).alloc o2) o3
    rwa [World.size_alloc, World.size_alloc] at this

set_option maxHeartbeats 4000000 in
set_option maxRecDepth 100000 in
theorem order_bad (hal : Alive) (a b c : S24) (n : Int) (hn : I64 n) (w : World) (A B C : Option Addr) (ca cb cc : Nat) (la : Lies w a A ca) (lb : Lies w b B cb) (lc : Lies w c C cc) (hbad : ¬(okT a = true ∧ okT b = true ∧ okT c = true)) :
    Calls Try.prog 4 #[.agg #[.int .i64 a.f0, .string a.f1, .int .i64 a.f2, .slice A a.f3.length ca], .agg #[.int .i64 b.f0, .string b.f1, .int .i64 b.f2, .slice B b.f3.length cb], .agg #[.int .i64 c.f0, .string c.f1, .int .i64 c.f2, .slice C c.f3.length cc], .int .i64 n] w fun e w' => e = .returned (.bool true) ∧ Below w.heap.size w w' := by
  have HAL := Lib.hid hal
  have hB0 := below_alloc (below_alloc (below_alloc (Below.refl w.heap.size w) (.cells #[.int .i64 a.f0, .string a.f1, .int .i64 a.f2, .slice A a.f3.length ca] 24)) (.cells #[.int .i64 b.f0, .string b.f1, .int .i64 b.f2, .slice B b.f3.length cb] 24)) (.cells #[.int .i64 c.f0, .string c.f1, .int .i64 c.f2, .slice C c.f3.length cc] 24)
  obtain ⟨kA, kB, kC⟩ := box3 w (.cells #[.int .i64 a.f0, .string a.f1, .int .i64 a.f2, .slice A a.f3.length ca] 24) (.cells #[.int .i64 b.f0, .string b.f1, .int .i64 b.f2, .slice B b.f3.length cb] 24) (.cells #[.int .i64 c.f0, .string c.f1, .int .i64 c.f2, .slice C c.f3.length cc] 24)
  have LA := la.at hB0
  have LB := lb.at hB0
  have LC := lc.at hB0
  clear hal la lb lc

  generalize hra : okT a = ra at hbad
  generalize hrb : okT b = rb at hbad
  generalize hrc : okT c = rc at hbad
  have HRA := Lib.hid hra
  have HRB := Lib.hid hrb
  have HRC := Lib.hid hrc
  clear hra hrb hrc
  go_enter Try.func4, Try.ntmps4
  go_wp2_with fail
  refine (HAL.out _).mono ?_
  rintro e w1 ⟨rfl, hb1⟩
  have hBw := below_step hB0 hb1
  replace kA := blk_below kA hb1
  replace kB := blk_below kB hb1
  replace kC := blk_below kC hb1
  replace LA := LA.at hb1
  replace LB := LB.at hb1
  replace LC := LC.at hb1
  clear hb1 hB0 HAL
  generalize w.heap.size + 2 = gc at kC ⊢
  generalize w.heap.size + 1 = gb at kB ⊢
  have HS := Lib.hid (show ∀ W, Below w1.heap.size w1 W → W.cell? ⟨w.heap.size, 0, none⟩ = some (.int .i64 a.f0) ∧ W.cell? ⟨w.heap.size, 1, none⟩ = some (.string a.f1) ∧ W.cell? ⟨w.heap.size, 2, none⟩ = some (.int .i64 a.f2) ∧ W.cell? ⟨w.heap.size, 3, none⟩ = some (.slice A a.f3.length ca) ∧ W.cell? ⟨gb, 0, none⟩ = some (.int .i64 b.f0) ∧ W.cell? ⟨gb, 1, none⟩ = some (.string b.f1) ∧ W.cell? ⟨gb, 2, none⟩ = some (.int .i64 b.f2) ∧ W.cell? ⟨gb, 3, none⟩ = some (.slice B b.f3.length cb) ∧ W.cell? ⟨gc, 0, none⟩ = some (.int .i64 c.f0) ∧ W.cell? ⟨gc, 1, none⟩ = some (.string c.f1) ∧ W.cell? ⟨gc, 2, none⟩ = some (.int .i64 c.f2) ∧ W.cell? ⟨gc, 3, none⟩ = some (.slice C c.f3.length cc) from fun W hW => by
    have k1 := blk_below kA hW
    have k2 := blk_below kB hW
    have k3 := blk_below kC hW
    exact ⟨blk_cell k1 0, blk_cell k1 1, blk_cell k1 2, blk_cell k1 3, blk_cell k2 0, blk_cell k2 1, blk_cell k2 2, blk_cell k2 3, blk_cell k3 0, blk_cell k3 1, blk_cell k3 2, blk_cell k3 3⟩)
  clear kA kB kC
  have hB := Below.refl w1.heap.size w1

  obtain ⟨p0, p1, p2, p3, p4, p5, p6, p7, p8, p9, p10, p11⟩ := HS.out _ hB
  cases ra with
  | false =>
    go_wp2_with fail
    refine (check_at LA hB).mono ?_; rw [HRA.out]; rintro e w2 ⟨rfl, hB2⟩
    clear p0 p1 p2 p3 p4 p5 p6 p7 p8 p9 p10 p11
    go_wp2
    go_ret
    exact ⟨rfl, below_step hBw hB2⟩
  | true =>
  cases rb with
  | false =>
    go_wp2_with fail
    refine (check_at LA hB).mono ?_; rw [HRA.out]; rintro e w2 ⟨rfl, hB2⟩
    clear p0 p1 p2 p3 p4 p5 p6 p7 p8 p9 p10 p11
    obtain ⟨p0, p1, p2, p3, p4, p5, p6, p7, p8, p9, p10, p11⟩ := HS.out _ hB2
    go_wp2_with fail
    refine (check_at LB hB2).mono ?_; rw [HRB.out]; rintro e w3 ⟨rfl, hB3⟩
    clear p0 p1 p2 p3 p4 p5 p6 p7 p8 p9 p10 p11
    go_wp2
    go_ret
    exact ⟨rfl, below_step hBw hB3⟩
  | true =>
  cases rc with
  | true => exact absurd ⟨rfl, rfl, rfl⟩ hbad
  | false =>
    go_wp2_with fail
    refine (check_at LA hB).mono ?_; rw [HRA.out]; rintro e w2 ⟨rfl, hB2⟩
    clear p0 p1 p2 p3 p4 p5 p6 p7 p8 p9 p10 p11
    obtain ⟨p0, p1, p2, p3, p4, p5, p6, p7, p8, p9, p10, p11⟩ := HS.out _ hB2
    go_wp2_with fail
    refine (check_at LB hB2).mono ?_; rw [HRB.out]; rintro e w3 ⟨rfl, hB3⟩
    clear p0 p1 p2 p3 p4 p5 p6 p7 p8 p9 p10 p11
    obtain ⟨p0, p1, p2, p3, p4, p5, p6, p7, p8, p9, p10, p11⟩ := HS.out _ hB3
    go_wp2_with fail
    refine (check_at LC hB3).mono ?_; rw [HRC.out]; rintro e w4 ⟨rfl, hB4⟩
    clear p0 p1 p2 p3 p4 p5 p6 p7 p8 p9 p10 p11
    go_wp2
    go_ret
    exact ⟨rfl, below_step hBw hB4⟩

set_option maxHeartbeats 8000000 in
set_option maxRecDepth 100000 in
theorem order_good (hal : Alive) (a b c : S24) (n : Int) (hn : I64 n) (w : World) (A B C : Option Addr) (ca cb cc : Nat) (la : Lies w a A ca) (lb : Lies w b B cb) (lc : Lies w c C cc) (oka : okT a = true) (okb : okT b = true) (okc : okT c = true) :
    Calls Try.prog 4 #[.agg #[.int .i64 a.f0, .string a.f1, .int .i64 a.f2, .slice A a.f3.length ca], .agg #[.int .i64 b.f0, .string b.f1, .int .i64 b.f2, .slice B b.f3.length cb], .agg #[.int .i64 c.f0, .string c.f1, .int .i64 c.f2, .slice C c.f3.length cc], .int .i64 n] w fun e w' => e = .returned (.bool true) ∧ Below w.heap.size w w' := by
  obtain ⟨k, hk, hk3⟩ := ordT_lo a b
  obtain ⟨l, hl, hl3⟩ := ordT_lo b c
  obtain ⟨m, hm, hm3⟩ := ordT_lo a c
  have htri := ordT_tri a b c
  rw [hk, hl, hm] at htri
  have hle := htri.le
  clear htri
  obtain ⟨k', s, hkk, hba, hsm⟩ : ∃ (k' : Int) (s : Bool), ((k = -1 ∧ k' = 1 ∧ s = false) ∨ (k = 0 ∧ k' = 0 ∧ s = true) ∨ (k = 1 ∧ k' = -1 ∧ s = false)) ∧ ordT b a = k' ∧ (okT a && okT b && decide (ordT a b = 0)) = s := by
    rw [ordT_anti b a, hk, oka, okb]
    rcases hk3 with rfl | rfl | rfl
    · exact ⟨1, false, .inl ⟨rfl, rfl, rfl⟩, rfl, rfl⟩
    · exact ⟨0, true, .inr (.inl ⟨rfl, rfl, rfl⟩), rfl, rfl⟩
    · exact ⟨-1, false, .inr (.inr ⟨rfl, rfl, rfl⟩), rfl, rfl⟩
  have HAB : Hid ((if (okT a && okT b) = true then ordT a b else 0) = k) := Lib.hid (by rw [oka, okb, hk]; rfl)
  have HBA : Hid ((if (okT b && okT a) = true then ordT b a else 0) = k') := Lib.hid (by rw [oka, okb, hba]; rfl)
  have HAA : Hid ((if (okT a && okT a) = true then ordT a a else 0) = 0) := Lib.hid (by rw [ordT_refl]; simp)
  have HBC : Hid ((if (okT b && okT c) = true then ordT b c else 0) = l) := Lib.hid (by rw [okb, okc, hl]; rfl)
  have HAC : Hid ((if (okT a && okT c) = true then ordT a c else 0) = m) := Lib.hid (by rw [oka, okc, hm]; rfl)
  have HSM := Lib.hid hsm
  have HCA : Hid ((if okT a = true then (0 : Int) else 70) = 0) := Lib.hid (by rw [oka]; rfl)
  have HCB : Hid ((if okT b = true then (0 : Int) else 70) = 0) := Lib.hid (by rw [okb]; rfl)
  have HCC : Hid ((if okT c = true then (0 : Int) else 70) = 0) := Lib.hid (by rw [okc]; rfl)
  have HKK := Lib.hid hkk
  have HLE := Lib.hid hle
  have HOK := Lib.hid oka
  clear hk hl hm hk3 hl3 hm3 hkk hba hsm hle oka okb okc
  have HAL := Lib.hid hal
  have hB0 := below_alloc (below_alloc (below_alloc (Below.refl w.heap.size w) (.cells #[.int .i64 a.f0, .string a.f1, .int .i64 a.f2, .slice A a.f3.length ca] 24)) (.cells #[.int .i64 b.f0, .string b.f1, .int .i64 b.f2, .slice B b.f3.length cb] 24)) (.cells #[.int .i64 c.f0, .string c.f1, .int .i64 c.f2, .slice C c.f3.length cc] 24)
  obtain ⟨kA, kB, kC⟩ := box3 w (.cells #[.int .i64 a.f0, .string a.f1, .int .i64 a.f2, .slice A a.f3.length ca] 24) (.cells #[.int .i64 b.f0, .string b.f1, .int .i64 b.f2, .slice B b.f3.length cb] 24) (.cells #[.int .i64 c.f0, .string c.f1, .int .i64 c.f2, .slice C c.f3.length cc] 24)
  have LA := la.at hB0
  have LB := lb.at hB0
  have LC := lc.at hB0
  clear hal la lb lc

  go_enter Try.func4, Try.ntmps4
  go_wp2_with fail
  refine (HAL.out _).mono ?_
  rintro e w1 ⟨rfl, hb1⟩
  have hBw := below_step hB0 hb1
  replace kA := blk_below kA hb1
  replace kB := blk_below kB hb1
  replace kC := blk_below kC hb1
  replace LA := LA.at hb1
  replace LB := LB.at hb1
  replace LC := LC.at hb1
  clear hb1 hB0 HAL
  have gal : w.heap.size < w1.heap.size := blk_lt kA
  have KA := Lib.hid kA
  generalize w.heap.size + 2 = gc at kC ⊢
  generalize w.heap.size + 1 = gb at kB ⊢
  have HS := Lib.hid (show ∀ W, Below w1.heap.size w1 W → W.cell? ⟨w.heap.size, 0, none⟩ = some (.int .i64 a.f0) ∧ W.cell? ⟨w.heap.size, 1, none⟩ = some (.string a.f1) ∧ W.cell? ⟨w.heap.size, 2, none⟩ = some (.int .i64 a.f2) ∧ W.cell? ⟨w.heap.size, 3, none⟩ = some (.slice A a.f3.length ca) ∧ W.cell? ⟨gb, 0, none⟩ = some (.int .i64 b.f0) ∧ W.cell? ⟨gb, 1, none⟩ = some (.string b.f1) ∧ W.cell? ⟨gb, 2, none⟩ = some (.int .i64 b.f2) ∧ W.cell? ⟨gb, 3, none⟩ = some (.slice B b.f3.length cb) ∧ W.cell? ⟨gc, 0, none⟩ = some (.int .i64 c.f0) ∧ W.cell? ⟨gc, 1, none⟩ = some (.string c.f1) ∧ W.cell? ⟨gc, 2, none⟩ = some (.int .i64 c.f2) ∧ W.cell? ⟨gc, 3, none⟩ = some (.slice C c.f3.length cc) from fun W hW => by
    have k1 := blk_below kA hW
    have k2 := blk_below kB hW
    have k3 := blk_below kC hW
    exact ⟨blk_cell k1 0, blk_cell k1 1, blk_cell k1 2, blk_cell k1 3, blk_cell k2 0, blk_cell k2 1, blk_cell k2 2, blk_cell k2 3, blk_cell k3 0, blk_cell k3 1, blk_cell k3 2, blk_cell k3 3⟩)
  clear kA kB kC
  have hB := Below.refl w1.heap.size w1

  obtain ⟨p0, p1, p2, p3, p4, p5, p6, p7, p8, p9, p10, p11⟩ := HS.out _ hB
  go_wp2_with fail
  refine (check_at LA hB).mono ?_; rw [HCA.out]; rintro e w2 ⟨rfl, hB2⟩
  clear p0 p1 p2 p3 p4 p5 p6 p7 p8 p9 p10 p11
  obtain ⟨p0, p1, p2, p3, p4, p5, p6, p7, p8, p9, p10, p11⟩ := HS.out _ hB2
  go_wp2_with fail
  refine (check_at LB hB2).mono ?_; rw [HCB.out]; rintro e w3 ⟨rfl, hB3⟩
  clear p0 p1 p2 p3 p4 p5 p6 p7 p8 p9 p10 p11
  obtain ⟨p0, p1, p2, p3, p4, p5, p6, p7, p8, p9, p10, p11⟩ := HS.out _ hB3
  go_wp2_with fail
  refine (check_at LC hB3).mono ?_; rw [HCC.out]; rintro e w4 ⟨rfl, hB4⟩
  clear p0 p1 p2 p3 p4 p5 p6 p7 p8 p9 p10 p11 hB hB2 hB3
  have hB := hB4.drew
  go_upto_region 5 with (fail)
  have T1 := Lib.hid trivial
  have T2 := Lib.hid trivial
  have T3 := Lib.hid trivial
  have T4 := Lib.hid trivial
  have T5 := Lib.hid trivial
  go_cut [52] from 14 to 52 (fun r wx => r = .bool false ∧ Below w1.heap.size w1 wx)
  case first =>
    have hwa : IntKind.i64.wrap (-1) = -1 := by kernel_rfl
    have hwb : IntKind.i64.wrap 1 = 1 := by kernel_rfl
    have hwc : IntKind.i64.wrap 0 = 0 := by kernel_rfl
    rcases HKK.out with ⟨rfl, rfl, rfl⟩ | ⟨rfl, rfl, rfl⟩ | ⟨rfl, rfl, rfl⟩
    all_goals
      go_region_held3 (fun W : World => W.cell? ⟨w.heap.size, 0, none⟩ = some (.int .i64 a.f0) ∧ W.cell? ⟨w.heap.size, 1, none⟩ = some (.string a.f1) ∧ W.cell? ⟨w.heap.size, 2, none⟩ = some (.int .i64 a.f2) ∧ W.cell? ⟨w.heap.size, 3, none⟩ = some (.slice A a.f3.length ca) ∧ W.cell? ⟨gb, 0, none⟩ = some (.int .i64 b.f0) ∧ W.cell? ⟨gb, 1, none⟩ = some (.string b.f1) ∧ W.cell? ⟨gb, 2, none⟩ = some (.int .i64 b.f2) ∧ W.cell? ⟨gb, 3, none⟩ = some (.slice B b.f3.length cb) ∧ W.cell? ⟨gc, 0, none⟩ = some (.int .i64 c.f0) ∧ W.cell? ⟨gc, 1, none⟩ = some (.string c.f1) ∧ W.cell? ⟨gc, 2, none⟩ = some (.int .i64 c.f2) ∧ W.cell? ⟨gc, 3, none⟩ = some (.slice C c.f3.length cc)) ((refine HS.out _ ?_; with_reducible assumption))
       (first
        | (go_at_call 20; clear T1; refine (order_at LA LB (by with_reducible assumption)).mono ?_; rw [HAB.out]; rintro e wx0 ⟨rfl, hBx0⟩)
        | (go_at_call 20; clear T2; refine (order_at LB LA (by with_reducible assumption)).mono ?_; rw [HBA.out]; rintro e wx1 ⟨rfl, hBx1⟩)
        | (go_at_call 20; clear T3; refine (order_at LA LA (by with_reducible assumption)).mono ?_; rw [HAA.out]; rintro e wx2 ⟨rfl, hBx2⟩)
        | (go_at_call 20; clear T4; refine (order_at LA LB (by with_reducible assumption)).mono ?_; rw [HAB.out]; rintro e wx3 ⟨rfl, hBx3⟩)
        | (go_at_call 19; clear T5; refine (same_at LA LB (by with_reducible assumption)).mono ?_; rw [HSM.out]; rintro e wx4 ⟨rfl, hBx4⟩))
      all_goals go_wp2_with fail
      all_goals go_meet
      all_goals exact ⟨rfl, by assumption⟩
  case rest =>
  obtain ⟨rfl, hB5⟩ := hcut
  clear T1 T2 T3 T4 T5 hB
  go_upto_region 7 with (fail)
  go_cut [68] from 14 to 68 (fun r wx => r = .bool false ∧ Below w1.heap.size w1 wx)
  case first =>
    obtain ⟨p0, p1, p2, p3, p4, p5, p6, p7, p8, p9, p10, p11⟩ := HS.out _ hB5
    rcases HKK.out with ⟨rfl, rfl, rfl⟩ | ⟨rfl, rfl, rfl⟩ | ⟨rfl, rfl, rfl⟩
    · by_cases hl : l ≤ 0
      · have hm := HLE.out (by decide) hl
        go_wp2_with fail
        refine (order_at LA LB hB5).mono ?_; rw [HAB.out]; rintro e w6 ⟨rfl, hB6⟩
        clear p0 p1 p2 p3 p4 p5 p6 p7 p8 p9 p10 p11
        obtain ⟨p0, p1, p2, p3, p4, p5, p6, p7, p8, p9, p10, p11⟩ := HS.out _ hB6
        go_wp2_with fail
        refine (order_at LB LC hB6).mono ?_; rw [HBC.out]; rintro e w7 ⟨rfl, hB7⟩
        clear p0 p1 p2 p3 p4 p5 p6 p7 p8 p9 p10 p11
        obtain ⟨p0, p1, p2, p3, p4, p5, p6, p7, p8, p9, p10, p11⟩ := HS.out _ hB7
        go_wp2_with fail
        refine (order_at LA LC hB7).mono ?_; rw [HAC.out]; rintro e w8 ⟨rfl, hB8⟩
        clear p0 p1 p2 p3 p4 p5 p6 p7 p8 p9 p10 p11
        go_wp2_with fail
        go_meet
        case rel => exact ⟨by first | rfl | (congr 1; exact decide_eq_false (by omega)), hB8⟩
      · have hl2 : 1 ≤ l := by omega
        go_wp2_with fail
        refine (order_at LA LB hB5).mono ?_; rw [HAB.out]; rintro e w6 ⟨rfl, hB6⟩
        clear p0 p1 p2 p3 p4 p5 p6 p7 p8 p9 p10 p11
        obtain ⟨p0, p1, p2, p3, p4, p5, p6, p7, p8, p9, p10, p11⟩ := HS.out _ hB6
        go_wp2_with fail
        refine (order_at LB LC hB6).mono ?_; rw [HBC.out]; rintro e w7 ⟨rfl, hB7⟩
        clear p0 p1 p2 p3 p4 p5 p6 p7 p8 p9 p10 p11
        go_wp2_with fail
        go_meet
        case rel => exact ⟨by first | rfl | (congr 1; exact decide_eq_false (by omega)), hB7⟩
    · by_cases hl : l ≤ 0
      · have hm := HLE.out (by decide) hl
        go_wp2_with fail
        refine (order_at LA LB hB5).mono ?_; rw [HAB.out]; rintro e w6 ⟨rfl, hB6⟩
        clear p0 p1 p2 p3 p4 p5 p6 p7 p8 p9 p10 p11
        obtain ⟨p0, p1, p2, p3, p4, p5, p6, p7, p8, p9, p10, p11⟩ := HS.out _ hB6
        go_wp2_with fail
        refine (order_at LB LC hB6).mono ?_; rw [HBC.out]; rintro e w7 ⟨rfl, hB7⟩
        clear p0 p1 p2 p3 p4 p5 p6 p7 p8 p9 p10 p11
        obtain ⟨p0, p1, p2, p3, p4, p5, p6, p7, p8, p9, p10, p11⟩ := HS.out _ hB7
        go_wp2_with fail
        refine (order_at LA LC hB7).mono ?_; rw [HAC.out]; rintro e w8 ⟨rfl, hB8⟩
        clear p0 p1 p2 p3 p4 p5 p6 p7 p8 p9 p10 p11
        go_wp2_with fail
        go_meet
        case rel => exact ⟨by first | rfl | (congr 1; exact decide_eq_false (by omega)), hB8⟩
      · have hl2 : 1 ≤ l := by omega
        go_wp2_with fail
        refine (order_at LA LB hB5).mono ?_; rw [HAB.out]; rintro e w6 ⟨rfl, hB6⟩
        clear p0 p1 p2 p3 p4 p5 p6 p7 p8 p9 p10 p11
        obtain ⟨p0, p1, p2, p3, p4, p5, p6, p7, p8, p9, p10, p11⟩ := HS.out _ hB6
        go_wp2_with fail
        refine (order_at LB LC hB6).mono ?_; rw [HBC.out]; rintro e w7 ⟨rfl, hB7⟩
        clear p0 p1 p2 p3 p4 p5 p6 p7 p8 p9 p10 p11
        go_wp2_with fail
        go_meet
        case rel => exact ⟨by first | rfl | (congr 1; exact decide_eq_false (by omega)), hB7⟩
    · go_wp2_with fail
      refine (order_at LA LB hB5).mono ?_; rw [HAB.out]; rintro e w6 ⟨rfl, hB6⟩
      clear p0 p1 p2 p3 p4 p5 p6 p7 p8 p9 p10 p11
      go_wp2_with fail
      go_meet
      case rel => exact ⟨by first | rfl | (congr 1; exact decide_eq_false (by omega)), hB6⟩
  case rest =>
  obtain ⟨rfl, hB6⟩ := hcut
  clear hB5 HAB HBA HAA HBC HAC HSM HCA HCB HCC HKK HLE LB LC
  obtain ⟨p0, p1, p2, p3, p4, p5, p6, p7, p8, p9, p10, p11⟩ := HS.out _ hB6
  by_cases hn1 : n < 1
  · go_wp2
    go_ret
    exact ⟨rfl, below_step hBw hB6⟩
  by_cases hn2 : 1152921504606846976 < n
  · go_wp2
    go_ret
    exact ⟨rfl, below_step hBw hB6⟩
  have hn3 : 1 ≤ n := by omega
  have hn4 : n ≤ 1152921504606846976 := by omega
  obtain ⟨r, hr⟩ : ∃ r, r = renS (rnf (varsT a []) n) a := ⟨_, rfl⟩
  obtain ⟨va, hva⟩ : ∃ va, va = varsT a [] := ⟨_, rfl⟩
  have hinj : ∀ x ∈ occT a, ∀ y ∈ occT a, rnf (varsT a []) n x = rnf (varsT a []) n y → x = y := rnf_inj
  have hg1 : ∀ x ∈ occT a, 1 ≤ rnf (varsT a []) n x := fun x hx => by have := rnf_bounds (t := a) (n := n) x hx; omega
  have okr : okT r = true := by rw [hr]; exact ok_renS _ HOK.out hg1
  have HREN : Hid (renT a n = (r, n + (va.length : Int), 0)) := Lib.hid (by rw [renT_ok HOK.out hn3 (by omega), hr, hva])
  have HVAR : Hid (variantT a r = true) := Lib.hid (by
    rw [hr]
    unfold variantT
    rw [HOK.out, ok_renS _ HOK.out hg1, renT_ok HOK.out (by decide) (by decide), renT_ok (ok_renS _ HOK.out hg1) (by decide) (by decide), ren_ren hinj, ordT_refl]; rfl)
  have HVA : Hid (varsOf a = va) := Lib.hid (by unfold varsOf; rw [if_pos HOK.out, hva])
  obtain ⟨vr, hvr⟩ : ∃ vr, vr = va.map (rnf va n) := ⟨_, rfl⟩
  have HVR : Hid (varsOf r = vr) := Lib.hid (by unfold varsOf; rw [if_pos okr, hr, vars_renS hinj, hvr, hva])
  have HVL : Hid (vr = (List.range va.length).map fun (i : Nat) => n + (i : Int)) := Lib.hid (by rw [hvr, rnf_list _ _ (by rw [hva]; exact varsT_nodup a)])
  have HSZ : Hid (sizeT r = sizeT a) := Lib.hid (by rw [sizeT_ok okr, sizeT_ok HOK.out, hr, (nodes_renS _ a).1])
  have HDP : Hid (depthT r = depthT a) := Lib.hid (by rw [depthT_ok okr, depthT_ok HOK.out, hr, (nodes_renS _ a).2])
  have hlv : va.length ≤ 2000 := by
    have h1 := varsT_len a []
    have h2 := nodes_ok HOK.out
    rw [← hva] at h1
    simp only [List.length_nil] at h1
    omega
  have HLV : Hid (vr.length = va.length) := Lib.hid (by rw [hvr, List.length_map])
  have hrw := HREN.out
  clear hr hva hvr hinj hg1 okr hn1 hn2 HOK
  have hcall := rename_at LA hn hB6
  rw [hrw] at hcall
  dsimp only at hcall
  clear hrw
  go_wp2_with fail
  refine hcall.mono ?_
  rintro e w7 ⟨A7, c7, rfl, L7, hB7⟩
  clear hcall p0 p1 p2 p3 p4 p5 p6 p7 p8 p9 p10 p11
  go_upto_region 12 with (fail)
  have kR := blk_new w7 (.cells #[.int .i64 r.f0, .string r.f1, .int .i64 r.f2, .slice A7 r.f3.length c7] 24)
  have kA := blk_alloc (blk_below KA.out hB7) (.cells #[.int .i64 r.f0, .string r.f1, .int .i64 r.f2, .slice A7 r.f3.length c7] 24)
  have hB8 := below_alloc hB7 (.cells #[.int .i64 r.f0, .string r.f1, .int .i64 r.f2, .slice A7 r.f3.length c7] 24)
  replace LA := LA.at hB8
  have LR := L7.at (below_alloc (Below.refl w7.heap.size w7) (.cells #[.int .i64 r.f0, .string r.f1, .int .i64 r.f2, .slice A7 r.f3.length c7] 24))
  replace hBw := below_step hBw hB8
  generalize w7.alloc (.cells #[.int .i64 r.f0, .string r.f1, .int .i64 r.f2, .slice A7 r.f3.length c7] 24) = w8 at kR kA hB8 LA LR hBw ⊢
  clear hB8 hB7 L7 HS KA HREN gal hB6
  generalize w7.heap.size = gr at kR ⊢
  have HS := Lib.hid (show ∀ W, Below w8.heap.size w8 W → W.cell? ⟨w.heap.size, 0, none⟩ = some (.int .i64 a.f0) ∧ W.cell? ⟨w.heap.size, 1, none⟩ = some (.string a.f1) ∧ W.cell? ⟨w.heap.size, 2, none⟩ = some (.int .i64 a.f2) ∧ W.cell? ⟨w.heap.size, 3, none⟩ = some (.slice A a.f3.length ca) ∧ W.cell? ⟨gr, 0, none⟩ = some (.int .i64 r.f0) ∧ W.cell? ⟨gr, 1, none⟩ = some (.string r.f1) ∧ W.cell? ⟨gr, 2, none⟩ = some (.int .i64 r.f2) ∧ W.cell? ⟨gr, 3, none⟩ = some (.slice A7 r.f3.length c7) from fun W hW => by
    have k1 := blk_below kA hW
    have k2 := blk_below kR hW
    exact ⟨blk_cell k1 0, blk_cell k1 1, blk_cell k1 2, blk_cell k1 3, blk_cell k2 0, blk_cell k2 1, blk_cell k2 2, blk_cell k2 3⟩)
  clear kA kR
  have hB := Below.refl w8.heap.size w8
  obtain ⟨p0, p1, p2, p3, p4, p5, p6, p7⟩ := HS.out _ hB
  have hcall := variant_at LA LR hB
  rw [HVAR.out] at hcall
  go_wp2_with fail
  refine hcall.mono ?_
  rintro e w9 ⟨rfl, hB9⟩
  clear hcall hB HVAR p0 p1 p2 p3 p4 p5 p6 p7
  obtain ⟨p0, p1, p2, p3, p4, p5, p6, p7⟩ := HS.out _ hB9
  have hcall := vars_at LA hB9
  rw [HVA.out] at hcall
  go_wp2_with fail
  refine hcall.mono ?_
  rintro e w10 ⟨A10, c10, rfl, _, _, hB10⟩
  clear hcall hB9 HVA p0 p1 p2 p3 p4 p5 p6 p7
  obtain ⟨p0, p1, p2, p3, p4, p5, p6, p7⟩ := HS.out _ hB10
  have hcall := vars_at LR hB10
  rw [HVR.out] at hcall
  go_wp2_with fail
  refine hcall.mono ?_
  rintro e w11 ⟨A11, c11, rfl, hc11, C11, hB11⟩
  clear hcall hB10 HVR p0 p1 p2 p3 p4 p5 p6 p7
  have hlr : vr.length ≤ 2000 := by rw [HLV.out]; exact hlv
  go_wp2_with fail
  go_loop [102] (fun i => ∃ k : Nat, k ≤ vr.length ∧ i = .int .i64 k) (fun i => vr.length - (intOf i).toNat)
  case atStart => exact ⟨0, Nat.zero_le _, rfl⟩
  case round =>
    obtain ⟨k, hk, rfl⟩ := hrel
    by_cases hlt : k < vr.length
    · obtain ⟨ad, rfl, hy⟩ := ints_rd C11 k hlt
      have hv : vr[k] = n + (k : Int) := by
        have h := HVL.out
        simp only [h, List.getElem_map, List.getElem_range]
      rw [hv] at hy
      clear hv
      go_wp2
      go_round
      case rel => exact ⟨k + 1, by omega, by go_num⟩
      case measure => simp [intOf]; omega
    · obtain rfl : k = vr.length := by omega
      clear hk hlr hlv
      have hB := hB11.drew
      have T1 := Lib.hid trivial
      have T2 := Lib.hid trivial
      have T3 := Lib.hid trivial
      have T4 := Lib.hid trivial
      generalize hsz : sizeT a = sz
      generalize hdp : depthT a = dp
      have HS1 := Lib.hid hsz
      have HD1 := Lib.hid hdp
      have HS2 := Lib.hid (HSZ.out.trans hsz)
      have HD2 := Lib.hid (HDP.out.trans hdp)
      clear hsz hdp HSZ HDP C11
      go_upto_region 20 with (fail)
      go_region_held3 (fun W : World => W.cell? ⟨w.heap.size, 0, none⟩ = some (.int .i64 a.f0) ∧ W.cell? ⟨w.heap.size, 1, none⟩ = some (.string a.f1) ∧ W.cell? ⟨w.heap.size, 2, none⟩ = some (.int .i64 a.f2) ∧ W.cell? ⟨w.heap.size, 3, none⟩ = some (.slice A a.f3.length ca) ∧ W.cell? ⟨gr, 0, none⟩ = some (.int .i64 r.f0) ∧ W.cell? ⟨gr, 1, none⟩ = some (.string r.f1) ∧ W.cell? ⟨gr, 2, none⟩ = some (.int .i64 r.f2) ∧ W.cell? ⟨gr, 3, none⟩ = some (.slice A7 r.f3.length c7)) ((refine HS.out _ ?_; with_reducible assumption))
       (first
        | (go_at_call 16; clear T1; refine (size_at LR (by with_reducible assumption)).mono ?_; rw [HS2.out]; rintro e wx1 ⟨rfl, hBx1⟩)
        | (go_at_call 16; clear T2; refine (size_at LA (by with_reducible assumption)).mono ?_; rw [HS1.out]; rintro e wx2 ⟨rfl, hBx2⟩)
        | (go_at_call 17; clear T3; refine (depth_at LR (by with_reducible assumption)).mono ?_; rw [HD2.out]; rintro e wx3 ⟨rfl, hBx3⟩)
        | (go_at_call 17; clear T4; refine (depth_at LA (by with_reducible assumption)).mono ?_; rw [HD1.out]; rintro e wx4 ⟨rfl, hBx4⟩))
      all_goals go_wp2
      all_goals go_ret
      all_goals exact ⟨rfl, below_step hBw hBx4⟩

theorem order_law (hal : Alive) (a b c : S24) (n : Int) (hn : I64 n) (w : World) (A B C : Option Addr) (ca cb cc : Nat) (la : Lies w a A ca) (lb : Lies w b B cb) (lc : Lies w c C cc) :
    Calls Try.prog 4 #[.agg #[.int .i64 a.f0, .string a.f1, .int .i64 a.f2, .slice A a.f3.length ca], .agg #[.int .i64 b.f0, .string b.f1, .int .i64 b.f2, .slice B b.f3.length cb], .agg #[.int .i64 c.f0, .string c.f1, .int .i64 c.f2, .slice C c.f3.length cc], .int .i64 n] w fun e w' => e = .returned (.bool true) ∧ Below w.heap.size w w' := by
  by_cases h : okT a = true ∧ okT b = true ∧ okT c = true
  · exact order_good hal a b c n hn w A B C ca cb cc la lb lc h.1 h.2.1 h.2.2
  · exact order_bad hal a b c n hn w A B C ca cb cc la lb lc h

end Go.Proofs.Ytpnkaggkedepeaa
