/- The walk of TermCounts. -/
import Derived.Test.YtpnkaggkedepeaaTmGp
import Derived.Test.YtpnkaggkedepeaaTmPo
import Derived.Deep.RegionHeld3
namespace Go.Proofs.Ytpnkaggkedepeaa
set_option linter.unusedVariables false
open Go.RowKit Go.Maps Go.Proofs.YtpnkaggkedepeaaW.PrintWords Go.Proofs.YtpnkaggkedepeaaW.PrintLast Go.Proofs.YtpnkaggkedepeaaW.PrintMore Go.Proofs.Ytpnkaggkedepeaa.PTermTells Go.Extern

theorem add_zero' (ad : Addr) (h : ad.off = ad.off) : ad.add (0 : Nat) = ad := by cases ad; rfl
theorem bind_one {W : World} {x : Int} {t : S24} {A : Option Addr} {c : Nat} (hC : Kd.C k24 W A t.f3.length t.f3) (hl : t.f3.length ≤ c) :
    Kd.C k50 (W.alloc (.cells #[.int .i64 x, .int .i64 t.f0, .string t.f1, .int .i64 t.f2, .slice A t.f3.length c] 50)) (some ⟨W.heap.size, 0, none⟩) 1 [⟨x, t⟩] := by
  have hb := below_alloc (Below.refl W.heap.size W) (.cells #[.int .i64 x, .int .i64 t.f0, .string t.f1, .int .i64 t.f2, .slice A t.f3.length c] 50)
  have kz := blk_new W (.cells #[.int .i64 x, .int .i64 t.f0, .string t.f1, .int .i64 t.f2, .slice A t.f3.length c] 50)
  refine ⟨rfl, by decide, fun _ => ⟨_, rfl, fun j p hj => ?_⟩⟩
  have hj0 : j = 0 := by
    have := (List.getElem?_eq_some_iff.1 hj).1
    simp at this; omega
  subst hj0
  simp at hj
  subst hj
  refine ⟨_, rfl, k50_mk _ (⟨x, t⟩ : S50) hl (Kd.C_below hC hb), fun i u hu => ?_⟩
  have hi : i < 5 := by
    have := (List.getElem?_eq_some_iff.1 hu).1
    simpa using this
  have hz := blk_cell kz
  match i, hi with
  | 0, _ => simp at hu; subst hu; exact hz 0
  | 1, _ => simp at hu; subst hu; exact hz 1
  | 2, _ => simp at hu; subst hu; exact hz 2
  | 3, _ => simp at hu; subst hu; exact hz 3
  | 4, _ => simp at hu; subst hu; exact hz 4

theorem bind_in {W0 W : World} {x : Int} {t : S24} {A : Option Addr} {c H : Nat} (hC : Kd.C k24 W0 A t.f3.length t.f3) (hl : t.f3.length ≤ c) (hH : W0.heap.size = H)
    (hB : Below (W0.alloc (.cells #[.int .i64 x, .int .i64 t.f0, .string t.f1, .int .i64 t.f2, .slice A t.f3.length c] 50)).heap.size (W0.alloc (.cells #[.int .i64 x, .int .i64 t.f0, .string t.f1, .int .i64 t.f2, .slice A t.f3.length c] 50)) W) :
    Kd.C k50 W (some ⟨H, 0, none⟩) 1 [⟨x, t⟩] := by
  subst hH
  exact Kd.C_below (bind_one hC hl) hB
theorem apply_one_at {we W : World} {t v : S24} {A : Option Addr} {c H : Nat} {v0 : Int} (lt : Lies we t A c) (hi : I64 v0) (wv : wfT v) (hB : Below we.heap.size we W) (hC : Kd.C k50 W (some ⟨H, 0, none⟩) 1 [⟨v0, v⟩]) :
    Calls Try.prog 33 #[.agg #[.int .i64 t.f0, .string t.f1, .int .i64 t.f2, .slice A t.f3.length c], .slice (some ⟨H, 0, none⟩) 1 1] W fun e w' => ∃ A1 c1,
      e = .returned (.tuple #[.agg #[.int .i64 (applyT t [⟨v0, v⟩]).1.f0, .string (applyT t [⟨v0, v⟩]).1.f1, .int .i64 (applyT t [⟨v0, v⟩]).1.f2, .slice A1 (applyT t [⟨v0, v⟩]).1.f3.length c1], .int .i64 (applyT t [⟨v0, v⟩]).2]) ∧
      Kd.R k24 24 w' W.heap.size (fun _ => True) (.slice A1 (applyT t [⟨v0, v⟩]).1.f3.length c1) (applyT t [⟨v0, v⟩]).1.f3 ∧ wfT (applyT t [⟨v0, v⟩]).1 ∧ Below W.heap.size W w' :=
  (apply_any t [⟨v0, v⟩] W A _ c 1 (lt.at hB).C lt.le lt.wf hC (fun b hb => by rw [List.mem_singleton.1 hb]; exact ⟨hi, wv⟩)).mono fun e w' ⟨v6, a, r, b⟩ => by
    obtain ⟨A1, c1, rfl, h1, h2⟩ := Kd.R_reads r
    exact ⟨A1, c1, a, r, wf_apply lt.wf (fun b hb => by rw [List.mem_singleton.1 hb]; exact wv), b⟩
theorem lies_R {W : World} {B : Nat} {ok : Nat → Prop} {A : Option Addr} {c : Nat} {u : S24} (h : Kd.R k24 24 W B ok (.slice A u.f3.length c) u.f3) (hw : wfT u) : Lies W u A c := by
  obtain ⟨A1, c1, e, h1, h2⟩ := Kd.R_reads h
  simp only [Value.slice.injEq, true_and] at e
  obtain ⟨rfl, rfl⟩ := e
  exact ⟨h2, h1, hw⟩
theorem lies_set4 {W : World} {B g : Nat} {A : Option Addr} {c : Nat} {u : S24} (h : Kd.R k24 24 W B (fun _ => True) (.slice A u.f3.length c) u.f3) (hg : g < B) (hw : wfT u) (x0 x1 x2 x3 : Value) :
    Lies ((((W.setCell ⟨g, 0, none⟩ x0).setCell ⟨g, 1, none⟩ x1).setCell ⟨g, 2, none⟩ x2).setCell ⟨g, 3, none⟩ x3) u A c :=
  lies_R (R_set4 (Kd.R_bound h) (fun k hk => by have := hk.2.1; omega) x0 x1 x2 x3) hw

set_option maxHeartbeats 8000000 in
set_option maxRecDepth 100000 in
theorem counts_law (hal : Alive) (nm : ByteArray) (args : List S24) (v : S24) (w : World) (A B : Option Addr) (ca cv : Nat) (hC : Kd.C k24 w A args.length args) (hle : args.length ≤ ca) (hwf : ∀ t ∈ args, wfT t) (lv : Lies w v B cv) :
    Calls Try.prog 11 #[.string nm, .slice A args.length ca, .agg #[.int .i64 v.f0, .string v.f1, .int .i64 v.f2, .slice B v.f3.length cv]] w fun e w' => e = .returned (.bool true) ∧ Below w.heap.size w w' := by
  have HAL := Lib.hid hal
  have hm9 := hC.2.1
  have hB0 := below_alloc (Below.refl w.heap.size w) (.cells #[.int .i64 v.f0, .string v.f1, .int .i64 v.f2, .slice B v.f3.length cv] 24)
  have kV := blk_new w (.cells #[.int .i64 v.f0, .string v.f1, .int .i64 v.f2, .slice B v.f3.length cv] 24)
  have LV := lv.at hB0
  have CT := Kd.C_below hC hB0
  clear hal lv hC
  go_enter Try.func11, Try.ntmps11
  go_wp2_with fail
  refine (HAL.out _).mono ?_
  rintro e w1 ⟨rfl, hb1⟩
  have hBw := below_step hB0 hb1
  replace kV := blk_below kV hb1
  replace LV := LV.at hb1
  replace CT := Kd.C_below CT hb1
  clear hb1 hB0 HAL
  go_upto_region 4 with (fail)
  have kT := blk_new w1 (.cells #[.int .i64 4, .string nm, .int .i64 0, .slice A args.length ca] 24)
  have bb := below_alloc (Below.refl w1.heap.size w1) (.cells #[.int .i64 4, .string nm, .int .i64 0, .slice A args.length ca] 24)
  replace kV := blk_below kV bb
  replace LV := LV.at bb
  replace CT := Kd.C_below CT bb
  replace hBw := below_step hBw bb
  generalize w1.alloc (.cells #[.int .i64 4, .string nm, .int .i64 0, .slice A args.length ca] 24) = w2 at kV kT LV CT hBw bb ⊢
  clear bb
  generalize w1.heap.size = gt at kT ⊢
  have LT : Lies w2 ⟨4, nm, 0, args⟩ A ca := ⟨CT, hle, by rw [wfT]; exact ⟨I64_zero, wfL_of _ hwf⟩⟩
  have HS := Lib.hid (show ∀ W, Below w2.heap.size w2 W → W.cell? ⟨w.heap.size, 0, none⟩ = some (.int .i64 v.f0) ∧ W.cell? ⟨w.heap.size, 1, none⟩ = some (.string v.f1) ∧ W.cell? ⟨w.heap.size, 2, none⟩ = some (.int .i64 v.f2) ∧ W.cell? ⟨w.heap.size, 3, none⟩ = some (.slice B v.f3.length cv) ∧ W.cell? ⟨gt, 0, none⟩ = some (.int .i64 4) ∧ W.cell? ⟨gt, 1, none⟩ = some (.string nm) ∧ W.cell? ⟨gt, 2, none⟩ = some (.int .i64 0) ∧ W.cell? ⟨gt, 3, none⟩ = some (.slice A args.length ca) from fun W hW => by
    have k1 := blk_below kV hW
    have k2 := blk_below kT hW
    exact ⟨blk_cell k1 0, blk_cell k1 1, blk_cell k1 2, blk_cell k1 3, blk_cell k2 0, blk_cell k2 1, blk_cell k2 2, blk_cell k2 3⟩)
  clear kV kT
  have HTW := Lib.hid hwf
  clear hwf
  have hB2 := Below.refl w2.heap.size w2
  obtain ⟨p0, p1, p2, p3, p4, p5, p6, p7⟩ := HS.out _ hB2
  have hcall := check_at LT hB2
  clear hB2
  dsimp only at hcall
  cases hok : okT ⟨4, nm, 0, args⟩ with
  | false =>
    rw [hok, if_neg (by decide)] at hcall
    have e1 : sizeT ⟨4, nm, 0, args⟩ = 0 := by unfold sizeT; rw [hok, if_neg (by decide)]
    have e2 : depthT ⟨4, nm, 0, args⟩ = 0 := by unfold depthT; rw [hok, if_neg (by decide)]
    have e3 : varsOf ⟨4, nm, 0, args⟩ = [] := by unfold varsOf; rw [hok, if_neg (by decide)]
    have E1 := Lib.hid e1
    have E2 := Lib.hid e2
    have E3 := Lib.hid e3
    clear hok e1 e2 e3
    go_wp2_with fail
    refine hcall.mono ?_
    rintro e w3 ⟨rfl, hB3⟩
    clear hcall p0 p1 p2 p3 p4 p5 p6 p7
    obtain ⟨p0, p1, p2, p3, p4, p5, p6, p7⟩ := HS.out _ hB3
    have hcall := size_at LT hB3
    dsimp only at hcall
    rw [E1.out] at hcall
    go_wp2_with fail
    refine hcall.mono ?_
    rintro e w4 ⟨rfl, hB4⟩
    clear hcall p0 p1 p2 p3 p4 p5 p6 p7
    obtain ⟨p0, p1, p2, p3, p4, p5, p6, p7⟩ := HS.out _ hB4
    have hcall := depth_at LT hB4
    dsimp only at hcall
    rw [E2.out] at hcall
    go_wp2_with fail
    refine hcall.mono ?_
    rintro e w5 ⟨rfl, hB5⟩
    clear hcall p0 p1 p2 p3 p4 p5 p6 p7
    obtain ⟨p0, p1, p2, p3, p4, p5, p6, p7⟩ := HS.out _ hB5
    have hcall := vars_at LT hB5
    dsimp only at hcall
    rw [E3.out] at hcall
    go_wp2_with fail
    refine hcall.mono ?_
    rintro e w6 ⟨A6, c6, rfl, _, _, hB6⟩
    clear hcall p0 p1 p2 p3 p4 p5 p6 p7
    go_wp2
    go_ret
    exact ⟨rfl, below_step hBw hB6⟩
  | true =>
  rw [hok, if_pos rfl] at hcall
  have HOK := Lib.hid hok
  have hsum : nodesL args ≤ 1999 := by
    have h1 := nodes_ok hok
    rw [nodes, if_pos rfl] at h1
    omega
  have HOA := Lib.hid (show ∀ x ∈ args, okT x = true from fun x hx => ok_arg (a := x) hok rfl hx)
  have hdep : 0 ≤ dptL args ∧ dptL args ≤ 99 := by
    have h1 := ((okT_iff _).1 hok).2.2
    rw [dpt, if_pos rfl] at h1
    have := dptL_pos args
    omega
  clear hok
  go_wp2_with fail
  refine hcall.mono ?_
  rintro e w3 ⟨rfl, hB3⟩
  clear hcall p0 p1 p2 p3 p4 p5 p6 p7
  go_upto_region 8 with (fail)
  have hO0 : (w3.alloc (.cells #[] 2)).ownsRow w2.heap.size 2 1 (.slice (some ⟨w3.heap.size, 0, none⟩) 0 0) 0 [] := World.ownsRow_made w3 #[] 0 hB3.size (by decide) (by simp)
  replace hO0 : OutAt (w3.alloc (.cells #[] 2)) w2.heap.size (.slice (some ⟨w3.heap.size, 0, none⟩) 0 0) [] := hO0
  have hB4 := below_alloc hB3 (.cells #[] 2)
  clear hB3
  generalize w3.alloc (.cells #[] 2) = w4 at hO0 hB4 ⊢
  go_wp2_with fail
  go_loopw [8, 9, 10, 42] (fun s d o i wr => ∃ (k : Nat), k ≤ args.length ∧ s = .int .i64 (1 + nodesL (args.take k) : Nat) ∧ d = .int .i64 (dptL (args.take k)) ∧ i = .int .i64 k ∧ OutAt wr w2.heap.size o (varsL (args.take k) []) ∧ Below w2.heap.size w2 wr)
    (fun _ _ _ i _ => args.length - (intOf i).toNat)
  case atStart => exact ⟨0, Nat.zero_le _, by rw [List.take_zero, nodesL_nil]; rfl, by rw [List.take_zero, dptL_nil], rfl, by rw [List.take_zero, varsL_nil]; exact hO0, hB4⟩
  case round =>
    clear hO0 hB4
    obtain ⟨k, hk, rfl, rfl, rfl, hO, hBr⟩ := hrel
    by_cases hlt : k < args.length
    · have hgr := C_rd CT k hlt rfl
      have hxw := HTW.out _ (List.getElem_mem hlt)
      have hxo := HOA.out _ (List.getElem_mem hlt)
      have e1 := nodesL_take args k hlt
      have e2 := dptL_take args k hlt
      have e3 := varsL_take args k hlt
      have l1 : nodesL (args.take (k + 1)) ≤ nodesL args := by
        have := nodesL_append (args.take (k + 1)) (args.drop (k + 1))
        rw [List.take_append_drop] at this; omega
      have l2 := dptL_pos (args.take k)
      have l3 : dptL (args.take (k + 1)) ≤ dptL args := by
        have := dptL_append (args.take (k + 1)) (args.drop (k + 1))
        rw [List.take_append_drop] at this; omega
      have l4 : (varsL (args.take k) []).length ≤ nodesL (args.take k) := by have := varsL_len (args.take k) []; simpa using this
      have l5 := dpt_pos args[k]
      generalize args[k] = x at hgr hxw hxo e1 e2 e3 l5
      obtain ⟨ad, A4, c4, rfl, y0, y1, y2, y3, lx, gx⟩ := hgr
      have LX : Lies w2 x A4 c4 := ⟨gx, lx, hxw⟩
      clear gx
      have s1 : sizeT x = nodes x := sizeT_ok hxo
      have s2 : depthT x = dpt x := depthT_ok hxo
      have s3 : varsOf x = varsT x [] := by unfold varsOf; rw [if_pos hxo]
      have l6 : (varsT x []).length ≤ 2000 := by
        have h1 := varsT_len x []
        have h2 := nodes_ok hxo
        simp only [List.length_nil] at h1
        omega
      have S1 := Lib.hid s1
      have S2 := Lib.hid s2
      have S3 := Lib.hid s3
      have E3 := Lib.hid e3
      obtain ⟨n0, hn0⟩ : ∃ n0, n0 = 1 + nodesL (args.take k) := ⟨_, rfl⟩
      obtain ⟨n1, hn1⟩ : ∃ n1, n1 = nodes x := ⟨_, rfl⟩
      have N2 := Lib.hid (show 1 + nodesL (args.take (k + 1)) = n0 + n1 by omega)
      obtain ⟨d0, hd0⟩ : ∃ d0, d0 = dptL (args.take k) := ⟨_, rfl⟩
      obtain ⟨d1, hd1⟩ : ∃ d1, d1 = dpt x := ⟨_, rfl⟩
      have D2 := Lib.hid (show dptL (args.take (k + 1)) = max d0 d1 by rw [hd0, hd1]; exact e2)
      have b1 : n0 + n1 ≤ 2000 := by omega
      have b2 : 0 ≤ d0 ∧ d0 ≤ 99 := by omega
      have b3 : 0 ≤ d1 ∧ d1 ≤ 99 := by omega
      have l7 : (varsL (args.take k) []).length ≤ 2000 := by omega
      rw [← hn1] at S1
      rw [← hd1] at S2
      rw [← hn0, ← hd0]
      generalize varsL (args.take k) [] = o0 at hO E3 l7
      generalize varsT x [] = lz at S3 E3 l6
      clear hn0 hn1 hd0 hd1 e1 e2 e3 s1 s2 s3 l1 l2 l3 l4 l5 hxw hxo
      replace y0 := (hBr.cell (World.block_lt_of_cell? w2 _ y0)).trans y0
      replace y1 := (hBr.cell (World.block_lt_of_cell? w2 _ y1)).trans y1
      replace y2 := (hBr.cell (World.block_lt_of_cell? w2 _ y2)).trans y2
      replace y3 := (hBr.cell (World.block_lt_of_cell? w2 _ y3)).trans y3
      go_upto_region 11 with (fail)
      have bz := below_alloc (Below.refl wr.heap.size wr) (.cells #[.int .i64 x.f0, .string x.f1, .int .i64 x.f2, .slice A4 x.f3.length c4] 24)
      have kz := blk_new wr (.cells #[.int .i64 x.f0, .string x.f1, .int .i64 x.f2, .slice A4 x.f3.length c4] 24)
      have hOz : OutAt (wr.alloc (.cells #[.int .i64 x.f0, .string x.f1, .int .i64 x.f2, .slice A4 x.f3.length c4] 24)) w2.heap.size u10 o0 := World.ownsRow.alloc hO (.cells #[.int .i64 x.f0, .string x.f1, .int .i64 x.f2, .slice A4 x.f3.length c4] 24)
      have hBz := below_step hBr bz
      clear y0 y1 y2 y3 hO hBr bz
      generalize wr.alloc (.cells #[.int .i64 x.f0, .string x.f1, .int .i64 x.f2, .slice A4 x.f3.length c4] 24) = wz at kz hOz hBz ⊢
      generalize wr.heap.size = gz at kz ⊢
      have HS2 := Lib.hid (show ∀ W, Below wz.heap.size wz W → W.cell? ⟨gz, 0, none⟩ = some (.int .i64 x.f0) ∧ W.cell? ⟨gz, 1, none⟩ = some (.string x.f1) ∧ W.cell? ⟨gz, 2, none⟩ = some (.int .i64 x.f2) ∧ W.cell? ⟨gz, 3, none⟩ = some (.slice A4 x.f3.length c4) from fun W hW => by
        have k1 := blk_below kz hW
        exact ⟨blk_cell k1 0, blk_cell k1 1, blk_cell k1 2, blk_cell k1 3⟩)
      clear kz
      have LXz := LX.at hBz
      clear LX
      have hB := Below.refl wz.heap.size wz
      obtain ⟨q0, q1, q2, q3⟩ := HS2.out _ hB
      have hcall := size_at LXz hB
      clear hB
      rw [S1.out] at hcall
      go_wp2_with fail
      refine hcall.mono ?_
      rintro e wa ⟨rfl, hBa⟩
      clear hcall q0 q1 q2 q3
      obtain ⟨q0, q1, q2, q3⟩ := HS2.out _ hBa
      have hcall := depth_at LXz hBa
      rw [S2.out] at hcall
      go_wp2_with fail
      refine hcall.mono ?_
      rintro e wb ⟨rfl, hBb⟩
      clear hcall hBa q0 q1 q2 q3
      obtain ⟨q0, q1, q2, q3⟩ := HS2.out _ hBb
      have hOb := ownsRow_belowB hOz hBb
      have hBr := below_step hBz hBb
      have hcall := vars_of x wb A4 c4 (LXz.at hBb).C lx
      rw [S3.out] at hcall
      clear hOz hBz hBb
      go_wp2_with fail
      refine hcall.mono ?_
      rintro e wc ⟨vl, rfl, hOl, hBc⟩
      clear hcall q0 q1 q2 q3 HS2
      obtain ⟨Al, cl, rfl, hcl, -⟩ := hOl.reads
      have hnq : ∀ q, u10.ownBlock = some q → (Value.slice Al lz.length cl).ownBlock ≠ some q := fun q hq e => by
        have h1 := (World.ownsRow.lt hOb q hq).2
        have h2 := (World.ownsRow.lt hOl q e).1
        omega
      have hOc := ownsRow_belowB hOb hBc
      replace hBr := below_step hBr hBc
      clear hOb hBc
      have HNQ := Lib.hid hnq
      clear hnq
      go_wp2_with fail
      go_loopw [10, 57] (fun v j wr2 => ∃ (m : Nat) (o : List Int), m ≤ lz.length ∧ j = .int .i64 m ∧ (lz.take m).foldl addv o0 = o ∧ o.length ≤ 2000 + m ∧ OutAt wr2 w2.heap.size v o ∧ OutAt wr2 wb.heap.size (.slice Al lz.length cl) lz ∧ (∀ q, v.ownBlock = some q → (Value.slice Al lz.length cl).ownBlock ≠ some q) ∧ Below w2.heap.size w2 wr2)
        (fun _ j _ => lz.length - (intOf j).toNat)
      case atStart => exact ⟨0, o0, Nat.zero_le _, rfl, rfl, by omega, hOc, hOl, HNQ.out, hBr⟩
      case round =>
        clear hOc hOl HNQ hBr
        obtain ⟨m, o, hm, rfl, ho, hol, hO, hL, hnq, hB⟩ := hrel
        have HO1 := Lib.hid ho
        have HNQ := Lib.hid hnq
        clear ho hnq
        by_cases hlt2 : m < lz.length
        · obtain ⟨A', c', e', _, CL⟩ := hL.reads
          cases e'
          obtain ⟨al, rfl, hy⟩ := ints_rd CL m hlt2
          obtain ⟨A1, c1, rfl, hc1, C1⟩ := hO.reads
          have hfold : (lz.take (m + 1)).foldl addv o0 = addv o lz[m] := by rw [List.take_succ_eq_append_getElem hlt2, List.foldl_append, HO1.out]; rfl
          have HF := Lib.hid hfold
          clear hfold CL
          generalize lz[m] = nn at hy HF
          have hcall := hasLong_at (w0 := wr) o nn C1 hc1 (by omega) (Below.refl _ _)
          by_cases hmem : nn ∈ o
          · have ha : addv o nn = o := by unfold addv; rw [if_pos hmem]
            rw [decide_eq_true hmem] at hcall
            go_wp2_with fail
            refine hcall.mono ?_
            rintro e w9 ⟨rfl, hB9⟩
            have hO9 := ownsRow_belowB hO hB9
            have hL9 := ownsRow_belowB hL hB9
            have hB' := below_step hB hB9
            clear hcall
            go_wp2
            go_roundw
            case rel => exact ⟨m + 1, o, by omega, by go_num, by rw [HF.out, ha], by omega, hO9, hL9, HNQ.out, hB'⟩
            case measure => simp [intOf]; omega
          · have ha : addv o nn = o ++ [nn] := by unfold addv; rw [if_neg hmem]
            rw [decide_eq_false hmem] at hcall
            have HA := Lib.hid ha
            clear ha hmem
            go_wp2_with fail
            refine hcall.mono ?_
            rintro e w9 ⟨rfl, hB9⟩
            have hO9 := ownsRow_belowB hO hB9
            have hL9 := ownsRow_belowB hL hB9
            have hB' := below_step hB hB9
            have hs9 := hB'.size
            clear hcall hO hL hB hB9 C1 hc1 hy
            go_wp2_with (at_builtin; refine print_append_num (w0 := w2) w2.heap.size rfl (.tmp 65) (.tmp 67) 30 2 .i64 8 rfl Try.underlying30 info2 (by decide) (.slice A1 o.length c1) o nn rfl rfl hO9 hB' hs9 (by omega) ?_; intro v1 wd hown1 hBd hgd hatd)
            have hlb := World.ownsRow.lt hL9 al.block rfl
            have hLd : OutAt wd wb.heap.size (.slice (some al) lz.length cl) lz := World.ownsRow.kept hL9 hgd (.inr (by
              cases hv : (Value.slice A1 o.length c1).ownBlock with
              | none => simp [Value.ownBlock]
              | some q => exact HNQ.out q hv))
            have hnq1 : ∀ q, v1.ownBlock = some q → (Value.slice (some al) lz.length cl).ownBlock ≠ some q := fun q hq => by
              rcases hatd with e | ⟨b, e, hb⟩
              · exact HNQ.out q (by rw [← e, hq])
              · rw [hq] at e
                obtain rfl := Option.some.inj e
                intro e2
                have := Option.some.inj e2
                omega
            go_roundw
            case rel => exact ⟨m + 1, o ++ [nn], by omega, by go_num, by rw [HF.out, HA.out], by simp; omega, hown1, hLd, hnq1, hBd⟩
            case measure => simp [intOf]; omega
        · obtain rfl : m = lz.length := by omega
          rw [List.take_length] at HO1
          have ho := (E3.out).trans HO1.out
          go_wp2
          go_roundw
          case rel => exact ⟨k + 1, by omega, by rw [N2.out]; push_cast; rfl, by rw [D2.out], by go_num, by rw [ho]; exact hO, hB⟩
          case measure => simp [intOf]; omega
    · obtain rfl : k = args.length := by omega
      rw [List.take_length] at hO ⊢
      have sz : sizeT ⟨4, nm, 0, args⟩ = ((1 + nodesL args : Nat) : Int) := by rw [sizeT_ok HOK.out, nodes, if_pos rfl]
      have dz : depthT ⟨4, nm, 0, args⟩ = dptL args + 1 := by rw [depthT_ok HOK.out, dpt, if_pos rfl]
      have vt : varsT ⟨4, nm, 0, args⟩ [] = varsL args [] := by rw [varsT, if_neg (by decide), if_pos rfl]
      have vz : varsOf ⟨4, nm, 0, args⟩ = varsL args [] := by unfold varsOf; rw [if_pos HOK.out, vt]
      have hvl : (varsL args []).length ≤ 2000 := by have := varsL_len args []; simp only [List.length_nil] at this; omega
      obtain ⟨n0, hn0⟩ : ∃ n0, n0 = 1 + nodesL args := ⟨_, rfl⟩
      obtain ⟨d0, hd0⟩ : ∃ d0, d0 = dptL args := ⟨_, rfl⟩
      obtain ⟨vs, hvs⟩ : ∃ vs, vs = varsL args [] := ⟨_, rfl⟩
      have hnt : nodes ⟨4, nm, 0, args⟩ = n0 := by rw [nodes, if_pos rfl, hn0]
      have hn1 : n0 ≤ 2000 := by omega
      rw [← hn0] at sz ⊢
      rw [← hd0] at dz hdep ⊢
      rw [← hvs] at vt vz hvl hO
      have SZ := Lib.hid sz
      have DZ := Lib.hid dz
      have VT := Lib.hid vt
      have VZ := Lib.hid vz
      have HNT := Lib.hid hnt
      clear sz dz vt vz hn0 hd0 hvs hnt hsum HOA HTW CT hle hm9 hk hlt
      have LTr := LT.at hBr
      have LVr := LV.at hBr
      have hBw' := below_step hBw hBr
      have HR := Lib.hid (show ∀ W, Below wr.heap.size wr W → W.cell? ⟨w.heap.size, 0, none⟩ = some (.int .i64 v.f0) ∧ W.cell? ⟨w.heap.size, 1, none⟩ = some (.string v.f1) ∧ W.cell? ⟨w.heap.size, 2, none⟩ = some (.int .i64 v.f2) ∧ W.cell? ⟨w.heap.size, 3, none⟩ = some (.slice B v.f3.length cv) ∧ W.cell? ⟨gt, 0, none⟩ = some (.int .i64 4) ∧ W.cell? ⟨gt, 1, none⟩ = some (.string nm) ∧ W.cell? ⟨gt, 2, none⟩ = some (.int .i64 0) ∧ W.cell? ⟨gt, 3, none⟩ = some (.slice A args.length ca) from fun W hW => HS.out _ (below_step hBr hW))
      clear HS LT LV hBw hBr
      have hB := Below.refl wr.heap.size wr
      obtain ⟨p0, p1, p2, p3, p4, p5, p6, p7⟩ := HR.out _ hB
      have hcall := size_at LTr hB
      dsimp only at hcall
      rw [SZ.out] at hcall
      clear hB
      go_wp2_with fail
      refine hcall.mono ?_
      rintro e wa ⟨rfl, hBa⟩
      clear hcall p0 p1 p2 p3 p4 p5 p6 p7
      obtain ⟨p0, p1, p2, p3, p4, p5, p6, p7⟩ := HR.out _ hBa
      have hcall := depth_at LTr hBa
      dsimp only at hcall
      rw [DZ.out] at hcall
      go_wp2_with fail
      refine hcall.mono ?_
      rintro e wb ⟨rfl, hBb⟩
      clear hcall hBa p0 p1 p2 p3 p4 p5 p6 p7
      obtain ⟨p0, p1, p2, p3, p4, p5, p6, p7⟩ := HR.out _ hBb
      have hcall := vars_at LTr hBb
      dsimp only at hcall
      rw [VZ.out] at hcall
      go_wp2_with fail
      refine hcall.mono ?_
      rintro e wc ⟨Av, cv', rfl, hcv', CV, hBc⟩
      clear hcall hBb p0 p1 p2 p3 p4 p5 p6 p7
      have hOc : OutAt wc w2.heap.size u10 vs := ownsRow_belowB hO hBc
      clear hO
      obtain ⟨Ao, co, rfl, hco, CO⟩ := hOc.reads
      have hcall := pythiaref01_SameLongs.calls (vs.length + 1) Av cv' vs Ao co vs true wc CV hcv' CO hco (by rw [sameLongs_pure vs vs (by omega)]; simp)
      clear CV hcv'
      go_wp2_with fail
      refine hcall.mono ?_
      rintro e wd ⟨rfl, hDd⟩
      clear hcall
      have hBd := below_step hBc (drawn_below hDd)
      have hOd : OutAt wd w2.heap.size (.slice Ao vs.length co) vs := ownsRow_belowB hOc (drawn_below hDd)
      clear hOc hDd hBc CO hco
      by_cases hv0 : vs.length = 0
      · go_wp2
        go_ret
        exact ⟨rfl, below_step hBw' hBd⟩
      obtain ⟨p0, p1, p2, p3, p4, p5, p6, p7⟩ := HR.out _ hBd
      have LTd := LTr.at hBd
      have LVd := LVr.at hBd
      replace hBw' := below_step hBw' hBd
      have HD := Lib.hid (show ∀ W, Below wd.heap.size wd W → W.cell? ⟨w.heap.size, 0, none⟩ = some (.int .i64 v.f0) ∧ W.cell? ⟨w.heap.size, 1, none⟩ = some (.string v.f1) ∧ W.cell? ⟨w.heap.size, 2, none⟩ = some (.int .i64 v.f2) ∧ W.cell? ⟨w.heap.size, 3, none⟩ = some (.slice B v.f3.length cv) ∧ W.cell? ⟨gt, 0, none⟩ = some (.int .i64 4) ∧ W.cell? ⟨gt, 1, none⟩ = some (.string nm) ∧ W.cell? ⟨gt, 2, none⟩ = some (.int .i64 0) ∧ W.cell? ⟨gt, 3, none⟩ = some (.slice A args.length ca) from fun W hW => HR.out _ (below_step hBd hW))
      have hsd := hBd.size
      clear HR LTr LVr hBd
      have hcall := check_at LVd (Below.refl wd.heap.size wd)
      cases hokv : okT v with
      | false =>
        rw [hokv, if_neg (by decide)] at hcall
        clear hokv
        go_wp2_with fail
        refine hcall.mono ?_
        rintro e we ⟨rfl, hBe⟩
        clear hcall p0 p1 p2 p3 p4 p5 p6 p7
        go_wp2
        go_ret
        exact ⟨rfl, below_step hBw' hBe⟩
      | true =>
      rw [hokv, if_pos rfl] at hcall
      have HOV := Lib.hid hokv
      clear hokv
      go_wp2_with fail
      refine hcall.mono ?_
      rintro e we ⟨rfl, hBe⟩
      clear hcall p0 p1 p2 p3 p4 p5 p6 p7
      have hOe : OutAt we w2.heap.size (.slice Ao vs.length co) vs := ownsRow_belowB hOd hBe
      clear hOd
      obtain ⟨A', c', e', _, CO⟩ := hOe.reads
      cases e'
      obtain ⟨ad, rfl, hy0⟩ := ints_rd CO 0 (by omega)
      rw [Addr.add_zero'] at hy0
      have hv00 : 0 < vs.length := by omega
      have hmem : vs[0] ∈ varsT ⟨4, nm, 0, args⟩ [] := by rw [VT.out]; exact List.getElem_mem _
      have hi0 : I64 vs[0] := varsT_i64 _ [] LTd.wf (fun x hx => by cases hx) _ hmem
      have HMEM := Lib.hid hmem
      have HI0 := Lib.hid hi0
      clear hmem hi0
      generalize vs[0] = v0 at hy0 HMEM HI0
      have HY := Lib.hid (show ∀ W, Below we.heap.size we W → W.cell? ad = some (.int .i64 v0) from fun W hW => (hW.cell (World.block_lt_of_cell? we _ hy0)).trans hy0)
      have hBe0 := Below.refl we.heap.size we
      have HE := Lib.hid (show ∀ W, Below we.heap.size we W → W.cell? ⟨w.heap.size, 0, none⟩ = some (.int .i64 v.f0) ∧ W.cell? ⟨w.heap.size, 1, none⟩ = some (.string v.f1) ∧ W.cell? ⟨w.heap.size, 2, none⟩ = some (.int .i64 v.f2) ∧ W.cell? ⟨w.heap.size, 3, none⟩ = some (.slice B v.f3.length cv) ∧ W.cell? ⟨gt, 0, none⟩ = some (.int .i64 4) ∧ W.cell? ⟨gt, 1, none⟩ = some (.string nm) ∧ W.cell? ⟨gt, 2, none⟩ = some (.int .i64 0) ∧ W.cell? ⟨gt, 3, none⟩ = some (.slice A args.length ca) ∧ W.cell? ad = some (.int .i64 v0) from fun W hW => by
        obtain ⟨p0, p1, p2, p3, p4, p5, p6, p7⟩ := HD.out _ (below_step hBe hW)
        exact ⟨p0, p1, p2, p3, p4, p5, p6, p7, HY.out _ hW⟩)
      have LTe := LTd.at hBe
      have LVe := LVd.at hBe
      replace hBw' := below_step hBw' hBe
      clear HD HY LTd LVd hBe CO hy0 hOe
      go_upto_region 24 with (fail)
      have d0 : Below we.heap.size we we.drew := hBe0.drew
      obtain ⟨u, er, hu⟩ : ∃ u er, applyT ⟨4, nm, 0, args⟩ [⟨v0, v⟩] = (u, er) := ⟨_, _, rfl⟩
      have HU := Lib.hid hu
      clear hu
      have cA := apply_one_at (t := ⟨4, nm, 0, args⟩) (v := v) (v0 := v0) (W := (we.alloc (.cells #[.int .i64 v0, .int .i64 v.f0, .string v.f1, .int .i64 v.f2, .slice B v.f3.length cv] 50)).drew) LTe HI0.out LVe.wf (Below.drew (below_alloc hBe0 (.cells #[.int .i64 v0, .int .i64 v.f0, .string v.f1, .int .i64 v.f2, .slice B v.f3.length cv] 50))) (bind_in (H := we.heap.size) (W0 := we) LVe.C LVe.le rfl (Below.drew (Below.refl _ _)))
      have cB := apply_one_at (t := ⟨4, nm, 0, args⟩) (v := v) (v0 := v0) (W := ((we.alloc (.cells #[.int .i64 v0, .int .i64 v.f0, .string v.f1, .int .i64 v.f2, .slice B v.f3.length cv] 50)).alloc (.cells #[.int .i64 0, .string ⟨#[]⟩, .int .i64 0, .slice none 0 0] 24)).drew) LTe HI0.out LVe.wf (Below.drew (below_alloc (below_alloc hBe0 (.cells #[.int .i64 v0, .int .i64 v.f0, .string v.f1, .int .i64 v.f2, .slice B v.f3.length cv] 50)) (.cells #[.int .i64 0, .string ⟨#[]⟩, .int .i64 0, .slice none 0 0] 24))) (bind_in (H := we.heap.size) (W0 := we) LVe.C LVe.le rfl (Below.drew (below_alloc (Below.refl _ _) _)))
      have cC := apply_one_at (t := ⟨4, nm, 0, args⟩) (v := v) (v0 := v0) (W := ((we.alloc (.cells #[.int .i64 0, .string ⟨#[]⟩, .int .i64 0, .slice none 0 0] 24)).alloc (.cells #[.int .i64 v0, .int .i64 v.f0, .string v.f1, .int .i64 v.f2, .slice B v.f3.length cv] 50)).drew) LTe HI0.out LVe.wf (Below.drew (below_alloc (below_alloc hBe0 (.cells #[.int .i64 0, .string ⟨#[]⟩, .int .i64 0, .slice none 0 0] 24)) (.cells #[.int .i64 v0, .int .i64 v.f0, .string v.f1, .int .i64 v.f2, .slice B v.f3.length cv] 50))) (bind_in (H := we.heap.size + 1) (W0 := we.alloc (.cells #[.int .i64 0, .string ⟨#[]⟩, .int .i64 0, .slice none 0 0] 24)) (Kd.C_below LVe.C (below_alloc (Below.refl _ _) _)) LVe.le (by simp) (Below.drew (Below.refl _ _)))
      rw [HU.out] at cA cB cC
      dsimp only at cA cB cC
      go_cut [15, 16] from 17 to 108 (fun p e wx => ∃ (g : Nat) (A6 : Option Addr) (c6 : Nat), p = .pointer (some ⟨g, 0, none⟩) ∧ e = .int .i64 er ∧ wx.heap[g]? = some (.cells #[.int .i64 u.f0, .string u.f1, .int .i64 u.f2, .slice A6 u.f3.length c6] 24 (0, 0)) ∧ Lies wx u A6 c6 ∧ Below we.heap.size we wx)
      case first =>
        go_region_held3 (fun W : World => W.cell? ⟨w.heap.size, 0, none⟩ = some (.int .i64 v.f0) ∧ W.cell? ⟨w.heap.size, 1, none⟩ = some (.string v.f1) ∧ W.cell? ⟨w.heap.size, 2, none⟩ = some (.int .i64 v.f2) ∧ W.cell? ⟨w.heap.size, 3, none⟩ = some (.slice B v.f3.length cv) ∧ W.cell? ⟨gt, 0, none⟩ = some (.int .i64 4) ∧ W.cell? ⟨gt, 1, none⟩ = some (.string nm) ∧ W.cell? ⟨gt, 2, none⟩ = some (.int .i64 0) ∧ W.cell? ⟨gt, 3, none⟩ = some (.slice A args.length ca) ∧ W.cell? ad = some (.int .i64 v0)) ((refine HE.out _ ?_; repeat (first | with_reducible assumption | refine Below.drew ?_ | refine below_alloc ?_ _ | refine below_set ?_ (by first | omega | (simp; done) | (simp; omega)))))
          (first
          | (go_at_call 33; (with_reducible refine (cA).mono ?_); rintro e wy ⟨A6, c6, rfl, r6, w6, d6⟩; have D6 := below_step (Below.drew (below_alloc hBe0 (.cells #[.int .i64 v0, .int .i64 v.f0, .string v.f1, .int .i64 v.f2, .slice B v.f3.length cv] 50))) d6)
          | (go_at_call 33; (with_reducible refine (cB).mono ?_); rintro e wy ⟨A6, c6, rfl, r6, w6, d6⟩; have D6 := below_step (Below.drew (below_alloc (below_alloc hBe0 (.cells #[.int .i64 v0, .int .i64 v.f0, .string v.f1, .int .i64 v.f2, .slice B v.f3.length cv] 50)) (.cells #[.int .i64 0, .string ⟨#[]⟩, .int .i64 0, .slice none 0 0] 24))) d6; have kb := blk_below (w := ((we.alloc (.cells #[.int .i64 v0, .int .i64 v.f0, .string v.f1, .int .i64 v.f2, .slice B v.f3.length cv] 50)).alloc (.cells #[.int .i64 0, .string ⟨#[]⟩, .int .i64 0, .slice none 0 0] 24)).drew) (blk_new (we.alloc (.cells #[.int .i64 v0, .int .i64 v.f0, .string v.f1, .int .i64 v.f2, .slice B v.f3.length cv] 50)) (.cells #[.int .i64 0, .string ⟨#[]⟩, .int .i64 0, .slice none 0 0] 24)) d6; rw [World.size_alloc] at kb; have b0 := blk_cell kb 0; have b1 := blk_cell kb 1; have b2 := blk_cell kb 2; have b3 := blk_cell kb 3; have fb := fun i => blk_frozen kb i; have lb := blk_lt kb)
          | (go_at_call 33; (with_reducible refine (cC).mono ?_); rintro e wy ⟨A6, c6, rfl, r6, w6, d6⟩; have D6 := below_step (Below.drew (below_alloc (below_alloc hBe0 (.cells #[.int .i64 0, .string ⟨#[]⟩, .int .i64 0, .slice none 0 0] 24)) (.cells #[.int .i64 v0, .int .i64 v.f0, .string v.f1, .int .i64 v.f2, .slice B v.f3.length cv] 50))) d6; have kb := blk_below (w := ((we.alloc (.cells #[.int .i64 0, .string ⟨#[]⟩, .int .i64 0, .slice none 0 0] 24)).alloc (.cells #[.int .i64 v0, .int .i64 v.f0, .string v.f1, .int .i64 v.f2, .slice B v.f3.length cv] 50)).drew) (blk_alloc (blk_new we (.cells #[.int .i64 0, .string ⟨#[]⟩, .int .i64 0, .slice none 0 0] 24)) (.cells #[.int .i64 v0, .int .i64 v.f0, .string v.f1, .int .i64 v.f2, .slice B v.f3.length cv] 50)) d6; have b0 := blk_cell kb 0; have b1 := blk_cell kb 1; have b2 := blk_cell kb 2; have b3 := blk_cell kb 3; have fb := fun i => blk_frozen kb i; have lb := blk_lt kb))
        all_goals (go_wp2_with fail; go_meet)
        · exact ⟨_, A6, c6, rfl, rfl, blk_new _ _, (lies_R r6 w6).at (below_alloc (Below.refl _ _) _), below_alloc D6 _⟩
        · exact ⟨_, A6, c6, rfl, rfl, res_box kb _ _ _ _, lies_set4 r6 (by simp) w6 _ _ _ _, below_set (below_set (below_set (below_set D6 (by omega)) (by omega)) (by omega)) (by omega)⟩
        · exact ⟨_, A6, c6, rfl, rfl, res_box kb _ _ _ _, lies_set4 r6 (by simp; omega) w6 _ _ _ _, below_set (below_set (below_set (below_set D6 (by omega)) (by omega)) (by omega)) (by omega)⟩
      case rest =>
      obtain ⟨g, A6, c6, rfl, rfl, kU, LU, hBc⟩ := hcut
      clear cA cB cC d0
      rcases apply_one HOK.out HOV.out HMEM.out with hone | ⟨u', m, hone, hou, hnu⟩
      · rw [HU.out] at hone
        obtain ⟨rfl, rfl⟩ := Prod.mk.inj hone
        clear hone
        go_wp2
        go_ret
        exact ⟨rfl, below_step hBw' hBc⟩
      rw [HU.out] at hone
      obtain ⟨rfl, rfl⟩ := Prod.mk.inj hone
      clear hone
      rw [HNT.out] at hnu
      have hmod := counts_mod (a := n0) (n := m) (nodes_pos v)
      have hsu : sizeT u = ((n0 + m * (nodes v - 1) : Nat) : Int) := by rw [sizeT_ok hou, hnu]
      have hsv : sizeT v = (nodes v : Int) := sizeT_ok HOV.out
      have hu2 := nodes_ok hou
      have hv2 := nodes_ok HOV.out
      have hv1 := nodes_pos v
      rw [hnu] at hu2
      have hge : n0 ≤ n0 + m * (nodes v - 1) := Nat.le_add_right _ _
      generalize n0 + m * (nodes v - 1) = su at hmod hsu hu2 hge
      generalize nodes v = sv at hmod hsv hv2 hv1
      have HSU := Lib.hid hsu
      have HSV := Lib.hid hsv
      have HMOD := Lib.hid hmod
      clear hsu hsv hmod hnu hou
      go_upto_region 27 with (fail)
      have hBc0 := Below.refl wc.heap.size wc
      have d0 : Below wc.heap.size wc wc.drew := hBc0.drew
      have HF := Lib.hid (show ∀ W, Below wc.heap.size wc W → W.cell? ⟨g, 0, none⟩ = some (.int .i64 u.f0) ∧ W.cell? ⟨g, 1, none⟩ = some (.string u.f1) ∧ W.cell? ⟨g, 2, none⟩ = some (.int .i64 u.f2) ∧ W.cell? ⟨g, 3, none⟩ = some (.slice A6 u.f3.length c6) ∧ W.cell? ⟨w.heap.size, 0, none⟩ = some (.int .i64 v.f0) ∧ W.cell? ⟨w.heap.size, 1, none⟩ = some (.string v.f1) ∧ W.cell? ⟨w.heap.size, 2, none⟩ = some (.int .i64 v.f2) ∧ W.cell? ⟨w.heap.size, 3, none⟩ = some (.slice B v.f3.length cv) from fun W hW => by
        have k1 := blk_below kU hW
        obtain ⟨p0, p1, p2, p3, p4, p5, p6, p7, _⟩ := HE.out _ (below_step hBc hW)
        exact ⟨blk_cell k1 0, blk_cell k1 1, blk_cell k1 2, blk_cell k1 3, p0, p1, p2, p3⟩)
      have LVc := LVe.at hBc
      have hcu : ∀ W, Below wc.heap.size wc W → Calls Try.prog 16 #[.agg #[.int .i64 u.f0, .string u.f1, .int .i64 u.f2, .slice A6 u.f3.length c6]] W fun e w' => e = .returned (.int .i64 (su : Int)) ∧ Below wc.heap.size wc w' := fun W hB => by
        have := size_at LU hB; rw [HSU.out] at this; exact this
      have hcv : ∀ W, Below wc.heap.size wc W → Calls Try.prog 16 #[.agg #[.int .i64 v.f0, .string v.f1, .int .i64 v.f2, .slice B v.f3.length cv]] W fun e w' => e = .returned (.int .i64 (sv : Int)) ∧ Below wc.heap.size wc w' := fun W hB => by
        have := size_at LVc hB; rw [HSV.out] at this; exact this
      replace hBw' := below_step hBw' hBc
      clear HE kU LU LTe LVe LVc hBc hBe0
      have f1 : IntKind.i64.wrap ((su : Int) - (n0 : Int)) = (su : Int) - (n0 : Int) := by rw [IntKind.wrap_i64]; omega
      have f2 : IntKind.i64.wrap ((sv : Int) - 1) = (sv : Int) - 1 := by rw [IntKind.wrap_i64]; omega
      have f3 : ¬max 1 ((sv : Int) - 1) = 0 := by omega
      have f4 : ((su : Int) - (n0 : Int)) % max 1 ((sv : Int) - 1) = 0 := HMOD.out
      have f5 : (((su : Int) - (n0 : Int)) % max 1 ((sv : Int) - 1) == 0) = true := by simpa using f4
      have f7 : ((su : Int) - (n0 : Int)).tmod (max 1 ((sv : Int) - 1)) = 0 := by rw [Int.tmod_eq_emod_of_nonneg (by omega)]; exact f4
      have f6 : (n0 : Int) ≤ (su : Int) := by omega
      go_region_held3 (fun W : World => W.cell? ⟨g, 0, none⟩ = some (.int .i64 u.f0) ∧ W.cell? ⟨g, 1, none⟩ = some (.string u.f1) ∧ W.cell? ⟨g, 2, none⟩ = some (.int .i64 u.f2) ∧ W.cell? ⟨g, 3, none⟩ = some (.slice A6 u.f3.length c6) ∧ W.cell? ⟨w.heap.size, 0, none⟩ = some (.int .i64 v.f0) ∧ W.cell? ⟨w.heap.size, 1, none⟩ = some (.string v.f1) ∧ W.cell? ⟨w.heap.size, 2, none⟩ = some (.int .i64 v.f2) ∧ W.cell? ⟨w.heap.size, 3, none⟩ = some (.slice B v.f3.length cv)) ((refine HF.out _ ?_; with_reducible assumption))
        (first
        | (go_at_call 16; (with_reducible refine (hcu _ (by assumption)).mono ?_); rintro e wy ⟨rfl, d1⟩)
        | (go_at_call 16; (with_reducible refine (hcv _ (by assumption)).mono ?_); rintro e wy ⟨rfl, d1⟩))
      go_wp2
      go_ret
      exact ⟨rfl, below_step hBw' (by assumption)⟩
end Go.Proofs.Ytpnkaggkedepeaa
