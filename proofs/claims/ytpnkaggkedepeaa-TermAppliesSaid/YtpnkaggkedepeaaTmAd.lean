/- The document's Apply walked. -/
import Derived.Test.YtpnkaggkedepeaaTmAc
namespace Go.Proofs.Ytpnkaggkedepeaa
set_option linter.unusedVariables false
open Go.RowKit Go.Maps Go.Proofs.YtpnkaggkedepeaaW.PrintWords Go.Proofs.YtpnkaggkedepeaaW.PrintLast Go.Proofs.YtpnkaggkedepeaaW.PrintMore Go.Proofs.Ytpnkaggkedepeaa.PTermTells Go.Extern

set_option maxHeartbeats 8000000 in
set_option maxRecDepth 100000 in
theorem rApply_at {w0 w : World} {t : S24} {bs : List S50} {A E : Option Addr} {c ce : Nat} (h : Lies w0 t A c) (hE : Kd.C k50 w0 E bs.length bs) (hbl : bs.length < 1000000) (hwb : ∀ b ∈ bs, I64 b.f0 ∧ wfT b.f1) (hbn : ∀ b ∈ bs, nodes b.f1 < 1000000) (hB : Below w0.heap.size w0 w) :
    Calls Try.prog 37 #[.agg #[.int .i64 t.f0, .string t.f1, .int .i64 t.f2, .slice A t.f3.length c], .slice E bs.length ce] w fun e w' => ∃ A1 c1, e = .returned (.tuple #[.agg #[.int .i64 (rapT t bs).1.f0, .string (rapT t bs).1.f1, .int .i64 (rapT t bs).1.f2, .slice A1 (rapT t bs).1.f3.length c1], .int .i64 (rapT t bs).2]) ∧ Lies w' (rapT t bs).1 A1 c1 ∧ Below w.heap.size w w' := by
  have hB2 := below_alloc (below_alloc (Below.refl w.heap.size w) (.cells #[.int .i64 t.f0, .string t.f1, .int .i64 t.f2, .slice A t.f3.length c] 24)) (.cells #[.int .i64 0, .string ⟨#[]⟩, .int .i64 0, .slice none 0 0] 24)
  have kT : ((w.alloc (.cells #[.int .i64 t.f0, .string t.f1, .int .i64 t.f2, .slice A t.f3.length c] 24)).alloc (.cells #[.int .i64 0, .string ⟨#[]⟩, .int .i64 0, .slice none 0 0] 24)).heap[w.heap.size]? = some (.cells #[.int .i64 t.f0, .string t.f1, .int .i64 t.f2, .slice A t.f3.length c] 24 (0, 0)) := blk_alloc (blk_new w _) _
  have kR := blk_new (w.alloc (.cells #[.int .i64 t.f0, .string t.f1, .int .i64 t.f2, .slice A t.f3.length c] 24)) (.cells #[.int .i64 0, .string ⟨#[]⟩, .int .i64 0, .slice none 0 0] 24)
  rw [World.size_alloc] at kR
  have hwfx := wf_apply (bs := bs) h.wf (fun b hb => (hwb b hb).2)
  rw [apply_same] at hwfx
  have cR : ∀ (x : S24) (B : Option Addr) (cx : Nat) (W : World), Kd.C k24 W B x.f3.length x.f3 → x.f3.length ≤ cx → Calls Try.prog 14 #[.agg #[.int .i64 x.f0, .string x.f1, .int .i64 x.f2, .slice B x.f3.length cx]] W fun e w' => e = .returned (.bool (okT x)) ∧ Below W.heap.size W w' := fun x B cx W h1 h2 => by
    obtain ⟨k, hk⟩ := right_pure x
    exact pythiaref07_Right.calls k _ _ _ B cx _ _ W h1 h2 hk
  have hB02 := below_step hB hB2
  have hcall := cR t A c _ (h.at hB02).C h.le
  obtain ⟨rp, hrp⟩ : ∃ rp, rapT t bs = rp := ⟨_, rfl⟩
  rw [hrp] at hwfx ⊢
  obtain ⟨ot, hot⟩ : ∃ ot, okT t = ot := ⟨_, rfl⟩
  rw [hot] at hcall
  have HRP0 := Lib.hid hrp
  have HOT := Lib.hid hot
  clear hrp hot
  go_enter Try.func37, Try.ntmps37
  go_wp2_with fail
  generalize ((w.alloc (.cells #[.int .i64 t.f0, .string t.f1, .int .i64 t.f2, .slice A t.f3.length c] 24)).alloc (.cells #[.int .i64 0, .string ⟨#[]⟩, .int .i64 0, .slice none 0 0] 24)) = w1 at hB2 hB02 kT kR hcall ⊢
  refine hcall.mono ?_
  rintro e w2 ⟨rfl, hb⟩
  have hB3 := below_step hB2 hb
  have hB03 := below_step hB02 hb
  replace kT := blk_below kT hb
  replace kR := blk_below kR hb
  clear hcall hb hB2 hB02
  cases ot with
  | false =>
    have hrp2 : rp = (z24, 70) := by rw [← HRP0.out]; unfold rapT; rw [HOT.out, if_pos rfl]
    have HRP := Lib.hid hrp2
    clear hrp2 hwfx cR
    have r0_ := blk_cell kR 0
    have r1_ := blk_cell kR 1
    have r2_ := blk_cell kR 2
    have r3_ := blk_cell kR 3
    have fr_ := fun i => blk_frozen kR i
    have lr_ := blk_lt kR
    go_wp2
    have kF := res_box kR (.int .i64 0) (.string ⟨#[]⟩) (.int .i64 0) (.slice none 0 0)
    have hBF : Below w.heap.size w ((((w2.setCell ⟨w.heap.size + 1, 0, none⟩ (.int .i64 0)).setCell ⟨w.heap.size + 1, 1, none⟩ (.string ⟨#[]⟩)).setCell ⟨w.heap.size + 1, 2, none⟩ (.int .i64 0)).setCell ⟨w.heap.size + 1, 3, none⟩ (.slice none 0 0)) := below_set (below_set (below_set (below_set hB3 (by omega)) (by omega)) (by omega)) (by omega)
    generalize ((((w2.setCell ⟨w.heap.size + 1, 0, none⟩ (.int .i64 0)).setCell ⟨w.heap.size + 1, 1, none⟩ (.string ⟨#[]⟩)).setCell ⟨w.heap.size + 1, 2, none⟩ (.int .i64 0)).setCell ⟨w.heap.size + 1, 3, none⟩ (.slice none 0 0)) = WF at kF hBF ⊢
    have q0_ := blk_cell kF 0
    have q1_ := blk_cell kF 1
    have q2_ := blk_cell kF 2
    have q3_ := blk_cell kF 3
    refine bodyPost_ret (v := .tuple #[.agg #[.int .i64 0, .string ⟨#[]⟩, .int .i64 0, .slice none 0 0], .int .i64 70]) (by simp [results, Try.results37, go_sem, q0_, q1_, q2_, q3_]) rfl ?_
    rw [HRP.out]
    exact ⟨none, 0, rfl, ⟨Kd.C_nil _ _, Nat.le_refl _, wfT_z24⟩, hBF⟩
  | true =>
  have hok : okT t = true := HOT.out
  have hnd := nodes_ok hok
  have hsh := ((okT_iff t).1 hok).1
  have x0 := blk_cell kT 0
  have x1 := blk_cell kT 1
  have x2 := blk_cell kT 2
  have x3 := blk_cell kT 3
  have hcall := rVars_at h hB03 (by omega)
  obtain ⟨vs, hvs⟩ : ∃ vs, varsT t [] = vs := ⟨_, rfl⟩
  have hvl : vs.length ≤ 2000 := by
    have h1 := varsT_len t []
    rw [hvs] at h1
    simp only [List.length_nil] at h1
    omega
  rw [hvs] at hcall
  have HVS := Lib.hid hvs
  clear hvs
  go_wp2_with fail
  refine hcall.mono ?_
  rintro e w3 ⟨Av, cv, rfl, hcv, OV, hb⟩
  have hB4 := below_step hB3 hb
  have hB04 := below_step hB03 hb
  replace kT := blk_below kT hb
  replace kR := blk_below kR hb
  have hvb := hB3.size
  clear hcall hb hB3 hB03 x0 x1 x2 x3
  have x0 := blk_cell kT 0
  have x1 := blk_cell kT 1
  have x2 := blk_cell kT 2
  have x3 := blk_cell kT 3
  have hcall := pythiaref07_Size.calls (2 * nodes t) _ _ _ A c _ _ _ w3 (h.at hB04).C h.le (size_pure _ t (Nat.lt_succ_self _) _ 2000 (by decide) (by decide) (Nat.le_refl _))
  obtain ⟨sz, hsz⟩ : ∃ sz : Int, min (nodes t : Int) (2000 + 1) = sz := ⟨_, rfl⟩
  have hsz1 : 1 ≤ sz ∧ sz ≤ 2000 := by have := nodes_pos t; omega
  rw [hsz] at hcall
  clear hsz
  go_wp2_with fail
  refine hcall.mono ?_
  rintro e w4 ⟨rfl, hb⟩
  have hB5 := below_step hB4 hb
  have hB05 := below_step hB04 hb
  replace kT := blk_below kT hb
  replace kR := blk_below kR hb
  replace OV := outAt_belowB OV hb
  clear hcall hb hB4 hB04 x0 x1 x2 x3
  have HND := Lib.hid hnd
  have HSH := Lib.hid hsh
  have HOK := Lib.hid hok
  clear hnd hsh hok
  go_wp2
  go_loopw [8] (fun i wr => ∃ k : Nat, k ≤ vs.length ∧ i = .int .i64 k ∧ vs.any (badV bs) = (vs.drop k).any (badV bs) ∧ wr.heap[w.heap.size]? = some (.cells #[.int .i64 t.f0, .string t.f1, .int .i64 t.f2, .slice A t.f3.length c] 24 (0, 0)) ∧ wr.heap[w.heap.size + 1]? = some (.cells #[.int .i64 0, .string ⟨#[]⟩, .int .i64 0, .slice none 0 0] 24 (0, 0)) ∧ OutAt wr w2.heap.size (.slice Av vs.length cv) vs ∧ Below w.heap.size w wr) (fun i _ => vs.length - (intOf i).toNat)
  case atStart => exact ⟨0, Nat.zero_le _, rfl, rfl, kT, kR, OV, hB5⟩
  case round =>
  clear kT kR hB5 hB05 OV
  obtain ⟨k, hk, rfl, hany, kT, kR, OV, hBr⟩ := hrel
  obtain ⟨wo, hwo⟩ : ∃ wo, wo = wr := ⟨_, rfl⟩
  subst hwo
  have hB0 := below_step hB hBr
  by_cases hlt : k < vs.length
  · obtain ⟨A', cv', e', _, CV⟩ := OV.reads
    simp only [Value.slice.injEq, true_and] at e'
    obtain ⟨rfl, rfl⟩ := e'
    obtain ⟨av, rfl, hy⟩ := ints_rd CV k hlt
    rw [List.drop_eq_getElem_cons hlt, List.any_cons] at hany
    have hin := List.getElem_mem hlt
    generalize vs[k] = v at hy hany hin
    have HIN := Lib.hid hin
    have HANY := Lib.hid hany
    clear hany hin CV
    have f2 : (0 : Int) ≤ (k : Int) := by omega
    have f3 : (k : Int) < (vs.length : Int) := by omega
    go_wp2
    go_loopw [9] (fun i wq => ∃ j : Nat, j ≤ bs.length ∧ i = .int .i64 j ∧ firstB bs v = firstB (bs.drop j) v ∧ Below wo.heap.size wo wq) (fun i _ => bs.length - (intOf i).toNat)
    case atStart => exact ⟨0, Nat.zero_le _, rfl, rfl, Below.refl _ _⟩
    case round =>
    obtain ⟨j, hj, rfl, hf, hq⟩ := hrel
    have hB1 := below_step hB0 hq
    replace hy := (hq.cell (World.block_lt_of_cell? wo _ hy)).trans hy
    have kTq := blk_below kT hq
    have kRq := blk_below kR hq
    have OVq := outAt_belowB OV hq
    have hBq := below_step hBr hq
    by_cases hlj : j < bs.length
    · have hgr := C50_rd hE j hlj rfl
      have hbw := hwb _ (List.getElem_mem hlj)
      rw [List.drop_eq_getElem_cons hlj, firstB_cons] at hf
      generalize bs[j] = b50 at hgr hf hbw
      obtain ⟨xv, xt⟩ := b50
      obtain ⟨ad, A4, c4, rfl, y0, y1, y2, y3, y4, l4, g4⟩ := hgr
      simp only at y0 y1 y2 y3 y4 l4 g4 hf hbw
      replace y0 := (hB1.cell (World.block_lt_of_cell? w0 _ y0)).trans y0
      replace y1 := (hB1.cell (World.block_lt_of_cell? w0 _ y1)).trans y1
      replace y2 := (hB1.cell (World.block_lt_of_cell? w0 _ y2)).trans y2
      replace y3 := (hB1.cell (World.block_lt_of_cell? w0 _ y3)).trans y3
      replace y4 := (hB1.cell (World.block_lt_of_cell? w0 _ y4)).trans y4
      have f0 : (0 : Int) ≤ (j : Int) := by omega
      have f1 : (j : Int) < (bs.length : Int) := by omega
      by_cases e : xv = v
      · subst e
        rw [if_pos rfl] at hf
        have HF := Lib.hid hf
        clear hf
        have e' : (xv == xv) = true := by simp
        go_wp2_with fail
        go_quiet (fail)
        go_wp2_with fail
        obtain ⟨oy, hoy⟩ : ∃ oy, okT xt = oy := ⟨_, rfl⟩
        refine (cR xt A4 c4 _ (Kd.C_below g4 (below_drewN hB1 _)) l4).mono ?_
        rw [hoy]
        rintro e w5 ⟨rfl, hb⟩
        have hbad : badV bs xv = !oy := by unfold badV; rw [HF.out]; simp only; rw [hoy]
        have HBAD := Lib.hid hbad
        have kT5 := blk_below (show (World.drewN wr _).heap[w.heap.size]? = _ from kTq) hb
        have kR5 := blk_below (show (World.drewN wr _).heap[w.heap.size + 1]? = _ from kRq) hb
        have OV5 := outAt_belowB (show OutAt (World.drewN wr _) _ _ _ from OVq) hb
        have hB5 := below_step (below_drewN hBq _) hb
        clear hb hbad hoy HF y0 y1 y2 y3 y4 hy kTq kRq OVq hBq
        cases oy with
        | false =>
          have hrp2 : rp = (z24, 70) := by
            rw [← HRP0.out]
            unfold rapT
            have hyes : (varsT t []).any (badV bs) = true := List.any_eq_true.2 ⟨xv, by rw [HVS.out]; exact HIN.out, by rw [HBAD.out]; rfl⟩
            rw [HOK.out, if_neg (by decide), if_pos hyes]
          have HRP := Lib.hid hrp2
          clear hrp2 hwfx cR
          have r0_ := blk_cell kR5 0
          have r1_ := blk_cell kR5 1
          have r2_ := blk_cell kR5 2
          have r3_ := blk_cell kR5 3
          have fr_ := fun i => blk_frozen kR5 i
          have lr_ := blk_lt kR5
          go_wp2
          have kF := res_box kR5 (.int .i64 0) (.string ⟨#[]⟩) (.int .i64 0) (.slice none 0 0)
          have hBF : Below w.heap.size w ((((w5.setCell ⟨w.heap.size + 1, 0, none⟩ (.int .i64 0)).setCell ⟨w.heap.size + 1, 1, none⟩ (.string ⟨#[]⟩)).setCell ⟨w.heap.size + 1, 2, none⟩ (.int .i64 0)).setCell ⟨w.heap.size + 1, 3, none⟩ (.slice none 0 0)) := below_set (below_set (below_set (below_set hB5 (by omega)) (by omega)) (by omega)) (by omega)
          generalize ((((w5.setCell ⟨w.heap.size + 1, 0, none⟩ (.int .i64 0)).setCell ⟨w.heap.size + 1, 1, none⟩ (.string ⟨#[]⟩)).setCell ⟨w.heap.size + 1, 2, none⟩ (.int .i64 0)).setCell ⟨w.heap.size + 1, 3, none⟩ (.slice none 0 0)) = WF at kF hBF ⊢
          have q0_ := blk_cell kF 0
          have q1_ := blk_cell kF 1
          have q2_ := blk_cell kF 2
          have q3_ := blk_cell kF 3
          refine bodyPost_ret (v := .tuple #[.agg #[.int .i64 0, .string ⟨#[]⟩, .int .i64 0, .slice none 0 0], .int .i64 70]) (by simp [results, Try.results37, go_sem, q0_, q1_, q2_, q3_]) rfl ?_
          rw [HRP.out]
          exact ⟨none, 0, rfl, ⟨Kd.C_nil _ _, Nat.le_refl _, wfT_z24⟩, hBF⟩
        | true =>
          have hany2 : vs.any (badV bs) = (vs.drop (k + 1)).any (badV bs) := by rw [HANY.out, HBAD.out, Bool.not_true, Bool.false_or]
          have HANY2 := Lib.hid hany2
          clear hany2
          go_wp2
          go_roundw
          case rel => exact ⟨k + 1, by omega, by go_num, HANY2.out, kT5, kR5, OV5, hB5⟩
          case measure => simp [intOf]; omega
      · rw [if_neg e] at hf
        have HF := Lib.hid hf
        clear hf
        have e' : (xv == v) = false := by simpa using e
        go_wp2_with fail
        go_quiet (fail)
        go_wp2
        go_roundw
        case rel => exact ⟨j + 1, by omega, by go_num, HF.out, below_drewN hq _⟩
        case measure => simp [intOf]; omega
    · obtain rfl : j = bs.length := by omega
      rw [List.drop_of_length_le (Nat.le_refl _)] at hf
      have hbad : badV bs v = false := by unfold badV; rw [hf]; rfl
      have HBAD := Lib.hid hbad
      clear hf hbad
      have hany2 : vs.any (badV bs) = (vs.drop (k + 1)).any (badV bs) := by rw [HANY.out, HBAD.out, Bool.false_or]
      have HANY2 := Lib.hid hany2
      clear hany2
      go_wp2
      go_roundw
      case rel => exact ⟨k + 1, by omega, by go_num, HANY2.out, kTq, kRq, OVq, hBq⟩
      case measure => simp [intOf]; omega
  · obtain rfl : k = vs.length := by omega
    rw [List.drop_of_length_le (Nat.le_refl _)] at hany
    have hnb : (varsT t []).any (badV bs) = false := by rw [HVS.out, hany]; rfl
    have hv : ∀ v ∈ occT t, ∀ y, firstB bs v = some y → okT y = true := fun v hv => badV_no hnb v ((mem_varsT t v).2 hv)
    have hg1 := gr_eq bs t HSH.out hv
    have hx1 := apR_val bs t HSH.out hv
    have hrp1 : rp = if gr bs t > 2000 then (z24, 2) else if dpt (apR bs t) > 100 then (z24, 2) else (apR bs t, 0) := by
      rw [← HRP0.out]; unfold rapT; rw [HOK.out, if_neg (by decide), hnb, if_neg (by decide)]
    rw [← hx1] at hg1
    have hnd := HND.out
    have hcall := rgrown_any bs E ce hbl _ t rfl w0 wo c A h.C h.le hE hB0 (by omega)
    have hcall2 := fun (W : World) (hW : Below w0.heap.size w0 W) => rapply_any bs E ce hbl hbn _ t rfl w0 W c A h.C h.le hE hW (by omega)
    obtain ⟨g, hg⟩ : ∃ g, gr bs t = g := ⟨_, rfl⟩
    obtain ⟨x, hx⟩ : ∃ x, apR bs t = x := ⟨_, rfl⟩
    rw [hg] at hcall hrp1 hg1
    rw [hx] at hcall2 hrp1 hg1
    have HRP1 := Lib.hid hrp1
    have HG := Lib.hid hg1
    have hgn : 0 ≤ g := by omega
    clear hg hx hx1 hg1 hrp1 hv hnb hany hnd HND HSH HOK hk hlt cR OV
    have x0 := blk_cell kT 0
    have x1 := blk_cell kT 1
    have x2 := blk_cell kT 2
    have x3 := blk_cell kT 3
    go_wp2_with fail
    refine hcall.mono ?_
    rintro e w6 ⟨rfl, hb⟩
    have hB6 := below_step hBr hb
    have hB06 := below_step hB0 hb
    replace kT := blk_below kT hb
    replace kR := blk_below kR hb
    clear hcall hb hB0 hBr x0 x1 x2 x3
    by_cases hgt : g > 2000
    · have hrp2 : rp = (z24, 2) := by rw [HRP1.out, if_pos hgt]
      have HRP := Lib.hid hrp2
      clear hrp2 hwfx HRP1 HG hcall2
      have r0_ := blk_cell kR 0
      have r1_ := blk_cell kR 1
      have r2_ := blk_cell kR 2
      have r3_ := blk_cell kR 3
      have fr_ := fun i => blk_frozen kR i
      have lr_ := blk_lt kR
      go_wp2
      have kF := res_box kR (.int .i64 0) (.string ⟨#[]⟩) (.int .i64 0) (.slice none 0 0)
      have hBF : Below w.heap.size w ((((w6.setCell ⟨w.heap.size + 1, 0, none⟩ (.int .i64 0)).setCell ⟨w.heap.size + 1, 1, none⟩ (.string ⟨#[]⟩)).setCell ⟨w.heap.size + 1, 2, none⟩ (.int .i64 0)).setCell ⟨w.heap.size + 1, 3, none⟩ (.slice none 0 0)) := below_set (below_set (below_set (below_set hB6 (by omega)) (by omega)) (by omega)) (by omega)
      generalize ((((w6.setCell ⟨w.heap.size + 1, 0, none⟩ (.int .i64 0)).setCell ⟨w.heap.size + 1, 1, none⟩ (.string ⟨#[]⟩)).setCell ⟨w.heap.size + 1, 2, none⟩ (.int .i64 0)).setCell ⟨w.heap.size + 1, 3, none⟩ (.slice none 0 0)) = WF at kF hBF ⊢
      have q0_ := blk_cell kF 0
      have q1_ := blk_cell kF 1
      have q2_ := blk_cell kF 2
      have q3_ := blk_cell kF 3
      refine bodyPost_ret (v := .tuple #[.agg #[.int .i64 0, .string ⟨#[]⟩, .int .i64 0, .slice none 0 0], .int .i64 2]) (by simp [results, Try.results37, go_sem, q0_, q1_, q2_, q3_]) rfl ?_
      rw [HRP.out]
      exact ⟨none, 0, rfl, ⟨Kd.C_nil _ _, Nat.le_refl _, wfT_z24⟩, hBF⟩
    have x0 := blk_cell kT 0
    have x1 := blk_cell kT 1
    have x2 := blk_cell kT 2
    have x3 := blk_cell kT 3
    have hcall := hcall2 w6 hB06
    clear hcall2
    go_wp2_with fail
    refine hcall.mono ?_
    rintro e w7 ⟨v7, rfl, R7, hb⟩
    obtain ⟨A5, c5, rfl, h5, C5⟩ := Kd.R_reads R7
    have hB7 := below_alloc (below_step hB6 hb) (.cells #[.int .i64 x.f0, .string x.f1, .int .i64 x.f2, .slice A5 x.f3.length c5] 24)
    have hb7 := below_alloc (Below.refl _ w7) (.cells #[.int .i64 x.f0, .string x.f1, .int .i64 x.f2, .slice A5 x.f3.length c5] 24)
    have hs6 := blk_lt kR
    replace kR := blk_alloc (blk_below kR hb) (.cells #[.int .i64 x.f0, .string x.f1, .int .i64 x.f2, .slice A5 x.f3.length c5] 24)
    have R8 := Kd.R_below (Kd.R_bound R7) hb7
    have k10 := blk_new w7 (.cells #[.int .i64 x.f0, .string x.f1, .int .i64 x.f2, .slice A5 x.f3.length c5] 24)
    have C8 := Kd.C_below C5 hb7
    clear hcall hb hB06 x0 x1 x2 x3 kT R7 C5 hB6
    have x0 := blk_cell k10 0
    have x1 := blk_cell k10 1
    have x2 := blk_cell k10 2
    have x3 := blk_cell k10 3
    have hxn : nodes x ≤ 1000000 := by have := HG.out; omega
    have hcall := pythiaref07_Depth.calls (3 * nodes x) _ _ _ A5 c5 _ _ _ (w7.alloc (.cells #[.int .i64 x.f0, .string x.f1, .int .i64 x.f2, .slice A5 x.f3.length c5] 24)) C8 h5 (depth_pure _ x (Nat.lt_succ_self _) _ 101 (by decide) (by decide) hxn (Nat.le_refl _))
    obtain ⟨dp, hdp⟩ : ∃ dp : Int, min (dpt x) (101 + 1) = dp := ⟨_, rfl⟩
    rw [hdp] at hcall
    have HDP := Lib.hid hdp
    clear hdp
    go_wp2_with fail
    generalize w7.alloc (.cells #[.int .i64 x.f0, .string x.f1, .int .i64 x.f2, .slice A5 x.f3.length c5] 24) = w8 at hcall hB7 hb7 kR R8 k10 C8 x0 x1 x2 x3 ⊢
    generalize w7.heap.size = g10 at k10 x0 x1 x2 x3 ⊢
    refine hcall.mono ?_
    rintro e w9 ⟨rfl, hb⟩
    have hB9 := below_step hB7 hb
    replace kR := blk_below kR hb
    replace k10 := blk_below k10 hb
    have R9 := Kd.R_below R8 hb
    clear hcall hb x0 x1 x2 x3 hB7 hb7 R8 C8
    by_cases hgd : dp > 100
    · have hrp2 : rp = (z24, 2) := by rw [HRP1.out, if_neg (by omega), if_pos (by have := HDP.out; omega)]
      have HRP := Lib.hid hrp2
      clear hrp2 hwfx HRP1 HG HDP
      have r0_ := blk_cell kR 0
      have r1_ := blk_cell kR 1
      have r2_ := blk_cell kR 2
      have r3_ := blk_cell kR 3
      have fr_ := fun i => blk_frozen kR i
      have lr_ := blk_lt kR
      go_wp2
      have kF := res_box kR (.int .i64 0) (.string ⟨#[]⟩) (.int .i64 0) (.slice none 0 0)
      have hBF : Below w.heap.size w ((((w9.setCell ⟨w.heap.size + 1, 0, none⟩ (.int .i64 0)).setCell ⟨w.heap.size + 1, 1, none⟩ (.string ⟨#[]⟩)).setCell ⟨w.heap.size + 1, 2, none⟩ (.int .i64 0)).setCell ⟨w.heap.size + 1, 3, none⟩ (.slice none 0 0)) := below_set (below_set (below_set (below_set hB9 (by omega)) (by omega)) (by omega)) (by omega)
      generalize ((((w9.setCell ⟨w.heap.size + 1, 0, none⟩ (.int .i64 0)).setCell ⟨w.heap.size + 1, 1, none⟩ (.string ⟨#[]⟩)).setCell ⟨w.heap.size + 1, 2, none⟩ (.int .i64 0)).setCell ⟨w.heap.size + 1, 3, none⟩ (.slice none 0 0)) = WF at kF hBF ⊢
      have q0_ := blk_cell kF 0
      have q1_ := blk_cell kF 1
      have q2_ := blk_cell kF 2
      have q3_ := blk_cell kF 3
      refine bodyPost_ret (v := .tuple #[.agg #[.int .i64 0, .string ⟨#[]⟩, .int .i64 0, .slice none 0 0], .int .i64 2]) (by simp [results, Try.results37, go_sem, q0_, q1_, q2_, q3_]) rfl ?_
      rw [HRP.out]
      exact ⟨none, 0, rfl, ⟨Kd.C_nil _ _, Nat.le_refl _, wfT_z24⟩, hBF⟩
    have hrp2 : rp = (x, 0) := by rw [HRP1.out, if_neg (by omega), if_neg (by have := HDP.out; omega)]
    have HRP := Lib.hid hrp2
    clear hrp2 HRP1 HG HDP
    have x0 := blk_cell k10 0
    have x1 := blk_cell k10 1
    have x2 := blk_cell k10 2
    have x3 := blk_cell k10 3
    have hRF := R_set4 (g := w.heap.size + 1) R9 (fun j hj => by have := hj.2.1; omega) (.int .i64 x.f0) (.string x.f1) (.int .i64 x.f2) (.slice A5 x.f3.length c5)
    have r0_ := blk_cell kR 0
    have r1_ := blk_cell kR 1
    have r2_ := blk_cell kR 2
    have r3_ := blk_cell kR 3
    have fr_ := fun i => blk_frozen kR i
    have lr_ := blk_lt kR
    go_wp2
    have kF := res_box kR (.int .i64 x.f0) (.string x.f1) (.int .i64 x.f2) (.slice A5 x.f3.length c5)
    have hBF : Below w.heap.size w ((((w9.setCell ⟨w.heap.size + 1, 0, none⟩ (.int .i64 x.f0)).setCell ⟨w.heap.size + 1, 1, none⟩ (.string x.f1)).setCell ⟨w.heap.size + 1, 2, none⟩ (.int .i64 x.f2)).setCell ⟨w.heap.size + 1, 3, none⟩ (.slice A5 x.f3.length c5)) := below_set (below_set (below_set (below_set hB9 (by omega)) (by omega)) (by omega)) (by omega)
    generalize ((((w9.setCell ⟨w.heap.size + 1, 0, none⟩ (.int .i64 x.f0)).setCell ⟨w.heap.size + 1, 1, none⟩ (.string x.f1)).setCell ⟨w.heap.size + 1, 2, none⟩ (.int .i64 x.f2)).setCell ⟨w.heap.size + 1, 3, none⟩ (.slice A5 x.f3.length c5)) = WF at kF hBF hRF ⊢
    have q0_ := blk_cell kF 0
    have q1_ := blk_cell kF 1
    have q2_ := blk_cell kF 2
    have q3_ := blk_cell kF 3
    refine bodyPost_ret (v := .tuple #[.agg #[.int .i64 x.f0, .string x.f1, .int .i64 x.f2, .slice A5 x.f3.length c5], .int .i64 0]) (by simp [results, Try.results37, go_sem, q0_, q1_, q2_, q3_]) rfl ?_
    obtain ⟨A6, c6, e6, h6, C6⟩ := Kd.R_reads hRF
    simp only [Value.slice.injEq, true_and] at e6
    obtain ⟨rfl, rfl⟩ := e6
    rw [HRP.out] at hwfx ⊢
    exact ⟨A5, c5, rfl, ⟨C6, h6, hwfx⟩, hBF⟩
end Go.Proofs.Ytpnkaggkedepeaa
