/- The walk of Put. -/
import Derived.Test.YtjhhacighfpdbaaHpO
import Derived.Test.YtjhhacighfpdbaaHpKv
import Derived.Test.YtjhhacighfpdbaaHpQ
import Derived.Deep.RegionWith
namespace Go.Proofs.Ytjhhacighfpdbaa
set_option linter.unusedVariables false
open Go.RowKit Go.Maps Go.Proofs.YtjhhacighfpdbaaW.PrintWords Go.Proofs.YtjhhacighfpdbaaW.PrintLast Go.Proofs.YtjhhacighfpdbaaW.PrintMore Go.Proofs.Ytjhhacighfpdbaa.PHeapShares Go.Extern
attribute [local go_sem] max2_int min2_int max_two min_two

/-- The env that Put begins with. -/
def env0 (E : List Int) (top : Int) : List Int := E.map (fun a => max a (-1)) ++ List.replicate (top.toNat - E.length) (-1)

/-- What Put does where it does something. -/
def PutPost (t : S28) (E : List Int) (w : World) (hb : Nat) (S : Nat → Prop) (H : Hp) (e : Ending) (w' : World) : Prop :=
  ∃ v S', e = .returned (.tuple #[.int .i64 H.C.length, v, .int .i64 0]) ∧
    HpAt w' hb S' { H with C := (layT t H.C.length (H.C ++ [zCl]) (env0 E (topL 0 (varsOf t)))).1 } ∧ Fs S w w' ∧ (∀ k, S' k → S k ∨ w.heap.size ≤ k) ∧
    EnvRow w' v (layT t H.C.length (H.C ++ [zCl]) (env0 E (topL 0 (varsOf t)))).2 ∧ ∀ k, v.ownBlock = some k → ¬ S' k ∧ w.heap.size ≤ k

theorem OutAt_below {w w' : World} {base : Nat} {v : Value} {xs : List Int} (h : OutAt w base v xs) (hB : Below w.heap.size w w') : OutAt w' base v xs := own_step h fun k hk => hB.block k (World.ownsRow.lt h k hk).2

/-- A slice's length. -/
def lenV : Value → Nat
  | .slice _ n _ => n
  | _ => 0

set_option maxHeartbeats 2000000 in
set_option maxRecDepth 100000 in
theorem Put_any (t : S28) (E : List Int) (T : Nat → Prop) (w : World) (hb : Nat) (S : Nat → Prop) (H : Hp) (A : Option Addr) (c : Nat) (ev : Value) (hp : HpAt w hb S H) (hE : EnvRow w ev E) (hvS : ∀ k, ev.ownBlock = some k → ¬ S k) (hS : ∀ k, S k → ¬ T k) (hTl : ∀ k, T k → k < w.heap.size) (hL : LF T w t A c) (hok : okT t = true)
    (hel : E.length ≤ 2000) (htop : topL 0 (varsOf t) ≤ 2000) (hin : ∀ v ∈ varsOf t, 1 ≤ v ∧ v ≤ topL 0 (varsOf t) ∧ envAt E v < H.C.length) (hroom : H.C.length + nodes t ≤ H.most) :
    Calls Try.prog 9 #[.pointer (some ⟨hb, 0, none⟩), .agg #[.int .i64 t.f0, .string t.f1, .int .i64 t.f2, .slice A t.f3.length c], ev] w (PutPost t E w hb S H) := by
  have hC : Kd.C k28 w A t.f3.length t.f3 := hL.lies.C
  obtain ⟨hSl, hSh⟩ : (∀ k, S k → k < w.heap.size) ∧ S hb := by
    obtain ⟨_, _, _, h⟩ := hp
    exact ⟨h.Sl, h.Sh⟩
  have hnp := nodes_pos t
  have kT := blk_new w (.cells #[.int .i64 t.f0, .string t.f1, .int .i64 t.f2, .slice A t.f3.length c] 28)
  have hB1 := below_alloc (Below.refl w.heap.size w) (.cells #[.int .i64 t.f0, .string t.f1, .int .i64 t.f2, .slice A t.f3.length c] 28)
  have hck := check_any t _ A c (Kd.C_alloc hC (.cells #[.int .i64 t.f0, .string t.f1, .int .i64 t.f2, .slice A t.f3.length c] 28)) hL.le
  rw [hok] at hck
  go_enter Try.func9, Try.ntmps9
  go_wp2_with fail
  refine hck.mono ?_
  rintro e w1 ⟨rfl, hb1⟩
  replace kT := blk_below kT hb1
  replace hB1 := hB1.trans (hb1.mono (by simp))
  clear hck hb1
  have t0 : w1.cell? ⟨w.heap.size, 0, none⟩ = some (.int .i64 t.f0) := blk_cell kT 0
  have t1 : w1.cell? ⟨w.heap.size, 1, none⟩ = some (.string t.f1) := blk_cell kT 1
  have t2 : w1.cell? ⟨w.heap.size, 2, none⟩ = some (.int .i64 t.f2) := blk_cell kT 2
  have t3 : w1.cell? ⟨w.heap.size, 3, none⟩ = some (.slice A t.f3.length c) := blk_cell kT 3
  have lT := blk_lt kT
  have hvs := vars_of t w1 A c (Kd.C_below hC hB1) hL.le
  go_wp2_with fail
  refine hvs.mono ?_
  rintro e w2 ⟨vv, rfl, hO2, hb2⟩
  replace kT := blk_below kT hb2
  have hB2 := hB1.trans (hb2.mono hB1.size)
  have hvl : (varsOf t).length ≤ 2000 := by
    have h1 := varsT_len t []
    have h2 := nodes_ok hok
    unfold varsOf
    rw [if_pos hok]
    simp at h1
    omega
  have hgr := greatest_any (varsOf t) w2 _ vv hO2 (by omega)
  clear hvs hb2 t0 t1 t2 t3 lT
  go_wp2_with fail
  refine hgr.mono ?_
  rintro e w3 ⟨rfl, rfl⟩
  clear hgr
  generalize htopd : topL 0 (varsOf t) = top at *
  have e1 : decide (2000 < top) = false := decide_eq_false (by omega)
  have e2 : decide (2000 < (E.length : Int)) = false := decide_eq_false (by omega)
  obtain ⟨evA, evc, rfl⟩ : ∃ A c, ev = .slice A E.length c := own_slice hE
  obtain ⟨vA, vc, rfl⟩ : ∃ A c, vv = .slice A (varsOf t).length c := own_slice hO2
  go_wp2
  have hE2 := hE.below hB2
  have hp2 := hp.below hB2
  go_loopw [32] (fun i wr => ∃ k : Nat, k ≤ (varsOf t).length ∧ i = .int .i64 k ∧ Below w2.heap.size w2 wr) (fun i _ => (varsOf t).length - (intOf i).toNat)
  case atStart => exact ⟨0, Nat.zero_le _, rfl, Below.refl _ _⟩
  case round =>
    obtain ⟨k, hk, rfl, hBr⟩ := hrel
    by_cases hlt : k < (varsOf t).length
    · obtain ⟨g, cap, hg, g1, g2, g3⟩ := outAt_cell (OutAt_below hO2 hBr) hlt
      simp only [Value.slice.injEq, true_and] at hg
      obtain ⟨rfl, rfl⟩ := hg
      obtain ⟨i1, i2, i3⟩ := hin _ (List.getElem_mem hlt)
      have hEr := hE2.below hBr
      have hpr := hp2.below hBr
      generalize (varsOf t)[k] = u at g3 i1 i2 i3
      have hgv := given_any E u wr (.slice evA E.length evc) hEr ⟨i1, by omega⟩ (by omega)
      by_cases hge : 0 ≤ envAt E u
      · rw [decide_eq_true hge] at hgv
        obtain ⟨j, rfl⟩ : ∃ j : Nat, u = (j : Int) + 1 := ⟨(u - 1).toNat, by omega⟩
        have hjj : ((j : Int) + 1 - 1).toNat = j := by omega
        have hjl : j < E.length := by
          rcases Nat.lt_or_ge j E.length with h | h
          · exact h
          · exfalso
            unfold envAt at hge
            rw [hjj] at hge
            simp [List.getD_eq_getElem?_getD, List.getElem?_eq_none h] at hge
        obtain ⟨eg, ec, heg, eg1, eg2, eg3⟩ := hEr.cell hjl
        simp only [Value.slice.injEq, true_and] at heg
        obtain ⟨rfl, rfl⟩ := heg
        unfold envAt at hge i3
        rw [hjj] at hge i3
        obtain ⟨d, hd⟩ : ∃ d, d = E.getD j (-1) := ⟨_, rfl⟩
        rw [← hd] at eg2 hge i3
        clear hd eg3
        have hbad := bad_ok (wr.alloc (.cells #[.int .i64 d] 3)) hb wr.heap.size 1 S H [d] (hpr.alloc _) (fun x hx => by
          simp at hx
          subst hx
          exact ⟨hge, i3⟩) (by simp) (by simp) (fun j hj => by
            rw [blk_cell (blk_new wr _)]
            have : j = 0 := by simp at hj; omega
            subst this
            rfl)
        go_wp2_with fail
        refine hgv.mono ?_
        rintro e w4 ⟨rfl, rfl⟩
        clear hgv
        go_wp2_with fail
        refine hbad.mono ?_
        rintro e w5 ⟨rfl, hb5⟩
        have hB5 := hBr.trans (((below_alloc (Below.refl wr.heap.size wr) _).trans (hb5.mono (by simp))).mono hBr.size)
        clear hbad
        go_wp2
        go_roundw
        case rel => exact ⟨k + 1, by omega, by go_num, hB5⟩
        case measure => simp [intOf]; omega
      · rw [decide_eq_false hge] at hgv
        go_wp2_with fail
        refine hgv.mono ?_
        rintro e w4 ⟨rfl, rfl⟩
        clear hgv
        go_wp2
        go_roundw
        case rel => exact ⟨k + 1, by omega, by go_num, hBr⟩
        case measure => simp [intOf]; omega
    · obtain rfl : k = (varsOf t).length := by omega
      replace kT := blk_below kT hBr
      replace hB2 := hB2.trans (hBr.mono hB2.size)
      go_upto_region 13 with (fail)
      have hpr := hp2.below hBr
      obtain ⟨hc, hn, hm, hv⟩ := hpr
      obtain ⟨hcA, hcc, rfl⟩ : ∃ A c, hc = .slice A H.C.length c := own_slice hv.rc
      have lT := blk_lt kT
      have hbl := blk_lt hv.blk
      have hsz : sizeT t = nodes t := by
        unfold sizeT
        rw [if_pos hok, meas_nodes t 1 0 hok]
        omega
      have hmo := hv.mo
      have hlc := hv.lc
      have e3w : IntKind.i64.wrap (H.most - H.C.length) = H.most - H.C.length := by rw [IntKind.wrap_i64]; omega
      have e3 : decide (H.most - H.C.length < (nodes t : Int)) = false := decide_eq_false (by omega)
      have t0 : wr.cell? ⟨w.heap.size, 0, none⟩ = some (.int .i64 t.f0) := blk_cell kT 0
      have t1 : wr.cell? ⟨w.heap.size, 1, none⟩ = some (.string t.f1) := blk_cell kT 1
      have t2 : wr.cell? ⟨w.heap.size, 2, none⟩ = some (.int .i64 t.f2) := blk_cell kT 2
      have t3 : wr.cell? ⟨w.heap.size, 3, none⟩ = some (.slice A t.f3.length c) := blk_cell kT 3
      have c0 := hv.c0
      have c2 := hv.c2
      have hcost := fun (W : World) (hW : Below wr.heap.size wr W) => cost_any t W A c (Kd.C_below (Kd.C_below hC hB2) hW) hL.le
      go_cut [62] from 50 to 62 (fun p wx => p = .bool false ∧ Below wr.heap.size wr wx)
      case first =>
        go_region_with (go_at_call 32; refine (hcost _ (by first | exact Below.refl _ _ | exact pw_below_drewN (Below.refl _ _) 1)).mono ?_; rintro e w5 ⟨rfl, hb5⟩; have c0' := blk_cell (blk_below (w := wr.drew) hv.blk hb5) 0; have c2' := blk_cell (blk_below (w := wr.drew) hv.blk hb5) 2)
        all_goals
          go_wp2
          go_meet
          case rel => exact ⟨rfl, by first | exact hb5.mono (Nat.le_refl _) | exact pw_below_drewN (Below.refl _ _) 1 |>.trans hb5⟩
      case rest =>
      obtain ⟨rfl, hBc⟩ := hcut
      clear hcost t0 t1 t2 t3 c0 c2 hv
      replace kT := blk_below kT hBc
      replace hB2 := hB2.trans (hBc.mono hB2.size)
      have kTc := kT
      have hBwc := hB2
      have hpc := (hp2.below hBr).below hBc
      have hEc := (hE2.below hBr).below hBc
      have hcl := clone_any E wc _ hEc (by omega)
      have lT := blk_lt kT
      go_wp2_with fail
      refine hcl.mono ?_
      rintro e w6 ⟨v6, rfl, hE6, hv6, hb6⟩
      replace kT := blk_below kT hb6
      replace hB2 := hB2.trans (hb6.mono hB2.size)
      have l6 := hb6.size
      clear hcl
      obtain ⟨A6, c6, rfl⟩ : ∃ A c, v6 = .slice A E.length c := own_slice hE6
      go_wp2
      go_loopw [67] (fun i wx => ∃ (k : Nat) (Ek : List Int), k ≤ E.length ∧ i = .int .i64 k ∧ Ek.length = E.length ∧ Ek = (E.take k).map (fun a => max a (-1)) ++ E.drop k ∧ EnvRow wx (.slice A6 E.length c6) Ek ∧ Fs (fun j => (Value.slice A6 E.length c6).ownBlock = some j) w6 wx) (fun i _ => E.length - (intOf i).toNat)
      case atStart => exact ⟨0, E, Nat.zero_le _, rfl, rfl, by simp, hE6, Fs.refl _ _⟩
      case round =>
        obtain ⟨k, Ek, hk, rfl, hkl, hke, hEk, hfk⟩ := hrel
        by_cases hlt : k < E.length
        · obtain ⟨g, cap, hg, g1, g2, g3⟩ := hEk.cell (j := k) (by omega)
          simp only [Value.slice.injEq] at hg
          obtain ⟨rfl, _, rfl⟩ := hg
          have hgd : Ek.getD k (-1) = E[k] := by
            rw [hke, List.getD_eq_getElem?_getD, List.getElem?_append_right (by simp; omega)]
            simp [Nat.min_eq_left (Nat.le_of_lt hlt), List.getElem?_eq_getElem hlt]
          have hnx : Ek.set k (max E[k] (-1)) = (E.take (k + 1)).map (fun a => max a (-1)) ++ E.drop (k + 1) := by
            rw [hke, List.set_append_right _ _ (by simp; omega)]
            simp only [List.length_map, List.length_take, Nat.min_eq_left (Nat.le_of_lt hlt), Nat.sub_self]
            rw [List.drop_eq_getElem_cons hlt, List.set_cons_zero, List.take_succ_eq_append_getElem hlt, List.map_append, List.append_assoc]
            rfl
          rw [hgd] at g2
          generalize E[k] = d at g2 hnx
          have g4 := g3 k
          have hst := (World.ownsRow.stored (by have h := hEk; unfold EnvRow at h; rw [hkl] at h; exact h) k (.int .i64 (max d (-1)))).1
          have hEn : EnvRow (wr.setCell ⟨g, k, none⟩ (.int .i64 (max d (-1)))) (.slice (some ⟨g, 0, none⟩) E.length c6) (Ek.set k (max d (-1))) := by
            unfold EnvRow
            rw [List.map_set, List.length_set, hkl]
            exact hst
          have hfn : Fs (fun j => (Value.slice (some ⟨g, 0, none⟩) E.length c6).ownBlock = some j) w6 (wr.setCell ⟨g, k, none⟩ (.int .i64 (max d (-1)))) :=
            ⟨hfk.os, hfk.tape, hfk.output, by simpa [World.setCell] using hfk.size, fun j hj hn => (Below.heap_setCell wr ⟨g, k, none⟩ _ j (fun e => hn (by rw [e]; rfl))).trans (hfk.block j hj hn)⟩
          have hmx : (if d < -1 then -1 else d) = max d (-1) := by rw [Int.max_def]; split <;> split <;> omega
          have HNX := Lib.hid hnx
          have HMX := Lib.hid hmx
          have hlx : (Ek.set k (max d (-1))).length = E.length := by rw [List.length_set]; exact hkl
          clear g3 hst hnx hke hgd hmx hkl
          go_wp2
          go_roundw
          case rel => exact ⟨k + 1, Ek.set k (max d (-1)), by omega, by go_num, hlx, HNX.out, by rw [HMX.out]; exact hEn, by rw [HMX.out]; exact hfn⟩
          case measure => simp [intOf]; omega
        · obtain rfl : k = E.length := by omega
          go_wp2
          have hBw : Below wc.heap.size wc wr := ⟨hfk.os.trans hb6.os, hfk.tape.trans hb6.tape, hfk.output.trans hb6.output, Nat.le_trans l6 hfk.size, fun j hj => (hfk.block j (by omega) (fun e => by have := hv6 j e; omega)).trans (hb6.block j hj)⟩
          obtain rfl : Ek = E.map (fun a => max a (-1)) := by rw [hke]; simp
          clear hke hfk hkl
          obtain ⟨i0, hi, hz0, hz1, hz2⟩ := info_parts infoI
          go_loopw [13] (fun v wx => ∃ (k : Nat) (A : Option Addr) (c : Nat), k ≤ top.toNat - E.length ∧ v = .slice A (E.length + k) c ∧ EnvRow wx v (E.map (fun a => max a (-1)) ++ List.replicate k (-1)) ∧ (∀ j, v.ownBlock = some j → wc.heap.size ≤ j) ∧ Below wc.heap.size wc wx) (fun v _ => top.toNat - lenV v)
          case atStart => exact ⟨0, A6, c6, Nat.zero_le _, rfl, by simpa using hEk, hv6, hBw⟩
          case round =>
            clear hBw hEk hE6 hb6
            obtain ⟨k, A7, c7, hk7, rfl, hE7, hv7, hB7⟩ := hrel
            have l7 := hB7.size
            by_cases h7 : ((E.length + k : Nat) : Int) < top
            · have h0 : wr.ownsRow 0 3 1 (.slice A7 (E.length + k) c7) (E.length + k) ((E.map (fun a => max a (-1)) ++ List.replicate k (-1)).map (.int .i64 ·)) := by
                have h := hE7
                unfold EnvRow at h
                simpa using h
              go_wp2_with (at_builtin; refine wpList_append_lies _ rfl (.tmp 83) (.tmp 84) 23 rfl 0 3 i0 _ 1 8 Try.underlying23 hi hz0 hz1 hz2 rfl (by decide) _ (E.length + k) _ rfl (h0.alloc _) ⟨wr.heap.size, 0, none⟩ 1 1 [.int .i64 (-1)] rfl rfl (cell_one_new _ _ _) (ints_oneCell .i64 [-1]) (by decide) (by unfold maxLen; omega) (by omega) (Nat.zero_le _) _ rfl ?_; intro g8 c8 w8 hown8 hgrow8 hor8 hlt8)
              have hE8 : EnvRow w8 (.slice (some ⟨g8, 0, none⟩) (E.length + (k + 1)) c8) (E.map (fun a => max a (-1)) ++ List.replicate (k + 1) (-1)) := by
                unfold EnvRow
                rw [List.replicate_succ']
                simpa [Nat.add_assoc] using hown8
              have hv8 : ∀ j, (Value.slice (some ⟨g8, 0, none⟩) (E.length + (k + 1)) c8).ownBlock = some j → wc.heap.size ≤ j := fun j hj => by
                obtain rfl : g8 = j := by simpa [Value.ownBlock] using hj
                rcases hor8 with h | h
                · exact hv7 _ h
                · simp at h
                  omega
              have hB8 : Below wc.heap.size wc w8 := below_grown (below_alloc hB7 _) hgrow8 (fun j hj => hv7 j hj) (Nat.le_refl _)
              clear hown8 hgrow8 hor8 h0
              go_wp2
              go_roundw
              case rel => exact ⟨k + 1, _, _, by omega, rfl, hE8, hv8, hB8⟩
              case measure => simp [lenV]; omega
            · obtain rfl : k = top.toNat - E.length := by omega
              have hp9 := hpc.below hB7
              obtain ⟨vc, vn, vm, hv⟩ := hp9
              obtain ⟨cA, cc, rfl⟩ : ∃ A c, vc = .slice A H.C.length c := own_slice hv.rc
              have kT9 := blk_below kTc hB7
              have hB9 : Below w.heap.size w wr := hBwc.trans (hB7.mono hBwc.size)
              obtain ⟨j0, ji, jz0, jz1, jz2⟩ := info_parts infoC
              have c2 := hv.c2
              have t0 : wr.cell? ⟨w.heap.size, 0, none⟩ = some (.int .i64 t.f0) := blk_cell kT9 0
              have t1 : wr.cell? ⟨w.heap.size, 1, none⟩ = some (.string t.f1) := blk_cell kT9 1
              have t2 : wr.cell? ⟨w.heap.size, 2, none⟩ = some (.int .i64 t.f2) := blk_cell kT9 2
              have t3 : wr.cell? ⟨w.heap.size, 3, none⟩ = some (.slice A t.f3.length c) := blk_cell kT9 3
              have lT9 := blk_lt kT9
              have lb9 := blk_lt hv.blk
              have hmo9 := hv.mo
              have hlc9 := hv.lc
              have f2 : wr.frozen? ⟨hb, 2, none⟩ = false := blk_frozen hv.blk 2
              clear hpc hC
              go_upto_region 25 with (at_builtin; refine wpList_append_lies _ rfl (.tmp 95) (.tmp 97) 54 rfl 0 66 j0 _ 5 48 Try.underlying54 ji jz0 jz1 jz2 rfl (by decide) _ H.C.length (H.C.flatMap cellsC) rfl (hv.rc.alloc _) ⟨wr.heap.size, 0, none⟩ 1 1 (cellsC zCl) rfl rfl (new_cells wr #[.int .i64 0, .string ⟨#[]⟩, .int .i64 0, .int .i64 0, .int .i64 0] 66) (oneC zCl) (hm := by decide) (h63 := by unfold maxLen; omega) (hbytes := by omega) (hbase := Nat.zero_le _) (H := wr.heap.size + 1) (hH := by simp) (h := ?_); intro gN cN w9 hown9 hgrow9 hor9 hlt9; have kb9 := blk_grown (w := wr.alloc (.cells #[.int .i64 0, .string ⟨#[]⟩, .int .i64 0, .int .i64 0, .int .i64 0] 66)) (blk_alloc hv.blk _) hgrow9 hv.neC; have e9 := blk_cell kb9 2; have q9 := blk_frozen kb9 2)
              have hor3 : (Value.slice cA H.C.length cc).ownBlock = some gN ∨ gN = wr.heap.size + 1 := hor9
              have hAl : Below wr.heap.size wr (wr.alloc (.cells #[.int .i64 0, .string ⟨#[]⟩, .int .i64 0, .int .i64 0, .int .i64 0] 66)) := below_alloc (Below.refl _ _) _
              obtain ⟨hp3, hf3, hs3⟩ := HpV.setC (u := .slice (some ⟨gN, 0, none⟩) (H.C.length + 1) cN) (X := H.C ++ [zCl]) (hv.alloc (.cells #[.int .i64 0, .string ⟨#[]⟩, .int .i64 0, .int .i64 0, .int .i64 0] 66)) hgrow9 (by simpa using hown9) (fun k hk => by
                rcases hor3 with h | h
                · left; rw [h]; exact hk
                · right
                  have hk' : gN = k := by simpa [Value.ownBlock] using hk
                  rw [← hk', h]; simp) (by simp; omega)
              have hv7S : ∀ k, (Value.slice A7 (E.length + (top.toNat - E.length)) c7).ownBlock = some k → ¬ (S k ∨ (Value.slice (some ⟨gN, 0, none⟩) (H.C.length + 1) cN).ownBlock = some k) := fun k hk h => by
                have h1 := hv7 k hk
                have h2 := (World.ownsRow.lt hE7 k hk).2
                rcases h with h | h
                · have := hSl k h
                  have := hBwc.size
                  omega
                · have h3 : gN = k := by simpa [Value.ownBlock] using h
                  rcases hor3 with h4 | h4
                  · have := hSl gN (hv.Sc gN h4)
                    have := hBwc.size
                    omega
                  · omega
              have kT3 := blk_far (p := ⟨hb, 2, none⟩) (blk_grown (w := wr.alloc (.cells #[.int .i64 0, .string ⟨#[]⟩, .int .i64 0, .int .i64 0, .int .i64 0] 66)) (blk_alloc kT9 _) hgrow9 (own_ne hv.rc kT9 (by decide))) (show w.heap.size ≠ hb from by have := hSl hb hSh; omega) (.slice (some ⟨gN, 0, none⟩) (H.C.length + 1) cN)
              have hE3 := (hE7.alloc (.cells #[.int .i64 0, .string ⟨#[]⟩, .int .i64 0, .int .i64 0, .int .i64 0] 66)).fs hf3 (fun k hk h => hv7S k hk (.inl h))
              have hf5 : Fs S w (w9.setCell ⟨hb, 2, none⟩ (.slice (some ⟨gN, 0, none⟩) (H.C.length + 1) cN)) := ((Fs.of_below hB9).alloc _).trans hf3 (fun k h => .inl h)
              have hs5 : ∀ k, (S k ∨ (Value.slice (some ⟨gN, 0, none⟩) (H.C.length + 1) cN).ownBlock = some k) → S k ∨ w.heap.size ≤ k := fun k hk => (hs3 k hk).imp_right fun h => by
                have := hB9.size
                simp at h
                omega
              have hv7w : ∀ k, (Value.slice A7 (E.length + (top.toNat - E.length)) c7).ownBlock = some k → w.heap.size ≤ k := fun k hk => Nat.le_trans hBwc.size (hv7 k hk)
              generalize hS4 : (fun k => S k ∨ (Value.slice (some ⟨gN, 0, none⟩) (H.C.length + 1) cN).ownBlock = some k) = S4 at hp3
              have hv7T : ∀ k, (Value.slice A7 (E.length + (top.toNat - E.length)) c7).ownBlock = some k → ¬ S4 k := fun k hk h => hv7S k hk (by rw [← hS4] at h; exact h)
              have hs6 : ∀ k, S4 k → S k ∨ w.heap.size ≤ k := fun k hk => hs5 k (by rw [← hS4] at hk; exact hk)
              clear hS4 hs3 hs5 hgrow9 hown9 hor9 hor3 kb9 e9 q9 hv hf3 c2 t0 t1 t2 t3 lT9 lb9 kT9 f2 hv7S hE7 hB7 hv7
              generalize (w9.setCell ⟨hb, 2, none⟩ (.slice (some ⟨gN, 0, none⟩) (H.C.length + 1) cN)) = W9 at hp3 kT3 hE3 hf5 ⊢
              have t0 : W9.cell? ⟨w.heap.size, 0, none⟩ = some (.int .i64 t.f0) := blk_cell kT3 0
              have t1 : W9.cell? ⟨w.heap.size, 1, none⟩ = some (.string t.f1) := blk_cell kT3 1
              have t2 : W9.cell? ⟨w.heap.size, 2, none⟩ = some (.int .i64 t.f2) := blk_cell kT3 2
              have t3 : W9.cell? ⟨w.heap.size, 3, none⟩ = some (.slice A t.f3.length c) := blk_cell kT3 3
              have lT9 := blk_lt kT3
              have hv7l : ∀ k, (Value.slice A7 (E.length + (top.toNat - E.length)) c7).ownBlock = some k → k < W9.heap.size := fun k hk => (World.ownsRow.lt hE3 k hk).2
              have hLz : LF T W9 t A c := hL.fs hf5 hS
              have hsz5 := hf5.size
              have hlay := lay_any hb (.slice A7 (E.length + (top.toNat - E.length)) c7) T _ t rfl W9 H.C.length S4 { H with C := H.C ++ [zCl] } (env0 E top) A c ⟨_, _, _, hp3⟩ hE3 (fun k hk => ⟨hv7T k hk, fun h => by have := hTl k h; have := hv7w k hk; omega⟩) (fun k hk => by
                rcases hs6 k hk with h | h
                · exact hS k h
                · exact fun ht => by have := hTl k ht; omega) (fun k hk => by have := hTl k hk; omega) hLz ((okT_iff t).1 hok).1 (by simp) (by simp) (fun u hu => by
                obtain ⟨h1, h2, _⟩ := hin u (by unfold varsOf; rw [if_pos hok]; exact (mem_varsT t u).2 hu)
                refine ⟨h1, ?_⟩
                unfold env0
                simp
                omega) (by unfold env0; simp; omega) (by simp; omega)
              go_wp2_with fail
              refine hlay.mono ?_
              rintro e w10 ⟨rfl, S5, hp5, hE5, hf6, hs7⟩
              clear hp3 kT3 hE3 t0 t1 t2 t3
              have hfin : PutPost t E w hb S H (.returned (.tuple #[.int .i64 H.C.length, .slice A7 (E.length + (top.toNat - E.length)) c7, .int .i64 0])) w10 := by
                refine ⟨_, S5, rfl, ?_, hf5.trans hf6 (fun k hk => ?_), fun k hk => ?_, ?_, fun k hk => ⟨fun h => ?_, hv7w k hk⟩⟩
                · rw [htopd]; exact hp5
                · rcases hk with h | h
                  · exact hs6 k h
                  · exact .inr (hv7w k h)
                · rcases hs7 k hk with h | h
                  · exact hs6 k h
                  · have := hf5.size
                    exact .inr (by omega)
                · rw [htopd]; exact hE5
                · rcases hs7 k h with h1 | h1
                  · exact hv7T k hk h1
                  · have := hv7l k hk
                    omega
              clear hf5 hf6 hp5 hE5
              go_wp2
              go_ret3
              exact hfin

end Go.Proofs.Ytjhhacighfpdbaa
