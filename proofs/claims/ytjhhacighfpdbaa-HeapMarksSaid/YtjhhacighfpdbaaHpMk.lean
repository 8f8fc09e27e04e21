/- The walk of the law HeapMarks. -/
import Derived.Test.YtjhhacighfpdbaaHpXz
import Derived.StillTailTactics
namespace Go.Proofs.Ytjhhacighfpdbaa
set_option linter.unusedVariables false
open Go.RowKit Go.Maps Go.Proofs.YtjhhacighfpdbaaW.PrintWords Go.Proofs.YtjhhacighfpdbaaW.PrintLast Go.Proofs.YtjhhacighfpdbaaW.PrintMore Go.Proofs.Ytjhhacighfpdbaa.PHeapShares Go.Extern

/-- What the example is asked for. -/
def Alive : Prop := ∀ w : World, Calls Try.prog 6 #[] w fun e w' => e = .returned (.bool true) ∧ Below w.heap.size w w'

set_option maxHeartbeats 4000000 in
set_option maxRecDepth 100000 in
theorem marks_law (hal : Alive) (w : World) (ts : List S28) (A : Option Addr) (c : Nat) (hC : Kd.C k28 w A ts.length ts) (hwf : ∀ t ∈ ts, wfT t) (B : Option Addr) (n cb : Nat) (hP : Pairs w B n) (keep : Bool) :
    Calls Try.prog 3 #[.slice A ts.length c, .slice B n cb, .bool keep] w fun e w' => e = .returned (.bool true) ∧ Below w.heap.size w w' := by
  have h0 := hal w
  go_enter Try.func3, Try.ntmps3
  go_wp2_with fail
  refine h0.mono ?_
  rintro e w1 ⟨rfl, hB1⟩
  have h1 := New_any w1 65536 (by decide) (by decide)
  go_wp2_with fail
  refine h1.mono ?_
  rintro e w2 ⟨rfl, hB2, hp2, hs2⟩
  clear h0 h1
  have hmx := hC.2.1
  have hls : LS w (w2.alloc (.cells #[] 3)) w1.heap.size _ _ (.slice (some ⟨w2.heap.size, 0, none⟩) 0 0) [] := ⟨hp2.alloc _, below_alloc (hB1.trans (hB2.mono hB1.size)) _, fun k hk => by have := hB1.size; omega, World.ownsRow_made w2 #[] 0 (Nat.zero_le _) (by decide) rfl, fun k hk => by
    have hk' : w2.heap.size = k := by simpa [Value.ownBlock] using hk
    have := hB1.size
    have := hB2.size
    exact ⟨by omega, by omega⟩, fun x hx => by simp at hx, fun a ha => (by cases ha), rfl, rfl⟩
  generalize w1.heap.size = hb at hls hp2 hs2 ⊢
  go_wp2
  go_loopw [8, 40] (fun v i wr => ∃ (k : Nat) (Ad : List Nat) (C : List Cl) (S : Nat → Prop) , k ≤ ts.length ∧ i = .int .i64 k ∧ LS w wr hb S ⟨65536, 65536, C, [], []⟩ v Ad ∧ Ad.length ≤ k ∧ Ad.length ≤ 13 ∧ C.length ≤ 30 * Ad.length)
    (fun _ i _ => ts.length - (intOf i).toNat)
  case atStart => exact ⟨0, [], [], _, Nat.zero_le _, rfl, hls, Nat.le_refl _, by decide, by simp⟩
  case round =>
    clear hls hp2 hs2 hB1 hB2
    obtain ⟨k, Ad, C, S, hk, rfl, hls, hAk, hA13, hCl⟩ := hrel
    obtain ⟨Va, ca, rfl⟩ : ∃ A c, u8 = .slice A Ad.length c := by
      have h := own_slice hls.row
      simpa using h
    by_cases hlt : k < ts.length
    · obtain ⟨ad, A3, c3, rfl, y0, y1, y2, y3, l3, g3⟩ := C_rd hC k hlt rfl
      have hbr := hls.bel
      replace y0 := (hbr.cell (World.block_lt_of_cell? w _ y0)).trans y0
      replace y1 := (hbr.cell (World.block_lt_of_cell? w _ y1)).trans y1
      replace y2 := (hbr.cell (World.block_lt_of_cell? w _ y2)).trans y2
      replace y3 := (hbr.cell (World.block_lt_of_cell? w _ y3)).trans y3
      have L3 : Lies w ts[k] A3 c3 := ⟨g3, l3, hwf _ (List.getElem_mem hlt)⟩
      generalize ts[k] = t at y0 y1 y2 y3 l3 g3 L3
      have hbx := below_alloc (Below.refl wr.heap.size wr) (.cells #[.int .i64 t.f0, .string t.f1, .int .i64 t.f2, .slice A3 t.f3.length c3] 28)
      have kT := blk_new wr (.cells #[.int .i64 t.f0, .string t.f1, .int .i64 t.f2, .slice A3 t.f3.length c3] 28)
      have hls2 := hls.below hbx
      have hsm := small_any t _ A3 c3 (L3.at hls2.bel)
      clear g3
      by_cases hk12 : k ≤ 12
      case neg =>
        have e12 : decide ((12 : Int) < (k : Int)) = true := decide_eq_true (by omega)
        clear hsm kT
        go_wp2
        go_roundw
        case rel => exact ⟨k + 1, Ad, C, S, by omega, by go_num, hls2, by omega, hA13, hCl⟩
        case measure => simp [intOf]; omega
      have e12 : decide ((12 : Int) < (k : Int)) = false := decide_eq_false (by omega)
      go_wp2_with fail
      refine hsm.mono ?_
      rintro e w5 ⟨rfl, hb5⟩
      clear hsm
      replace kT := blk_below kT hb5
      replace hls2 := hls2.below hb5
      clear hb5 hls y0 y1 y2 y3 hbr hbx
      cases hst : smallT t with
      | false =>
        clear kT
        go_wp2
        go_roundw
        case rel => exact ⟨k + 1, Ad, C, S, by omega, by go_num, hls2, by omega, hA13, hCl⟩
        case measure => simp [intOf]; omega
      | true =>
        obtain ⟨t30, tok, tv⟩ := small_facts hst
        have hLF := L3.lf hls2.bel
        have hput := hls2.put hLF (fun k hk h => by have := hls2.sb k hk; omega) (fun k hk => by have := hls2.bel.size; omega) tok tv (by show C.length + nodes t ≤ 65536; omega)
        have t0 : w5.cell? ⟨wr.heap.size, 0, none⟩ = some (.int .i64 t.f0) := blk_cell kT 0
        have t1 : w5.cell? ⟨wr.heap.size, 1, none⟩ = some (.string t.f1) := blk_cell kT 1
        have t2 : w5.cell? ⟨wr.heap.size, 2, none⟩ = some (.int .i64 t.f2) := blk_cell kT 2
        have t3 : w5.cell? ⟨wr.heap.size, 3, none⟩ = some (.slice A3 t.f3.length c3) := blk_cell kT 3
        clear hLF kT
        go_wp2_with fail
        refine hput.mono ?_
        rintro e w6 ⟨v6, S6, C6, E6, σ, rfl, hls6, hld, _, _, _, _⟩
        clear hput t0 t1 t2 t3 hls2
        obtain ⟨i0, hi, hz0, hz1, hz2⟩ := info_parts infoI
        have h0 : w6.ownsRow 0 3 1 (.slice Va Ad.length ca) Ad.length ((Ad.map fun a : Nat => (a : Int)).map (.int .i64 ·)) := by
          have h := hls6.row
          unfold EnvRow at h
          simpa using h
        go_wp2_with (at_builtin; refine wpList_append_lies _ rfl (.tmp 61) (.tmp 63) 23 rfl 0 3 i0 _ 1 8 Try.underlying23 hi hz0 hz1 hz2 rfl (by decide) _ Ad.length _ rfl (h0.alloc _) ⟨w6.heap.size, 0, none⟩ 1 1 [.int .i64 (C.length : Int)] rfl rfl (cell_one_new _ _ _) (ints_oneCell .i64 [(C.length : Int)]) (by decide) (by unfold maxLen; omega) (by omega) (Nat.zero_le _) _ rfl ?_; intro g8 c8 w8 hown8 hgrow8 hor8 hlt8)
        have hls8 := hls6.push (x := C.length) (by show C.length < C6.length; have := hld.len; have := nodes_pos t; omega) (by simpa using hown8) hgrow8 hor8
        go_roundw
        case rel => exact ⟨k + 1, Ad ++ [C.length], C6, S6, by omega, by go_num, by simpa using hls8, by simp; omega, by simp; omega, by have := hld.len; simp only [List.length_append, List.length_singleton]; omega⟩
        case measure => simp [intOf]; omega
    · obtain rfl : k = ts.length := by omega
      clear hlt hk
      by_cases hA0 : Ad.length = 0
      · go_wp2
        go_ret
        exact ⟨rfl, hls.bel⟩
      have eA0 : ((Ad.length : Int) == 0) = false := by simpa using hA0
      go_wp2
      go_loopw [14] (fun i wr => ∃ (j : Nat) (C2 : List Cl) (N : List Nt) (S2 : Nat → Prop), j ≤ 7 ∧ i = .int .i64 j ∧ LS w wr hb S2 ⟨65536, 65536, C2, N, []⟩ (.slice Va Ad.length ca) Ad ∧ C2.length = C.length)
        (fun i _ => 8 - (intOf i).toNat)
      case atStart => exact ⟨0, C, [], S, Nat.zero_le _, rfl, hls, rfl⟩
      case round =>
        clear hls
        obtain ⟨j, C2, N, S2, hj, rfl, hls, hC2⟩ := hrel
        by_cases hg : j + 1 < n ∧ j < 6
        · obtain ⟨g1, g2⟩ := hg
          have e1 : decide ((j : Int) + 1 < (n : Int)) = true := decide_eq_true (by omega)
          have e2 : decide ((j : Int) < 6) = true := decide_eq_true (by omega)
          go_upto_region 20 with (fail)
          have hls2 := hls.below (Below.drew (Below.refl _ _))
          clear hls
          refine wp_region_still_tail 0x18 (by kernel_rfl) (by kernel_rfl) ?_
          change wpStill _ _ wr.drew (fun a' => wpList _ _ _ _ a' wr.drew) _ _
          generalize wr.drew = wd at hls2 ⊢
          obtain ⟨ad, ga, x1, a1, rfl, rfl, m1, ⟨p1, l1, h1, q1⟩⟩ := hls2.pick hP (by omega) (show j < n by omega)
          obtain ⟨_, _, x2, a2, e3, e4, m2, ⟨p2, l2, h2, q2⟩⟩ := hls2.pick hP (by omega) g1
          simp only [Option.some.injEq, Addr.mk.injEq, and_true] at e3 e4
          subst e3
          subst e4
          have hz : ¬((Ad.length : Int) = 0) := by omega
          have hpm := hP.max
          have bj : j < n := by omega
          have bj1 : (j : Int) < (n : Int) := by omega
          have bj2 : (j : Int) + 1 < (n : Int) := by omega
          have bj3 : 0 ≤ (j : Int) + 1 := by omega
          have bw : IntKind.i64.wrap ((j : Int) + 1) = (j : Int) + 1 := by rw [IntKind.wrap_i64]; omega
          have bt : ((j : Int) + 1).toNat = j + 1 := by omega
          simp only [List.take_succ_cons, List.take_zero, List.drop_succ_cons, List.drop_zero]
          rw [show ad.add (j + 1) = ⟨ad.block, ad.off + (j + 1), none⟩ from by unfold Addr.add; simp] at p2
          repeat still_step
          refine wpStill_nil ?_
          have huni := hls2.unify m1 m2
          clear hls2
          clear p1 l1 h1 q1 p2 l2 h2 q2 bw bt bj1 bj2 bj3 e1 e2 hz m1 m2
          go_wp2_with fail
          refine huni.mono ?_
          rintro e w5 ⟨v5, S5, C5, N5, rfl, hls5, hn5, _, _⟩
          clear huni
          go_wp2
          go_roundw
          case rel => exact ⟨j + 2, C5, N5, S5, by omega, by go_num, hls5, hn5.len.trans hC2⟩
          case measure => simp [intOf]; omega
        · have hpm := hP.max
          have hout : decide ((j : Int) + 1 < (n : Int)) = false ∨ decide ((j : Int) + 1 < (n : Int)) = true ∧ decide ((j : Int) < 6) = false := by
            by_cases h : j + 1 < n
            · exact .inr ⟨decide_eq_true (by omega), decide_eq_false (by omega)⟩
            · exact .inl (decide_eq_false (by omega))
          go_upto_region 18 with (fail)
          go_cut [77] from 69 to 77 (fun p wx => p = .bool false ∧ wx = wr)
          case first =>
            rcases hout with e1 | ⟨e1, e2⟩
            · go_wp2
              go_meet
              case rel => exact ⟨rfl, rfl⟩
            · go_wp2
              go_meet
              case rel => exact ⟨rfl, rfl⟩
          case rest =>
          obtain ⟨rfl, rfl⟩ := hcut
          clear hout hg hj hpm
          go_wp2
          have hcl : C2.length ≤ 390 := by omega
          clear hC2 hCl hAk eA0
          have hSN := hls.hp.lt
          have hvN : ∀ k, (Value.slice Va Ad.length ca).ownBlock = some k → k < wc.heap.size := fun k hk => (World.ownsRow.lt hls.row k hk).2
          have hNB := hls.bel.size
          have hls3 := hls.alloc (.cells #[] 28)
          have hR3 := R_made wc wc.heap.size (fun k => wc.heap.size ≤ k) (Nat.le_refl _) (Nat.le_refl _)
          have hsz3 : wc.heap.size ≤ (wc.alloc (.cells #[] 28)).heap.size := by simp
          clear hls
          generalize wc.alloc (.cells #[] 28) = W3 at hls3 hR3 hsz3 ⊢
          obtain ⟨NB, hNBe⟩ : ∃ m, m = wc.heap.size := ⟨_, rfl⟩
          rw [← hNBe] at hSN hvN hNB hR3 hsz3 ⊢
          clear hNBe
          go_loopw [15, 108] (fun v i wx => ∃ (k : Nat) (Ws : List S28), k ≤ Ad.length ∧ i = .int .i64 k ∧ LS w wx hb S2 ⟨65536, 65536, C2, N, []⟩ (.slice Va Ad.length ca) Ad ∧ Ws.length = k ∧ TakenUp C2 Ad Ws ∧ Kd.R k28 28 wx NB (fun q => NB ≤ q) v Ws ∧ NB ≤ wx.heap.size)
            (fun _ i _ => Ad.length - (intOf i).toNat)
          case atStart => exact ⟨0, [], Nat.zero_le _, rfl, hls3, rfl, fun q a t _ h => by simp at h, hR3, hsz3⟩
          case round =>
            clear hls3 hR3 hsz3
            obtain ⟨k, Ws, hk, rfl, hls, hWl, htk, hRw, hsz⟩ := hrel
            by_cases hlt : k < Ad.length
            · obtain ⟨ga, rfl, hcell⟩ := hls.addr hlt
              obtain ⟨t, ht⟩ := hls.hi _ (hls.adr _ (List.getElem_mem hlt))
              have htk2 := fun hok => htk.snoc (t := t) (by rw [hWl]; exact hlt) (by simpa [hWl] using ht) hok
              generalize Ad[k] = a at hcell ht
              cases hok : okT t with
              | false =>
                have htake := take_bad wr hb S2 _ a t hls.hp ht hok
                go_wp2_with fail
                refine htake.mono ?_
                rintro e w5 ⟨v5, rfl, hR5, hb5⟩
                obtain ⟨A5, c5, rfl⟩ := Kd.R_slice hR5
                go_wp2
                go_ret
                exact ⟨rfl, (hls.below hb5).alloc _ |>.bel⟩
              | true =>
                have htake := take_ok wr hb S2 _ a t hls.hp ht hok
                go_wp2_with fail
                refine htake.mono ?_
                rintro e w5 ⟨v5, rfl, hR5, hb5⟩
                obtain ⟨A5, c5, rfl⟩ := Kd.R_slice hR5
                clear htake hcell
                have hl5 := hb5.size
                have hBx := hb5.trans ((below_alloc (Below.refl w5.heap.size w5) (.cells #[.int .i64 t.f0, .string t.f1, .int .i64 t.f2, .slice A5 t.f3.length c5] 28)).mono hl5)
                have kb := blk_new w5 (.cells #[.int .i64 t.f0, .string t.f1, .int .i64 t.f2, .slice A5 t.f3.length c5] 28)
                have hls6 := hls.below hBx
                have hRx := Kd.R_below (Kd.R_bound hR5) (below_alloc (Below.refl w5.heap.size w5) (.cells #[.int .i64 t.f0, .string t.f1, .int .i64 t.f2, .slice A5 t.f3.length c5] 28))
                have hRw6 := Kd.R_below hRw hBx
                have hlx : w5.heap.size < (w5.alloc (.cells #[.int .i64 t.f0, .string t.f1, .int .i64 t.f2, .slice A5 t.f3.length c5] 28)).heap.size := by simp
                have hvo : ∀ q, u15.ownBlock = some q → NB ≤ q ∧ q < wr.heap.size := fun q hq => by
                  obtain ⟨inner, ho⟩ := Kd.R_own hRw
                  exact ⟨own_base ho q hq, own_lt ho q hq⟩
                go_upto_region 26 with (fail)
                clear hBx
                generalize (w5.alloc (.cells #[.int .i64 t.f0, .string t.f1, .int .i64 t.f2, .slice A5 t.f3.length c5] 28)) = W6 at kb hls6 hRx hRw6 hlx ⊢
                have t0 : W6.cell? ⟨w5.heap.size, 0, none⟩ = some (.int .i64 t.f0) := blk_cell kb 0
                have t1 : W6.cell? ⟨w5.heap.size, 1, none⟩ = some (.string t.f1) := blk_cell kb 1
                have t2 : W6.cell? ⟨w5.heap.size, 2, none⟩ = some (.int .i64 t.f2) := blk_cell kb 2
                have t3 : W6.cell? ⟨w5.heap.size, 3, none⟩ = some (.slice A5 t.f3.length c5) := blk_cell kb 3
                have hM := k28_mkM W6 NB _ t (Kd.R_lower hRx (base' := NB) (by omega))
                have hokp : ∀ q, (True ∧ wr.heap.size ≤ q ∧ q < w5.heap.size ∧ ∃ e, e ∈ 28 :: k28.E ∧ ∃ cells, w5.heap[q]? = some (.cells cells e (0, 0))) → NB ≤ q ∧ some q ≠ u15.ownBlock := fun q hq => ⟨by omega, fun e => by have := hvo q e.symm; omega⟩
                have hfr : ∀ q, W6.heap.size ≤ q → NB ≤ q := fun q hq => by omega
                have hNB6 : NB ≤ W6.heap.size := by omega
                have lW : (Ws.length + 1) * 56 ≤ 140737488355328 := by omega
                go_wp2_with (at_builtin; refine Kd.R_append k28 (w0 := W6) NB rfl (.tmp 122) (.tmp 124) 22 28 (.agg #[.int .i64 0, .string ⟨#[]⟩, .int .i64 0, .slice none 0 0]) 56 rfl Try.underlying22 info28 rfl (by decide) (by omega) u15 Ws t [.int .i64 t.f0, .string t.f1, .int .i64 t.f2, .slice A5 t.f3.length c5] (fun q => NB ≤ q) _ rfl rfl hM hokp hfr hRw6 (Below.refl _ _) hNB6 lW ?_; intro v8 w8 hR8 hb8 hg8 hat8)
                have hls8 := hls6.grown hg8 (fun q hq => ⟨by have := hvo q hq; omega, fun h => by have := hSN q h; have := hvo q hq; omega, fun h => by have := hvN q h; have := hvo q hq; omega⟩)
                have hg8s := hg8.size
                go_roundw
                case rel => exact ⟨k + 1, Ws ++ [t], by omega, by go_num, hls8, by simp; omega, htk2 hok, hR8, by omega⟩
                case measure => simp [intOf]; omega
            · obtain rfl : k = Ad.length := by omega
              clear hlt hk
              have hwr := row_wf (B := Ad) (by omega) (Nat.le_of_eq hWl) htk
              obtain ⟨Aw, cw, rfl, LW⟩ := LF.of_R (t := ⟨4, ⟨#[]⟩, 0, Ws⟩) (Kd.R_bound hRw) hwr
              replace LW := LF.mono LW (T' := fun q => NB ≤ q ∧ q < wr.heap.size) fun q hq => ⟨hq.1, hq.2.2.1⟩
              have hST : ∀ q, S2 q → ¬ (NB ≤ q ∧ q < wr.heap.size) := fun q hq h => by have := hSN q hq; omega
              have hiC := hls.hi
              have hadC := hls.adr
              clear hRw hwr hSN hvN
              have hused := Used_any wr hb S2 _ hls.hp
              go_wp2_with fail
              refine hused.mono ?_
              rintro e w4 ⟨rfl, nd, rfl⟩
              clear hused
              have hBd := pw_below_drewN (Below.refl wr.heap.size wr) nd
              have hld : (wr.drewN nd).heap.size = wr.heap.size := by simp
              replace hls := hls.below hBd
              replace LW := LW.below hBd
              clear hBd
              obtain ⟨NE, hNE⟩ : ∃ m, m = wr.heap.size := ⟨_, rfl⟩
              rw [← hNE] at LW hST hld hsz
              clear hNE
              generalize wr.drewN nd = W4 at hls LW hld ⊢
              have hmark := hls.mark (by simp)
              go_wp2_with fail
              refine hmark.mono ?_
              rintro e w5 ⟨S3, rfl, hls5, hf5, hS5⟩
              clear hmark
              have LW5 := LW.fs hf5 hST
              have hST5 : ∀ q, S3 q → ¬ (NB ≤ q ∧ q < NE) := fun q hq => by
                rcases hS5 q hq with h | h
                · exact hST q h
                · omega
              have hl5 := hf5.size
              clear hls LW hST hf5 hS5
              go_wp2
              go_loopw [0x18] (fun i wx => ∃ (j : Nat) (C : List Cl) (N1 : List Nt) (M : List (Nat × Nat)) (S4 : Nat → Prop), 6 ≤ j ∧ j ≤ 41 ∧ i = .int .i64 j ∧ LS w wx hb S4 ⟨65536, 65536, C, N1, (C2.length, N.length) :: M⟩ (.slice Va Ad.length ca) Ad ∧ Since C2 N C N1 ∧
                  C.length ≤ 390 + 1000 * (j - 6) ∧ M.length ≤ j ∧ LF (fun q => NB ≤ q ∧ q < NE) wx ⟨4, ⟨#[]⟩, 0, Ws⟩ Aw cw ∧ (∀ q, S4 q → ¬ (NB ≤ q ∧ q < NE)) ∧ NE ≤ wx.heap.size)
                (fun i _ => 50 - (intOf i).toNat)
              case atStart => exact ⟨6, C2, N, [], S3, by decide, by decide, rfl, hls5, Since.refl _ _, by omega, by simp, LW5, hST5, by omega⟩
              case round =>
                clear hls5 LW5 hST5 hl5 hld
                obtain ⟨j, C, N1, M, S4, hj6, hj, rfl, hls, hsi, hCl, hMl, LW, hST, hsz4⟩ := hrel
                by_cases hg : j + 1 < n ∧ j < 40
                · obtain ⟨g1, g2⟩ := hg
                  have e1 : decide ((j : Int) + 1 < (n : Int)) = true := decide_eq_true (by omega)
                  have e2 : decide ((j : Int) < 40) = true := decide_eq_true (by omega)
                  have hqa : j % Ad.length < Ad.length := Nat.mod_lt _ (by omega)
                  have hq : j % Ad.length < Ws.length := by omega
                  have hqe : ((j : Int)).tmod (Ad.length : Int) = ((j % Ad.length : Nat) : Int) := by rw [Int.tmod_eq_emod_of_nonneg (by omega)]; omega
                  obtain ⟨ad, A3, c3, rfl, y0, y1, y2, y3, l3, g3⟩ := LW.rd _ hq
                  obtain ⟨hrt, hokt⟩ := htk _ _ _ (List.getElem?_eq_getElem hqa) (List.getElem?_eq_getElem hq)
                  have hwft := hrt.wf (by omega)
                  have hvt : ∀ v ∈ occT Ws[j % Ad.length], v ≤ 2000 := fun v hv => by
                    obtain ⟨k, e, cc, hcc, _⟩ := hrt.occ v hv
                    have := (List.getElem?_eq_some_iff.1 hcc).1
                    omega
                  have hnt := nodes_ok hokt
                  generalize Ws[j % Ad.length] = t at y0 y1 y2 y3 l3 g3 hokt hwft hvt hnt
                  have hput := hls.put ⟨g3, l3, hwft⟩ hST (fun q hq => by omega) hokt hvt (by show C.length + nodes t ≤ 65536; omega)
                  clear hrt
                  generalize j % Ad.length = qq at hqe y0 y1 y2 y3 hq hqa
                  have hqi : (qq : Int) < (Ad.length : Int) := by omega
                  have hz : ¬((Ad.length : Int) = 0) := by omega
                  go_wp2_with fail
                  refine hput.mono ?_
                  rintro e w6 ⟨v6, S6, C6, E6, σ, rfl, hls6, hld, hf6, hS6, _, _⟩
                  clear hput y0 y1 y2 y3
                  have LW6 := LW.fs hf6 hST
                  have hl6 := hf6.size
                  have hST6 : ∀ q, S6 q → ¬ (NB ≤ q ∧ q < NE) := fun q hq => by
                    rcases hS6 q hq with h | h
                    · exact hST q h
                    · omega
                  have hsi6 := hsi.laid (by rw [hld.len]; omega) hld.old
                  have hC6 : C6.length ≤ 390 + 1000 * (j + 2 - 6) := by have := hld.len; omega
                  clear hls LW hST hsi hf6 hS6 hld hCl g3 l3
                  go_upto_region 36 with (fail)
                  replace hls6 := hls6.below (Below.drew (Below.refl _ _))
                  replace LW6 := LW6.below (Below.drew (Below.refl _ _))
                  have hl6' : w6.heap.size = w6.drew.heap.size := by simp
                  rw [hl6'] at hl6
                  clear hl6'
                  refine wp_region_still_tail 0x18 (by kernel_rfl) (by kernel_rfl) ?_
                  change wpStill _ _ w6.drew (fun a' => wpList _ _ _ _ a' w6.drew) _ _
                  generalize w6.drew = wd at hls6 LW6 hl6 ⊢
                  obtain ⟨ad2, ga, x1, a1, rfl, rfl, m1, ⟨p1, l1, h1, q1⟩⟩ := hls6.pick hP (by omega) (show j < n by omega)
                  obtain ⟨_, _, x2, a2, e3, e4, m2, ⟨p2, l2, h2, q2⟩⟩ := hls6.pick hP (by omega) g1
                  simp only [Option.some.injEq, Addr.mk.injEq, and_true] at e3 e4
                  subst e3
                  subst e4
                  have hpm := hP.max
                  have bj : j < n := by omega
                  have bj1 : (j : Int) < (n : Int) := by omega
                  have bj2 : (j : Int) + 1 < (n : Int) := by omega
                  have bj3 : 0 ≤ (j : Int) + 1 := by omega
                  have bw : IntKind.i64.wrap ((j : Int) + 1) = (j : Int) + 1 := by rw [IntKind.wrap_i64]; omega
                  have bt : ((j : Int) + 1).toNat = j + 1 := by omega
                  simp only [List.take_succ_cons, List.take_zero, List.drop_succ_cons, List.drop_zero]
                  rw [show ad2.add (j + 1) = ⟨ad2.block, ad2.off + (j + 1), none⟩ from by unfold Addr.add; simp] at p2
                  repeat still_step
                  refine wpStill_nil ?_
                  have huni := hls6.unify m1 m2
                  clear hls6 p1 l1 h1 q1 p2 l2 h2 q2 bw bt bj1 bj2 bj3 e1 e2 hz m1 m2 hqe hqi
                  go_wp2_with fail
                  refine huni.mono ?_
                  rintro e w7 ⟨v7, S7, C7, N7, rfl, hls7, hn7, hf7, hS7⟩
                  clear huni
                  have LW7 := LW6.fs hf7 hST6
                  have hl7 := hf7.size
                  have hST7 : ∀ q, S7 q → ¬ (NB ≤ q ∧ q < NE) := fun q hq => by
                    rcases hS7 q hq with h | h
                    · exact hST6 q h
                    · omega
                  have hsi7 := hsi6.noted hn7
                  have hC7 : C7.length ≤ 390 + 1000 * (j + 2 - 6) := by rw [hn7.len]; exact hC6
                  clear LW6 hST6 hsi6 hf7 hS7 hn7 hC6
                  obtain ⟨r, hr⟩ : ∃ r : Nat, (j : Int).tmod 6 = (r : Int) := ⟨j % 6, by rw [Int.tmod_eq_emod_of_nonneg (by omega)]; omega⟩
                  by_cases hr0 : r = 0
                  · subst hr0
                    have hmark := hls7.mark (by simp; omega)
                    go_wp2_with fail
                    refine hmark.mono ?_
                    rintro e w8 ⟨S8, rfl, hls8, hf8, hS8⟩
                    clear hmark
                    have LW8 := LW7.fs hf8 hST7
                    have hl8 := hf8.size
                    have hST8 : ∀ q, S8 q → ¬ (NB ≤ q ∧ q < NE) := fun q hq => by
                      rcases hS8 q hq with h | h
                      · exact hST7 q h
                      · omega
                    go_wp2
                    go_roundw
                    case rel => exact ⟨j + 2, C7, N7, M ++ [(C7.length, N7.length)], S8, by omega, by omega, by go_num, hls8, hsi7, hC7, by simp; omega, LW8, hST8, by omega⟩
                    case measure => simp [intOf]; omega
                  · have hr1 : ((r : Int) == 0) = false := by simpa using hr0
                    go_wp2
                    go_roundw
                    case rel => exact ⟨j + 2, C7, N7, M, S7, by omega, by omega, by go_num, hls7, hsi7, hC7, by omega, LW7, hST7, by omega⟩
                    case measure => simp [intOf]; omega
                · have hpm := hP.max
                  have hout : decide ((j : Int) + 1 < (n : Int)) = false ∨ decide ((j : Int) + 1 < (n : Int)) = true ∧ decide ((j : Int) < 40) = false := by
                    by_cases h : j + 1 < n
                    · exact .inr ⟨decide_eq_true (by omega), decide_eq_false (by omega)⟩
                    · exact .inl (decide_eq_false (by omega))
                  go_upto_region 33 with (fail)
                  go_cut [143] from 135 to 143 (fun p wx => p = .bool false ∧ wx = wr)
                  case first =>
                    rcases hout with e1 | ⟨e1, e2⟩
                    · go_wp2
                      go_meet
                      case rel => exact ⟨rfl, rfl⟩
                    · go_wp2
                      go_meet
                      case rel => exact ⟨rfl, rfl⟩
                  case rest =>
                  obtain ⟨rfl, rfl⟩ := hcut
                  clear hout hg hj hpm
                  obtain ⟨bk1, bk2, bk3, bk4⟩ := hsi.back
                  have hundo := Undo_any wc hb S4 _ 1 C2.length N.length hls.hp (by decide) (by simp) rfl hsi.len bk3 bk4
                  unfold UndoPost at hundo
                  simp only at hundo
                  rw [bk1, bk2] at hundo
                  go_wp2_with fail
                  refine hundo.mono ?_
                  rintro e w6 ⟨rfl, S6, hp6, hf6, hS6⟩
                  have hls6 : LS w w6 hb S6 ⟨65536, 65536, C2, N, [(C2.length, N.length)]⟩ (.slice Va Ad.length ca) Ad := hls.back hp6 hf6 hS6 hiC hadC rfl rfl
                  have LW6 := LW.fs hf6 hST
                  have hl6 := hf6.size
                  have hST6 : ∀ q, S6 q → ¬ (NB ≤ q ∧ q < NE) := fun q hq => by
                    rcases hS6 q hq with h | h
                    · exact hST q h
                    · omega
                  clear hls LW hST hsi hCl hMl bk1 bk2 bk3 bk4 hundo hp6 hf6 hS6
                  have hused := Used_any w6 hb S6 _ hls6.hp
                  go_wp2_with fail
                  refine hused.mono ?_
                  rintro e w7 ⟨rfl, nd, rfl⟩
                  clear hused
                  have hBd := pw_below_drewN (Below.refl w6.heap.size w6) nd
                  have hld : (w6.drewN nd).heap.size = w6.heap.size := by simp
                  replace hls6 := hls6.below hBd
                  replace LW6 := LW6.below hBd
                  clear hBd
                  replace hl6 : NE ≤ (w6.drewN nd).heap.size := by omega
                  clear hld
                  generalize w6.drewN nd = W7 at hls6 LW6 hl6 ⊢
                  go_upto_region 44 with (fail)
                  go_cut [221] from 215 to 221 (fun p wx => p = .bool false ∧ ∃ S7 M7, LS w wx hb S7 ⟨65536, 65536, C2, N, M7⟩ (.slice Va Ad.length ca) Ad ∧ (keep = true → M7 = []) ∧ LF (fun q => NB ≤ q ∧ q < NE) wx ⟨4, ⟨#[]⟩, 0, Ws⟩ Aw cw ∧ (∀ q, S7 q → ¬ (NB ≤ q ∧ q < NE)) ∧ NE ≤ wx.heap.size)
                  case first =>
                    cases keep with
                    | false =>
                      go_wp2
                      go_meet
                      case rel => exact ⟨rfl, S6, _, hls6, (fun h => by cases h), LW6, hST6, hl6⟩
                    | true =>
                      have hkeep := Keep_any W7 hb S6 _ 1 hls6.hp (by decide) (by simp)
                      go_wp2_with fail
                      refine hkeep.mono ?_
                      rintro e w8 ⟨rfl, S8, hp8, hf8, hS8⟩
                      go_wp2
                      go_meet
                      case rel => exact ⟨rfl, S8, _, hls6.back hp8 hf8 hS8 hiC hadC rfl rfl, (fun _ => rfl), LW6.fs hf8 hST6, (fun q hq => by
                        rcases hS8 q hq with h | h
                        · exact hST6 q h
                        · omega), Nat.le_trans hl6 hf8.size⟩
                  case rest =>
                  obtain ⟨rfl, S7, M7, hls7, hM7, LW7, hST7, hl7⟩ := hcut
                  clear hls6 LW6 hST6 hl6
                  go_wp2
                  go_loopw [0xe0] (fun i wx => ∃ k : Nat, k ≤ Ad.length ∧ i = .int .i64 k ∧ LS w wx hb S7 ⟨65536, 65536, C2, N, M7⟩ (.slice Va Ad.length ca) Ad ∧ LF (fun q => NB ≤ q ∧ q < NE) wx ⟨4, ⟨#[]⟩, 0, Ws⟩ Aw cw)
                    (fun i _ => Ad.length - (intOf i).toNat)
                  case atStart => exact ⟨0, Nat.zero_le _, rfl, hls7, LW7⟩
                  case round =>
                    clear hls7 LW7
                    obtain ⟨k, hk, rfl, hls, LW⟩ := hrel
                    by_cases hlt : k < Ad.length
                    · obtain ⟨ga, rfl, hcell⟩ := hls.addr hlt
                      have hkw : k < Ws.length := by omega
                      obtain ⟨hrt, hokt⟩ := htk _ _ _ (List.getElem?_eq_getElem hlt) (List.getElem?_eq_getElem hkw)
                      have hwft := hrt.wf (by omega)
                      have htake := take_ok wr hb S7 _ _ _ hls.hp hrt hokt
                      obtain ⟨ad, A3, c3, rfl, _⟩ := LW.rd k hkw
                      have hrd := fun (W : World) (hW : Below wr.heap.size wr W) => (LW.below hW).rd k hkw
                      generalize Ad[k] = a at hcell hrt htake
                      generalize Ws[k] = t at hrt hokt hwft htake hrd
                      go_wp2_with fail
                      refine htake.mono ?_
                      rintro e w8 ⟨v8, rfl, hR8, hb8⟩
                      obtain ⟨A8, c8, rfl⟩ := Kd.R_slice hR8
                      go_upto_region 50 with (fail)
                      have kb := blk_new w8 (.cells #[.int .i64 t.f0, .string t.f1, .int .i64 t.f2, .slice A8 t.f3.length c8] 28)
                      have hl8 := hb8.size
                      have hBx : Below wr.heap.size wr (w8.alloc (.cells #[.int .i64 t.f0, .string t.f1, .int .i64 t.f2, .slice A8 t.f3.length c8] 28)).drew := (below_alloc hb8 _).drew
                      replace kb := blk_below kb (Below.drew (Below.refl _ _))
                      obtain ⟨_, _, hA8, L8⟩ := LF.of_R (t := t) hR8 hwft
                      simp only [Value.slice.injEq, true_and] at hA8
                      obtain ⟨rfl, rfl⟩ := hA8
                      replace L8 := (L8.below (below_alloc (Below.refl _ _) (.cells #[.int .i64 t.f0, .string t.f1, .int .i64 t.f2, .slice A8 t.f3.length c8] 28))).below (Below.drew (Below.refl _ _))
                      refine wp_region_still_tail 0x8 (by kernel_rfl) (by kernel_rfl) ?_
                      change wpStill _ _ (w8.alloc (.cells #[.int .i64 t.f0, .string t.f1, .int .i64 t.f2, .slice A8 t.f3.length c8] 28)).drew (fun a' => wpList _ _ _ _ a' (w8.alloc (.cells #[.int .i64 t.f0, .string t.f1, .int .i64 t.f2, .slice A8 t.f3.length c8] 28)).drew) _ _
                      generalize (w8.alloc (.cells #[.int .i64 t.f0, .string t.f1, .int .i64 t.f2, .slice A8 t.f3.length c8] 28)).drew = W at kb hBx L8 ⊢
                      obtain ⟨ad', A9, c9, ea, y0, y1, y2, y3, l9, g9⟩ := hrd W hBx
                      obtain rfl := Option.some.inj ea
                      have t0 : W.cell? ⟨w8.heap.size, 0, none⟩ = some (.int .i64 t.f0) := blk_cell kb 0
                      have t1 : W.cell? ⟨w8.heap.size, 1, none⟩ = some (.string t.f1) := blk_cell kb 1
                      have t2 : W.cell? ⟨w8.heap.size, 2, none⟩ = some (.int .i64 t.f2) := blk_cell kb 2
                      have t3 : W.cell? ⟨w8.heap.size, 3, none⟩ = some (.slice A8 t.f3.length c8) := blk_cell kb 3
                      have hki : (k : Int) < (Ad.length : Int) := by omega
                      have hsame := rsame_at L8.lies ⟨Kd.F_now g9, l9, hwft⟩ (Below.refl W.heap.size W) ((okT_iff t).1 hokt).1 ((okT_iff t).1 hokt).1
                      rw [ordT_refl] at hsame
                      have hls9 := hls.below hBx
                      have LW9 := LW.below hBx
                      clear htake hrd hls LW hrt htk hR8 hb8 hBx L8 g9 kb
                      simp only [List.take_succ_cons, List.take_zero, List.drop_succ_cons, List.drop_zero]
                      repeat still_step
                      refine wpStill_nil ?_
                      go_wp2_with fail
                      refine hsame.mono ?_
                      rintro e w9 ⟨rfl, hb9⟩
                      clear hsame t0 t1 t2 t3 y0 y1 y2 y3
                      go_wp2
                      go_roundw
                      case rel => exact ⟨k + 1, by omega, by go_num, hls9.below hb9, LW9.below hb9⟩
                      case measure => simp [intOf]; omega
                    · obtain rfl : k = Ad.length := by omega
                      clear hlt hk
                      cases keep with
                      | false =>
                        go_wp2
                        go_ret
                        exact ⟨rfl, hls.bel⟩
                      | true =>
                        obtain rfl := hM7 rfl
                        have hbad := Undo_bad wr hb S7 _ 1 hls.hp (by decide) (by simp) (by decide)
                        go_wp2_with fail
                        refine hbad.mono ?_
                        rintro e w9 ⟨rfl, rfl⟩
                        clear hbad
                        go_wp2
                        go_ret
                        exact ⟨rfl, hls.bel⟩

end Go.Proofs.Ytjhhacighfpdbaa
