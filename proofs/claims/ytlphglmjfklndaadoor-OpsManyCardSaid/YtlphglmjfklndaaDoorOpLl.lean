/- OpsLast walked. -/
import Derived.Test.YtlphglmjfklndaaDoorOpLa
namespace Go.Proofs.YtlphglmjfklndaaDoor
set_option linter.unusedVariables false
open Go.RowKit Go.Shelf Go.Maps Go.Proofs.YtlphglmjfklndaaDoorW.PrintWords Go.Proofs.YtlphglmjfklndaaDoorW.PrintLast Go.Proofs.YtlphglmjfklndaaDoorW.PrintMore Go.Proofs.YtlphglmjfklndaaDoor.POpsApart Go.Extern
attribute [local go_sem high] eqA27

theorem prefix_at (w0 W : World) (ts : List (Nat × Nat × List S27)) (h : Tabs w0 W ts) (p m : Nat) (L : List S27) (hx : (p, m, L) ∈ ts) (nm : ByteArray) (hn : nm.size ≤ maxLen) (q : S27) (b : Bool) (hq : optO (getO (kc nm false) L) = q) (hb : (getO (kc nm false) L).isSome = b) :
    Calls Tryd.prog 15 #[.pointer (some ⟨p, 0, none⟩), .string nm] W fun e w' => e = .returned (.tuple #[.agg #[.string q.f0, .int .i64 q.f1, .int .i64 q.f2], .bool b]) ∧ Tabs w0 w' ts ∧ Below W.heap.size W w' := by
  subst hq hb
  exact (Prefix_any W p m L nm (h.tab _ hx) hn).mono fun e w' ⟨he, hb⟩ => ⟨he, h.mono hb, hb⟩
theorem after_tab (w0 W : World) (ts : List (Nat × Nat × List S27)) (h : Tabs w0 W ts) (p m : Nat) (L : List S27) (hx : (p, m, L) ∈ ts) (nm : ByteArray) (hn : nm.size ≤ maxLen) (q : S27) (b : Bool) (hq : optO (getO (kc nm true) L) = q) (hb : (getO (kc nm true) L).isSome = b) :
    Calls Tryd.prog 16 #[.pointer (some ⟨p, 0, none⟩), .string nm] W fun e w' => e = .returned (.tuple #[.agg #[.string q.f0, .int .i64 q.f1, .int .i64 q.f2], .bool b]) ∧ Tabs w0 w' ts ∧ Below W.heap.size W w' := by
  subst hq hb
  exact (After_any W p m L nm (h.tab _ hx) hn).mono fun e w' ⟨he, hb⟩ => ⟨he, h.mono hb, hb⟩
theorem pref_f (ty : Int) : pythiaref09_Prefix.f ty = some (!aftT ty) := by
  unfold pythiaref09_Prefix.f aftT
  by_cases h : ty = 4
  · subst h; rfl
  · rw [if_neg h]
    have : (ty == 4) = false := by simpa using h
    rw [this]
    simp
theorem pref_at (ty : Int) (b : Bool) (hb : aftT ty = b) (w : World) : Calls Tryd.prog 17 #[.int .i64 ty] w fun e w' => e = .returned (.bool (!b)) ∧ Below w.heap.size w w' := by
  subst hb
  exact (pythiaref09_Prefix.calls ty _ w (pref_f ty)).mono fun e w' ⟨he, nd, hw⟩ => ⟨he, by rw [hw]; exact pw_below_drewN (Below.refl _ _) nd⟩

theorem get_after (o : S27) (L : List S27) (b : Bool) (hk : aftT o.f1 = b) (sz : o.f0.size ≤ maxLen) :
    getO (kc o.f0 b) (o :: remO (keyO o) L) = some o ∧ getO (kc o.f0 (!b)) (o :: remO (keyO o) L) = getO (kc o.f0 (!b)) L ∧ getO (kc o.f0 b) (remO (keyO o) L) = none ∧ getO (kc o.f0 (!b)) (remO (keyO o) L) = getO (kc o.f0 (!b)) L := by
  have e : keyO o = kc o.f0 b := by unfold keyO; rw [hk]
  have hne : kc o.f0 (!b) ≠ kc o.f0 b := fun h => by have := (kc_inj sz sz h).2; cases b <;> cases this
  have h4 : getO (kc o.f0 (!b)) (remO (keyO o) L) = getO (kc o.f0 (!b)) L := getO_rem_other (by rw [e]; exact hne) L
  refine ⟨by rw [getO_cons, if_pos e], ?_, by rw [← e]; exact getO_rem_same _ _, h4⟩
  rw [getO_cons, if_neg (by rw [e]; exact hne.symm), h4]
theorem addT_zero (o : S27) (L : List S27) (hok : okO o) (M : List S27) (hM : M = o :: remO (keyO o) L ∨ M = remO (keyO o) L) : addT ⟨o.f0, o.f1, 0⟩ M = (0, remO (keyO o) L) := by
  obtain ⟨h1, h2, h3⟩ := hok
  have ek : keyO ⟨o.f0, o.f1, 0⟩ = keyO o := rfl
  unfold addT
  rw [ek, if_neg (by show ¬ (o.f1 < 1 ∨ 7 < o.f1 ∨ (0 : Int) < 0 ∨ 1200 < (0 : Int)); omega), if_neg h2, if_neg (by rw [h3]; decide)]
  rcases hM with rfl | rfl
  · rw [getO_cons, if_pos rfl]
    simp only [ne_eq, not_true_eq_false, if_false, if_true]
    rw [remO_put]
  · rw [getO_rem_same]
    simp only [if_true]
    rw [remO_rem]

theorem Tabs.setBox {w0 W : World} {ts : List (Nat × Nat × List S27)} (h : Tabs w0 W ts) {b : Nat} (hb : w0.heap.size ≤ b) (hne : ∀ x ∈ ts, x.1 ≠ b ∧ x.2.1 ≠ b) (i : Nat) (v : Value) : Tabs w0 (W.setCell ⟨b, i, none⟩ v) ts :=
  ⟨fun x hx => (h.tab x hx).step (Below.heap_setCell W ⟨b, i, none⟩ v _ (hne x hx).1) (Below.heap_setCell W ⟨b, i, none⟩ v _ (hne x hx).2), h.low, h.hasC, h.ne, h.below.setCell (p := ⟨b, i, none⟩) hb v⟩
theorem Tabs.drewN {w0 W : World} {ts : List (Nat × Nat × List S27)} (h : Tabs w0 W ts) (n : Nat) : Tabs w0 (W.drewN n) ts := h.mono (pw_below_drewN (Below.refl _ _) n)
theorem pref_dr (ty : Int) (b : Bool) (hb : (!aftT ty) = b) (w : World) : Calls Tryd.prog 17 #[.int .i64 ty] w fun e w' => e = .returned (.bool b) ∧ ∃ nd, w' = w.drewN nd := by
  subst hb
  exact (pythiaref09_Prefix.calls ty _ w (pref_f ty)).mono fun e w' ⟨he, nd, hw⟩ => ⟨he, nd, hw⟩

set_option maxHeartbeats 8000000 in
set_option maxRecDepth 100000 in
theorem last_law (w : World) (A : Option Addr) (na ca : Nat) (xa : List S27) (hA : OpsAt w A na xa) (o : S27) (hO : OpW o) :
    Calls Tryd.prog 5 #[.slice A na ca, .agg #[.string o.f0, .int .i64 o.f1, .int .i64 o.f2]] w fun e w' => e = .returned (.bool true) ∧ Below w.heap.size w w' := by
  have la := hA.le
  obtain rfl := hA.leq
  obtain ⟨hos, _, _⟩ := hO
  have hT0 := (Tabs.nil w).alloc (.cells #[.string o.f0, .int .i64 o.f1, .int .i64 o.f2] 27)
  have kO := blk_new w (.cells #[.string o.f0, .int .i64 o.f1, .int .i64 o.f2] 27)
  have hN := new_at w _ [] hT0
  rw [World.size_alloc] at hN
  obtain ⟨bo, hbo⟩ : ∃ b, b = w.heap.size := ⟨_, rfl⟩
  go_enter Tryd.func5, Tryd.ntmps5
  go_wp2_with fail
  refine hN.mono ?_
  rintro e w1 ⟨rfl, hT1, hb1⟩
  rw [← hbo] at kO hT1 ⊢
  have lo := blk_lt kO
  rw [World.size_alloc, ← hbo] at lo
  have k1 := blk_below kO (hb1.mono (by simp))
  obtain ⟨mt, hmt⟩ : ∃ mt, mt = bo + 1 := ⟨_, rfl⟩
  rw [← hmt] at hT1 ⊢
  have hne : bo ≠ mt := by omega
  have HBO := Lib.hid (And.intro hbo hmt)
  clear hN hb1 hT0 kO hbo hmt lo
  have hA2 := alive_any w1
  go_wp2_with fail
  refine hA2.mono ?_
  rintro e w3 ⟨rfl, hb3⟩
  have hT3 := hT1.mono hb3
  have k3 := blk_below k1 hb3
  clear hA2 hb3 hT1 k1
  go_wp2
  go_loopw [31] (fun i wr => ∃ k : Nat, k ≤ xa.length ∧ i = .int .i64 k ∧ Tabs w wr [(mt + 1, mt, addL L0 (xa.take k))] ∧ wr.heap[bo]? = some (.cells #[.string o.f0, .int .i64 o.f1, .int .i64 o.f2] 27 (0, 0))) (fun i _ => xa.length - (intOf i).toNat)
  case atStart => exact ⟨0, Nat.zero_le _, rfl, hT3, k3⟩
  case round =>
    clear hT3 k3
    obtain ⟨k, hk, rfl, hT, kB⟩ := hrel
    by_cases hlt : k < xa.length
    · obtain ⟨ad, o', ho, ⟨hos', _, _⟩, e, x0, x1, x2⟩ := op_read hA hT.below (k := k) hlt
      cases e
      have hs := addL_snoc L0 xa k hlt
      rw [← ho] at hs
      have HS := Lib.hid hs
      clear ho hs hA
      have hF := add_at w _ [] [] (mt + 1) mt _ (hT.alloc (.cells #[.string o'.f0, .int .i64 o'.f1, .int .i64 o'.f2] 27)) o' hos'
      rw [← HS.out] at hF
      have kO := blk_new wr (.cells #[.string o'.f0, .int .i64 o'.f1, .int .i64 o'.f2] 27)
      have kB2 := blk_alloc kB (.cells #[.string o'.f0, .int .i64 o'.f1, .int .i64 o'.f2] 27)
      have o0 := blk_cell kO 0
      have o1 := blk_cell kO 1
      have o2 := blk_cell kO 2
      clear kO hT
      have HK := Lib.hid hlt
      go_wp2_with fail
      refine hF.mono ?_
      rintro e w6 ⟨rfl, hT6, hg6⟩
      have kB6 := (hg6.block _ (blk_lt kB2) (fun e => hne (Option.some.inj e))).trans kB2
      clear hF o0 o1 o2 x0 x1 x2 hg6 kB kB2
      go_wp2
      go_roundw
      case rel => exact ⟨k + 1, HK.out, by simp, hT6, kB6⟩
      case measure => have := HK.out; simp [intOf]; omega
    · obtain rfl : k = xa.length := by omega
      rw [List.take_length] at hT
      clear hlt hk hA
      obtain ⟨M, hM⟩ : ∃ M, M = addL L0 xa := ⟨_, rfl⟩
      rw [← hM] at hT
      clear hM
      have hMl := (hT.tab _ List.mem_cons_self).len
      simp only at hMl
      have hTab := (hT.tab _ List.mem_cons_self).tab
      simp only at hTab
      have HML := Lib.hid hMl
      have HTB := Lib.hid hTab
      clear hMl hTab
      obtain ⟨pre, hpre⟩ : ∃ q, optO (getO (kc o.f0 false) M) = q := ⟨_, rfl⟩
      obtain ⟨was, hwas⟩ : ∃ b, (getO (kc o.f0 false) M).isSome = b := ⟨_, rfl⟩
      obtain ⟨aft, haft⟩ : ∃ q, optO (getO (kc o.f0 true) M) = q := ⟨_, rfl⟩
      obtain ⟨had, hhad⟩ : ∃ b, (getO (kc o.f0 true) M).isSome = b := ⟨_, rfl⟩
      have HP := Lib.hid (And.intro hpre (And.intro hwas (And.intro haft hhad)))
      clear hpre hwas haft hhad
      have hAll := all_at w wr _ hT (mt + 1) mt M (by simp)
      go_wp2_with fail
      refine hAll.mono ?_
      rintro e w5 ⟨A_, cap_, ys_, rfl, _, _, _, _, _, hw5, hb⟩
      clear hAll hT
      replace kB := blk_below kB hb
      clear hb
      have o0 := blk_cell kB 0
      have hLk := prefix_at w w5 _ hw5 (mt + 1) mt M (by simp) o.f0 hos pre was HP.out.1 HP.out.2.1
      go_wp2_with fail
      refine hLk.mono ?_
      rintro e w6 ⟨rfl, hw6, hb⟩
      clear hLk o0 hw5
      replace kB := blk_below kB hb
      clear hb
      have mP6 := (hw6.tab _ List.mem_cons_self).mlt
      simp only at mP6
      have nP6 : w6.heap.size ≠ mt := by omega
      clear mP6
      replace kB := blk_alloc kB (.cells #[.string pre.f0, .int .i64 pre.f1, .int .i64 pre.f2] 27)
      have kP := blk_new w6 (.cells #[.string pre.f0, .int .i64 pre.f1, .int .i64 pre.f2] 27)
      replace hw6 := hw6.alloc (.cells #[.string pre.f0, .int .i64 pre.f1, .int .i64 pre.f2] 27)
      have o0 := blk_cell kB 0
      have hLk := after_tab w _ _ hw6 (mt + 1) mt M (by simp) o.f0 hos aft had HP.out.2.2.1 HP.out.2.2.2
      go_wp2_with fail
      refine hLk.mono ?_
      rintro e w7 ⟨rfl, hw7, hb⟩
      clear hLk o0 hw6
      replace kB := blk_below kB hb
      replace kP := blk_below kP hb
      clear hb
      have mA7 := (hw7.tab _ List.mem_cons_self).mlt
      simp only at mA7
      have nA7 : w7.heap.size ≠ mt := by omega
      clear mA7
      replace kB := blk_alloc kB (.cells #[.string aft.f0, .int .i64 aft.f1, .int .i64 aft.f2] 27)
      replace kP := blk_alloc kP (.cells #[.string aft.f0, .int .i64 aft.f1, .int .i64 aft.f2] 27)
      have kA := blk_new w7 (.cells #[.string aft.f0, .int .i64 aft.f1, .int .i64 aft.f2] 27)
      replace hw7 := hw7.alloc (.cells #[.string aft.f0, .int .i64 aft.f1, .int .i64 aft.f2] 27)
      rcases addT_cases o M with ⟨e2, hc⟩ | ⟨e, hz, hok⟩ | ⟨e, hz, hok⟩
      · obtain ⟨c, hcd⟩ : ∃ c, c = (addT o M).1 := ⟨_, rfl⟩
        have eA : addT o M = (c, M) := Prod.ext hcd.symm e2
        have hcn : (c != 0) = true := by rw [hcd]; simpa using hc
        have HE := Lib.hid eA
        clear e2 hc hcd eA
        have kB_0 := blk_cell kB 0
        have kB_1 := blk_cell kB 1
        have kB_2 := blk_cell kB 2
        have hF := add_at w _ [] [] (mt + 1) mt M hw7 o hos
        rw [HE.out] at hF
        go_wp2_with fail
        refine hF.mono ?_
        rintro e w8 ⟨rfl, hw8, hg⟩
        replace hw8 : Tabs w w8 [(mt + 1, mt, M)] := hw8
        clear hF hw7
        replace kB := (hg.block _ (blk_lt kB) (fun e => hne (Option.some.inj e))).trans kB
        replace kP := (hg.block _ (blk_lt kP) (fun e => nP6 (Option.some.inj e))).trans kP
        replace kA := (hg.block _ (blk_lt kA) (fun e => nA7 (Option.some.inj e))).trans kA
        clear hg
        clear kB_0 kB_1 kB_2
        have o0 := blk_cell kB 0
        have hLk := prefix_at w w8 _ hw8 (mt + 1) mt M (by simp) o.f0 hos pre was HP.out.1 HP.out.2.1
        go_wp2_with fail
        refine hLk.mono ?_
        rintro e w9 ⟨rfl, hw9, hb⟩
        clear hLk o0 hw8
        replace kB := blk_below kB hb
        replace kP := blk_below kP hb
        replace kA := blk_below kA hb
        clear hb
        have mP9 := (hw9.tab _ List.mem_cons_self).mlt
        simp only at mP9
        have nP9 : w9.heap.size ≠ mt := by omega
        clear mP9
        replace kB := blk_alloc kB (.cells #[.string pre.f0, .int .i64 pre.f1, .int .i64 pre.f2] 27)
        replace kP := blk_alloc kP (.cells #[.string pre.f0, .int .i64 pre.f1, .int .i64 pre.f2] 27)
        replace kA := blk_alloc kA (.cells #[.string pre.f0, .int .i64 pre.f1, .int .i64 pre.f2] 27)
        have kQ := blk_new w9 (.cells #[.string pre.f0, .int .i64 pre.f1, .int .i64 pre.f2] 27)
        replace hw9 := hw9.alloc (.cells #[.string pre.f0, .int .i64 pre.f1, .int .i64 pre.f2] 27)
        have o0 := blk_cell kB 0
        have hLk := after_tab w _ _ hw9 (mt + 1) mt M (by simp) o.f0 hos aft had HP.out.2.2.1 HP.out.2.2.2
        go_wp2_with fail
        refine hLk.mono ?_
        rintro e w10 ⟨rfl, hw10, hb⟩
        clear hLk o0 hw9
        replace kB := blk_below kB hb
        replace kP := blk_below kP hb
        replace kA := blk_below kA hb
        replace kQ := blk_below kQ hb
        clear hb
        have mA10 := (hw10.tab _ List.mem_cons_self).mlt
        simp only at mA10
        have nA10 : w10.heap.size ≠ mt := by omega
        clear mA10
        replace kB := blk_alloc kB (.cells #[.string aft.f0, .int .i64 aft.f1, .int .i64 aft.f2] 27)
        replace kP := blk_alloc kP (.cells #[.string aft.f0, .int .i64 aft.f1, .int .i64 aft.f2] 27)
        replace kA := blk_alloc kA (.cells #[.string aft.f0, .int .i64 aft.f1, .int .i64 aft.f2] 27)
        replace kQ := blk_alloc kQ (.cells #[.string aft.f0, .int .i64 aft.f1, .int .i64 aft.f2] 27)
        have kC := blk_new w10 (.cells #[.string aft.f0, .int .i64 aft.f1, .int .i64 aft.f2] 27)
        replace hw10 := hw10.alloc (.cells #[.string aft.f0, .int .i64 aft.f1, .int .i64 aft.f2] 27)
        have kP_0 := blk_cell kP 0
        have kP_1 := blk_cell kP 1
        have kP_2 := blk_cell kP 2
        have kA_0 := blk_cell kA 0
        have kA_1 := blk_cell kA 1
        have kA_2 := blk_cell kA 2
        have kQ_0 := blk_cell kQ 0
        have kQ_1 := blk_cell kQ 1
        have kQ_2 := blk_cell kQ 2
        have kC_0 := blk_cell kC 0
        have kC_1 := blk_cell kC 1
        have kC_2 := blk_cell kC 2
        have hAll := all_at w _ _ hw10 (mt + 1) mt M (by simp)
        go_wp2_with fail
        refine hAll.mono ?_
        rintro e w11 ⟨A_, cap_, ys_, rfl, _, _, _, _, _, hw11, hb⟩
        clear hAll hw10
        replace kB := blk_below kB hb
        replace kP := blk_below kP hb
        replace kA := blk_below kA hb
        replace kQ := blk_below kQ hb
        replace kC := blk_below kC hb
        clear hb
        go_wp2
        go_ret
        exact ⟨rfl, hw11.below⟩
      · cases hb : aftT o.f1
        · have G := get_after o M false hb hos
          simp only [Bool.not_false] at G
          have HG := Lib.hid G
          have hM0 := addT_zero o M hok (o :: remO (keyO o) M) (.inl rfl)
          have HM0 := Lib.hid hM0
          have HE := Lib.hid e
          have hpos : decide (0 < o.f2) = true := decide_eq_true (by have := hok.1; omega)
          have hpf : ∀ W, _ := pref_dr o.f1 true (by rw [hb]; rfl)
          have HOK := Lib.hid hok
          have HBB := Lib.hid hb
          clear G hM0 e hz hok hb
          have kB_0 := blk_cell kB 0
          have kB_1 := blk_cell kB 1
          have kB_2 := blk_cell kB 2
          have hF := add_at w _ [] [] (mt + 1) mt M hw7 o hos
          rw [HE.out] at hF
          go_wp2_with fail
          refine hF.mono ?_
          rintro e w8 ⟨rfl, hw8, hg⟩
          replace hw8 : Tabs w w8 [(mt + 1, mt, (o :: remO (keyO o) M))] := hw8
          clear hF hw7
          replace kB := (hg.block _ (blk_lt kB) (fun e => hne (Option.some.inj e))).trans kB
          replace kP := (hg.block _ (blk_lt kP) (fun e => nP6 (Option.some.inj e))).trans kP
          replace kA := (hg.block _ (blk_lt kA) (fun e => nA7 (Option.some.inj e))).trans kA
          clear hg
          clear kB_0 kB_1 kB_2
          have o0 := blk_cell kB 0
          have hLk := prefix_at w w8 _ hw8 (mt + 1) mt (o :: remO (keyO o) M) (by simp) o.f0 hos o true (by rw [HG.out.1]; rfl) (by rw [HG.out.1]; rfl)
          go_wp2_with fail
          refine hLk.mono ?_
          rintro e w9 ⟨rfl, hw9, hb⟩
          clear hLk o0 hw8
          replace kB := blk_below kB hb
          replace kP := blk_below kP hb
          replace kA := blk_below kA hb
          clear hb
          have mP9 := (hw9.tab _ List.mem_cons_self).mlt
          simp only at mP9
          have nP9 : w9.heap.size ≠ mt := by omega
          clear mP9
          replace kB := blk_alloc kB (.cells #[.string o.f0, .int .i64 o.f1, .int .i64 o.f2] 27)
          replace kP := blk_alloc kP (.cells #[.string o.f0, .int .i64 o.f1, .int .i64 o.f2] 27)
          replace kA := blk_alloc kA (.cells #[.string o.f0, .int .i64 o.f1, .int .i64 o.f2] 27)
          have kQ := blk_new w9 (.cells #[.string o.f0, .int .i64 o.f1, .int .i64 o.f2] 27)
          replace hw9 := hw9.alloc (.cells #[.string o.f0, .int .i64 o.f1, .int .i64 o.f2] 27)
          have o0 := blk_cell kB 0
          have hLk := after_tab w _ _ hw9 (mt + 1) mt (o :: remO (keyO o) M) (by simp) o.f0 hos aft had (by rw [HG.out.2.1]; exact HP.out.2.2.1) (by rw [HG.out.2.1]; exact HP.out.2.2.2)
          go_wp2_with fail
          refine hLk.mono ?_
          rintro e w10 ⟨rfl, hw10, hb⟩
          clear hLk o0 hw9
          replace kB := blk_below kB hb
          replace kP := blk_below kP hb
          replace kA := blk_below kA hb
          replace kQ := blk_below kQ hb
          clear hb
          have mA10 := (hw10.tab _ List.mem_cons_self).mlt
          simp only at mA10
          have nA10 : w10.heap.size ≠ mt := by omega
          clear mA10
          replace kB := blk_alloc kB (.cells #[.string aft.f0, .int .i64 aft.f1, .int .i64 aft.f2] 27)
          replace kP := blk_alloc kP (.cells #[.string aft.f0, .int .i64 aft.f1, .int .i64 aft.f2] 27)
          replace kA := blk_alloc kA (.cells #[.string aft.f0, .int .i64 aft.f1, .int .i64 aft.f2] 27)
          replace kQ := blk_alloc kQ (.cells #[.string aft.f0, .int .i64 aft.f1, .int .i64 aft.f2] 27)
          have kC := blk_new w10 (.cells #[.string aft.f0, .int .i64 aft.f1, .int .i64 aft.f2] 27)
          replace hw10 := hw10.alloc (.cells #[.string aft.f0, .int .i64 aft.f1, .int .i64 aft.f2] 27)
          have kB_0 := blk_cell kB 0
          have kB_1 := blk_cell kB 1
          have kB_2 := blk_cell kB 2
          have kP_0 := blk_cell kP 0
          have kP_1 := blk_cell kP 1
          have kP_2 := blk_cell kP 2
          have kA_0 := blk_cell kA 0
          have kA_1 := blk_cell kA 1
          have kA_2 := blk_cell kA 2
          have kQ_0 := blk_cell kQ 0
          have kQ_1 := blk_cell kQ 1
          have kQ_2 := blk_cell kQ 2
          have kC_0 := blk_cell kC 0
          have kC_1 := blk_cell kC 1
          have kC_2 := blk_cell kC 2
          have f2 := blk_frozen kB 2
          have hcase : (getO (keyO o) M).isSome = was := by unfold keyO; rw [HBB.out]; exact HP.out.2.1
          have HCS := Lib.hid hcase
          clear hcase
          go_wp2_with (go_at_call 17; refine (hpf _).mono ?_; rintro e w20 ⟨rfl, nd, rfl⟩)
          clear kB_0 kB_1 kB_2 kP_0 kP_1 kP_2 kA_0 kA_1 kA_2 kQ_0 kQ_1 kQ_2 kC_0 kC_1 kC_2
          have kBs := blk_set (blk_below kB (pw_below_drewN (Below.refl _ _) nd)) 2 (.int .i64 0)
          have hF := add_at w _ [] [] (mt + 1) mt (o :: remO (keyO o) M) ((hw10.drewN nd).setBox (b := bo) (by rw [HBO.out.1]; exact Nat.le_refl _) (fun x hx => by rw [List.mem_singleton.1 hx]; have := HBO.out.2; constructor <;> simp only <;> omega) 2 (.int .i64 0)) ⟨o.f0, o.f1, 0⟩ hos
          rw [HM0.out] at hF
          refine hF.mono ?_
          rintro e w21 ⟨rfl, hT21, hg⟩
          have k21 := (hg.block _ (blk_lt kBs) (fun e => hne (Option.some.inj e))).trans kBs
          have f1 : w21.cell? ⟨bo, 1, none⟩ = some (.int .i64 o.f1) := blk_cell k21 1
          clear hF hg kBs k21 f2 kB kP kA kQ kC hw10
          cases was with
          | true =>
            go_wp2_with (go_at_call 17; refine (hpf _).mono ?_; rintro e w20 ⟨rfl, nd2, rfl⟩)
            refine (all_at w _ [(mt + 1, mt, remO (keyO o) M)] (by repeat (first | exact hT21 | apply Tabs.drewN)) (mt + 1) mt (remO (keyO o) M) (by simp)).mono ?_
            rintro e w22 ⟨A_, cap_, ys_, rfl, _, _, _, _, _, hT22, _⟩
            have hw : wrap64 ((M.length : Int) - 1) = ((remO (keyO o) M).length : Int) := by
              obtain ⟨q, hq⟩ := Option.isSome_iff_exists.1 HCS.out
              have := len_rem HTB.out hq
              have := HML.out
              unfold wrap64
              omega
            go_wp2
            go_ret
            exact ⟨rfl, hT22.below⟩
          | false =>
            go_wp2_with (go_at_call 17; refine (hpf _).mono ?_; rintro e w20 ⟨rfl, nd2, rfl⟩)
            refine (all_at w _ [(mt + 1, mt, remO (keyO o) M)] (by repeat (first | exact hT21 | apply Tabs.drewN)) (mt + 1) mt (remO (keyO o) M) (by simp)).mono ?_
            rintro e w22 ⟨A_, cap_, ys_, rfl, _, _, _, _, _, hT22, _⟩
            rw [rem_none (show getO (keyO o) M = none by cases h : getO (keyO o) M with | none => rfl | some q => have := HCS.out; rw [h] at this; cases this)]
            go_wp2
            go_ret
            exact ⟨rfl, hT22.below⟩
        · have G := get_after o M true hb hos
          simp only [Bool.not_true] at G
          have HG := Lib.hid G
          have hM0 := addT_zero o M hok (o :: remO (keyO o) M) (.inl rfl)
          have HM0 := Lib.hid hM0
          have HE := Lib.hid e
          have hpos : decide (0 < o.f2) = true := decide_eq_true (by have := hok.1; omega)
          have hpf : ∀ W, _ := pref_dr o.f1 false (by rw [hb]; rfl)
          have HOK := Lib.hid hok
          have HBB := Lib.hid hb
          clear G hM0 e hz hok hb
          have kB_0 := blk_cell kB 0
          have kB_1 := blk_cell kB 1
          have kB_2 := blk_cell kB 2
          have hF := add_at w _ [] [] (mt + 1) mt M hw7 o hos
          rw [HE.out] at hF
          go_wp2_with fail
          refine hF.mono ?_
          rintro e w8 ⟨rfl, hw8, hg⟩
          replace hw8 : Tabs w w8 [(mt + 1, mt, (o :: remO (keyO o) M))] := hw8
          clear hF hw7
          replace kB := (hg.block _ (blk_lt kB) (fun e => hne (Option.some.inj e))).trans kB
          replace kP := (hg.block _ (blk_lt kP) (fun e => nP6 (Option.some.inj e))).trans kP
          replace kA := (hg.block _ (blk_lt kA) (fun e => nA7 (Option.some.inj e))).trans kA
          clear hg
          clear kB_0 kB_1 kB_2
          have o0 := blk_cell kB 0
          have hLk := prefix_at w w8 _ hw8 (mt + 1) mt (o :: remO (keyO o) M) (by simp) o.f0 hos pre was (by rw [HG.out.2.1]; exact HP.out.1) (by rw [HG.out.2.1]; exact HP.out.2.1)
          go_wp2_with fail
          refine hLk.mono ?_
          rintro e w9 ⟨rfl, hw9, hb⟩
          clear hLk o0 hw8
          replace kB := blk_below kB hb
          replace kP := blk_below kP hb
          replace kA := blk_below kA hb
          clear hb
          have mP9 := (hw9.tab _ List.mem_cons_self).mlt
          simp only at mP9
          have nP9 : w9.heap.size ≠ mt := by omega
          clear mP9
          replace kB := blk_alloc kB (.cells #[.string pre.f0, .int .i64 pre.f1, .int .i64 pre.f2] 27)
          replace kP := blk_alloc kP (.cells #[.string pre.f0, .int .i64 pre.f1, .int .i64 pre.f2] 27)
          replace kA := blk_alloc kA (.cells #[.string pre.f0, .int .i64 pre.f1, .int .i64 pre.f2] 27)
          have kQ := blk_new w9 (.cells #[.string pre.f0, .int .i64 pre.f1, .int .i64 pre.f2] 27)
          replace hw9 := hw9.alloc (.cells #[.string pre.f0, .int .i64 pre.f1, .int .i64 pre.f2] 27)
          have o0 := blk_cell kB 0
          have hLk := after_tab w _ _ hw9 (mt + 1) mt (o :: remO (keyO o) M) (by simp) o.f0 hos o true (by rw [HG.out.1]; rfl) (by rw [HG.out.1]; rfl)
          go_wp2_with fail
          refine hLk.mono ?_
          rintro e w10 ⟨rfl, hw10, hb⟩
          clear hLk o0 hw9
          replace kB := blk_below kB hb
          replace kP := blk_below kP hb
          replace kA := blk_below kA hb
          replace kQ := blk_below kQ hb
          clear hb
          have mA10 := (hw10.tab _ List.mem_cons_self).mlt
          simp only at mA10
          have nA10 : w10.heap.size ≠ mt := by omega
          clear mA10
          replace kB := blk_alloc kB (.cells #[.string o.f0, .int .i64 o.f1, .int .i64 o.f2] 27)
          replace kP := blk_alloc kP (.cells #[.string o.f0, .int .i64 o.f1, .int .i64 o.f2] 27)
          replace kA := blk_alloc kA (.cells #[.string o.f0, .int .i64 o.f1, .int .i64 o.f2] 27)
          replace kQ := blk_alloc kQ (.cells #[.string o.f0, .int .i64 o.f1, .int .i64 o.f2] 27)
          have kC := blk_new w10 (.cells #[.string o.f0, .int .i64 o.f1, .int .i64 o.f2] 27)
          replace hw10 := hw10.alloc (.cells #[.string o.f0, .int .i64 o.f1, .int .i64 o.f2] 27)
          have kB_0 := blk_cell kB 0
          have kB_1 := blk_cell kB 1
          have kB_2 := blk_cell kB 2
          have kP_0 := blk_cell kP 0
          have kP_1 := blk_cell kP 1
          have kP_2 := blk_cell kP 2
          have kA_0 := blk_cell kA 0
          have kA_1 := blk_cell kA 1
          have kA_2 := blk_cell kA 2
          have kQ_0 := blk_cell kQ 0
          have kQ_1 := blk_cell kQ 1
          have kQ_2 := blk_cell kQ 2
          have kC_0 := blk_cell kC 0
          have kC_1 := blk_cell kC 1
          have kC_2 := blk_cell kC 2
          have f2 := blk_frozen kB 2
          have hcase : (getO (keyO o) M).isSome = had := by unfold keyO; rw [HBB.out]; exact HP.out.2.2.2
          have HCS := Lib.hid hcase
          clear hcase
          go_wp2_with (go_at_call 17; refine (hpf _).mono ?_; rintro e w20 ⟨rfl, nd, rfl⟩)
          clear kB_0 kB_1 kB_2 kP_0 kP_1 kP_2 kA_0 kA_1 kA_2 kQ_0 kQ_1 kQ_2 kC_0 kC_1 kC_2
          have kBs := blk_set (blk_below kB (pw_below_drewN (Below.refl _ _) nd)) 2 (.int .i64 0)
          have hF := add_at w _ [] [] (mt + 1) mt (o :: remO (keyO o) M) ((hw10.drewN nd).setBox (b := bo) (by rw [HBO.out.1]; exact Nat.le_refl _) (fun x hx => by rw [List.mem_singleton.1 hx]; have := HBO.out.2; constructor <;> simp only <;> omega) 2 (.int .i64 0)) ⟨o.f0, o.f1, 0⟩ hos
          rw [HM0.out] at hF
          refine hF.mono ?_
          rintro e w21 ⟨rfl, hT21, hg⟩
          have k21 := (hg.block _ (blk_lt kBs) (fun e => hne (Option.some.inj e))).trans kBs
          have f1 : w21.cell? ⟨bo, 1, none⟩ = some (.int .i64 o.f1) := blk_cell k21 1
          clear hF hg kBs k21 f2 kB kP kA kQ kC hw10
          cases had with
          | true =>
            go_wp2_with (go_at_call 17; refine (hpf _).mono ?_; rintro e w20 ⟨rfl, nd2, rfl⟩)
            refine (all_at w _ [(mt + 1, mt, remO (keyO o) M)] (by repeat (first | exact hT21 | apply Tabs.drewN)) (mt + 1) mt (remO (keyO o) M) (by simp)).mono ?_
            rintro e w22 ⟨A_, cap_, ys_, rfl, _, _, _, _, _, hT22, _⟩
            have hw : wrap64 ((M.length : Int) - 1) = ((remO (keyO o) M).length : Int) := by
              obtain ⟨q, hq⟩ := Option.isSome_iff_exists.1 HCS.out
              have := len_rem HTB.out hq
              have := HML.out
              unfold wrap64
              omega
            go_wp2
            go_ret
            exact ⟨rfl, hT22.below⟩
          | false =>
            go_wp2_with (go_at_call 17; refine (hpf _).mono ?_; rintro e w20 ⟨rfl, nd2, rfl⟩)
            refine (all_at w _ [(mt + 1, mt, remO (keyO o) M)] (by repeat (first | exact hT21 | apply Tabs.drewN)) (mt + 1) mt (remO (keyO o) M) (by simp)).mono ?_
            rintro e w22 ⟨A_, cap_, ys_, rfl, _, _, _, _, _, hT22, _⟩
            rw [rem_none (show getO (keyO o) M = none by cases h : getO (keyO o) M with | none => rfl | some q => have := HCS.out; rw [h] at this; cases this)]
            go_wp2
            go_ret
            exact ⟨rfl, hT22.below⟩
      · cases hb : aftT o.f1
        · have G := get_after o M false hb hos
          simp only [Bool.not_false] at G
          have HG := Lib.hid G
          have hM0 := addT_zero o M hok (remO (keyO o) M) (.inr rfl)
          have HM0 := Lib.hid hM0
          have HE := Lib.hid e
          have hpos : decide (0 < o.f2) = false := decide_eq_false (by omega)
          have hpf : ∀ W, _ := pref_dr o.f1 true (by rw [hb]; rfl)
          have HOK := Lib.hid hok
          have HBB := Lib.hid hb
          clear G hM0 e hz hok hb
          have kB_0 := blk_cell kB 0
          have kB_1 := blk_cell kB 1
          have kB_2 := blk_cell kB 2
          have hF := add_at w _ [] [] (mt + 1) mt M hw7 o hos
          rw [HE.out] at hF
          go_wp2_with fail
          refine hF.mono ?_
          rintro e w8 ⟨rfl, hw8, hg⟩
          replace hw8 : Tabs w w8 [(mt + 1, mt, (remO (keyO o) M))] := hw8
          clear hF hw7
          replace kB := (hg.block _ (blk_lt kB) (fun e => hne (Option.some.inj e))).trans kB
          replace kP := (hg.block _ (blk_lt kP) (fun e => nP6 (Option.some.inj e))).trans kP
          replace kA := (hg.block _ (blk_lt kA) (fun e => nA7 (Option.some.inj e))).trans kA
          clear hg
          clear kB_0 kB_1 kB_2
          have o0 := blk_cell kB 0
          have hLk := prefix_at w w8 _ hw8 (mt + 1) mt (remO (keyO o) M) (by simp) o.f0 hos z27 false (by rw [HG.out.2.2.1]; rfl) (by rw [HG.out.2.2.1]; rfl)
          go_wp2_with fail
          refine hLk.mono ?_
          rintro e w9 ⟨rfl, hw9, hb⟩
          clear hLk o0 hw8
          replace kB := blk_below kB hb
          replace kP := blk_below kP hb
          replace kA := blk_below kA hb
          clear hb
          have mP9 := (hw9.tab _ List.mem_cons_self).mlt
          simp only at mP9
          have nP9 : w9.heap.size ≠ mt := by omega
          clear mP9
          replace kB := blk_alloc kB (.cells #[.string z27.f0, .int .i64 z27.f1, .int .i64 z27.f2] 27)
          replace kP := blk_alloc kP (.cells #[.string z27.f0, .int .i64 z27.f1, .int .i64 z27.f2] 27)
          replace kA := blk_alloc kA (.cells #[.string z27.f0, .int .i64 z27.f1, .int .i64 z27.f2] 27)
          have kQ := blk_new w9 (.cells #[.string z27.f0, .int .i64 z27.f1, .int .i64 z27.f2] 27)
          replace hw9 := hw9.alloc (.cells #[.string z27.f0, .int .i64 z27.f1, .int .i64 z27.f2] 27)
          have o0 := blk_cell kB 0
          have hLk := after_tab w _ _ hw9 (mt + 1) mt (remO (keyO o) M) (by simp) o.f0 hos aft had (by rw [HG.out.2.2.2]; exact HP.out.2.2.1) (by rw [HG.out.2.2.2]; exact HP.out.2.2.2)
          go_wp2_with fail
          refine hLk.mono ?_
          rintro e w10 ⟨rfl, hw10, hb⟩
          clear hLk o0 hw9
          replace kB := blk_below kB hb
          replace kP := blk_below kP hb
          replace kA := blk_below kA hb
          replace kQ := blk_below kQ hb
          clear hb
          have mA10 := (hw10.tab _ List.mem_cons_self).mlt
          simp only at mA10
          have nA10 : w10.heap.size ≠ mt := by omega
          clear mA10
          replace kB := blk_alloc kB (.cells #[.string aft.f0, .int .i64 aft.f1, .int .i64 aft.f2] 27)
          replace kP := blk_alloc kP (.cells #[.string aft.f0, .int .i64 aft.f1, .int .i64 aft.f2] 27)
          replace kA := blk_alloc kA (.cells #[.string aft.f0, .int .i64 aft.f1, .int .i64 aft.f2] 27)
          replace kQ := blk_alloc kQ (.cells #[.string aft.f0, .int .i64 aft.f1, .int .i64 aft.f2] 27)
          have kC := blk_new w10 (.cells #[.string aft.f0, .int .i64 aft.f1, .int .i64 aft.f2] 27)
          replace hw10 := hw10.alloc (.cells #[.string aft.f0, .int .i64 aft.f1, .int .i64 aft.f2] 27)
          have kB_0 := blk_cell kB 0
          have kB_1 := blk_cell kB 1
          have kB_2 := blk_cell kB 2
          have kP_0 := blk_cell kP 0
          have kP_1 := blk_cell kP 1
          have kP_2 := blk_cell kP 2
          have kA_0 := blk_cell kA 0
          have kA_1 := blk_cell kA 1
          have kA_2 := blk_cell kA 2
          have kQ_0 := blk_cell kQ 0
          have kQ_1 := blk_cell kQ 1
          have kQ_2 := blk_cell kQ 2
          have kC_0 := blk_cell kC 0
          have kC_1 := blk_cell kC 1
          have kC_2 := blk_cell kC 2
          have f2 := blk_frozen kB 2
          have hcase : (getO (keyO o) M).isSome = was := by unfold keyO; rw [HBB.out]; exact HP.out.2.1
          have HCS := Lib.hid hcase
          clear hcase
          go_wp2_with (go_at_call 17; refine (hpf _).mono ?_; rintro e w20 ⟨rfl, nd, rfl⟩)
          clear kB_0 kB_1 kB_2 kP_0 kP_1 kP_2 kA_0 kA_1 kA_2 kQ_0 kQ_1 kQ_2 kC_0 kC_1 kC_2
          have kBs := blk_set (blk_below kB (pw_below_drewN (Below.refl _ _) nd)) 2 (.int .i64 0)
          have hF := add_at w _ [] [] (mt + 1) mt (remO (keyO o) M) ((hw10.drewN nd).setBox (b := bo) (by rw [HBO.out.1]; exact Nat.le_refl _) (fun x hx => by rw [List.mem_singleton.1 hx]; have := HBO.out.2; constructor <;> simp only <;> omega) 2 (.int .i64 0)) ⟨o.f0, o.f1, 0⟩ hos
          rw [HM0.out] at hF
          refine hF.mono ?_
          rintro e w21 ⟨rfl, hT21, hg⟩
          have k21 := (hg.block _ (blk_lt kBs) (fun e => hne (Option.some.inj e))).trans kBs
          have f1 : w21.cell? ⟨bo, 1, none⟩ = some (.int .i64 o.f1) := blk_cell k21 1
          clear hF hg kBs k21 f2 kB kP kA kQ kC hw10
          cases was with
          | true =>
            go_wp2_with (go_at_call 17; refine (hpf _).mono ?_; rintro e w20 ⟨rfl, nd2, rfl⟩)
            refine (all_at w _ [(mt + 1, mt, remO (keyO o) M)] (by repeat (first | exact hT21 | apply Tabs.drewN)) (mt + 1) mt (remO (keyO o) M) (by simp)).mono ?_
            rintro e w22 ⟨A_, cap_, ys_, rfl, _, _, _, _, _, hT22, _⟩
            have hw : wrap64 ((M.length : Int) - 1) = ((remO (keyO o) M).length : Int) := by
              obtain ⟨q, hq⟩ := Option.isSome_iff_exists.1 HCS.out
              have := len_rem HTB.out hq
              have := HML.out
              unfold wrap64
              omega
            go_wp2
            go_ret
            exact ⟨rfl, hT22.below⟩
          | false =>
            go_wp2_with (go_at_call 17; refine (hpf _).mono ?_; rintro e w20 ⟨rfl, nd2, rfl⟩)
            refine (all_at w _ [(mt + 1, mt, remO (keyO o) M)] (by repeat (first | exact hT21 | apply Tabs.drewN)) (mt + 1) mt (remO (keyO o) M) (by simp)).mono ?_
            rintro e w22 ⟨A_, cap_, ys_, rfl, _, _, _, _, _, hT22, _⟩
            rw [rem_none (show getO (keyO o) M = none by cases h : getO (keyO o) M with | none => rfl | some q => have := HCS.out; rw [h] at this; cases this)]
            go_wp2
            go_ret
            exact ⟨rfl, hT22.below⟩
        · have G := get_after o M true hb hos
          simp only [Bool.not_true] at G
          have HG := Lib.hid G
          have hM0 := addT_zero o M hok (remO (keyO o) M) (.inr rfl)
          have HM0 := Lib.hid hM0
          have HE := Lib.hid e
          have hpos : decide (0 < o.f2) = false := decide_eq_false (by omega)
          have hpf : ∀ W, _ := pref_dr o.f1 false (by rw [hb]; rfl)
          have HOK := Lib.hid hok
          have HBB := Lib.hid hb
          clear G hM0 e hz hok hb
          have kB_0 := blk_cell kB 0
          have kB_1 := blk_cell kB 1
          have kB_2 := blk_cell kB 2
          have hF := add_at w _ [] [] (mt + 1) mt M hw7 o hos
          rw [HE.out] at hF
          go_wp2_with fail
          refine hF.mono ?_
          rintro e w8 ⟨rfl, hw8, hg⟩
          replace hw8 : Tabs w w8 [(mt + 1, mt, (remO (keyO o) M))] := hw8
          clear hF hw7
          replace kB := (hg.block _ (blk_lt kB) (fun e => hne (Option.some.inj e))).trans kB
          replace kP := (hg.block _ (blk_lt kP) (fun e => nP6 (Option.some.inj e))).trans kP
          replace kA := (hg.block _ (blk_lt kA) (fun e => nA7 (Option.some.inj e))).trans kA
          clear hg
          clear kB_0 kB_1 kB_2
          have o0 := blk_cell kB 0
          have hLk := prefix_at w w8 _ hw8 (mt + 1) mt (remO (keyO o) M) (by simp) o.f0 hos pre was (by rw [HG.out.2.2.2]; exact HP.out.1) (by rw [HG.out.2.2.2]; exact HP.out.2.1)
          go_wp2_with fail
          refine hLk.mono ?_
          rintro e w9 ⟨rfl, hw9, hb⟩
          clear hLk o0 hw8
          replace kB := blk_below kB hb
          replace kP := blk_below kP hb
          replace kA := blk_below kA hb
          clear hb
          have mP9 := (hw9.tab _ List.mem_cons_self).mlt
          simp only at mP9
          have nP9 : w9.heap.size ≠ mt := by omega
          clear mP9
          replace kB := blk_alloc kB (.cells #[.string pre.f0, .int .i64 pre.f1, .int .i64 pre.f2] 27)
          replace kP := blk_alloc kP (.cells #[.string pre.f0, .int .i64 pre.f1, .int .i64 pre.f2] 27)
          replace kA := blk_alloc kA (.cells #[.string pre.f0, .int .i64 pre.f1, .int .i64 pre.f2] 27)
          have kQ := blk_new w9 (.cells #[.string pre.f0, .int .i64 pre.f1, .int .i64 pre.f2] 27)
          replace hw9 := hw9.alloc (.cells #[.string pre.f0, .int .i64 pre.f1, .int .i64 pre.f2] 27)
          have o0 := blk_cell kB 0
          have hLk := after_tab w _ _ hw9 (mt + 1) mt (remO (keyO o) M) (by simp) o.f0 hos z27 false (by rw [HG.out.2.2.1]; rfl) (by rw [HG.out.2.2.1]; rfl)
          go_wp2_with fail
          refine hLk.mono ?_
          rintro e w10 ⟨rfl, hw10, hb⟩
          clear hLk o0 hw9
          replace kB := blk_below kB hb
          replace kP := blk_below kP hb
          replace kA := blk_below kA hb
          replace kQ := blk_below kQ hb
          clear hb
          have mA10 := (hw10.tab _ List.mem_cons_self).mlt
          simp only at mA10
          have nA10 : w10.heap.size ≠ mt := by omega
          clear mA10
          replace kB := blk_alloc kB (.cells #[.string z27.f0, .int .i64 z27.f1, .int .i64 z27.f2] 27)
          replace kP := blk_alloc kP (.cells #[.string z27.f0, .int .i64 z27.f1, .int .i64 z27.f2] 27)
          replace kA := blk_alloc kA (.cells #[.string z27.f0, .int .i64 z27.f1, .int .i64 z27.f2] 27)
          replace kQ := blk_alloc kQ (.cells #[.string z27.f0, .int .i64 z27.f1, .int .i64 z27.f2] 27)
          have kC := blk_new w10 (.cells #[.string z27.f0, .int .i64 z27.f1, .int .i64 z27.f2] 27)
          replace hw10 := hw10.alloc (.cells #[.string z27.f0, .int .i64 z27.f1, .int .i64 z27.f2] 27)
          have kB_0 := blk_cell kB 0
          have kB_1 := blk_cell kB 1
          have kB_2 := blk_cell kB 2
          have kP_0 := blk_cell kP 0
          have kP_1 := blk_cell kP 1
          have kP_2 := blk_cell kP 2
          have kA_0 := blk_cell kA 0
          have kA_1 := blk_cell kA 1
          have kA_2 := blk_cell kA 2
          have kQ_0 := blk_cell kQ 0
          have kQ_1 := blk_cell kQ 1
          have kQ_2 := blk_cell kQ 2
          have kC_0 := blk_cell kC 0
          have kC_1 := blk_cell kC 1
          have kC_2 := blk_cell kC 2
          have f2 := blk_frozen kB 2
          have hcase : (getO (keyO o) M).isSome = had := by unfold keyO; rw [HBB.out]; exact HP.out.2.2.2
          have HCS := Lib.hid hcase
          clear hcase
          go_wp2_with (go_at_call 17; refine (hpf _).mono ?_; rintro e w20 ⟨rfl, nd, rfl⟩)
          clear kB_0 kB_1 kB_2 kP_0 kP_1 kP_2 kA_0 kA_1 kA_2 kQ_0 kQ_1 kQ_2 kC_0 kC_1 kC_2
          have kBs := blk_set (blk_below kB (pw_below_drewN (Below.refl _ _) nd)) 2 (.int .i64 0)
          have hF := add_at w _ [] [] (mt + 1) mt (remO (keyO o) M) ((hw10.drewN nd).setBox (b := bo) (by rw [HBO.out.1]; exact Nat.le_refl _) (fun x hx => by rw [List.mem_singleton.1 hx]; have := HBO.out.2; constructor <;> simp only <;> omega) 2 (.int .i64 0)) ⟨o.f0, o.f1, 0⟩ hos
          rw [HM0.out] at hF
          refine hF.mono ?_
          rintro e w21 ⟨rfl, hT21, hg⟩
          have k21 := (hg.block _ (blk_lt kBs) (fun e => hne (Option.some.inj e))).trans kBs
          have f1 : w21.cell? ⟨bo, 1, none⟩ = some (.int .i64 o.f1) := blk_cell k21 1
          clear hF hg kBs k21 f2 kB kP kA kQ kC hw10
          cases had with
          | true =>
            go_wp2_with (go_at_call 17; refine (hpf _).mono ?_; rintro e w20 ⟨rfl, nd2, rfl⟩)
            refine (all_at w _ [(mt + 1, mt, remO (keyO o) M)] (by repeat (first | exact hT21 | apply Tabs.drewN)) (mt + 1) mt (remO (keyO o) M) (by simp)).mono ?_
            rintro e w22 ⟨A_, cap_, ys_, rfl, _, _, _, _, _, hT22, _⟩
            have hw : wrap64 ((M.length : Int) - 1) = ((remO (keyO o) M).length : Int) := by
              obtain ⟨q, hq⟩ := Option.isSome_iff_exists.1 HCS.out
              have := len_rem HTB.out hq
              have := HML.out
              unfold wrap64
              omega
            go_wp2
            go_ret
            exact ⟨rfl, hT22.below⟩
          | false =>
            go_wp2_with (go_at_call 17; refine (hpf _).mono ?_; rintro e w20 ⟨rfl, nd2, rfl⟩)
            refine (all_at w _ [(mt + 1, mt, remO (keyO o) M)] (by repeat (first | exact hT21 | apply Tabs.drewN)) (mt + 1) mt (remO (keyO o) M) (by simp)).mono ?_
            rintro e w22 ⟨A_, cap_, ys_, rfl, _, _, _, _, _, hT22, _⟩
            rw [rem_none (show getO (keyO o) M = none by cases h : getO (keyO o) M with | none => rfl | some q => have := HCS.out; rw [h] at this; cases this)]
            go_wp2
            go_ret
            exact ⟨rfl, hT22.below⟩

end Go.Proofs.YtlphglmjfklndaaDoor
