/- OpsMany walked. -/
import Derived.Test.YtlphglmjfklndaaDoorOpMy
namespace Go.Proofs.YtlphglmjfklndaaDoor
set_option linter.unusedVariables false
open Go.RowKit Go.Shelf Go.Maps Go.Proofs.YtlphglmjfklndaaDoorW.PrintWords Go.Proofs.YtlphglmjfklndaaDoorW.PrintLast Go.Proofs.YtlphglmjfklndaaDoorW.PrintMore Go.Proofs.YtlphglmjfklndaaDoor.POpsApart Go.Extern

theorem add_tab (w0 W : World) (p m : Nat) (L L' : List S27) (c : Int) (o : S27) (h : Tabs w0 W [(p, m, L)]) (hn : o.f0.size ≤ maxLen) (he : addT o L = (c, L')) :
    Calls Tryd.prog 10 #[.pointer (some ⟨p, 0, none⟩), .agg #[.string o.f0, .int .i64 o.f1, .int .i64 o.f2]] W fun e w' => e = .returned (.int .i64 c) ∧ Tabs w0 w' [(p, m, L')] := by
  have := add_at w0 W [] [] p m L h o hn
  rw [he] at this
  exact this.mono fun e w' ⟨a, b, _⟩ => ⟨a, b⟩
theorem all_tab (w0 W : World) (p m n : Nat) (L : List S27) (h : Tabs w0 W [(p, m, L)]) (hn : L.length = n) : Calls Tryd.prog 9 #[.pointer (some ⟨p, 0, none⟩)] W fun e w' => ∃ A cap, e = .returned (.slice A n cap) ∧ Tabs w0 w' [(p, m, L)] := by
  subst hn
  exact (all_at w0 W _ h p m L List.mem_cons_self).mono fun e w' ⟨A, cap, ys, he, _, _, _, _, _, hT, _⟩ => ⟨A, cap, he, hT⟩

theorem LM_zero (kind prec : Int) : LM kind prec 0 = L0 := by rw [LM]
theorem nm_cat (j : Nat) : (⟨#[110]⟩ : ByteArray) ++ ba (decL 20 j) = ba (nmN j) := by rw [show (⟨#[110]⟩ : ByteArray) = ba [110] from rfl, ba_append]; rfl
theorem end_facts {kind prec : Int} (hk : 1 ≤ kind ∧ kind ≤ 7) (hp : 1 ≤ prec ∧ prec ≤ 1200) (hT : Tab (LM kind prec 161)) : ∃ M, M = LM kind prec 161 ∧ M.length = 200 ∧ addT ⟨⟨#[109, 111, 114, 101]⟩, kind, prec⟩ M = (3, M) ∧
    ∀ d : Nat, d < 64 → ∃ R, R.length = 199 ∧ addT ⟨(⟨#[110]⟩ : ByteArray) ++ ba (decL 20 (39 + d)), kind, 1⟩ M = (0, ⟨(⟨#[110]⟩ : ByteArray) ++ ba (decL 20 (39 + d)), kind, 1⟩ :: R) ∧
      addT ⟨(⟨#[110]⟩ : ByteArray) ++ ba (decL 20 (39 + d)), kind, 0⟩ (⟨(⟨#[110]⟩ : ByteArray) ++ ba (decL 20 (39 + d)), kind, 1⟩ :: R) = (0, R) ∧
      addT ⟨⟨#[109, 111, 114, 101]⟩, kind, prec⟩ R = (0, ⟨⟨#[109, 111, 114, 101]⟩, kind, prec⟩ :: R) := by
  refine ⟨_, rfl, LM_len kind prec 161, add_more hk hp hT, fun d hd => ?_⟩
  obtain ⟨ho1, ho2⟩ := add_over hk hp (d := d) (by omega) hT
  have hok : okO (opN kind 1 (39 + d)) := opN_ok hk ⟨by omega, by omega⟩ (39 + d)
  have hzz := addT_zero (opN kind 1 (39 + d)) (LM kind prec 161) hok _ (.inl rfl)
  rw [nm_cat]
  exact ⟨_, ho2, ho1, hzz, add_more2 hk hp hT ho2⟩
theorem and63 (x : Int) : ∃ d : Nat, d < 64 ∧ bits .and .i64 x 63 = d := by
  refine ⟨(BitVec.ofInt 64 x &&& BitVec.ofInt 64 63).toNat, ?_, ?_⟩
  · rw [BitVec.toNat_and]
    have : (BitVec.ofInt 64 63).toNat = 63 := by decide
    rw [this]
    exact Nat.lt_of_le_of_lt Nat.and_le_right (by decide)
  · have h : (BitVec.ofInt 64 x &&& BitVec.ofInt 64 63).toNat ≤ 63 := by
      rw [BitVec.toNat_and]
      have : (BitVec.ofInt 64 63).toNat = 63 := by decide
      rw [this]
      exact Nat.and_le_right
    show IntKind.i64.wrap ((BitVec.ofInt 64 x &&& BitVec.ofInt 64 63).toNat : Int) = _
    rw [IntKind.wrap_i64]
    omega
theorem nm_room (j : Nat) : ¬ 9223372036854775807 < (⟨#[110]⟩ : ByteArray).size + (ba (decL 20 j)).size := by
  have := decL_len 20 j
  rw [ba_size]
  show ¬ 9223372036854775807 < 1 + _
  omega

set_option maxHeartbeats 8000000 in
set_option maxRecDepth 100000 in
theorem many_law (w : World) (kind prec gone : Int) (hK : I64 kind) (hP : I64 prec) (hG : I64 gone) :
    Calls Tryd.prog 6 #[.int .i64 kind, .int .i64 prec, .int .i64 gone] w fun e w' => e = .returned (.bool true) ∧ Below w.heap.size w w' := by
  have hN := new_at w w [] (Tabs.nil w)
  go_enter Tryd.func6, Tryd.ntmps6
  go_wp2_with fail
  refine hN.mono ?_
  rintro e w1 ⟨rfl, hT1, hb1⟩
  obtain ⟨mt, hmt⟩ : ∃ mt, mt = w.heap.size := ⟨_, rfl⟩
  rw [← hmt] at hT1 ⊢
  clear hN hb1 hmt
  have hA2 := alive_any w1
  go_wp2_with fail
  refine hA2.mono ?_
  rintro e w3 ⟨rfl, hb3⟩
  have hT3 := hT1.mono hb3
  clear hA2 hb3 hT1
  by_cases hbad : kind < 1 ∨ 7 < kind ∨ prec < 1 ∨ 1200 < prec
  · have hz := add_zz kind prec hbad
    obtain ⟨c, hc⟩ : ∃ c, c = (addT ⟨⟨#[122, 122]⟩, kind, prec⟩ L0).1 := ⟨_, rfl⟩
    have hF := add_tab w w3 (mt + 1) mt L0 _ c ⟨⟨#[122, 122]⟩, kind, prec⟩ hT3 (by show (2 : Nat) ≤ maxLen; decide) (Prod.ext hc.symm rfl)
    rw [← hc] at hz
    have HZ := Lib.hid hz
    have HC := Lib.hid hc
    clear hc hz
    go_upto_region 4 with (fail)
    go_cut [31] from 18 to 31 (fun v wx => v = .bool true ∧ wx = w3)
    case first =>
      by_cases a1 : kind < 1
      · have d1 : decide (kind < 1) = true := decide_eq_true a1
        go_wp2
        go_meet
        case rel => exact ⟨rfl, rfl⟩
      have d1 : decide (kind < 1) = false := decide_eq_false a1
      by_cases a2 : 7 < kind
      · have d2 : decide (7 < kind) = true := decide_eq_true a2
        go_wp2
        go_meet
        case rel => exact ⟨rfl, rfl⟩
      have d2 : decide (7 < kind) = false := decide_eq_false a2
      by_cases a3 : prec < 1
      · have d3 : decide (prec < 1) = true := decide_eq_true a3
        go_wp2
        go_meet
        case rel => exact ⟨rfl, rfl⟩
      have d3 : decide (prec < 1) = false := decide_eq_false a3
      have d4 : decide (1200 < prec) = true := decide_eq_true (by omega)
      go_wp2
      go_meet
      case rel => exact ⟨rfl, rfl⟩
    case rest =>
    obtain ⟨rfl, rfl⟩ := hcut
    clear hbad
    go_wp2_with fail
    refine hF.mono ?_
    rintro e w4 ⟨rfl, hT4⟩
    clear hF hT3
    rcases HZ.out with h1 | h1
    · go_wp2
      go_ret
      exact ⟨rfl, hT4.below⟩
    · have h2 : (prec == 0) = true := by simpa using h1
      clear h1
      cases h3 : (c != 0) with
      | true =>
        go_wp2
        go_ret
        exact ⟨rfl, hT4.below⟩
      | false =>
        go_wp2
        go_ret
        exact ⟨rfl, hT4.below⟩
  have hk7 : 1 ≤ kind ∧ kind ≤ 7 := by omega
  have hp12 : 1 ≤ prec ∧ prec ≤ 1200 := by omega
  have d1 : decide (kind < 1) = false := decide_eq_false (by omega)
  have d2 : decide (7 < kind) = false := decide_eq_false (by omega)
  have d3 : decide (prec < 1) = false := decide_eq_false (by omega)
  have d4 : decide (1200 < prec) = false := decide_eq_false (by omega)
  have HK := Lib.hid (And.intro hk7 hp12)
  clear hbad hk7 hp12 hK hP
  have hAll := all_tab w w3 (mt + 1) mt 39 L0 hT3 L0_len
  go_wp2_with fail
  refine hAll.mono ?_
  rintro e w4 ⟨A1, cap1, rfl, hT4⟩
  clear hAll hT3 d1 d2 d3 d4
  go_wp2
  obtain ⟨N, hNN⟩ : ∃ N : Nat, N = 200 := ⟨_, rfl⟩
  have HNN := Lib.hid hNN
  clear hNN
  go_loopw [9] (fun i wr => ∃ k : Nat, k ≤ 161 ∧ i = .int .i64 ((39 + k : Nat) : Int) ∧ Tabs w wr [(mt + 1, mt, LM kind prec k)]) (fun i _ => N - (intOf i).toNat)
  case atStart =>
    rw [← LM_zero kind prec] at hT4
    exact ⟨0, by omega, by simp, hT4⟩
  case round =>
    clear hT4
    obtain ⟨k, hk, rfl, hT⟩ := hrel
    have hTab := (hT.tab _ List.mem_cons_self).tab
    simp only at hTab
    by_cases hlt : k < 161
    · have z1 : decide (((39 + k : Nat) : Int) < 200) = true := decide_eq_true (by omega)
      have z2 : 39 + k ≤ 300 := by omega
      have hD := Decimal_any (39 + k) (by omega) wr
      have hrm := nm_room (39 + k)
      have hF := add_tab w wr (mt + 1) mt _ _ 0 (opN kind prec (39 + k)) hT (by show (nmN (39 + k)).length ≤ maxLen; have := nmN_len (39 + k); unfold maxLen; omega) (add_round HK.out.1 HK.out.2 hlt hTab)
      simp only [opN] at hF
      rw [← nm_cat] at hF
      have HM := Lib.hid hlt
      clear hT hTab hlt hk
      generalize hi : 39 + k = i at z1 z2 hD hrm hF
      generalize ba (decL 20 i) = B at hD hrm hF
      have HI := Lib.hid hi
      clear hi
      go_wp2_with fail
      refine hD.mono ?_
      rintro e w' ⟨rfl, rfl⟩
      clear hD
      go_wp2_with fail
      refine hF.mono ?_
      rintro e w5 ⟨rfl, hT5⟩
      clear hF hrm
      go_wp2
      clear z1 z2
      go_roundw
      case rel => exact ⟨k + 1, HM.out, by have := HI.out; simp; omega, hT5⟩
      case measure => have := HM.out; have := HI.out; have := HNN.out; simp [intOf]; omega
    · obtain rfl : k = 161 := by omega
      obtain ⟨M, hM, hMl, hM3, hMd⟩ := end_facts HK.out.1 HK.out.2 hTab
      rw [← hM] at hT
      have HH := Lib.hid (And.intro hM3 hMd)
      clear hTab hlt hk hM hM3 hMd
      have hAll := all_tab w wr (mt + 1) mt 200 M hT hMl
      clear hMl
      go_wp2_with fail
      refine hAll.mono ?_
      rintro e w6 ⟨A2, cap2, rfl, hT6⟩
      clear hAll hT
      have hF := add_tab w w6 (mt + 1) mt _ _ 3 ⟨⟨#[109, 111, 114, 101]⟩, kind, prec⟩ hT6 (by show (4 : Nat) ≤ maxLen; decide) HH.out.1
      go_wp2_with fail
      refine hF.mono ?_
      rintro e w7 ⟨rfl, hT7⟩
      clear hF hT6
      obtain ⟨d, hd, hde⟩ := and63 gone
      have z3 : wrap64 (39 + (d : Int)) = ((39 + d : Nat) : Int) := by unfold wrap64; omega
      have hD := Decimal_any (39 + d) (by omega) w7
      have hrm := nm_room (39 + d)
      obtain ⟨R, hRl, hR1, hR2, hR3⟩ := HH.out.2 d hd
      have hsz : ((⟨#[110]⟩ : ByteArray) ++ ba (decL 20 (39 + d))).size ≤ maxLen := by rw [nm_cat]; show (nmN (39 + d)).length ≤ maxLen; have := nmN_len (39 + d); unfold maxLen; omega
      clear hd HH
      generalize 39 + d = i at z3 hD hrm hR1 hR2 hsz
      generalize ba (decL 20 i) = B at hD hrm hR1 hR2 hsz
      have hF1 := add_tab w w7 (mt + 1) mt _ _ 0 _ hT7 hsz hR1
      have HR := Lib.hid (And.intro hRl (And.intro hR2 (And.intro hR3 hsz)))
      clear hRl hR1 hR2 hR3 hsz hT7
      go_wp2_with fail
      refine hD.mono ?_
      rintro e w' ⟨rfl, rfl⟩
      clear hD
      go_wp2_with fail
      refine hF1.mono ?_
      rintro e w8 ⟨rfl, hT8⟩
      clear hF1
      have hF2 := add_tab w w8 (mt + 1) mt _ _ 0 _ hT8 HR.out.2.2.2 HR.out.2.1
      go_wp2_with fail
      refine hF2.mono ?_
      rintro e w9 ⟨rfl, hT9⟩
      clear hF2 hT8
      have hA9 := all_tab w w9 (mt + 1) mt 199 R hT9 HR.out.1
      go_wp2_with fail
      refine hA9.mono ?_
      rintro e w10 ⟨A3, cap3, rfl, hT10⟩
      clear hA9 hT9
      have hF3 := add_tab w w10 (mt + 1) mt _ _ 0 ⟨⟨#[109, 111, 114, 101]⟩, kind, prec⟩ hT10 (by show (4 : Nat) ≤ maxLen; decide) HR.out.2.2.1
      go_wp2_with fail
      refine hF3.mono ?_
      rintro e w11 ⟨rfl, hT11⟩
      clear hF3 hT10
      have hA11 := all_tab w w11 (mt + 1) mt 200 _ hT11 (by rw [List.length_cons, HR.out.1])
      go_wp2_with fail
      refine hA11.mono ?_
      rintro e w12 ⟨A4, cap4, rfl, hT12⟩
      clear hA11
      go_wp2
      go_ret
      exact ⟨rfl, hT12.below⟩
end Go.Proofs.YtlphglmjfklndaaDoor
