/- The walk of LockLeaves. -/
import Derived.Test.YtnenehdecbbfcaaLkV
namespace Go.Proofs.Ytnenehdecbbfcaa
set_option linter.unusedVariables false
open Go.RowKit Go.Maps Go.Proofs.YtnenehdecbbfcaaW.PrintWords Go.Proofs.YtnenehdecbbfcaaW.PrintLast Go.Proofs.YtnenehdecbbfcaaW.PrintMore Go.Proofs.Ytnenehdecbbfcaa.PLockAlone

theorem same_l0 (xs : List Int) (hl : xs.length < 1000000) : ∀ (d k i : Nat), i + d = xs.length → d < k → pythiaref01_SameInts.l0 k xs xs (i : Int) = some true := by
  intro d
  induction d with
  | zero =>
    intro k i hi hk
    obtain ⟨k, rfl⟩ : ∃ q, k = q + 1 := ⟨k - 1, by omega⟩
    simp only [pythiaref01_SameInts.l0]
    rw [if_neg (by omega)]
  | succ d ih =>
    intro k i hi hk
    obtain ⟨k, rfl⟩ : ∃ q, k = q + 1 := ⟨k - 1, by omega⟩
    have hw : wrap64 ((i : Int) + 1) = ((i + 1 : Nat) : Int) := by unfold wrap64; omega
    simp only [pythiaref01_SameInts.l0]
    rw [if_pos (by omega), if_pos (by omega), if_pos (by omega), if_pos trivial, hw, ih k (i + 1) (by omega) (by omega)]
theorem same_pure (xs : List Int) (hl : xs.length < 1000000) : pythiaref01_SameInts.f (xs.length + 1) xs xs = some true := by
  unfold pythiaref01_SameInts.f
  rw [if_pos rfl]
  exact same_l0 xs hl xs.length (xs.length + 1) 0 (by omega) (by omega)

/-- Leave, its row opened. -/
theorem leave_row {w0 w : World} {lb mb N : Nat} {made t : Int} {L : Mx} (h : St w0 w lb mb made L) (g : Good N made L) (hN : N < 4611686018427387903) :
    Calls Try.prog 18 #[.pointer (some ⟨lb, 0, none⟩), .int .i64 t] w fun e w' => ∃ A c, e = .returned (.slice A (leaveK L t).length c) ∧ (leaveK L t).length ≤ c ∧ Kd.C (Kd.int .i64) w' A (leaveK L t).length (leaveK L t) ∧ Fr lb mb w w' ∧ St w0 w' lb mb made (leaveL L t) :=
  (leave_any w lb mb made t L h.K g.sorted (fun p hp => by have := g.key p hp; have := g.made; exact ⟨by omega, by omega⟩) (by have := g.len; omega)).mono fun e w' ⟨v, he, hr, l, f⟩ => by
    have R2 : Kd.R (Kd.int .i64) 3 w' w.heap.size (fun _ => True) v (leaveK L t) := Kd.R_of_own hr (fun _ _ => trivial)
    obtain ⟨A2, c2, rfl, hc2, C2⟩ := Kd.R_reads R2
    exact ⟨A2, c2, he, hc2, C2, f, h.fr l f⟩

theorem owner_row {w0 w : World} {lb mb : Nat} {made m : Int} {L : Mx} (h : St w0 w lb mb made L) (hm : I64 m) :
    Calls Try.prog 10 #[.pointer (some ⟨lb, 0, none⟩), .int .i64 m] w fun e w' => e = .returned (.tuple #[.int .i64 (own L m).1, .int .i64 (own L m).2]) ∧ Below w.heap.size w w' ∧ St w0 w' lb mb made L :=
  (owner_any w lb mb made m L h.K hm).mono fun e w' ⟨he, n, hw⟩ => by
    subst hw
    exact ⟨he, ⟨rfl, rfl, rfl, Nat.le_refl _, fun _ _ => rfl⟩, ⟨⟨h.B.os, h.B.tape, h.B.output, h.B.size, h.B.block⟩, ⟨h.K.blk, h.K.map.alike rfl⟩, h.hl, h.hm⟩⟩

theorem take_row {w0 w : World} {lb mb N : Nat} {made m x : Int} {L : Mx} (h : St w0 w lb mb made L) (g : Good N made L) (hN : N < 4611686018427387903) (hm : I64 m) :
    Calls Try.prog 16 #[.pointer (some ⟨lb, 0, none⟩), .int .i64 m, .int .i64 x] w fun e w' => e = .returned (.int .i64 (takeE L m x)) ∧ Fr lb mb w w' ∧ St w0 w' lb mb made (takeL L m x) :=
  (take_any w lb mb made m x L h.K hm (by have := g.own m; omega) (by have := g.len; omega)).mono fun e w' ⟨he, l, f⟩ => ⟨he, f, h.fr l f⟩

set_option maxHeartbeats 8000000 in
set_option maxRecDepth 100000 in
theorem leaves_any (a0 : Option Addr) (n cap : Nat) (ops : List (Int × Int × Int)) (t u : Int) (w : World) (hops : OpsAt w a0 n ops) (ht : I64 t) (hu : I64 u) :
    Calls Try.prog 5 #[.slice a0 n cap, .int .i64 t, .int .i64 u] w fun e w' => e = .returned (.bool true) ∧ Below w.heap.size w w' := by
  have cn := new_ w
  have cal := fun W => alive_any W
  obtain ⟨i0, hi, hz0, hz1, hz2⟩ := info_parts info3
  obtain ⟨hlen, hbytes, hwf, hab⟩ := hops
  obtain ⟨lb, hlb⟩ : ∃ lb, lb = w.heap.size + 1 := ⟨_, rfl⟩
  obtain ⟨mb, hmb⟩ : ∃ mb, mb = w.heap.size := ⟨_, rfl⟩
  rw [← hlb] at cn
  have cn : Calls Try.prog 7 #[] w fun e w' => e = .returned (.pointer (some ⟨lb, 0, none⟩)) ∧ LocksAt w' lb mb 0 [] ∧ Below w.heap.size w w' := by rw [hmb]; exact cn
  have HL := Lib.hid hlb
  have HM := Lib.hid hmb
  have HA := Lib.hid hab
  have HW := Lib.hid hwf
  have HN := Lib.hid hlen
  have hcap := Lib.hid hbytes
  clear hlb hmb hab hwf hlen
  go_enter Try.func5, Try.ntmps5
  go_wp2_with (first
    | (go_at_call 7; refine cn.mono ?_; rintro e w1 ⟨rfl, l1, b1⟩)
    | (go_at_call 8; refine (cal _).mono ?_; rintro e w2 ⟨rfl, b2⟩; have l2 := l1.below b2))
  have h2 : St w w2 lb mb 0 [] := ⟨b1.trans (b2.mono b1.size), l2, by have := HL.out; omega, by have := HM.out; omega⟩
  clear l1 b1 b2 l2 cn cal
  go_loopw [33] (fun i wr => ∃ (k : Nat) (made : Int) (L : Mx), k ≤ n ∧ i = .int .i64 k ∧ St w wr lb mb made L ∧ Good k made L)
    (fun i _ => n - (intOf i).toNat)
  case atStart => exact ⟨0, 0, [], Nat.zero_le _, rfl, h2, Good.nil⟩
  case round =>
    obtain ⟨k, made, L, hk, rfl, hst, hg⟩ := hrel
    by_cases hlt : k < n
    · obtain ⟨b, off, rfl, hbs, hcell⟩ := HA.out (by omega)
      have hko : k < ops.length := by have := HN.out; omega
      obtain ⟨g0, g1, g2⟩ := hcell k hko
      have c0 := (hst.B.cell (p := ⟨b, off + k * 3, none⟩) hbs).trans g0
      have c1 := (hst.B.cell (p := ⟨b, off + k * 3 + 1, none⟩) hbs).trans g1
      have c2 := (hst.B.cell (p := ⟨b, off + k * 3 + 2, none⟩) hbs).trans g2
      obtain ⟨i0', i1, i2⟩ := HW.out _ (List.getElem_mem hko)
      generalize ops[k].1 = kd at c0 i0'
      generalize ops[k].2.1 = mm at c1 i1
      generalize ops[k].2.2 = tt at c2 i2
      clear g0 g1 g2 hcell
      have hb1 := ((Below.refl _ wr).alloc (Nat.le_refl _) (Obj.cells #[Value.int IntKind.i64 kd, Value.int IntKind.i64 mm, Value.int IntKind.i64 tt] 29)).alloc (by simp) (Obj.cells #[] 35)
      have hst1 := hst.below hb1
      have hlw : lb < wr.heap.size := hst.K.lt
      have hmw : mb < wr.heap.size := hst.K.map.lt
      have hR : Kd.R k35 35 ((wr.alloc (Obj.cells #[Value.int IntKind.i64 kd, Value.int IntKind.i64 mm, Value.int IntKind.i64 tt] 29)).alloc (Obj.cells #[] 35)) w.heap.size (Oth lb mb) (.slice (some ⟨wr.heap.size + 1, 0, none⟩) 0 0) [] := by
        have := R_empty (wr.alloc (Obj.cells #[Value.int IntKind.i64 kd, Value.int IntKind.i64 mm, Value.int IntKind.i64 tt] 29)) lb mb w.heap.size (by have := hst.B.size; simp; omega) (by simp; omega) (by simp; omega)
        simpa using this
      have cd := does0_any w _ lb mb k made L _ kd mm tt hst1 hg (by omega) i1 i2 hR
      have hg1 := hg.step (kind := kd) (m := mm) i2
      clear hst1 hR hb1 hst hg i0' i1 i2
      go_wp2_with (go_at_call 9; refine cd.mono ?_; rintro e w5 ⟨v5, b5, rfl, h5⟩)
      go_roundw
      case rel => exact ⟨k + 1, _, _, by omega, by go_num, h5, hg1⟩
      case measure => simp [intOf]; omega
    · obtain rfl : k = n := by omega
      have HG := Lib.hid hg
      have hkk : k ≤ 5864062014635 := by have := hcap.out; omega
      clear hg h2 hlt hk hbytes
      obtain ⟨B, hB⟩ : ∃ B, B = wr.heap.size := ⟨_, rfl⟩
      have hst1 := hst.below (((Below.refl _ wr).alloc (Nat.le_refl _) (Obj.cells #[] 3)).alloc (by simp) (Obj.cells #[] 3))
      have htwo := two_new wr B (by omega)
      have hlB : lb < B := by have := hst.K.lt; omega
      have hmB : mb < B := by have := hst.K.map.lt; omega
      have hwB : w.heap.size ≤ B := by have := hst.B.size; omega
      have HBB := Lib.hid hB
      have call := all_row hst1 HG.out
      clear hB hst hst1
      obtain ⟨nl, hnl⟩ : ∃ nl, nl = L.length := ⟨_, rfl⟩
      simp only [← hnl] at call
      have hnl8 : nl ≤ 8 := by have := HG.out.len; omega
      have HNL := Lib.hid hnl
      clear hnl
      go_wp2_with (go_at_call 12; refine call.mono ?_; rintro e w4 ⟨A4, c4, G, rfl, b4, hG4, hGl, hk4, h4⟩)
      have two4 := htwo.below b4
      have hB4 : B ≤ w4.heap.size := by have := b4.size; have := HBB.out; simp at *; omega
      have hGo : G ≠ wr.heap.size ∧ G ≠ wr.heap.size + 1 := by
        have := HBB.out
        rcases hGl with h | h
        · simp at h; omega
        · omega
      have HK := Lib.hid hk4
      clear htwo b4 call hk4 hGl
      go_loopw [10, 11, 47] (fun va vb i w5 => ∃ (j : Nat), j ≤ nl ∧ i = .int .i64 j ∧ St w w5 lb mb made L ∧ TwoR B w5 va vb (leaveK (L.take j) t) (othK (L.take j) t) ∧ va.ownBlock ≠ some G ∧ vb.ownBlock ≠ some G ∧ G < w5.heap.size ∧
          (∀ q, w5.cell? ⟨G, q, none⟩ = w4.cell? ⟨G, q, none⟩) ∧ B ≤ w5.heap.size)
        (fun _ _ i _ => nl - (intOf i).toNat)
      case atStart => exact ⟨0, Nat.zero_le _, rfl, h4, by simpa [leaveK, othK] using two4, by simp [Value.ownBlock]; omega, by simp [Value.ownBlock]; omega, hG4, fun _ => rfl, hB4⟩
      case round =>
        obtain ⟨j, hj, rfl, hst5, two5, ha5, hb5, hG5, hc5, hB5⟩ := hrel
        by_cases hlj : j < nl
        · obtain ⟨hA4, hcell4⟩ := HK.out (by omega)
          subst hA4
          have hjL : j < L.length := by have := HNL.out; omega
          have g0 := (hc5 j).trans (hcell4 j (by omega))
          have HC5 := Lib.hid hc5
          clear hcell4 hc5
          obtain ⟨m, a, b, hp⟩ : ∃ m a b, L[j] = (m, (a, b)) := ⟨_, _, _, rfl⟩
          have hgd : L.getD j (0, (0, 0)) = (m, (a, b)) := by rw [← hp]; simp [List.getD, List.getElem?_eq_getElem hjL]
          rw [hgd] at g0
          have hm : I64 m := by have := HG.out.key _ (List.getElem_mem hjL); have := HG.out.made; rw [hp] at *; simp only at *; exact ⟨by omega, by omega⟩
          have ho : own L m = (a, b) := by
            have := mget_of_mem HG.out.sorted (k := m) (v := (a, b)) (by rw [← hp]; exact List.getElem_mem hjL)
            simp [own, this]
          have co := owner_row hst5 hm
          rw [ho] at co
          simp only at g0 co
          have HP := Lib.hid hp
          have HJ : Hid (j + 1 ≤ nl) := Lib.hid hlj
          clear hp hgd ho hst5
          by_cases hmine : b > 0 ∧ a = t
          · obtain ⟨hb0, rfl⟩ := hmine
            have e3 : leaveK (L.take (j + 1)) a = leaveK (L.take j) a ++ [m] := by rw [leaveK_put hjL (by rw [HP.out]; simp [mine, hb0]), HP.out]
            have e4 : othK (L.take (j + 1)) a = othK (L.take j) a := othK_keep hjL (by rw [HP.out]; simp [other])
            have E3 := Lib.hid e3
            have E4 := Lib.hid e4
            clear e3 e4
            obtain ⟨g1, g2, e1, e2, hne⟩ := two5.ne
            have hg1 := two5.r1.lt g1 e1
            have hg2 := two5.r2.lt g2 e2
            have H1 := Lib.hid e1
            have H2 := Lib.hid e2
            have hlen := leaveK_le (L.take j) a
            have hlen2 := othK_le (L.take j) a
            have hL8 := HG.out.len
            rw [List.length_take] at hlen hlen2
            have hx : (leaveK (L.take j) a).length < 1000 := by omega
            have hgA : g1 ≠ G := fun e => by subst e; first | exact ha5 H1.out | exact hb5 H2.out
            have HA5 := Lib.hid ha5
            have HB5 := Lib.hid hb5
            clear e1 e2 hlen hlen2 ha5 hb5
            go_wp2_with (first
              | (go_at_call 10; refine co.mono ?_; rintro e w6 ⟨rfl, b6, h6⟩; have two6 := two5.below b6; have hs6 := b6.size)
              | (at_builtin; refine wpList_append_own_at _ rfl _ _ 38 rfl B 3 i0 (.int .i64 0) 1 8 Try.underlying38 hi hz0 hz1 hz2 rfl (by decide) u10 _ _ rfl (two6.r1.alloc _) ⟨w6.heap.size, 0, none⟩ 1 1 [.int .i64 m] rfl rfl (cell_one_new _ _ _) (ints_oneCell .i64 [m]) (by unfold maxLen; omega) (by omega) (by simp; omega) ?_
                 intro v' w7 hown7 hgrow7 _ hloc7))
            have two7 := two6.app1 hown7 hgrow7 hloc7
            have h7 := h6.app hgrow7 H1.out (by omega) (by omega) (by omega)
            have hc7 : ∀ q, w7.cell? ⟨G, q, none⟩ = w4.cell? ⟨G, q, none⟩ := fun q =>
              (World.cell?_of_block (w := w6.alloc _) (hgrow7.block G (by simp; omega) (by rw [H1.out]; intro e; cases e; exact hgA rfl))).trans
                ((World.cell?_of_block (w := w6) (Below.heap_alloc _ _ G (by omega))).trans ((b6.cell (p := ⟨G, q, none⟩) hG5).trans (HC5.out q)))
            have hv7 : v'.ownBlock ≠ some G := by
              rcases hloc7 with e | e
              · rw [e, H1.out]; intro e'; cases e'; exact hgA rfl
              · rw [e]; simp; omega
            have hs7 : w6.heap.size + 1 ≤ w7.heap.size := by have := hgrow7.size; simpa using this
            have R7 := Lib.hid two7
            clear hown7 hgrow7 hloc7 two7 two6 two5
            go_wp2
            go_roundw
            case rel => exact ⟨j + 1, by omega, by go_num, h7, by rw [E3.out, E4.out]; exact R7.out, hv7, HB5.out, by omega, hc7, by omega⟩
            case measure => simp [intOf]; omega
          · by_cases hoth : b > 0
            · have hat : a ≠ t := fun e => hmine ⟨hoth, e⟩
              have hat' : (a == t) = false := by simpa using hat
              have e3 : leaveK (L.take (j + 1)) t = leaveK (L.take j) t := leaveK_keep hjL (by rw [HP.out]; simp [mine, hat])
              have e4 : othK (L.take (j + 1)) t = othK (L.take j) t ++ [m] := by rw [othK_put hjL (by rw [HP.out]; simp [other, hoth, hat]), HP.out]
              have E3 := Lib.hid e3
              have E4 := Lib.hid e4
              clear e3 e4 hat hmine
              obtain ⟨g1, g2, e1, e2, hne⟩ := two5.ne
              have hg1 := two5.r1.lt g1 e1
              have hg2 := two5.r2.lt g2 e2
              have H1 := Lib.hid e1
              have H2 := Lib.hid e2
              have hlen := leaveK_le (L.take j) t
              have hlen2 := othK_le (L.take j) t
              have hL8 := HG.out.len
              rw [List.length_take] at hlen hlen2
              have hx : (othK (L.take j) t).length < 1000 := by omega
              have hgA : g2 ≠ G := fun e => by subst e; first | exact ha5 H1.out | exact hb5 H2.out
              have HA5 := Lib.hid ha5
              have HB5 := Lib.hid hb5
              clear e1 e2 hlen hlen2 ha5 hb5
              go_wp2_with (first
                | (go_at_call 10; refine co.mono ?_; rintro e w6 ⟨rfl, b6, h6⟩; have two6 := two5.below b6; have hs6 := b6.size)
                | (at_builtin; refine wpList_append_own_at _ rfl _ _ 38 rfl B 3 i0 (.int .i64 0) 1 8 Try.underlying38 hi hz0 hz1 hz2 rfl (by decide) u11 _ _ rfl (two6.r2.alloc _) ⟨w6.heap.size, 0, none⟩ 1 1 [.int .i64 m] rfl rfl (cell_one_new _ _ _) (ints_oneCell .i64 [m]) (by unfold maxLen; omega) (by omega) (by simp; omega) ?_
                   intro v' w7 hown7 hgrow7 _ hloc7))
              have two7 := two6.app2 hown7 hgrow7 hloc7
              have h7 := h6.app hgrow7 H2.out (by omega) (by omega) (by omega)
              have hc7 : ∀ q, w7.cell? ⟨G, q, none⟩ = w4.cell? ⟨G, q, none⟩ := fun q =>
                (World.cell?_of_block (w := w6.alloc _) (hgrow7.block G (by simp; omega) (by rw [H2.out]; intro e; cases e; exact hgA rfl))).trans
                  ((World.cell?_of_block (w := w6) (Below.heap_alloc _ _ G (by omega))).trans ((b6.cell (p := ⟨G, q, none⟩) hG5).trans (HC5.out q)))
              have hv7 : v'.ownBlock ≠ some G := by
                rcases hloc7 with e | e
                · rw [e, H2.out]; intro e'; cases e'; exact hgA rfl
                · rw [e]; simp; omega
              have hs7 : w6.heap.size + 1 ≤ w7.heap.size := by have := hgrow7.size; simpa using this
              have R7 := Lib.hid two7
              clear hown7 hgrow7 hloc7 two7 two6 two5
              go_wp2
              go_roundw
              case rel => exact ⟨j + 1, by omega, by go_num, h7, by rw [E3.out, E4.out]; exact R7.out, HA5.out, hv7, by omega, hc7, by omega⟩
              case measure => simp [intOf]; omega
            · have e3 : leaveK (L.take (j + 1)) t = leaveK (L.take j) t := leaveK_keep hjL (by rw [HP.out]; simp [mine, hoth])
              have e4 : othK (L.take (j + 1)) t = othK (L.take j) t := othK_keep hjL (by rw [HP.out]; simp [other, hoth])
              have E3 := Lib.hid e3
              have E4 := Lib.hid e4
              have HA5 := Lib.hid ha5
              have HB5 := Lib.hid hb5
              clear e3 e4 hmine ha5 hb5
              go_wp2_with (go_at_call 10; refine co.mono ?_; rintro e w6 ⟨rfl, b6, h6⟩; have two6 := two5.below b6; have hs6 := b6.size)
              have hc6 : ∀ q, w6.cell? ⟨G, q, none⟩ = w4.cell? ⟨G, q, none⟩ := fun q => (b6.cell (p := ⟨G, q, none⟩) hG5).trans (HC5.out q)
              go_roundw
              case rel => exact ⟨j + 1, HJ.out, by go_num, h6, by rw [E3.out, E4.out]; exact two6, HA5.out, HB5.out, by omega, hc6, by omega⟩
              case measure => have := HJ.out; simp [intOf]; omega
        · obtain rfl : j = nl := by omega
          have e1 : L.take j = L := by rw [HNL.out]; exact List.take_length
          rw [e1] at two5
          have HC5 := hc5
          clear e1 HC5 hc5 ha5 hb5 hG5 HK hj hlj hG4 hGo
          have hlk := leaveK_le L t
          have hok := othK_le L t
          have hl8 := HG.out.len
          have hlx : (leaveK L t).length ≤ 8 := by omega
          have hly : (othK L t).length ≤ 8 := by omega
          clear hlk hok hl8
          have c1 := leave_row (t := t) hst5 HG.out (by omega)
          have gl := HG.out.leave t
          have c2 := fun (W : World) (hW : St w W lb mb made (leaveL L t)) => leave_row (t := t) hW gl (by omega)
          rw [leave_twice] at c2
          simp only [List.length_nil] at c2
          obtain ⟨gA, cA, rfl, hgA, hcellA⟩ := two5.open1
          obtain ⟨gB, cB, rfl, hgB, hcellB⟩ := two5.open2
          have hsame := same_pure (leaveK L t) (by omega)
          have cs := fun (W : World) A c A' c' h1 h2 h3 h4 => pythiaref01_SameInts.calls _ A c (leaveK L t) A' c' (leaveK L t) true W h1 h2 h3 h4 hsame
          have HT5 := Lib.hid two5
          clear hcellA hcellB hsame two5 hst5
          go_wp2_with fail
          refine c1.mono ?_
          rintro e w6 ⟨A6, c6, rfl, hc6, C6, f6, h6⟩
          have two6 := HT5.out.fr f6 hlB hmB
          have C6b : Kd.C (Kd.int .i64) w6 (some ⟨gA, 0, none⟩) (leaveK L t).length (leaveK L t) ∧ (leaveK L t).length ≤ cA := by
            have R2 : Kd.R (Kd.int .i64) 3 w6 B (fun _ => True) (.slice (some ⟨gA, 0, none⟩) (leaveK L t).length cA) (leaveK L t) := Kd.R_of_own two6.r1 (fun _ _ => trivial)
            have := Kd.R_reads' R2
            exact ⟨this.2.2, this.2.1⟩
          go_wp2_with fail
          refine (cs w6 A6 c6 (some ⟨gA, 0, none⟩) cA C6 hc6 C6b.1 C6b.2).mono ?_
          rintro e w7 ⟨rfl, d7⟩
          have h7 := h6.below d7.below
          have two7 := two6.below d7.below
          clear C6 C6b cs c1
          go_wp2_with fail
          refine (c2 w7 h7).mono ?_
          rintro e w8 ⟨A8, c8, rfl, hc8, C8, f8, h8⟩
          have two8 := two7.fr f8 hlB hmB
          rw [leaveL_twice] at h8
          have HT8 := Lib.hid two8
          have HO : Hid (∀ m ∈ othK L t, 0 < (own (leaveL L t) m).2 ∧ I64 m) := Lib.hid fun m hm => ⟨leave_other HG.out.sorted hm, by
            obtain ⟨p, hp, rfl⟩ := key_other hm
            have := HG.out.key p hp; have := HG.out.made; exact ⟨by omega, by omega⟩⟩
          have HMI : Hid (∀ m ∈ leaveK L t, mget (leaveL L t) m = some (0, 0) ∧ I64 m) := Lib.hid fun m hm => ⟨leave_mine HG.out.sorted hm, by
            obtain ⟨p, hp, rfl⟩ := key_mine hm
            have := HG.out.key p hp; have := HG.out.made; exact ⟨by omega, by omega⟩⟩
          have HND := Lib.hid (leaveK_nodup HG.out.sorted t)
          clear C8 two8 two7 two6 c2 h6 h7 f6 f8 hc6 hc8 d7 HT5
          generalize leaveL L t = LL at h8 gl HO HMI
          generalize othK L t = ys at *
          generalize leaveK L t = xs at *
          go_wp2
          go_loopw [90] (fun i wx => ∃ q : Nat, q ≤ ys.length ∧ i = .int .i64 q ∧ St w wx lb mb made LL ∧ TwoR B wx (.slice (some ⟨gA, 0, none⟩) xs.length cA) (.slice (some ⟨gB, 0, none⟩) ys.length cB) xs ys)
            (fun i _ => ys.length - (intOf i).toNat)
          case atStart => exact ⟨0, Nat.zero_le _, rfl, h8, HT8.out⟩
          case round =>
            obtain ⟨q, hq, rfl, hstx, twox⟩ := hrel
            by_cases hlq : q < ys.length
            · have g0 : wr.cell? ⟨gB, q, none⟩ = some (.int .i64 ys[q]) := by
                obtain ⟨g', c', e', _, hce⟩ := twox.open2
                cases e'
                exact hce q hlq
              obtain ⟨ho2, hI2⟩ := HO.out _ (List.getElem_mem hlq)
              have co := owner_row hstx hI2
              generalize ys[q] = m at g0 ho2 hI2 co
              generalize own LL m = oc at ho2 co
              obtain ⟨o2, n2⟩ := oc
              simp only at ho2 co
              have hz : (n2 == 0) = false := by simp; omega
              go_wp2_with (go_at_call 10; refine co.mono ?_; rintro e w9 ⟨rfl, b9, h9⟩; have two9 := twox.below b9)
              go_roundw
              case rel => exact ⟨q + 1, by omega, by go_num, h9, two9⟩
              case measure => simp [intOf]; omega
            · obtain rfl : q = ys.length := by omega
              have HTX := Lib.hid twox
              clear twox hlq hq HT8 h8 HO
              go_wp2
              go_loopw [105] (fun i wx => ∃ (q : Nat) (L2 : Mx), q ≤ xs.length ∧ i = .int .i64 q ∧ St w wx lb mb made L2 ∧ Good (k + q) made L2 ∧ TwoR B wx (.slice (some ⟨gA, 0, none⟩) xs.length cA) (.slice (some ⟨gB, 0, none⟩) ys.length cB) xs ys ∧
                  Hid (∀ p (hp : p < xs.length), q ≤ p → mget L2 xs[p] = some (0, 0)))
                (fun i _ => xs.length - (intOf i).toNat)
              case atStart => exact ⟨0, LL, Nat.zero_le _, rfl, hstx, gl, HTX.out, Lib.hid fun p hp _ => (HMI.out _ (List.getElem_mem hp)).1⟩
              case round =>
                obtain ⟨q, L2, hq, rfl, hsty, g2, twoy, HZ⟩ := hrel
                by_cases hlq : q < xs.length
                · have g0 : wr.cell? ⟨gA, q, none⟩ = some (.int .i64 xs[q]) := by
                    obtain ⟨g', c', e', _, hce⟩ := twoy.open1
                    cases e'
                    exact hce q hlq
                  have hI2 := (HMI.out _ (List.getElem_mem hlq)).2
                  have hmz := HZ.out q hlq (Nat.le_refl _)
                  have ho2 : own L2 xs[q] = (0, 0) := by simp [own, hmz]
                  have co := owner_row hsty hI2
                  rw [ho2] at co
                  have ct := fun (W : World) (hW : St w W lb mb made L2) => take_row (x := u) hW g2 (by omega) hI2
                  have hnext : ∀ v : Int × Int, ∀ p (hp : p < xs.length), q + 1 ≤ p → mget (mput xs[q] v L2) xs[p] = some (0, 0) := by
                    intro v p hp hqp
                    have hne : xs[p] ≠ xs[q] := fun e => (List.pairwise_iff_getElem.1 HND.out q p hlq hp (by omega)) e.symm
                    rw [mget_mput_other hne]
                    exact HZ.out p hp (by omega)
                  have hsame2 : ∀ p (hp : p < xs.length), q + 1 ≤ p → mget L2 xs[p] = some (0, 0) := fun p hp hqp => HZ.out p hp (by omega)
                  have HNX := Lib.hid hnext
                  have HS2 := Lib.hid hsame2
                  have gt := g2.take (m := xs[q]) hu
                  by_cases hu1 : u < 1
                  · have e1 : takeE L2 xs[q] u = 1 := by
                      unfold takeE findE
                      rw [hmz]
                      simp [hu1]
                    have e2 : takeL L2 xs[q] u = L2 := by unfold takeL; rw [e1, if_neg (by omega)]
                    rw [e2] at gt
                    simp only [e1, e2] at ct
                    clear e1 e2 hmz ho2 hnext hsame2
                    generalize xs[q] = m at g0 hI2 co ct
                    go_wp2_with (first
                      | (go_at_call 10; refine co.mono ?_; rintro e w9 ⟨rfl, b9, h9⟩; have two9 := twoy.below b9)
                      | (go_at_call 16; refine (ct _ h9).mono ?_; rintro e w10 ⟨rfl, f10, h10⟩; have two10 := two9.fr f10 hlB hmB))
                    go_roundw
                    case rel => exact ⟨q + 1, L2, by omega, by go_num, h10, gt, two10, HS2⟩
                    case measure => simp [intOf]; omega
                  · have e1 : takeE L2 xs[q] u = 0 := by
                      rw [takeE_some (by rw [hmz]; rfl) (by omega), ho2]
                      exact if_neg (by simp)
                    have e2 : takeL L2 xs[q] u = mput xs[q] (u, 1) L2 := by unfold takeL; rw [if_pos e1, ho2]; rfl
                    rw [e2] at gt
                    simp only [e1, e2] at ct
                    have H3 : Hid (∀ p (hp : p < xs.length), q + 1 ≤ p → mget (mput xs[q] (u, 1) L2) xs[p] = some (0, 0)) := Lib.hid (HNX.out (u, 1))
                    generalize hL3 : mput xs[q] (u, 1) L2 = L3 at gt ct H3
                    clear e1 e2 hmz ho2 hnext hsame2 hL3 HNX
                    generalize xs[q] = m at g0 hI2 co ct
                    go_wp2_with (first
                      | (go_at_call 10; refine co.mono ?_; rintro e w9 ⟨rfl, b9, h9⟩; have two9 := twoy.below b9)
                      | (go_at_call 16; refine (ct _ h9).mono ?_; rintro e w10 ⟨rfl, f10, h10⟩; have two10 := two9.fr f10 hlB hmB))
                    go_roundw
                    case rel => exact ⟨q + 1, L3, by omega, by go_num, h10, gt, two10, H3⟩
                    case measure => simp [intOf]; omega
                · obtain rfl : q = xs.length := by omega
                  have h11 := Lib.hid hsty.B
                  go_wp2
                  go_ret
                  exact ⟨rfl, h11.out⟩

end Go.Proofs.Ytnenehdecbbfcaa
