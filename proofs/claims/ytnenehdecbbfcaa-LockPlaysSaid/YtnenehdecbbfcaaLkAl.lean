/- The walk of LockAlone: first the calls of the script. -/
import Derived.Test.YtnenehdecbbfcaaLkS
import Derived.Test.YtnenehdecbbfcaaLkT
namespace Go.Proofs.Ytnenehdecbbfcaa
set_option linter.unusedVariables false
open Go.RowKit Go.Maps Go.Proofs.YtnenehdecbbfcaaW.PrintWords Go.Proofs.YtnenehdecbbfcaaW.PrintLast Go.Proofs.YtnenehdecbbfcaaW.PrintMore Go.Proofs.Ytnenehdecbbfcaa.PLockAlone

theorem R_empty (W : World) (lb mb base : Nat) (hb : base ≤ W.heap.size) (hl : lb < W.heap.size) (hm : mb < W.heap.size) : Kd.R k35 35 (W.alloc (.cells #[] 35)) base (Oth lb mb) (.slice (some ⟨W.heap.size, 0, none⟩) 0 0) [] := by
  refine ⟨fun k hk => ?_, [], ?_, ?_⟩
  · have : W.heap.size = k := by simpa [Value.ownBlock] using hk
    exact ⟨by omega, by omega⟩
  · have := World.ownsRow_made (base := base) (e := 35) (size := 3) W #[] 0 hb (Nat.zero_le _) rfl
    exact this
  · exact Reps.none _ _

theorem i64_and31 (n : Int) : bits .and .i64 n 31 = n % 32 := by
  have h31 : (BitVec.ofInt 64 31).toNat = 2 ^ 5 - 1 := by decide
  have key : (BitVec.ofInt 64 n &&& BitVec.ofInt 64 31).toNat = (n % ((2 ^ 64 : Nat) : Int)).toNat % 2 ^ 5 := by
    rw [BitVec.toNat_and, BitVec.toNat_ofInt, h31, Nat.and_two_pow_sub_one_eq_mod]
  show IntKind.i64.wrap ((BitVec.ofInt 64 n &&& BitVec.ofInt 64 31).toNat : Nat) = n % 32
  rw [key, IntKind.wrap_i64]
  omega

theorem some_of_mem {L : Mx} {m : Int} (h : m ∈ L.map (·.1)) : (mget L m).isSome := by
  cases hg : mget L m with
  | none =>
    obtain ⟨p, hp, rfl⟩ := List.mem_map.1 h
    exact absurd rfl (mget_none hg p hp)
  | some v => rfl

set_option maxHeartbeats 8000000 in
set_option maxRecDepth 100000 in
theorem alone_any (a0 : Option Addr) (n cap : Nat) (ops : List (Int × Int × Int)) (m t u q : Int) (w : World) (hops : OpsAt w a0 n ops) (hm : I64 m) (ht : I64 t) (hu : I64 u) (hq : I64 q) :
    Calls Try.prog 4 #[.slice a0 n cap, .int .i64 m, .int .i64 t, .int .i64 u, .int .i64 q] w fun e w' => e = .returned (.bool true) ∧ Below w.heap.size w w' := by
  have cn := new_ w
  have cal := fun W => alive_any W
  obtain ⟨hlen, hbytes, hwf, hab⟩ := hops
  obtain ⟨lb, hlb⟩ : ∃ lb, lb = w.heap.size + 1 := ⟨_, rfl⟩
  obtain ⟨mb, hmb⟩ : ∃ mb, mb = w.heap.size := ⟨_, rfl⟩
  rw [← hlb] at cn
  have cn : Calls Try.prog 7 #[] w fun e w' => e = .returned (.pointer (some ⟨lb, 0, none⟩)) ∧ LocksAt w' lb mb 0 [] ∧ Below w.heap.size w w' := by rw [hmb]; exact cn
  have HL := Lib.hid hlb
  have HM := Lib.hid hmb
  have HA := Lib.hid hab
  have HW := Lib.hid hwf
  have HN := Lib.hid hlen
  have hcap := Lib.hid hbytes
  clear hlb hmb hab hwf hlen
  go_enter Try.func4, Try.ntmps4
  go_wp2_with (first
    | (go_at_call 7; refine cn.mono ?_; rintro e w1 ⟨rfl, l1, b1⟩)
    | (go_at_call 8; refine (cal _).mono ?_; rintro e w2 ⟨rfl, b2⟩; have l2 := l1.below b2))
  have h2 : St w w2 lb mb 0 [] := ⟨b1.trans (b2.mono b1.size), l2, by have := HL.out; omega, by have := HM.out; omega⟩
  clear l1 b1 b2 l2
  go_loopw [29] (fun i wr => ∃ (k : Nat) (made : Int) (L : Mx), k ≤ n ∧ i = .int .i64 k ∧ St w wr lb mb made L ∧ Good k made L)
    (fun i _ => n - (intOf i).toNat)
  case atStart => exact ⟨0, 0, [], Nat.zero_le _, rfl, h2, Good.nil⟩
  case round =>
    obtain ⟨k, made, L, hk, rfl, hst, hg⟩ := hrel
    by_cases hlt : k < n
    · obtain ⟨b, off, rfl, hbs, hcell⟩ := HA.out (by omega)
      have hko : k < ops.length := by have := HN.out; omega
      obtain ⟨g0, g1, g2⟩ := hcell k hko
      have c0 := (hst.B.cell (p := ⟨b, off + k * 3, none⟩) hbs).trans g0
      have c1 := (hst.B.cell (p := ⟨b, off + k * 3 + 1, none⟩) hbs).trans g1
      have c2 := (hst.B.cell (p := ⟨b, off + k * 3 + 2, none⟩) hbs).trans g2
      obtain ⟨i0, i1, i2⟩ := HW.out _ (List.getElem_mem hko)
      generalize ops[k].1 = kd at c0 i0
      generalize ops[k].2.1 = mm at c1 i1
      generalize ops[k].2.2 = tt at c2 i2
      clear g0 g1 g2 hcell
      have hb1 := ((Below.refl _ wr).alloc (Nat.le_refl _) (Obj.cells #[Value.int IntKind.i64 kd, Value.int IntKind.i64 mm, Value.int IntKind.i64 tt] 29)).alloc (by simp) (Obj.cells #[] 35)
      have hst1 := hst.below hb1
      have hlw : lb < wr.heap.size := hst.K.lt
      have hmw : mb < wr.heap.size := hst.K.map.lt
      have hR : Kd.R k35 35 ((wr.alloc (Obj.cells #[Value.int IntKind.i64 kd, Value.int IntKind.i64 mm, Value.int IntKind.i64 tt] 29)).alloc (Obj.cells #[] 35)) w.heap.size (Oth lb mb) (.slice (some ⟨wr.heap.size + 1, 0, none⟩) 0 0) [] := by
        have := R_empty (wr.alloc (Obj.cells #[Value.int IntKind.i64 kd, Value.int IntKind.i64 mm, Value.int IntKind.i64 tt] 29)) lb mb w.heap.size (by have := hst.B.size; simp; omega) (by simp; omega) (by simp; omega)
        simpa using this
      have cd := does0_any w _ lb mb k made L _ kd mm tt hst1 hg (by omega) i1 i2 hR
      have hg1 := hg.step (kind := kd) (m := mm) i2
      clear hst1 hR hb1 hst hg i0 i1 i2
      go_wp2_with (go_at_call 9; refine cd.mono ?_; rintro e w5 ⟨v5, b5, rfl, h5⟩)
      go_roundw
      case rel => exact ⟨k + 1, _, _, by omega, by go_num, h5, hg1⟩
      case measure => simp [intOf]; omega
    · obtain rfl : k = n := by omega
      have call := fun (W : World) (hW : St w W lb mb made L) => all_st hW hg
      have chas := fun (W : World) (A : Option Addr) (c : Nat) (hC : Kd.C (Kd.int .i64) W A (L.map (·.1)).length (L.map (·.1))) (hc : (L.map (·.1)).length ≤ c) =>
        pythiaref01_Has.calls ((L.map (·.1)).length + 1) A c (L.map (·.1)) m _ W hC hc (has_pure _ m (by rw [List.length_map]; have := hg.len; omega))
      simp only [List.length_map] at call chas
      have HG := Lib.hid hg
      clear hg
      generalize hb : decide (m ∈ L.map (·.1)) = hasm at chas
      cases hasm with
      | false =>
        clear hb
        go_wp2_with (first
          | (go_at_call 12; refine (call _ hst).mono ?_; rintro e w5 ⟨A5, c5, rfl, hc5, C5, h5⟩)
          | (go_at_call 15; refine (chas _ _ _ C5 hc5).mono ?_; rintro e w6 ⟨rfl, d6⟩; have h6 := h5.below d6.below))
        go_ret
        exact ⟨rfl, h6.B⟩
      | true =>
        have hsome := some_of_mem (of_decide_eq_true hb)
        have HS := Lib.hid hsome
        clear hb hsome
        by_cases h1 : t < 1
        · skip
          go_wp2_with (first
            | (go_at_call 12; refine (call _ hst).mono ?_; rintro e w5 ⟨A5, c5, rfl, hc5, C5, h5⟩)
            | (go_at_call 15; refine (chas _ _ _ C5 hc5).mono ?_; rintro e w6 ⟨rfl, d6⟩; have h6 := h5.below d6.below))
          go_ret
          exact ⟨rfl, h6.B⟩
        by_cases h2 : u < 1
        · skip
          go_wp2_with (first
            | (go_at_call 12; refine (call _ hst).mono ?_; rintro e w5 ⟨A5, c5, rfl, hc5, C5, h5⟩)
            | (go_at_call 15; refine (chas _ _ _ C5 hc5).mono ?_; rintro e w6 ⟨rfl, d6⟩; have h6 := h5.below d6.below))
          go_ret
          exact ⟨rfl, h6.B⟩
        by_cases h3 : t = u
        · subst h3
          go_wp2_with (first
            | (go_at_call 12; refine (call _ hst).mono ?_; rintro e w5 ⟨A5, c5, rfl, hc5, C5, h5⟩)
            | (go_at_call 15; refine (chas _ _ _ C5 hc5).mono ?_; rintro e w6 ⟨rfl, d6⟩; have h6 := h5.below d6.below))
          go_ret
          exact ⟨rfl, h6.B⟩
        have h3' : (t == u) = false := by simpa using h3
        have HT := Lib.hid h3
        clear h3
        have gk := HG.out.own m
        have gw := own_cases L m
        have co := fun (W : World) (hW : St w W lb mb made L) => owner_st hW hm
        obtain ⟨o, c, hoc⟩ : ∃ o c, own L m = (o, c) := ⟨_, _, rfl⟩
        rw [hoc] at gk
        simp only [hoc] at co gk
        have hw : (c = 0 ∧ o = 0) ∨ (0 < c ∧ 1 ≤ o ∧ I64 o) := by
          rcases gw with ⟨e1, _⟩ | ⟨o', c', e1, e2, e3⟩
          · have := HS.out; rw [e1] at this; simp at this
          · rw [hoc] at e2; cases e2; exact HG.out.who _ e3
        clear gw
        have HSo := Lib.hid HG.out.sorted
        by_cases ho : o = 0
        · subst ho
          obtain rfl : c = 0 := by rcases hw with h | h <;> omega
          clear hw gk
          have ct := fun (W : World) (hW : St w W lb mb made L) => take_st (x := t) hW HG.out (by omega) hm
          have hn31 := i64_and31 q
          have hq0 : 0 ≤ q % 32 ∧ q % 32 < 32 := by omega
          obtain ⟨r, hr⟩ : ∃ r : Nat, (r : Int) = q % 32 := ⟨(q % 32).toNat, by omega⟩
          rw [← hr] at hn31 hq0
          clear hr
          have H1 := Lib.hid h1
          have H2 := Lib.hid h2
          clear ct
          go_wp2_with (first
            | (go_at_call 12; refine (call _ hst).mono ?_; rintro e w5 ⟨A5, c5, rfl, hc5, C5, h5⟩)
            | (go_at_call 15; refine (chas _ _ _ C5 hc5).mono ?_; rintro e w6 ⟨rfl, d6⟩; have h6 := h5.below d6.below)
            | (go_at_call 10; refine (co _ h6).mono ?_; rintro e w7 ⟨rfl, h7⟩; clear co))
          have hk62 : k < 4611686018427387000 := by omega
          have hr31 : r ≤ 31 := by omega
          clear call chas hk62 hbytes
          have hkn := HN.out
          have hkk : k ≤ 5864062014635 := by have := hcap.out; omega
          go_loopw [18] (fun i wr => ∃ (j : Nat) (L' : Mx), j ≤ r + 1 ∧ i = .int .i64 j ∧ St w wr lb mb made L' ∧ Good (k + j) made L' ∧ Hid ((mget L' m).isSome = true) ∧ Hid (own L' m = (if j = 0 then 0 else t, (j : Int))))
            (fun i _ => r + 1 - (intOf i).toNat)
          case atStart => exact ⟨0, L, Nat.zero_le _, rfl, h7, HG.out, HS, Lib.hid (by rw [if_pos rfl]; exact hoc)⟩
          case round =>
            obtain ⟨j, L', hj, rfl, hst', hg', hs', ho'⟩ := hrel
            by_cases hlj : j < r + 1
            · have ho2 := ho'.out
              have e1 : takeE L' m t = 0 := by
                rw [takeE_some hs'.out (by have := H1.out; omega), ho2]
                refine if_neg (fun hh => ?_)
                have h01 := hh.1
                have h02 := hh.2
                simp only at h01 h02
                rw [if_neg (by omega)] at h02
                exact h02 rfl
              have e2 : takeL L' m t = mput m (t, (j : Int) + 1) L' := by unfold takeL; rw [if_pos e1, ho2]
              have g2 : Good (k + j + 1) made (mput m (t, (j : Int) + 1) L') := by rw [← e2]; exact hg'.take ht
              have c1 := fun (W : World) (hW : St w W lb mb made L') => take_st (x := t) hW hg' (by omega) hm
              simp only [e1, e2] at c1
              have e3 : takeE (mput m (t, (j : Int) + 1) L') m u = 141 := by
                rw [takeE_some (isSome_put hg'.sorted) (by have := H2.out; omega), own_put hg'.sorted]
                exact if_pos ⟨by simp only; omega, HT.out⟩
              have e4 : takeL (mput m (t, (j : Int) + 1) L') m u = mput m (t, (j : Int) + 1) L' := by unfold takeL; rw [e3, if_neg (by omega)]
              have c2 := fun (W : World) (hW : St w W lb mb made (mput m (t, (j : Int) + 1) L')) => take_st (x := u) hW g2 (by omega) hm
              simp only [e3, e4] at c2
              have s2 := Lib.hid (isSome_put (m := m) (p := (t, (j : Int) + 1)) hg'.sorted)
              have o2 := Lib.hid (own_put (m := m) (p := (t, (j : Int) + 1)) hg'.sorted)
              clear e1 e2 e3 e4 ho2
              go_wp2_with (first
                | (go_at_call 16; refine (c1 _ hst').mono ?_; rintro e w8 ⟨rfl, h8⟩; clear c1)
                | (go_at_call 16; refine (c2 _ h8).mono ?_; rintro e w9 ⟨rfl, h9⟩; clear c2))
              go_roundw
              case rel => exact ⟨j + 1, _, by omega, by go_num, h9, g2, s2, Lib.hid (by rw [o2.out, if_neg (by omega)]; simp)⟩
              case measure => simp [intOf]; omega
            · obtain rfl : j = r + 1 := by omega
              have ho2 : own L' m = (t, ((r + 1 : Nat) : Int)) := by have := ho'.out; rw [if_neg (by omega)] at this; exact this
              have HO := Lib.hid ho2
              clear ho2 ho' hlj hj
              go_wp2
              go_loopw [19] (fun i wr => ∃ (j : Nat) (L'' : Mx), j ≤ r + 1 ∧ i = .int .i64 j ∧ St w wr lb mb made L'' ∧ Good (k + (r + 1) + j) made L'' ∧ Hid ((mget L'' m).isSome = true) ∧ Hid (own L'' m = (if j = r + 1 then 0 else t, ((r + 1 : Nat) : Int) - j)))
                (fun i _ => r + 1 - (intOf i).toNat)
              case atStart => exact ⟨0, L', Nat.zero_le _, rfl, hst', hg', hs', Lib.hid (by rw [if_neg (by omega), HO.out]; simp)⟩
              case round =>
                obtain ⟨j, L2, hj, rfl, hst2, hg2, hs2, ho2'⟩ := hrel
                by_cases hlj : j < r + 1
                · have ho2 : own L2 m = (t, ((r + 1 : Nat) : Int) - j) := by have := ho2'.out; rw [if_neg (by omega)] at this; exact this
                  have e1 : takeE L2 m u = 141 := by
                    rw [takeE_some hs2.out (by have := H2.out; omega), ho2]
                    exact if_pos ⟨by simp only; omega, HT.out⟩
                  have e2 : takeL L2 m u = L2 := by unfold takeL; rw [e1, if_neg (by omega)]
                  have e3 : giveE L2 m u = 150 := by
                    rw [giveE_some hs2.out (by have := H2.out; omega), ho2]
                    exact if_pos HT.out
                  have e4 : giveL L2 m u = L2 := by unfold giveL; rw [e3, if_neg (by omega)]
                  have e5 : giveE L2 m t = 0 := by
                    rw [giveE_some hs2.out (by have := H1.out; omega), ho2]
                    exact if_neg (by simp)
                  have c1 := fun (W : World) (hW : St w W lb mb made L2) => take_st (x := u) hW hg2 (by omega) hm
                  simp only [e1, e2] at c1
                  have c2 := fun (W : World) (hW : St w W lb mb made L2) => give_st (x := u) hW hg2 (by omega) hm
                  simp only [e3, e4] at c2
                  have c3 := fun (W : World) (hW : St w W lb mb made L2) => give_st (x := t) hW hg2 (by omega) hm
                  simp only [e5] at c3
                  have g3 := hg2.give (m := m) ht
                  have o3 : Hid (own (giveL L2 m t) m = (if j + 1 = r + 1 then 0 else t, ((r + 1 : Nat) : Int) - ((j + 1 : Nat) : Int)) ∧ (mget (giveL L2 m t) m).isSome = true) := by
                    refine Lib.hid ?_
                    unfold giveL
                    rw [if_pos e5, ho2]
                    simp only
                    by_cases hx : ((r + 1 : Nat) : Int) - j = 1
                    · rw [if_pos hx, own_put hg2.sorted, if_pos (by omega)]
                      refine ⟨?_, isSome_put hg2.sorted⟩
                      rw [show ((r + 1 : Nat) : Int) - ((j + 1 : Nat) : Int) = 0 by omega]
                    · rw [if_neg hx, own_put hg2.sorted, if_neg (by omega)]
                      refine ⟨?_, isSome_put hg2.sorted⟩
                      rw [show ((r + 1 : Nat) : Int) - ((j + 1 : Nat) : Int) = ((r + 1 : Nat) : Int) - j - 1 by omega]
                  generalize giveL L2 m t = L3 at c3 g3 o3
                  clear e1 e2 e3 e4 e5 ho2
                  go_wp2_with (first
                    | (go_at_call 16; refine (c1 _ hst2).mono ?_; rintro e w8 ⟨rfl, h8⟩; clear c1)
                    | (go_at_call 17; refine (c2 _ h8).mono ?_; rintro e w9 ⟨rfl, h9⟩; clear c2)
                    | (go_at_call 17; refine (c3 _ h9).mono ?_; rintro e w10 ⟨rfl, h10⟩; clear c3))
                  go_roundw
                  case rel => first | exact ⟨j + 1, _, by omega, by go_num, h10, g3, Lib.hid o3.out.2, Lib.hid o3.out.1⟩ | ((repeat apply Exists.intro); exact ⟨⟨j + 1, _, by omega, by go_num, h10, g3, Lib.hid o3.out.2, Lib.hid o3.out.1⟩, rfl⟩)
                  case measure => simp [intOf]; omega
                · obtain rfl : j = r + 1 := by omega
                  have ho2 : own L2 m = (0, 0) := by have := ho2'.out; rw [if_pos rfl] at this; simpa using this
                  have e1 : giveE L2 m t = 150 := by
                    rw [giveE_some hs2.out (by have := H1.out; omega), ho2]
                    exact if_pos (by have := H1.out; simp only; omega)
                  have e2 : giveL L2 m t = L2 := by unfold giveL; rw [e1, if_neg (by omega)]
                  have e3 : takeE L2 m u = 0 := by
                    rw [takeE_some hs2.out (by have := H2.out; omega), ho2]
                    exact if_neg (by simp)
                  have c1 := fun (W : World) (hW : St w W lb mb made L2) => give_st (x := t) hW hg2 (by omega) hm
                  simp only [e1, e2] at c1
                  have c2 := fun (W : World) (hW : St w W lb mb made L2) => take_st (x := u) hW hg2 (by omega) hm
                  simp only [e3] at c2
                  clear e1 e2 e3 ho2 ho2'
                  go_wp2_with (first
                    | (go_at_call 17; refine (c1 _ hst2).mono ?_; rintro e w8 ⟨rfl, h8⟩; clear c1)
                    | (go_at_call 16; refine (c2 _ h8).mono ?_; rintro e w9 ⟨rfl, h9⟩; clear c2))
                  go_ret
                  exact ⟨rfl, h9.B⟩
        · have ho1 : 0 < c ∧ 1 ≤ o ∧ I64 o := hw.resolve_left (fun e => ho e.2)
          have hne : (o != 0) = true := by simpa using ho
          have ct := fun (W : World) (hW : St w W lb mb made L) => take_st (x := o) hW HG.out (by omega) hm
          have e1 : takeE L m o = 0 := by rw [takeE_some HS.out ho1.2.1, hoc]; simp
          have e2 : takeL L m o = mput m (o, c + 1) L := by unfold takeL; rw [if_pos e1, hoc]
          simp only [e1, e2] at ct
          have g2 : Good (k + 1) made (mput m (o, c + 1) L) := by rw [← e2]; exact HG.out.take ho1.2.2
          have ct2 := fun (W : World) (hW : St w W lb mb made (mput m (o, c + 1) L)) => take_st (x := t) hW g2 (by omega) hm
          have co2 := fun (W : World) (hW : St w W lb mb made (mput m (o, c + 1) L)) => owner_st hW hm
          have e3 : own (mput m (o, c + 1) L) m = (o, c + 1) := own_put HG.out.sorted
          simp only [e3] at co2
          have hcc : c + 1 ≤ 4611686018427387904 := by omega
          clear e1 e2 HG HS ho hw
          by_cases hot : o = t
          · subst hot
            clear ct2
            go_wp2_with (first
              | (go_at_call 12; refine (call _ hst).mono ?_; rintro e w5 ⟨A5, c5, rfl, hc5, C5, h5⟩)
              | (go_at_call 15; refine (chas _ _ _ C5 hc5).mono ?_; rintro e w6 ⟨rfl, d6⟩; have h6 := h5.below d6.below)
              | (go_at_call 10; refine (co _ h6).mono ?_; rintro e w7 ⟨rfl, h7⟩; clear co)
              | (go_at_call 16; refine (ct _ h7).mono ?_; rintro e w8 ⟨rfl, h8⟩)
              | (go_at_call 10; refine (co2 _ h8).mono ?_; rintro e w9 ⟨rfl, h9⟩))
            go_ret
            exact ⟨rfl, h9.B⟩
          · have hot' : (o != t) = true := by simpa using hot
            have e4 : takeE (mput m (o, c + 1) L) m t = 141 := by
              rw [takeE_some (isSome_put HSo.out) (by omega), e3, if_pos ⟨by simp only; omega, hot⟩]
            have e5 : takeL (mput m (o, c + 1) L) m t = mput m (o, c + 1) L := by unfold takeL; rw [e4, if_neg (by omega)]
            simp only [e4, e5] at ct2
            clear e4 e5 hot
            go_wp2_with (first
              | (go_at_call 12; refine (call _ hst).mono ?_; rintro e w5 ⟨A5, c5, rfl, hc5, C5, h5⟩)
              | (go_at_call 15; refine (chas _ _ _ C5 hc5).mono ?_; rintro e w6 ⟨rfl, d6⟩; have h6 := h5.below d6.below)
              | (go_at_call 10; refine (co _ h6).mono ?_; rintro e w7 ⟨rfl, h7⟩; clear co)
              | (go_at_call 16; refine (ct _ h7).mono ?_; rintro e w8 ⟨rfl, h8⟩; clear ct)
              | (go_at_call 16; refine (ct2 _ h8).mono ?_; rintro e w9 ⟨rfl, h9⟩; clear ct2)
              | (go_at_call 10; refine (co2 _ h9).mono ?_; rintro e w10 ⟨rfl, h10⟩))
            go_ret
            exact ⟨rfl, h10.B⟩

end Go.Proofs.Ytnenehdecbbfcaa
