/- The walk of LockPlays. -/
import Derived.Test.YtnenehdecbbfcaaLkZ
import Derived.Test.YtnenehdecbbfcaaLkAl
namespace Go.Proofs.Ytnenehdecbbfcaa
set_option linter.unusedVariables false
open Go.RowKit Go.Maps Go.Proofs.YtnenehdecbbfcaaW.PrintWords Go.Proofs.YtnenehdecbbfcaaW.PrintLast Go.Proofs.YtnenehdecbbfcaaW.PrintMore Go.Proofs.Ytnenehdecbbfcaa.PLockAlone

theorem get_own {N : Nat} {made : Int} {L : Mx} (g : Good N made L) (hN : N < 5864062014804) (m : Int) (hm : I64 m) :
    ∃ b1 b2, pythiaref15_Get.f (Mof made L) m = some (b1, (own L m).1, (own L m).2, b2) := by
  rw [get_pure g (by omega) m hm]
  unfold own
  cases mget L m with
  | none => exact ⟨_, _, rfl⟩
  | some p => exact ⟨_, _, rfl⟩

theorem all_two (w : World) (lb mb N : Nat) (made : Int) (L : Mx) (h : LocksAt w lb mb made L) (g : Good N made L) :
    Calls Try.prog 12 #[.pointer (some ⟨lb, 0, none⟩)] w fun e w' => Below w.heap.size w w' ∧ ((L = [] ∧ e = .returned (.slice none 0 0)) ∨
      ∃ gb c cur, e = .returned (.slice (some ⟨gb, 0, none⟩) L.length c) ∧ w.heap.size ≤ gb ∧ w'.heap[gb]? = some (.cells cur 3 (0, 0)) ∧ L.length ≤ cur.size ∧ L.length ≤ c ∧ Kd.C (Kd.int .i64) w' (some ⟨gb, 0, none⟩) L.length (L.map (·.1))) := by
  refine (all_any w lb mb made L h g.sorted (by have := g.len; omega)).mono fun e w' ⟨v, he, hr, hb⟩ => ⟨hb, ?_⟩
  have hr' : w'.ownsRow w.heap.size 3 1 v (L.map (·.1)).length ((L.map (·.1)).map (Value.int .i64)) := by rw [List.length_map]; exact hr
  have R2 : Kd.R (Kd.int .i64) 3 w' w.heap.size (fun _ => True) v (L.map (·.1)) := Kd.R_of_own hr' (fun _ _ => trivial)
  rcases row_open hr with ⟨rfl, hn, hk⟩ | ⟨gb, c, cur, rfl, hg, hh, hnc, hkl, hcur⟩
  · exact .inl ⟨List.length_eq_zero_iff.1 hn, he⟩
  · obtain ⟨_, hc, C2⟩ := Kd.R_reads' R2
    rw [List.length_map] at C2 hkl
    refine .inr ⟨gb, c, cur, he, hg, hh, ?_, hc, C2⟩
    rcases Nat.eq_zero_or_pos L.length with h0 | h0
    · omega
    · have := hcur (L.length - 1) (by rw [List.length_map]; omega)
      have := (Array.getElem?_eq_some_iff.1 this).1
      omega

set_option maxHeartbeats 8000000 in
set_option maxRecDepth 100000 in
theorem plays_any (a0 : Option Addr) (n cap : Nat) (ops : List (Int × Int × Int)) (w : World) (hops : OpsAt w a0 n ops) :
    Calls Try.prog 3 #[.slice a0 n cap] w fun e w' => e = .returned (.bool true) ∧ Below w.heap.size w w' := by
  have cn := new_ w
  have cal := fun W => alive_any W
  obtain ⟨hlen, hbytes, hwf, hab⟩ := hops
  obtain ⟨lb, hlb⟩ : ∃ lb, lb = w.heap.size + 1 := ⟨_, rfl⟩
  obtain ⟨mb, hmb⟩ : ∃ mb, mb = w.heap.size := ⟨_, rfl⟩
  rw [← hlb] at cn
  have cn : Calls Try.prog 7 #[] w fun e w' => e = .returned (.pointer (some ⟨lb, 0, none⟩)) ∧ LocksAt w' lb mb 0 [] ∧ Below w.heap.size w w' := by rw [hmb]; exact cn
  have HL := Lib.hid hlb
  have HM := Lib.hid hmb
  have HA := Lib.hid hab
  have HW := Lib.hid hwf
  have HN := Lib.hid hlen
  have hcap := Lib.hid hbytes
  clear hlb hmb hab hwf hlen
  go_enter Try.func3, Try.ntmps3
  go_wp2_with (first
    | (go_at_call 7; refine cn.mono ?_; rintro e w1 ⟨rfl, l1, b1⟩)
    | (go_at_call 8; refine (cal _).mono ?_; rintro e w2 ⟨rfl, b2⟩; have l2 := l1.below b2))
  have h2 : St w w2 lb mb 0 [] := ⟨b1.trans (b2.mono b1.size), l2, by have := HL.out; omega, by have := HM.out; omega⟩
  clear l1 b1 b2 l2
  go_loopw [4, 25] (fun v i wr => ∃ (k : Nat) (made : Int) (L : Mx), k ≤ n ∧ i = .int .i64 k ∧ St w wr lb mb made L ∧ Good k made L ∧ Kd.R k35 35 wr w.heap.size (Oth lb mb) v (Mof made L))
    (fun _ i _ => n - (intOf i).toNat)
  case atStart => exact ⟨0, 0, [], Nat.zero_le _, rfl, h2.below (below_alloc (Below.refl _ _) _), Good.nil, by rw [Mof_zero]; exact R_empty w2 lb mb w.heap.size h2.B.size h2.K.lt h2.K.map.lt⟩
  case round =>
    obtain ⟨k, made, L, hk, rfl, hst, hg, hR⟩ := hrel
    by_cases hlt : k < n
    · obtain ⟨b, off, rfl, hbs, hcell⟩ := HA.out (by omega)
      have hko : k < ops.length := by have := HN.out; omega
      obtain ⟨g0, g1, g2⟩ := hcell k hko
      have c0 := (hst.B.cell (p := ⟨b, off + k * 3, none⟩) hbs).trans g0
      have c1 := (hst.B.cell (p := ⟨b, off + k * 3 + 1, none⟩) hbs).trans g1
      have c2 := (hst.B.cell (p := ⟨b, off + k * 3 + 2, none⟩) hbs).trans g2
      obtain ⟨i0, i1, i2⟩ := HW.out _ (List.getElem_mem hko)
      generalize ops[k].1 = kd at c0 i0
      generalize ops[k].2.1 = mm at c1 i1
      generalize ops[k].2.2 = tt at c2 i2
      clear g0 g1 g2 hcell
      have hb1 := (Below.refl _ wr).alloc (Nat.le_refl _) (Obj.cells #[Value.int IntKind.i64 kd, Value.int IntKind.i64 mm, Value.int IntKind.i64 tt] 29)
      have hst1 := hst.below hb1
      have hlw : lb < wr.heap.size := hst.K.lt
      have hmw : mb < wr.heap.size := hst.K.map.lt
      have cd := does_any w _ lb mb k made L _ kd mm tt hst1 hg (by omega) i1 i2 (Kd.R_alloc hR _)
      have hg1 := hg.step (kind := kd) (m := mm) i2
      have hgN := hg1
      revert hg1 cd hgN
      generalize stepM kd made L = made'
      generalize stepL kd mm tt made L = L'
      intro cd hg1 hgN
      obtain ⟨b1, b2, hgp⟩ := get_own hg1 (by omega) mm i1
      generalize hown : own L' mm = ow at hgp
      obtain ⟨o, c⟩ := ow
      have cO := fun (W : World) (hW : LocksAt W lb mb made' L') => owner_any W lb mb made' mm L' hW i1
      rw [hown] at cO
      have cG := fun (W : World) (A : Option Addr) (cc : Nat) (hC : Kd.C k35 W A (Mof made' L').length (Mof made' L')) (hc : (Mof made' L').length ≤ cc) => pythiaref15_Get.calls A cc _ mm _ _ _ _ W hC hc hgp
      have cA := fun (W : World) (hW : LocksAt W lb mb made' L') => all_two W lb mb (k + 1) made' L' hW hg1
      have cR := fun (W : World) (A : Option Addr) (cc : Nat) (hC : Kd.C k35 W A (Mof made' L').length (Mof made' L')) (hc : (Mof made' L').length ≤ cc) => pythiaref15_All.calls (k + 2) A cc _ _ W hC hc (all_pure hg1 (by omega) (k + 2) (by omega))
      have cS := fun (W : World) (A : Option Addr) (cc : Nat) (A' : Option Addr) (cc' : Nat) (hC : Kd.C (Kd.int .i64) W A (L'.map (·.1)).length (L'.map (·.1))) (hc : (L'.map (·.1)).length ≤ cc) (hC' : Kd.C (Kd.int .i64) W A' (L'.map (·.1)).length (L'.map (·.1))) (hc' : (L'.map (·.1)).length ≤ cc') =>
        pythiaref01_SameInts.calls ((L'.map (·.1)).length + 1) A cc (L'.map (·.1)) A' cc' (L'.map (·.1)) true W hC hc hC' hc' (same_self _ (by rw [List.length_map]; have := hg1.len; omega))
      simp only [List.length_map] at cS
      have hub : ∀ q, u4.ownBlock = some q → q < wr.heap.size := fun q hq => (Kd.R_bound hR).1 q hq |>.2.2.1
      have HG := Lib.hid hg1
      have hlen8 := hg1.len
      clear hst1 hb1 hst hg i0 i2 hgp hown hg1 hgN
      have HR0 := Lib.hid hR
      clear hR
      go_wp2_with fail
      refine cd.mono ?_
      rintro e w5 ⟨v5, rfl, h5, R5, K5⟩
      have x1 : w5.cell? ⟨wr.heap.size, 1, none⟩ = some (.int .i64 mm) := by
        refine (World.cell?_of_block (K5.2 wr.heap.size (by simp) (fun hq => ?_))).trans ?_
        · rcases hq with e | e | e
          · omega
          · omega
          · have := hub _ e.symm; omega
        · simp
      have hs5 : wr.heap.size < w5.heap.size := by have := K5.1; simp at this; omega
      clear cd K5
      go_wp2_with fail
      refine (cO _ h5.K).mono ?_
      rintro e w6 ⟨rfl, nn, hw⟩
      have b6 : Below w5.heap.size w5 w6 := by subst hw; exact pw_below_drewN (Below.refl _ _) _
      have x1 : w6.cell? ⟨wr.heap.size, 1, none⟩ = some (.int .i64 mm) := (b6.cell hs5).trans x1
      have h6 := h5.below b6
      have R6 := Kd.R_below R5 b6
      obtain ⟨A5, c5, rfl, hc5, C5⟩ := Kd.R_reads R6
      clear hw b6 h5 R5
      go_wp2_with fail
      refine (cG _ _ _ C5 hc5).mono ?_
      rintro e w7 ⟨rfl, b7⟩
      have h7 := h6.below b7
      have R7 := Kd.R_below R6 b7
      have C7 := Kd.C_below C5 b7
      clear h6 R6 C5 b7 x1
      go_wp2_with fail
      have ba := (Below.refl w7.heap.size w7).alloc (Nat.le_refl _) (Obj.cells #[Value.bool b1, Value.int IntKind.i64 o, Value.int IntKind.i64 c] 35)
      have h7 := h7.below ba
      have R7 := Kd.R_below R7 ba
      have C7 := Kd.C_below C7 ba
      refine (cA _ h7.K).mono ?_
      rintro e w8 ⟨b8, hor⟩
      have h8 := h7.below b8
      have R8 := Kd.R_below R7 b8
      have C8 := Kd.C_below C7 b8
      have y1 : w8.cell? ⟨w7.heap.size, 1, none⟩ = some (.int .i64 o) := (b8.cell (p := ⟨w7.heap.size, 1, none⟩) (by simp)).trans (by simp)
      have y2 : w8.cell? ⟨w7.heap.size, 2, none⟩ = some (.int .i64 c) := (b8.cell (p := ⟨w7.heap.size, 2, none⟩) (by simp)).trans (by simp)
      have hs8 : w7.heap.size < w8.heap.size := by have := b8.size; simp at this; omega
      clear C7 ba
      rcases hor with ⟨rfl, rfl⟩ | ⟨gb, ca, cur, rfl, hgb, hh, hcur, hca, CA⟩
      · clear R7 b8
        go_wp2_with fail
        refine (cR _ _ _ C8 hc5).mono ?_
        rintro e w9 ⟨v9, rfl, r9, b9⟩
        have h9 := h8.below b9
        have R9 := Kd.R_below R8 b9
        obtain ⟨A9, c9, rfl, hc9, C9⟩ := Kd.R_reads r9
        clear C8 R8 h8
        have cs := cS _ none 0 A9 c9 (Kd.C_nil _ _) (Nat.le_refl _) (by simpa using C9) (by simp)
        simp only [List.length_nil] at cs
        have y1 := (b9.cell (p := ⟨w7.heap.size, 1, none⟩) hs8).trans y1
        have y2 := (b9.cell (p := ⟨w7.heap.size, 2, none⟩) hs8).trans y2
        have hs9 := b9.size
        clear b9 C9 r9
        go_wp2_with fail
        refine cs.mono ?_
        rintro e w10 ⟨rfl, d10⟩
        have h10 := h9.below d10.below
        have R10 := Kd.R_below R9 d10.below
        clear h9 R9 d10 cs
        go_wp2
        refine wp_loop_rounds 1 ?_
        rw [rounds_succ]
        go_wp2
        go_roundw
        case rel => exact ⟨k + 1, _, _, by omega, by go_num, h10, HG.out, R10⟩
        case measure => simp [intOf]; omega
      · go_wp2_with fail
        refine (cR _ _ _ C8 hc5).mono ?_
        rintro e w9 ⟨v9, rfl, r9, b9⟩
        have h9 := h8.below b9
        have R9 := Kd.R_below R8 b9
        obtain ⟨A9, c9, rfl, hc9, C9⟩ := Kd.R_reads r9
        rw [List.length_map] at hc9 C9
        clear C8 R8 h8
        have cs := cS _ (some ⟨gb, 0, none⟩) ca A9 c9 (Kd.C_below CA b9) hca C9 hc9
        have y1 := (b9.cell (p := ⟨w7.heap.size, 1, none⟩) hs8).trans y1
        have y2 := (b9.cell (p := ⟨w7.heap.size, 2, none⟩) hs8).trans y2
        have hh9 := blk_below hh b9
        have hs9 := b9.size
        rw [List.length_map]
        have hb9 := below_then b8 b8.size b9
        clear b9 C9 r9 hh b8
        go_wp2_with fail
        refine cs.mono ?_
        rintro e w10 ⟨rfl, d10⟩
        have h10 := h9.below d10.below
        have R10 := Kd.R_below R9 d10.below
        have hh10 := blk_below hh9 d10.below
        have hb10 := below_then hb9 hb9.size d10.below
        clear h9 R9 d10 cs hh9 h10 R10 hb9
        go_wp2
        rename World => w10
        go_loopw [76] (fun i wz => ∃ (j : Nat) (cu : Array Value), j ≤ L'.length ∧ i = .int .i64 j ∧ Below (w7.alloc (Obj.cells #[Value.bool b1, Value.int IntKind.i64 o, Value.int IntKind.i64 c] 35)).heap.size (w7.alloc (Obj.cells #[Value.bool b1, Value.int IntKind.i64 o, Value.int IntKind.i64 c] 35)) wz ∧ wz.heap[gb]? = some (.cells cu 3 (0, 0)) ∧ L'.length ≤ cu.size)
          (fun i _ => L'.length - (intOf i).toNat)
        case atStart => exact ⟨0, cur, Nat.zero_le _, rfl, hb10, hh10, hcur⟩
        case round =>
          obtain ⟨j, cu, hj, rfl, hbz, hz, hcu⟩ := hrel
          by_cases hlt2 : j < L'.length
          · have z1 := (blk_cell hz j).trans (Array.getElem?_eq_getElem (show j < cu.size by omega))
            have z2 := blk_frozen hz j
            have rel1 := below_set hbz hgb (j := j) (v := Value.int .i64 (-1))
            have rel2 := blk_set hz j (Value.int .i64 (-1))
            have hcu2 : L'.length ≤ (cu.setIfInBounds j (Value.int .i64 (-1))).size := by simpa using hcu
            go_wp2
            go_roundw
            case rel => exact ⟨j + 1, _, by omega, by go_num, rel1, rel2, hcu2⟩
            case measure => simp [intOf]; omega
          · have h11 := h7.below hbz
            have R11 := Kd.R_below R7 hbz
            clear R7 h7 hbz
            go_wp2
            go_roundw
            case rel => exact ⟨k + 1, _, _, by omega, by go_num, h11, HG.out, R11⟩
            case measure => simp [intOf]; omega
    · clear hR
      go_wp2
      go_ret
      exact ⟨rfl, hst.B⟩

end Go.Proofs.Ytnenehdecbbfcaa
