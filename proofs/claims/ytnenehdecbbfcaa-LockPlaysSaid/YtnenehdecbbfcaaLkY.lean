/- The walk of Leave of the document's locks. -/
import Derived.Test.YtnenehdecbbfcaaLkX
namespace Go.Proofs.Ytnenehdecbbfcaa
set_option linter.unusedVariables false
open Go.RowKit Go.Maps Go.Proofs.YtnenehdecbbfcaaW.PrintWords Go.Proofs.YtnenehdecbbfcaaW.PrintLast Go.Proofs.YtnenehdecbbfcaaW.PrintMore Go.Proofs.Ytnenehdecbbfcaa.PLockAlone


theorem below_grown {B : Nat} {w wr w' : World} (h : Below B w wr) {row : Option Nat} (hg : wr.grownBy w' row) (hr : ∀ k, row = some k → B ≤ k) (hB : B ≤ w.heap.size) : Below B w w' :=
  ⟨hg.os.trans h.os, hg.tape.trans h.tape, hg.output.trans h.output, Nat.le_trans h.size hg.size,
   fun k hk => (hg.block k (by have := h.size; omega) (fun e => by have := hr k e.symm; omega)).trans (h.block k hk)⟩

set_option maxHeartbeats 2000000 in
set_option maxRecDepth 100000 in
theorem refleave_any (w0 w : World) (lb mb N : Nat) (made : Int) (L : Mx) (u : Value) (t : Int) (g : Good N made L) (hN : N < 5864062014804) (ht : I64 t)
    (hlb : lb < w.heap.size) (hmb : mb < w.heap.size) (hb0 : w0.heap.size ≤ w.heap.size) (hu : Kd.R k35 35 w w0.heap.size (Oth lb mb) u (Mof made L)) :
    Calls Try.prog 25 #[u, .int .i64 t] w fun e w' => ∃ v A c, e = .returned (.tuple #[v, .slice A (leaveK L t).length c]) ∧ Kd.R k35 35 w' w0.heap.size (Oth lb mb) v (Mof made (leaveL L t)) ∧
      (leaveK L t).length ≤ c ∧ Kd.C (Kd.int .i64) w' A (leaveK L t).length (leaveK L t) ∧ Below w.heap.size w w' := by
  obtain ⟨i0, hi, hz0, hz1, hz2⟩ := info_parts info3
  obtain ⟨Bs, hB⟩ : ∃ B, B = w.heap.size := ⟨_, rfl⟩
  obtain ⟨B0, hB0⟩ : ∃ B, B = w0.heap.size := ⟨_, rfl⟩
  rw [← hB] at hlb hmb hb0 ⊢
  rw [← hB0] at hb0 hu ⊢
  obtain ⟨A, c, rfl, hc, C0⟩ := Kd.R_reads hu
  have hml := Mof_len made L
  have hmd := g.made
  have hmn : made.toNat < 5864062014804 := by omega
  obtain ⟨n, hn⟩ : ∃ n, n = made.toNat := ⟨_, rfl⟩
  rw [← hn] at hmn hml
  rw [hml] at C0 hc hu ⊢
  have hlen := g.len
  have G := Lib.hid g
  have HN := Lib.hid hn
  have HBB := Lib.hid hB
  have HU := Lib.hid hu
  have HC0 := Lib.hid C0
  clear g hn hB hB0 hu C0 hml
  go_enter Try.func25, Try.ntmps25
  go_wp2
  go_loopw [6, 7] (fun v i wr => ∃ k : Nat, k ≤ n ∧ i = .int .i64 k ∧ wr.ownsRow Bs 3 1 v (upto L t k).length ((upto L t k).map (Value.int .i64)) ∧ Below Bs w wr)
    (fun _ i _ => n - (intOf i).toNat)
  case atStart => exact ⟨0, Nat.zero_le _, rfl, by rw [show ((0 : Nat) : Int) = 0 from rfl, upto_zero G.out t]; exact ⟨rfl, .inr ⟨w.heap.size, 0, #[], rfl, by rw [HBB.out]; exact Nat.le_refl _, blk_new w _, Nat.le_refl _, by unfold maxLen; omega, rfl, rfl⟩⟩, by rw [HBB.out]; exact below_alloc (Below.refl _ _) _⟩
  case round =>
    obtain ⟨k, hk, rfl, hown, hbel⟩ := hrel
    have hsz := hbel.size
    have hwsz : Bs ≤ wr.heap.size := by have := HBB.out; omega
    have hmn1 : made = (n : Int) := by have := HN.out; omega
    have hul := upto_le L t k
    by_cases hlt : k < n
    · have C1 := Kd.C_below HC0.out (HBB.out ▸ hbel)
      obtain ⟨ad, rfl, c0, c1, c2⟩ := at_T35 C1 (k : Int) (by omega) (by omega)
      rw [Mof_rd made L k (by omega) (by omega)] at c0 c1 c2
      simp only [Int.toNat_natCast] at c0 c1 c2
      have hus := upto_succ G.out.sorted t k
      clear C1
      cases hg : mget L ((k : Int) + 1) with
      | none =>
        rw [hg] at c0 c1 c2 hus
        simp only [cellOf, List.append_nil] at c0 c1 c2 hus
        have R1 := Lib.hid hown
        have US := Lib.hid hus
        clear hown hus hg
        go_wp2
        go_roundw
        case rel => exact ⟨k + 1, by omega, by go_num, by have := US.out; rw [show ((k + 1 : Nat) : Int) = (k : Int) + 1 by omega, this]; exact R1.out, hbel⟩
        case measure => simp [intOf]; omega
      | some p =>
        obtain ⟨o, b⟩ := p
        have hb := G.out.cnt _ (mget_mem hg)
        simp only at hb
        rw [hg] at c0 c1 c2 hus
        simp only [cellOf] at c0 c1 c2 hus
        have R1 := Lib.hid hown
        by_cases h2 : b > 0
        · by_cases h3 : o = t
          · subst h3
            have hm : mine o ((k : Int) + 1, (o, b)) = true := by simp [mine, h2]
            rw [hm, if_pos rfl] at hus
            have US := Lib.hid hus
            clear hus hm hg
            have hulen : (upto L o k).length < 1000000 := by omega
            go_wp2_with (first
              | (at_builtin; refine wpList_append_own_at _ rfl _ _ 38 rfl Bs 3 i0 (.int .i64 0) 1 8 Try.underlying38 hi hz0 hz1 hz2 rfl (by decide) u6 _ _ rfl (hown.alloc _) ⟨wr.heap.size, 0, none⟩ 1 1 [.int .i64 ((k : Int) + 1)] rfl rfl (cell_one_new _ _ _) (ints_oneCell .i64 [(k : Int) + 1]) (by unfold maxLen; omega) (by omega) (by simp; omega) ?_
                 intro v' w6 hown6 hgrow6 _ hloc6))
            have hvB : ∀ q, u6.ownBlock = some q → Bs ≤ q := fun q e => (hown.lt _ e).1
            have rel2 : Below Bs w w6 := below_grown (hbel.alloc hwsz _) hgrow6 hvB (Nat.le_of_eq HBB.out)
            have rel1 : w6.ownsRow Bs 3 1 v' (upto L o ((k + 1 : Nat) : Int)).length ((upto L o ((k + 1 : Nat) : Int)).map (Value.int .i64)) := by
              rw [show ((k + 1 : Nat) : Int) = (k : Int) + 1 by omega, US.out]
              simpa using hown6
            clear hown6 hgrow6 hloc6 hown
            go_wp2
            go_roundw
            case rel => exact ⟨k + 1, by omega, by go_num, rel1, rel2⟩
            case measure => simp [intOf]; omega
          · have hm : mine t ((k : Int) + 1, (o, b)) = false := by simp [mine, h3]
            rw [hm, if_neg (by decide), List.append_nil] at hus
            have US := Lib.hid hus
            have h3' : (o == t) = false := by simpa using h3
            clear hus hm hg hown h3
            go_wp2
            go_roundw
            case rel => exact ⟨k + 1, by omega, by go_num, by have := US.out; rw [show ((k + 1 : Nat) : Int) = (k : Int) + 1 by omega, this]; exact R1.out, hbel⟩
            case measure => simp [intOf]; omega
        · have hm : mine t ((k : Int) + 1, (o, b)) = false := by simp [mine, h2]
          rw [hm, if_neg (by decide), List.append_nil] at hus
          have US := Lib.hid hus
          clear hus hm hg hown
          go_wp2
          go_roundw
          case rel => exact ⟨k + 1, by omega, by go_num, by have := US.out; rw [show ((k + 1 : Nat) : Int) = (k : Int) + 1 by omega, this]; exact R1.out, hbel⟩
          case measure => simp [intOf]; omega
    · obtain rfl : k = n := by omega
      rw [← hmn1, upto_all G.out] at hown
      rename World => w1
      have R2 : Kd.R (Kd.int .i64) 3 w1 Bs (fun _ => True) u6 (leaveK L t) := Kd.R_of_own hown (fun _ _ => trivial)
      obtain ⟨A2, c2, rfl, hc2, C2⟩ := Kd.R_reads R2
      have hkl := leaveK_le L t
      have HC2 := Lib.hid C2
      have HU1 := Lib.hid (Kd.R_below HU.out (HBB.out ▸ hbel))
      have HBL := Lib.hid hbel
      have HS := Lib.hid hsz
      clear hown R2 C2 hbel hsz
      go_wp2
      go_loopw [0, 8] (fun v i wz => ∃ j : Nat, j ≤ (leaveK L t).length ∧ i = .int .i64 j ∧ Kd.R k35 35 wz B0 (Oth lb mb) v (Mof made (zeroed L ((leaveK L t).take j))) ∧ Below w1.heap.size w1 wz)
        (fun _ i _ => (leaveK L t).length - (intOf i).toNat)
      case atStart => exact ⟨0, Nat.zero_le _, rfl, by rw [List.take_zero, zeroed_nil]; exact HU1.out, Below.refl _ _⟩
      case round =>
        obtain ⟨j, hj, rfl, hR, hbz⟩ := hrel
        have hzs := hbz.size
        have C3 := Kd.C_below HC2.out hbz
        by_cases hlt2 : j < (leaveK L t).length
        · obtain ⟨ad2, rfl, d0⟩ := Kd.at_int C3 (j : Int) (by omega) (by omega)
          simp only [Int.toNat_natCast] at d0
          obtain ⟨m, hm⟩ : ∃ m, m = rd (leaveK L t) (j : Int) := ⟨_, rfl⟩
          rw [← hm] at d0
          clear C3
          have hget : (leaveK L t)[j]? = some m := by rw [hm]; simp [rd, List.getElem?_eq_getElem hlt2]
          have hmem : m ∈ leaveK L t := List.mem_of_getElem? hget
          obtain ⟨p, hp, hp1⟩ : ∃ p, (m, p) ∈ L ∧ True := by
            unfold leaveK at hmem
            obtain ⟨q, hq, rfl⟩ := List.mem_map.1 hmem
            exact ⟨q.2, (List.mem_filter.1 hq).1, trivial⟩
          have hkey := G.out.key _ hp
          simp only at hkey
          have hsome : (mget L m).isSome := by rw [mget_of_mem G.out.sorted hp]; rfl
          have hI : I64 m := ⟨by omega, by omega⟩
          have hput : pythiaref15_put.f (made.toNat + 1) (Mof made (zeroed L ((leaveK L t).take j))) m true 0 0 = some (Mof made (zeroed L ((leaveK L t).take (j + 1)))) := by
            rw [put_pure _ _ _ _ _ (by rw [Mof_len]; omega) hI (by omega) _ (by rw [Mof_len]; omega), zeroed_step hsome, List.take_add_one, hget]
            rfl
          obtain ⟨A3, c3, rfl, hc3, C4⟩ := Kd.R_reads hR
          have cp := fun (W : World) (hW : Below wr.heap.size wr W) => pythiaref15_put.calls (made.toNat + 1) A3 c3 _ m true 0 0 _ W (Kd.C_below C4 hW) hc3 hput
          have hlk : made.toNat = k := by omega
          simp only [Mof_len, hlk] at cp hc3 ⊢
          clear hR hput hm hget hmem
          go_wp2_with fail
          refine (cp _ (Below.refl _ _)).mono ?_
          rintro e w5 ⟨v5, rfl, hr5, hb5⟩
          have rel3 : Kd.R k35 35 w5 B0 (Oth lb mb) v5 (Mof made (zeroed L ((leaveK L t).take (j + 1)))) :=
            Kd.R_mono (Kd.R_lower (Kd.R_bound hr5) (by omega)) fun q hq => ⟨by have := hq.2.1; omega, by have := hq.2.1; omega⟩
          have rel4 : Below w1.heap.size w1 w5 := below_then hbz hzs hb5
          go_wp2
          go_roundw
          case rel => exact ⟨j + 1, by omega, by go_num, rel3, rel4⟩
          case measure => simp [intOf]; omega
        · obtain rfl : j = (leaveK L t).length := by omega
          rw [List.take_length, zeroed_all G.out.sorted] at hR
          clear hlt2
          go_wp2
          go_ret2
          exact ⟨_, _, _, rfl, hR, hc2, C3, below_then HBL.out hwsz hbz⟩

end Go.Proofs.Ytnenehdecbbfcaa
