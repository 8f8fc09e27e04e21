/- The walk of Leave. -/
import Derived.Test.YtnenehdecbbfcaaLkC
import Derived.Test.YtnenehdecbbfcaaLkP
import Derived.Maps.AppendAt
namespace Go.Proofs.Ytnenehdecbbfcaa
open Go.RowKit Go.Maps

theorem info3 : (Try.prog.info? 3).map (fun i => (i.zero, i.size, i.bytes)) = some (some (.int .i64 0), 1, 8) := by kernel_rfl

theorem LocksAt.fr {w w' : World} {lb mb : Nat} {made : Int} {L} (h : LocksAt w lb mb made L) {row : Option Nat} (hg : w.grownBy w' row) (h1 : some lb ≠ row) (h2 : some mb ≠ row) : LocksAt w' lb mb made L :=
  ⟨(hg.block lb h.lt h1).trans h.blk, h.map.alike (hg.block mb h.map.lt h2)⟩

theorem Fr.grown {lb mb : Nat} {w wr w' : World} (h : Fr lb mb w wr) {row : Option Nat} (hg : wr.grownBy w' row) (hr : ∀ k, row = some k → w.heap.size ≤ k) : Fr lb mb w w' :=
  ⟨hg.os.trans h.os, hg.tape.trans h.tape, hg.output.trans h.output, Nat.le_trans h.size hg.size,
   fun k hk h1 h2 => (hg.block k (Nat.lt_of_lt_of_le hk h.size) (fun e => by have := hr k e.symm; omega)).trans (h.block k hk h1 h2)⟩

/-- A row of numbers, opened. -/
theorem row_open {w : World} {base n : Nat} {v : Value} {ks : List Int} (h : w.ownsRow base 3 1 v n (ks.map (Value.int .i64))) :
    (v = .slice none 0 0 ∧ n = 0 ∧ ks = []) ∨ ∃ g c cur, v = .slice (some ⟨g, 0, none⟩) n c ∧ base ≤ g ∧ w.heap[g]? = some (.cells cur 3 (0, 0)) ∧ n ≤ c ∧ ks.length = n ∧ ∀ j (hj : j < ks.length), cur[j]? = some (.int .i64 ks[j]) := by
  obtain ⟨hl, h2⟩ := h
  rw [List.length_map] at hl
  rcases h2 with ⟨rfl, rfl⟩ | ⟨g, c, cur, rfl, hg, hh, h3, h4, h5, h6⟩
  · exact .inl ⟨rfl, rfl, List.length_eq_zero_iff.1 (by omega)⟩
  · refine .inr ⟨g, c, cur, rfl, hg, hh, h3, by omega, fun j hj => ?_⟩
    have h7 : (cur.toList.take (n * 1))[j]? = (ks.map (Value.int .i64))[j]? := by rw [h6]
    rw [List.getElem?_take_of_lt (by omega), List.getElem?_map, List.getElem?_eq_getElem hj] at h7
    simpa using h7

set_option maxHeartbeats 1000000 in
set_option maxRecDepth 100000 in
theorem leave_any (w : World) (lb mb : Nat) (made t : Int) (L) (h : LocksAt w lb mb made L) (hs : msorted L) (hI : ∀ p ∈ L, I64 p.1) (hL : L.length < 1000000) :
    Calls Try.prog 18 #[.pointer (some ⟨lb, 0, none⟩), .int .i64 t] w fun e w' => ∃ v, e = .returned v ∧ w'.ownsRow w.heap.size 3 1 v (leaveK L t).length ((leaveK L t).map (Value.int .i64)) ∧
      LocksAt w' lb mb made (leaveL L t) ∧ Fr lb mb w w' := by
  have ca := all_any w lb mb made L h hs hL
  obtain ⟨i0, hi, hz0, hz1, hz2⟩ := info_parts info3
  obtain ⟨B, hB⟩ : ∃ B, B = w.heap.size := ⟨_, rfl⟩
  obtain ⟨n, hn⟩ : ∃ n, n = L.length := ⟨_, rfl⟩
  rw [← hB] at ca ⊢
  rw [← hn] at ca hL
  have hlt := h.lt
  have hlm := h.map.lt
  rw [← hB] at hlt hlm
  have HN := Lib.hid hn
  have HS := Lib.hid hs
  have HI := Lib.hid hI
  have HBB := Lib.hid hB
  clear hn hs hI hB
  go_enter Try.func18, Try.ntmps18
  go_wp2_with fail
  refine ca.mono ?_
  rintro e w1 ⟨v0, rfl, hrow, hb1⟩
  have h1 := h.below (HBB.out ▸ hb1)
  have fr1 := Fr.below (lb := lb) (mb := mb) (HBB.out ▸ hb1)
  have HR := Lib.hid hb1.size
  rcases row_open hrow with ⟨rfl, rfl, hk⟩ | ⟨g, c, cur, rfl, hg, hh, hnc, hkl, hcur⟩
  · have hL0 : L = [] := List.map_eq_nil_iff.1 hk
    subst hL0
    clear hrow hk
    go_wp2
    refine wp_loop_rounds 1 ?_
    rw [rounds_succ]
    go_wp2
    go_ret
    exact ⟨_, rfl, by simpa [leaveK] using World.ownsRow_nil _ _ _ _, h1, fr1⟩
  · clear hrow
    have HC := Lib.hid hcur
    have HK := Lib.hid hkl
    clear hcur hkl hb1
    have hgs : g < w1.heap.size := (Array.getElem?_eq_some_iff.1 hh).1
    go_wp2
    go_loopw [5, 12] (fun v i wr => ∃ k : Nat, k ≤ n ∧ i = .int .i64 k ∧ wr.ownsRow B 3 1 v (leaveK (L.take k) t).length ((leaveK (L.take k) t).map (Value.int .i64)) ∧ LocksAt wr lb mb made (leaveLk L t k) ∧ Fr lb mb w wr ∧
        wr.heap[g]? = some (.cells cur 3 (0, 0)) ∧ v.ownBlock ≠ some g ∧ B ≤ wr.heap.size)
      (fun _ i _ => n - (intOf i).toNat)
    case atStart => exact ⟨0, Nat.zero_le _, rfl, by simpa [leaveK] using World.ownsRow_nil _ _ _ _, by rw [leaveLk_zero]; exact h1, fr1, hh, by simp [Value.ownBlock], HBB.out ▸ HR.out⟩
    case round =>
      obtain ⟨k, hk, rfl, hown, hlk, hfr, hblk, hne, hBs⟩ := hrel
      by_cases hlt' : k < n
      · have hkL : k < L.length := by have := HN.out; omega
        obtain ⟨m, a, b, hp⟩ : ∃ m a b, L[k] = (m, (a, b)) := ⟨_, _, _, rfl⟩
        have HP := Lib.hid hp
        have hcell : wr.cell? ⟨g, k, none⟩ = some (.int .i64 m) := by
          simp only [World.cell?, hblk]
          have h9 := HC.out k (by simpa using hkL)
          simp only [List.getElem_map, hp] at h9
          simpa using h9
        have hm : I64 m := by have := HI.out _ (List.getElem_mem hkL); rw [hp] at this; exact this
        have hget : mget (leaveLk L t k) m = some (a, b) := by have := leaveLk_get HS.out t hkL; rw [hp] at this; exact this
        have hl := look (w := wr) hlk.map hm false
        have hw : own (leaveLk L t k) m = (a, b) := by simp [own, hget]
        rw [hw] at hl
        have c1 := hlk.cell1
        have hlb := hlk.lt
        clear hp hw hget
        have hBs1 : B ≤ wr.heap.size + 1 := by omega
        by_cases hmine : b > 0 ∧ a = t
        · obtain ⟨h2, rfl⟩ := hmine
          have hmn : mine a L[k] = true := by rw [HP.out]; simp [mine, h2]
          have HM := Lib.hid hmn
          clear hmn
          have hkey := keyOf_int_mk Try.underlying3 hm.wf
          have hlk2 := hlk.below ((Below.refl _ _).alloc (Nat.le_refl _) (Obj.cells #[Value.int IntKind.i64 a, Value.int IntKind.i64 b] 64))
          have hown2 := hown.alloc (Obj.cells #[Value.int IntKind.i64 a, Value.int IntKind.i64 b] 64)
          have hblk2 := (Below.heap_alloc wr (Obj.cells #[Value.int IntKind.i64 a, Value.int IntKind.i64 b] 64) g ((Array.getElem?_eq_some_iff.1 hblk).1)).trans hblk
          have hfr2 := hfr.trans (Fr.below ((Below.refl _ _).alloc (Nat.le_refl _) (Obj.cells #[Value.int IntKind.i64 a, Value.int IntKind.i64 b] 64)))
          have hgm : some g ≠ some mb := fun e => by cases e; omega
          have hvm : u5.ownBlock ≠ some mb := fun e => by have := (hown.lt _ e).1; omega
          have hll := leaveLk_length L a k
          have hkn := leaveK_le (L.take k) a
          have hklen : (leaveK (L.take k) a).length < 1000000 := by rw [List.length_take] at hkn; omega
          have hLn : (leaveLk L a k).length < maxLen := by unfold maxLen; have := HN.out; omega
          go_wp2_with (first
            | (at_mapUpdate; refine wpList_mapUpdate_in _ rfl _ _ _ 52 rfl 3 64 law3 Try.underlying52 _ mb (leaveLk L a k).length _ rfl hlk2.map hLn _ _ _ rfl rfl hkey (.held (encM (0, 0))) [] rfl ?_; intro w5 hown5 hturn5
               have hlk5 := turn_store (p := (0, 0)) hlk2 hown5 hturn5
               have hfr5 := hfr2.trans (Fr.turned hturn5)
               have hblk5 := (hturn5.grown.block g ((Array.getElem?_eq_some_iff.1 hblk2).1) hgm).trans hblk2
               have hrow5 := hown2.kept hturn5.grown (.inr hvm)
               have hsz5 : wr.heap.size + 1 ≤ w5.heap.size := by have := hturn5.grown.size; simpa using this
               clear hown5 hturn5)
            | (at_builtin; refine wpList_append_own_at _ rfl _ _ 38 rfl B 3 i0 (.int .i64 0) 1 8 Try.underlying38 hi hz0 hz1 hz2 rfl (by decide) _ _ _ rfl (hrow5.alloc _) ⟨w5.heap.size, 0, none⟩ 1 1 [.int .i64 m] rfl rfl (cell_one_new _ _ _) (ints_oneCell .i64 [m]) (by unfold maxLen; omega) (by omega) (by simp; omega) ?_
               intro v' w6 hown6 hgrow6 _ hloc6))
          have hsz1 : wr.heap.size ≤ w5.heap.size := by omega
          have hBo := HBB.out
          have hvB : ∀ q, u5.ownBlock = some q → w.heap.size ≤ q := fun q e => by have := (hown.lt _ e).1; omega
          have hP := HP.out
          have rel1 : w6.ownsRow B 3 1 v' (leaveK (L.take (k + 1)) a).length ((leaveK (L.take (k + 1)) a).map (Value.int .i64)) := by
            rw [leaveK_put hkL HM.out, hP]
            simpa using hown6
          have rel2 : LocksAt w6 lb mb made (leaveLk L a (k + 1)) := by
            have e1 := leaveLk_put HS.out hkL HM.out
            rw [hP] at e1
            rw [← e1]
            exact (hlk5.below ((Below.refl _ _).alloc (Nat.le_refl _) _)).fr hgrow6 (fun e => by have := hvB _ e.symm; omega) (fun e => by have := hvB _ e.symm; omega)
          have rel3 : Fr lb mb w w6 := (hfr5.trans (Fr.below ((Below.refl _ _).alloc (Nat.le_refl _) _))).grown hgrow6 hvB
          have hg5 : g < w5.heap.size := (Array.getElem?_eq_some_iff.1 hblk5).1
          have rel4 : w6.heap[g]? = some (.cells cur 3 (0, 0)) :=
            (hgrow6.block g (by simp; omega) (fun e => hne e.symm)).trans ((Below.heap_alloc _ _ g hg5).trans hblk5)
          have rel5 : v'.ownBlock ≠ some g := by
            rcases hloc6 with e | e
            · rw [e]; exact hne
            · rw [e]; simp; omega
          have rel6 : B ≤ w6.heap.size := by have := hgrow6.size; simp at this; omega
          clear hown6 hgrow6 hloc6 hlk5 hfr5 hblk5 hrow5 hsz5
          go_wp2
          go_roundw
          case rel => exact ⟨k + 1, by omega, by go_num, rel1, rel2, rel3, rel4, rel5, rel6⟩
          case measure => simp [intOf]; omega
        · have hmn : mine t L[k] = false := by
            rw [HP.out]
            unfold mine
            by_cases h2 : b > 0
            · have : a ≠ t := fun e => hmine ⟨h2, e⟩
              simp [this]
            · simp [h2]
          have e1 := leaveLk_keep hkL hmn
          have e2 := leaveK_keep hkL hmn
          have rel2 : LocksAt (wr.alloc (Obj.cells #[Value.int IntKind.i64 a, Value.int IntKind.i64 b] 64)) lb mb made (leaveLk L t (k + 1)) := by
            rw [e1]; exact hlk.below ((Below.refl _ _).alloc (Nat.le_refl _) _)
          have rel1 : (wr.alloc (Obj.cells #[Value.int IntKind.i64 a, Value.int IntKind.i64 b] 64)).ownsRow B 3 1 u5 (leaveK (L.take (k + 1)) t).length ((leaveK (L.take (k + 1)) t).map (Value.int .i64)) := by
            rw [e2]; exact hown.alloc _
          have rel3 : Fr lb mb w (wr.alloc (Obj.cells #[Value.int IntKind.i64 a, Value.int IntKind.i64 b] 64)) := hfr.trans (Fr.below ((Below.refl _ _).alloc (Nat.le_refl _) _))
          have rel4 := (Below.heap_alloc wr (Obj.cells #[Value.int IntKind.i64 a, Value.int IntKind.i64 b] 64) g ((Array.getElem?_eq_some_iff.1 hblk).1)).trans hblk
          have R1 := Lib.hid rel1
          have R4 := Lib.hid rel4
          clear e1 e2 hmn rel1 rel4 HP
          by_cases h2 : b > 0
          · have h3' : (a == t) = false := by
              have : a ≠ t := fun e => hmine ⟨h2, e⟩
              simpa using this
            clear hmine
            go_wp2
            go_roundw
            case rel => exact ⟨k + 1, by omega, by go_num, R1.out, rel2, rel3, R4.out, hne, by simp; omega⟩
            case measure => simp [intOf]; omega
          · clear hmine
            go_wp2
            go_roundw
            case rel => exact ⟨k + 1, by omega, by go_num, R1.out, rel2, rel3, R4.out, hne, by simp; omega⟩
            case measure => simp [intOf]; omega
      · obtain rfl : k = n := by omega
        have e1 : L.take k = L := by rw [HN.out]; exact List.take_length
        have e2 : leaveLk L t k = leaveL L t := by rw [HN.out]; exact leaveLk_all L t
        rw [e1] at hown
        rw [e2] at hlk
        have H1 := Lib.hid hown
        clear e1 e2 hown
        go_wp2
        go_ret
        exact ⟨_, rfl, H1.out, hlk, hfr⟩

end Go.Proofs.Ytnenehdecbbfcaa
