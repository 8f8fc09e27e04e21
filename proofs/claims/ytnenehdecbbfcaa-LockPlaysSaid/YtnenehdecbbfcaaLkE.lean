/- The walk of alive: the document's example comes true. -/
import Derived.Test.YtnenehdecbbfcaaLkD
namespace Go.Proofs.Ytnenehdecbbfcaa
open Go.RowKit Go.Maps

theorem new_at (w : World) : LocksAt ((w.alloc (.map #[] 0)).alloc (.cells #[.int .i64 0, .map (some w.heap.size)] 54)) (w.heap.size + 1) w.heap.size 0 [] := by
  refine ⟨?_, ?_⟩
  · have := heap_alloc_new (w.alloc (.map #[] 0)) (.cells #[.int .i64 0, .map (some w.heap.size)] 54)
    simpa using this
  · have h := World.ownsMap_made (H := Value) w Try.prog 3 rawE
    have h2 := World.ownsMap.alloc h (.cells #[.int .i64 0, .map (some w.heap.size)] 54)
    exact h2

theorem Fr.below_of {lb mb : Nat} {w w' wb : World} (h : Below w.heap.size w wb) (h2 : Fr lb mb wb w') (h3 : w.heap.size ≤ lb) (h4 : w.heap.size ≤ mb) : Below w.heap.size w w' :=
  ⟨h2.os.trans h.os, h2.tape.trans h.tape, h2.output.trans h.output, Nat.le_trans h.size h2.size,
   fun k hk => (h2.block k (Nat.lt_of_lt_of_le hk h.size) (by omega) (by omega)).trans (h.block k hk)⟩

theorem i64_small {x : Int} (h : -1000 ≤ x ∧ x ≤ 1000) : I64 x := ⟨by omega, by omega⟩

set_option maxHeartbeats 1000000 in
set_option maxRecDepth 100000 in
theorem alive_any (w : World) : Calls Try.prog 8 #[] w fun e w' => e = .returned (.bool true) ∧ Below w.heap.size w w' := by
  obtain ⟨lb, hlb⟩ : ∃ lb, lb = w.heap.size + 1 := ⟨_, rfl⟩
  obtain ⟨mb, hmb⟩ : ∃ mb, mb = w.heap.size := ⟨_, rfl⟩
  have H0 := new_at w
  have B0 : Below w.heap.size w ((w.alloc (.map #[] 0)).alloc (.cells #[.int .i64 0, .map (some w.heap.size)] 54)) := ((Below.refl _ _).alloc (Nat.le_refl _) _).alloc (by simp) _
  have cn : Calls Try.prog 7 #[] w fun e w' => e = .returned (.pointer (some ⟨lb, 0, none⟩)) ∧ LocksAt w' lb mb 0 [] ∧ Below w.heap.size w w' :=
    (new_any w).mono fun e w' ⟨he, hw⟩ => by
      rw [hlb, hmb]
      subst hw
      exact ⟨he, H0, B0⟩
  have HL := Lib.hid hlb
  have HM := Lib.hid hmb
  clear hlb hmb H0 B0
  go_enter Try.func8, Try.ntmps8
  go_wp2_with fail
  refine cn.mono ?_
  rintro e w1 ⟨rfl, h1, b1⟩
  have cm : ∀ W, LocksAt W lb mb 0 [] → Calls Try.prog 19 #[.pointer (some ⟨lb, 0, none⟩)] W fun e w' => e = .returned (.tuple #[.int .i64 1, .int .i64 0]) ∧ LocksAt w' lb mb 1 [(1, (0, 0))] ∧ Fr lb mb W w' :=
    fun W h => (make_any W lb mb 0 [] h (by decide) (by decide)).mono fun e w' hp => by
      rw [if_neg (by decide)] at hp
      exact hp
  have ct1 : ∀ W, LocksAt W lb mb 1 [(1, (0, 0))] → Calls Try.prog 16 #[.pointer (some ⟨lb, 0, none⟩), .int .i64 1, .int .i64 5] W fun e w' => e = .returned (.int .i64 0) ∧ LocksAt w' lb mb 1 [(1, (5, 1))] ∧ Fr lb mb W w' :=
    fun W h => take_any W lb mb 1 1 5 _ h (i64_small (by decide)) (by decide) (by decide)
  have ct2 : ∀ W, LocksAt W lb mb 1 [(1, (5, 1))] → Calls Try.prog 16 #[.pointer (some ⟨lb, 0, none⟩), .int .i64 1, .int .i64 5] W fun e w' => e = .returned (.int .i64 0) ∧ LocksAt w' lb mb 1 [(1, (5, 2))] ∧ Fr lb mb W w' :=
    fun W h => take_any W lb mb 1 1 5 _ h (i64_small (by decide)) (by decide) (by decide)
  have ct3 : ∀ W, LocksAt W lb mb 1 [(1, (5, 2))] → Calls Try.prog 16 #[.pointer (some ⟨lb, 0, none⟩), .int .i64 1, .int .i64 6] W fun e w' => e = .returned (.int .i64 141) ∧ LocksAt w' lb mb 1 [(1, (5, 2))] ∧ Fr lb mb W w' :=
    fun W h => take_any W lb mb 1 1 6 _ h (i64_small (by decide)) (by decide) (by decide)
  have cg : ∀ W, LocksAt W lb mb 1 [(1, (5, 2))] → Calls Try.prog 17 #[.pointer (some ⟨lb, 0, none⟩), .int .i64 1, .int .i64 5] W fun e w' => e = .returned (.int .i64 0) ∧ LocksAt w' lb mb 1 [(1, (5, 1))] ∧ Fr lb mb W w' :=
    fun W h => give_any W lb mb 1 1 5 _ h (i64_small (by decide)) (by decide) (by decide)
  have co : ∀ W, LocksAt W lb mb 1 [(1, (5, 1))] → Calls Try.prog 10 #[.pointer (some ⟨lb, 0, none⟩), .int .i64 1] W fun e w' => e = .returned (.tuple #[.int .i64 5, .int .i64 1]) ∧ ∃ n, w' = W.drewN n :=
    fun W h => owner_any W lb mb 1 1 _ h (i64_small (by decide))
  have cl : ∀ W, LocksAt W lb mb 1 [(1, (5, 1))] → Calls Try.prog 18 #[.pointer (some ⟨lb, 0, none⟩), .int .i64 5] W fun e w' => ∃ g c, e = .returned (.slice (some ⟨g, 0, none⟩) 1 c) ∧ w'.cell? ⟨g, 0, none⟩ = some (.int .i64 1) ∧ W.heap.size ≤ g ∧ LocksAt w' lb mb 1 [(1, (0, 0))] ∧ Fr lb mb W w' :=
    fun W h => (leave_any W lb mb 1 5 _ h (by simp [msorted]) (fun p hp => by simp at hp; subst hp; exact i64_small (by decide)) (by decide)).mono fun e w' hp => by
      obtain ⟨v, rfl, hr, h2, h3⟩ := hp
      rcases row_open hr with ⟨_, h4, _⟩ | ⟨g, c, cur, rfl, hg, hh, hnc, hkl, hcur⟩
      · exact absurd h4 (by decide)
      · refine ⟨g, c, rfl, ?_, hg, h2, h3⟩
        have := hcur 0 (by decide)
        simp only [World.cell?, hh]
        exact this
  have ct4 : ∀ W, LocksAt W lb mb 1 [(1, (0, 0))] → Calls Try.prog 16 #[.pointer (some ⟨lb, 0, none⟩), .int .i64 1, .int .i64 6] W fun e w' => e = .returned (.int .i64 0) ∧ LocksAt w' lb mb 1 [(1, (6, 1))] ∧ Fr lb mb W w' :=
    fun W h => take_any W lb mb 1 1 6 _ h (i64_small (by decide)) (by decide) (by decide)
  have ca : ∀ W, LocksAt W lb mb 1 [(1, (6, 1))] → Calls Try.prog 12 #[.pointer (some ⟨lb, 0, none⟩)] W fun e w' => ∃ A c, e = .returned (.slice A 1 c) ∧ Below W.heap.size W w' :=
    fun W h => (all_any W lb mb 1 _ h (by simp [msorted]) (by decide)).mono fun e w' hp => by
      obtain ⟨v, rfl, hr, h3⟩ := hp
      rcases row_open hr with ⟨_, h4, _⟩ | ⟨g, c, cur, rfl, hg, hh, hnc, hkl, hcur⟩
      · exact absurd h4 (by decide)
      · exact ⟨_, c, rfl, h3⟩
  have cd : ∀ W, LocksAt W lb mb 1 [(1, (6, 1))] → Calls Try.prog 20 #[.pointer (some ⟨lb, 0, none⟩), .int .i64 1] W fun e w' => e = .returned (.int .i64 150) ∧ LocksAt w' lb mb 1 [(1, (6, 1))] ∧ Fr lb mb W w' :=
    fun W h => drop_any W lb mb 1 1 _ h (i64_small (by decide))
  go_wp2_with fail
  refine (cm _ h1).mono ?_
  rintro e w2 ⟨rfl, h2, fr2⟩
  go_wp2_with fail
  refine (ct1 _ h2).mono ?_
  rintro e w3 ⟨rfl, h3, fr3⟩
  go_wp2_with fail
  refine (ct2 _ h3).mono ?_
  rintro e w4 ⟨rfl, h4, fr4⟩
  go_wp2_with fail
  refine (ct3 _ h4).mono ?_
  rintro e w5 ⟨rfl, h5, fr5⟩
  go_wp2_with fail
  refine (cg _ h5).mono ?_
  rintro e w6 ⟨rfl, h6, fr6⟩
  go_wp2_with fail
  refine (co _ h6).mono ?_
  rintro e w7 ⟨rfl, n7, rfl⟩
  have h7 : LocksAt (w6.drewN n7) lb mb 1 [(1, (5, 1))] := ⟨h6.blk, h6.map.alike rfl⟩
  have fr7 : Fr lb mb w6 (w6.drewN n7) := ⟨rfl, rfl, rfl, Nat.le_refl _, fun _ _ _ _ => rfl⟩
  generalize w6.drewN n7 = w7 at h7 fr7 ⊢
  go_wp2_with fail
  refine (cl _ h7).mono ?_
  rintro e w8 ⟨g, c, rfl, hc8, hg8, h8, fr8⟩
  go_wp2_with fail
  refine (ct4 _ h8).mono ?_
  rintro e w9 ⟨rfl, h9, fr9⟩
  have hg9 : g < w8.heap.size := World.block_lt_of_cell? _ _ hc8
  have hc9 : w9.cell? ⟨g, 0, none⟩ = some (.int .i64 1) := by
    have hgl : g ≠ lb := fun e => by have := h7.lt; omega
    have hgm : g ≠ mb := fun e => by have := h7.map.lt; omega
    exact (World.cell?_of_block (fr9.block g hg9 hgl hgm)).trans hc8
  clear hc8 hg8 hg9
  go_wp2_with fail
  refine (ca _ h9).mono ?_
  rintro e w10 ⟨A10, c10, rfl, b10⟩
  have h10 := h9.below b10
  go_wp2_with fail
  refine (cd _ h10).mono ?_
  rintro e w11 ⟨rfl, h11, fr11⟩
  go_wp2
  go_ret
  refine ⟨rfl, ?_⟩
  have hlb := HL.out
  have hmb := HM.out
  exact Fr.below_of b1 (fr2.trans (fr3.trans (fr4.trans (fr5.trans (fr6.trans (fr7.trans (fr8.trans (fr9.trans ((Fr.below b10).trans fr11))))))))) (by omega) (by omega)

end Go.Proofs.Ytnenehdecbbfcaa
