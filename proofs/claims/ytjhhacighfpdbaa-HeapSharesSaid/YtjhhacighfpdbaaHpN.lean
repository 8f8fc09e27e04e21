/- The walks of greatest, given, cost, Clone. -/
import Derived.Test.YtjhhacighfpdbaaHpK
namespace Go.Proofs.Ytjhhacighfpdbaa
set_option linter.unusedVariables false
open Go.RowKit Go.Maps Go.Proofs.YtjhhacighfpdbaaW.PrintWords Go.Proofs.YtjhhacighfpdbaaW.PrintLast Go.Proofs.YtjhhacighfpdbaaW.PrintMore Go.Proofs.Ytjhhacighfpdbaa.PHeapShares Go.Extern
attribute [local go_sem] max2_int min2_int max_two min_two

/-- The greatest of some, at least m. -/
def topL (m : Int) : List Int → Int
  | [] => m
  | a :: r => topL (max m a) r

theorem outAt_cell {w : World} {base : Nat} {v : Value} {vs : List Int} (h : OutAt w base v vs) {k : Nat} (hk : k < vs.length) : ∃ g c, v = .slice (some ⟨g, 0, none⟩) vs.length c ∧ g < w.heap.size ∧ base ≤ g ∧ w.cell? ⟨g, k, none⟩ = some (.int .i64 vs[k]) := by
  have h0 := h
  unfold OutAt at h0
  rcases h0.2 with ⟨_, e⟩ | ⟨g, cap, cur, rfl, hbg, hg, h1, h2, _⟩
  · omega
  · refine ⟨g, cap, rfl, blk_lt hg, hbg, ?_⟩
    rw [World.ownsRow.cellAt h0 k (by omega)]
    simp [List.getElem?_eq_getElem hk]

theorem greatest_any (vs : List Int) (w : World) (base : Nat) (v : Value) (hC : OutAt w base v vs) (hl : vs.length ≤ 1000000) :
    Calls Try.prog 29 #[v] w fun e w' => e = .returned (.int .i64 (topL 0 vs)) ∧ w = w' := by
  obtain ⟨A, c, rfl⟩ : ∃ A c, v = .slice A vs.length c := own_slice hC
  go_enter Try.func29, Try.ntmps29
  go_wp2
  go_loopw [8, 3] (fun i t wr => ∃ (k : Nat) (m : Int), k ≤ vs.length ∧ i = .int .i64 k ∧ t = .int .i64 m ∧ topL 0 vs = topL m (vs.drop k) ∧ wr = w)
    (fun i _ _ => vs.length - (intOf i).toNat)
  case atStart => exact ⟨0, 0, Nat.zero_le _, rfl, rfl, rfl, rfl⟩
  case round =>
    obtain ⟨k, m, hk, rfl, rfl, hm, rfl⟩ := hrel
    by_cases hlt : k < vs.length
    · obtain ⟨g, cap, hg, g1, g2, g3⟩ := outAt_cell hC hlt
      simp only [Value.slice.injEq, true_and] at hg
      obtain ⟨rfl, rfl⟩ := hg
      rw [List.drop_eq_getElem_cons hlt, topL] at hm
      generalize vs[k] = d at g3 hm
      go_wp2
      go_roundw
      case rel =>
        have hmx : (if m < d then d else m) = max m d := by rw [Int.max_def]; split <;> split <;> omega
        exact ⟨k + 1, max m d, by omega, by go_num, by rw [hmx], hm, trivial⟩
      case measure => simp [intOf]; omega
    · obtain rfl : k = vs.length := by omega
      rw [List.drop_of_length_le (Nat.le_refl _), topL] at hm
      go_wp2
      go_ret
      exact ⟨by rw [hm]; rfl, rfl⟩

theorem given_any (E : List Int) (v : Int) (w : World) (ev : Value) (hE : EnvRow w ev E) (hv : 1 ≤ v ∧ v ≤ 1000000) (hl : E.length ≤ 1000000) :
    Calls Try.prog 30 #[.int .i64 v, ev] w fun e w' => e = .returned (.bool (decide (0 ≤ envAt E v))) ∧ w = w' := by
  obtain ⟨j, rfl⟩ : ∃ j : Nat, v = (j : Int) + 1 := ⟨(v - 1).toNat, by omega⟩
  have hjj : ((j : Int) + 1 - 1).toNat = j := by omega
  unfold envAt
  rw [hjj]
  by_cases hj : j < E.length
  · obtain ⟨g, cap, rfl, g1, g2, g3⟩ := hE.cell hj
    have e1 : decide ((j : Int) + 1 ≤ E.length) = true := decide_eq_true (by omega)
    obtain ⟨d, hd⟩ : ∃ d, d = E.getD j (-1) := ⟨_, rfl⟩
    rw [← hd] at g2 ⊢
    clear hd
    go_enter Try.func30, Try.ntmps30
    go_wp2
    go_ret
    exact ⟨rfl, rfl⟩
  · have e1 : decide ((j : Int) + 1 ≤ E.length) = false := decide_eq_false (by omega)
    obtain ⟨A, c, rfl⟩ : ∃ A c, ev = .slice A E.length c := own_slice hE
    have hd : E.getD j (-1) = -1 := by simp [List.getD_eq_getElem?_getD, List.getElem?_eq_none (by omega : E.length ≤ j)]
    rw [hd]
    go_enter Try.func30, Try.ntmps30
    go_wp2
    go_ret
    exact ⟨rfl, rfl⟩

theorem cost_any (t : S28) (w : World) (A : Option Addr) (c : Nat) (hC : Kd.C k28 w A t.f3.length t.f3) (hc : t.f3.length ≤ c) :
    Calls Try.prog 32 #[.agg #[.int .i64 t.f0, .string t.f1, .int .i64 t.f2, .slice A t.f3.length c]] w fun e w' => e = .returned (.int .i64 (sizeT t)) ∧ Below w.heap.size w w' := by
  have hs := size_any t (w.alloc (.cells #[.int .i64 t.f0, .string t.f1, .int .i64 t.f2, .slice A t.f3.length c] 28)) A c (Kd.C_alloc hC _) hc
  go_enter Try.func32, Try.ntmps32
  go_wp2_with fail
  refine hs.mono ?_
  rintro e w1 ⟨rfl, hB⟩
  have hB' := below_then (below_alloc (Below.refl w.heap.size w) _) (by simp) hB
  go_wp2
  go_ret
  exact ⟨rfl, hB'⟩

end Go.Proofs.Ytjhhacighfpdbaa
