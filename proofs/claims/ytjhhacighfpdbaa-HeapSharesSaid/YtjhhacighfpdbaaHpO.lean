/- The walk of Clone. -/
import Derived.Test.YtjhhacighfpdbaaHpN
import Derived.Lib.SliceRun
namespace Go.Proofs.Ytjhhacighfpdbaa
set_option linter.unusedVariables false
open Go.RowKit Go.Maps Go.Proofs.YtjhhacighfpdbaaW.PrintWords Go.Proofs.YtjhhacighfpdbaaW.PrintLast Go.Proofs.YtjhhacighfpdbaaW.PrintMore Go.Proofs.Ytjhhacighfpdbaa.PHeapShares Go.Extern

theorem infoI : (Try.prog.info? 3).map (fun i => (i.zero, i.size, i.bytes)) = some (some (.int .i64 0), 1, 8) := by kernel_rfl

/-- A row of ints that was made: nothing else has changed. -/
def ClonePost (E : List Int) (w : World) (e : Ending) (w' : World) : Prop := ∃ v, e = .returned v ∧ EnvRow w' v E ∧ (∀ k, v.ownBlock = some k → w.heap.size ≤ k) ∧ Below w.heap.size w w'

set_option maxHeartbeats 1000000 in
set_option maxRecDepth 100000 in
theorem clone_any (E : List Int) (w : World) (ev : Value) (hE : EnvRow w ev E) (hl : E.length ≤ 1000000) :
    Calls Try.prog 33 #[ev] w (ClonePost E w) := by
  have h0 := hE
  unfold EnvRow at h0
  rcases h0.2 with ⟨rfl, e⟩ | ⟨g, cap, cur, rfl, _, hg, h1, h2, h3, h4⟩
  · obtain rfl : E = [] := List.eq_nil_of_length_eq_zero e
    have hq := Lib.run_eql_slice_nil (P := Try.prog) w 23 3 none 0 0 0 0 Try.underlying23
    have hfin : ClonePost [] w (.returned (.slice none 0 0)) w := ⟨_, rfl, hE, fun k hk => by simp [Value.ownBlock] at hk, Below.refl _ _⟩
    go_enter Try.func33, Try.ntmps33
    go_wp2
    go_ret
    exact hfin
  · have hq := Lib.run_eql_slice_nil (P := Try.prog) w 23 3 (some ⟨g, 0, none⟩) E.length cap 0 0 Try.underlying23
    obtain ⟨i0, hi, hz0, hz1, hz2⟩ := info_parts infoI
    go_enter Try.func33, Try.ntmps33
    have hmade : (w.alloc (.cells #[] 3)).ownsRow w.heap.size 3 1 (.slice (some ⟨w.heap.size, 0, none⟩) 0 0) 0 [] := World.ownsRow_made w #[] 0 (Nat.le_refl _) (Nat.zero_le _) rfl
    have hnews : ∀ j u, (E.map (Value.int .i64 ·))[j]? = some u → (w.alloc (.cells #[] 3)).cell? ((⟨g, 0, none⟩ : Addr).add j) = some u := fun j u hu => by
      have h := World.ownsRow.cells h0 (g := g) rfl j u hu
      rw [add_plain] at h ⊢
      rw [World.cell?_alloc_past _ _ _ (blk_lt hg)]
      exact h
    have hone : ∀ u ∈ E.map (Value.int .i64 ·), u.oneCell' = true := fun u hu => by
      obtain ⟨q, _, rfl⟩ := List.mem_map.1 hu
      rfl
    go_wp2_with (at_builtin; refine wpList_append_own_at _ rfl (.tmp 5) (.tmp 6) 23 rfl w.heap.size 3 i0 _ 1 8 Try.underlying23 hi hz0 hz1 hz2 rfl (by decide) _ 0 [] rfl hmade ⟨g, 0, none⟩ E.length cap (E.map (Value.int .i64 ·)) rfl (by simp) hnews hone (by unfold maxLen; omega) (by omega) (by simp) ?_; intro v1 w1 hown1 hgrow1 hnil1 hat1)
    have hfin : ClonePost E w (.returned v1) w1 := by
      refine ⟨v1, rfl, ?_, fun k hk => (World.ownsRow.lt hown1 k hk).1, ?_⟩
      · unfold EnvRow
        rw [Nat.zero_add, List.nil_append] at hown1
        refine ⟨hown1.1, ?_⟩
        rcases hown1.2 with h | ⟨g', cap', cur', e1, _, e3⟩
        · exact .inl h
        · exact .inr ⟨g', cap', cur', e1, Nat.zero_le _, e3⟩
      · exact below_grown (below_alloc (Below.refl _ _) _) hgrow1 (fun k hk => by
          have hk1 : (Value.slice (some ⟨w.heap.size, 0, none⟩) 0 0).ownBlock = some k := hk
          have hk' : w.heap.size = k := by simpa [Value.ownBlock] using hk1
          omega) (Nat.le_refl _)
    all_goals
      go_ret
      exact hfin

end Go.Proofs.Ytjhhacighfpdbaa
