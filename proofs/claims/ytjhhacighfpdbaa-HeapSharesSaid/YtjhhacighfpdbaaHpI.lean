/- The walks of New, Used, Mark, Undo, Keep. -/
import Derived.Test.YtjhhacighfpdbaaHpH
namespace Go.Proofs.Ytjhhacighfpdbaa
set_option linter.unusedVariables false
open Go.RowKit Go.Maps Go.Proofs.YtjhhacighfpdbaaW.PrintWords Go.Proofs.YtjhhacighfpdbaaW.PrintLast Go.Proofs.YtjhhacighfpdbaaW.PrintMore Go.Proofs.Ytjhhacighfpdbaa.PHeapShares Go.Extern
attribute [local go_sem] max2_int min2_int max_two min_two

theorem New_any (w : World) (k : Int) (h0 : 0 ≤ k) (h1 : k ≤ 65536) :
    Calls Try.prog 7 #[.int .i64 k, .int .i64 k] w fun e w' => e = .returned (.pointer (some ⟨w.heap.size, 0, none⟩)) ∧ Below w.heap.size w w' ∧ HpAt w' w.heap.size (fun j => j = w.heap.size) ⟨k, k, [], [], []⟩ ∧ w.heap.size < w'.heap.size := by
  have hfin : HpAt (w.alloc (.cells #[.int .i64 k, .int .i64 k, .slice none 0 0, .slice none 0 0, .slice none 0 0] 58)) w.heap.size (fun j => j = w.heap.size) ⟨k, k, [], [], []⟩ :=
    ⟨_, _, _, blk_new w _, World.ownsRow_nil _ _ _ _, World.ownsRow_nil _ _ _ _, World.ownsRow_nil _ _ _ _, by simp, by simp, by simp, ⟨h0, h1⟩, ⟨h0, h1⟩, rfl, fun k e => by simp [Value.ownBlock] at e, fun k e => by simp [Value.ownBlock] at e, fun k e => by simp [Value.ownBlock] at e, fun k e => by rw [e]; simp⟩
  have hbe := below_alloc (Below.refl w.heap.size w) (.cells #[.int .i64 k, .int .i64 k, .slice none 0 0, .slice none 0 0, .slice none 0 0] 58)
  have hsz : w.heap.size < (w.alloc (.cells #[.int .i64 k, .int .i64 k, .slice none 0 0, .slice none 0 0, .slice none 0 0] 58)).heap.size := by simp
  have e1 : ¬ k < 0 := by omega
  have e2 : ¬ (65536 : Int) < k := by omega
  have e3 : k < 0 ∨ 0 ≤ k := by omega
  by_cases e4 : k = 0
  · subst e4
    go_enter Try.func7, Try.ntmps7
    go_wp2
    go_ret
    exact ⟨rfl, hbe, hfin, hsz⟩
  have e5 : 0 < k := by omega
  go_enter Try.func7, Try.ntmps7
  go_wp2
  go_ret
  exact ⟨rfl, hbe, hfin, hsz⟩

theorem Used_any (w : World) (hb : Nat) (S : Nat → Prop) (H : Hp) (hp : HpAt w hb S H) :
    Calls Try.prog 12 #[.pointer (some ⟨hb, 0, none⟩)] w fun e w' => e = .returned (.tuple #[.int .i64 H.C.length, .int .i64 H.N.length, .int .i64 H.M.length]) ∧ ∃ n, w' = w.drewN n := by
  obtain ⟨vc, vn, vm, hv⟩ := hp
  obtain ⟨A, c, rfl⟩ : ∃ A c, vn = .slice A H.N.length c := own_slice hv.rn
  obtain ⟨A2, c2, rfl⟩ : ∃ A c, vc = .slice A H.C.length c := own_slice hv.rc
  obtain ⟨A3, c3, rfl⟩ : ∃ A c, vm = .slice A H.M.length c := own_slice hv.rm
  have x2 := hv.c2
  have x3 := hv.c3
  have x4 := hv.c4
  go_enter Try.func12, Try.ntmps12
  go_wp2
  go_quiet (fail)
  go_wp2
  go_ret3
  exact ⟨rfl, _, rfl⟩

theorem oneM (c : Nat × Nat) : ∀ u ∈ cellsM c, u.oneCell' = true := by intro u hu; simp [cellsM] at hu; rcases hu with rfl | rfl <;> rfl
theorem infoM : (Try.prog.info? 73).map (fun i => (i.zero, i.size, i.bytes)) = some (some (.agg #[.int .i64 0, .int .i64 0]), 2, 16) := by kernel_rfl

def MarkPost (w : World) (hb : Nat) (S : Nat → Prop) (H : Hp) (e : Ending) (w' : World) : Prop :=
  e = .returned (.int .i64 (H.M.length + 1)) ∧ HpTo w hb S { H with M := H.M ++ [(H.C.length, H.N.length)] } w'

set_option maxHeartbeats 2000000 in
set_option maxRecDepth 100000 in
theorem Mark_any (w : World) (hb : Nat) (S : Nat → Prop) (H : Hp) (hp : HpAt w hb S H) (hml : H.M.length < 1000000) :
    Calls Try.prog 13 #[.pointer (some ⟨hb, 0, none⟩)] w (MarkPost w hb S H) := by
  obtain ⟨vc, vn, vm, hv⟩ := hp
  obtain ⟨A, c, rfl⟩ : ∃ A c, vn = .slice A H.N.length c := own_slice hv.rn
  obtain ⟨A2, c2, rfl⟩ : ∃ A c, vc = .slice A H.C.length c := own_slice hv.rc
  obtain ⟨A3, c3, rfl⟩ : ∃ A c, vm = .slice A H.M.length c := own_slice hv.rm
  have x2 := hv.c2
  have x3 := hv.c3
  have x4 := hv.c4
  have hlc := hv.lc
  have hln := hv.ln
  have hbw : hb < w.heap.size := hv.Sl hb hv.Sh
  obtain ⟨i0, hi, hz0, hz1, hz2⟩ := info_parts infoM
  have f4 : w.frozen? ⟨hb, 4, none⟩ = false := blk_frozen hv.blk 4
  go_enter Try.func13, Try.ntmps13
  go_wp2
  go_region_law ((refine step_append_lies _ rfl (.tmp 7) (.tmp 19) 56 rfl 0 73 i0 _ 2 16 Try.underlying56 hi hz0 hz1 hz2 rfl (by decide) _ H.M.length (H.M.flatMap cellsM) rfl (hv.rm.alloc _).drew ⟨w.heap.size, 0, none⟩ 1 1 (cellsM (H.C.length, H.N.length)) rfl rfl (new_cells w #[.int .i64 H.C.length, .int .i64 H.N.length] 73) (oneM (H.C.length, H.N.length)) (hm := by decide) (h63 := by unfold maxLen; omega) (hbytes := by omega) (hbase := Nat.zero_le _) (H := w.heap.size + 1) (hH := by simp) (h := ?_)); intro gN cN w2 hown2 hgrow2 hor2 hlt2; have kb2 := blk_grown (w := (w.alloc (.cells #[.int .i64 H.C.length, .int .i64 H.N.length] 73)).drew) (blk_alloc hv.blk _) hgrow2 hv.neM; have e4 := blk_cell kb2 4; have q4 := blk_frozen kb2 4)
  all_goals
    have hor3 : (Value.slice A3 H.M.length c3).ownBlock = some gN ∨ gN = w.heap.size + 1 := hor2
    have hle1 : ((w.alloc (.cells #[.int .i64 H.C.length, .int .i64 H.N.length] 73)).drewN 1).heap.size ≤ w.heap.size + 1 := by simp
    have hf0 : Fs S w ((w.alloc (.cells #[.int .i64 H.C.length, .int .i64 H.N.length] 73)).drewN 1) := ((Fs.refl S w).alloc _).drewN 1
    obtain ⟨hp3, hf3, hs3⟩ := HpV.setM (u := .slice (some ⟨gN, 0, none⟩) (H.M.length + 1) cN) (X := H.M ++ [(H.C.length, H.N.length)]) ((hv.alloc (.cells #[.int .i64 H.C.length, .int .i64 H.N.length] 73)).drewN 1) hgrow2 (by simpa using hown2) (fun k hk => by
      rcases hor3 with h | h
      · left; rw [h]; exact hk
      · right
        have hk' : gN = k := by simpa [Value.ownBlock] using hk
        rw [← hk', h]; exact hle1) (by simp; omega)
    have hfin : HpTo w hb S { H with M := H.M ++ [(H.C.length, H.N.length)] } (w2.setCell ⟨hb, 4, none⟩ (.slice (some ⟨gN, 0, none⟩) (H.M.length + 1) cN)) :=
      ⟨_, ⟨_, _, _, hp3⟩, hf0.trans hf3 (fun k h => .inl h), fun k hk => (hs3 k hk).imp_right (Nat.le_trans hf0.size)⟩
    have y4 := hp3.c4
    clear e4 q4 kb2 hgrow2 hown2 hor2 hor3
    go_wp2
    generalize (w2.setCell ⟨hb, 4, none⟩ (.slice (some ⟨gN, 0, none⟩) (H.M.length + 1) cN)) = W3 at hfin y4 ⊢
    go_wp2
    go_ret
    exact ⟨rfl, hfin⟩

end Go.Proofs.Ytjhhacighfpdbaa
