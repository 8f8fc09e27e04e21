/- The walk of lay. -/
import Derived.Test.YtjhhacighfpdbaaHpE
namespace Go.Proofs.Ytjhhacighfpdbaa
set_option linter.unusedVariables false
open Go.RowKit Go.Maps Go.Proofs.YtjhhacighfpdbaaW.PrintWords Go.Proofs.YtjhhacighfpdbaaW.PrintLast Go.Proofs.YtjhhacighfpdbaaW.PrintMore Go.Proofs.Ytjhhacighfpdbaa.PHeapShares Go.Extern

/-- A row of ints of one's own. -/
def EnvRow (w : World) (v : Value) (E : List Int) : Prop := w.ownsRow 0 3 1 v E.length (E.map (.int .i64 ·))

theorem EnvRow.step {w w' : World} {v : Value} {E : List Int} (h : EnvRow w v E) (hb : ∀ k, v.ownBlock = some k → w'.heap[k]? = w.heap[k]?) : EnvRow w' v E := own_step h hb
theorem EnvRow.below {w w' : World} {v : Value} {E : List Int} (h : EnvRow w v E) (hB : Below w.heap.size w w') : EnvRow w' v E := own_step h fun k hk => hB.block k (World.ownsRow.lt h k hk).2
theorem EnvRow.alloc {w : World} {v : Value} {E : List Int} (h : EnvRow w v E) (o : Obj) : EnvRow (w.alloc o) v E := h.below (below_alloc (Below.refl _ _) o)
theorem EnvRow.fs {S : Nat → Prop} {w w' : World} {v : Value} {E : List Int} (h : EnvRow w v E) (hf : Fs S w w') (hS : ∀ k, v.ownBlock = some k → ¬ S k) : EnvRow w' v E := h.step fun k hk => hf.block k (World.ownsRow.lt h k hk).2 (hS k hk)

theorem EnvRow.drew {w : World} {v : Value} {E : List Int} (h : EnvRow w v E) : EnvRow w.drew v E := h.step fun _ _ => rfl

/-- A term lies behind a cell; the heap's cells and what the variables stand for are what lay makes of them. -/
def LayPost (C' : List Cl) (E' : List Int) (w : World) (hb : Nat) (S : Nat → Prop) (H : Hp) (v : Value) (w' : World) : Prop :=
  ∃ S', HpAt w' hb S' { H with C := C' } ∧ EnvRow w' v E' ∧ Fs (fun k => S k ∨ v.ownBlock = some k) w w' ∧ ∀ k, S' k → S k ∨ w.heap.size ≤ k

theorem Fs.mono {S S' : Nat → Prop} {w w' : World} (h : Fs S w w') (hs : ∀ k, S k → S' k) : Fs S' w w' := ⟨h.os, h.tape, h.output, h.size, fun k hk hn => h.block k hk fun e => hn (hs k e)⟩

/-- One cell is written. -/
theorem lay_put {w W : World} {hb x g cap : Nat} {S : Nat → Prop} {H : Hp} {vn vm v : Value} {E : List Int} (c : Cl) (hv : HpV W hb S H (.slice (some ⟨g, 0, none⟩) H.C.length cap) vn vm) (hx : x < H.C.length) (hE : EnvRow W v E) (hvS : ∀ k, v.ownBlock = some k → ¬ S k) (hf : Fs S w W) :
    LayPost (H.C.set x c) E w hb S H v (((((W.setCell ⟨g, x * 5, none⟩ (.int .i64 c.kd)).setCell ⟨g, x * 5 + 1, none⟩ (.string c.nm)).setCell ⟨g, x * 5 + 2, none⟩ (.int .i64 c.n)).setCell ⟨g, x * 5 + 3, none⟩ (.int .i64 c.a)).setCell ⟨g, x * 5 + 4, none⟩ (.int .i64 c.ar)) := by
  obtain ⟨hp4, hf4⟩ := HpV.putC hv hx c
  refine ⟨S, ⟨_, _, _, hp4⟩, hE.fs hf4 hvS, (hf.trans hf4 fun k h => .inl h).mono fun k h => .inl h, fun k h => .inl h⟩

/-- A variable's address is noted. -/
theorem lay_env {w W : World} {hb ev cap j : Nat} {S : Nat → Prop} {H : Hp} {E : List Int} (x : Int) (hp : HpAt W hb S H) (hE : EnvRow W (.slice (some ⟨ev, 0, none⟩) E.length cap) E) (hvS : ¬ S ev) (hf : Fs S w W) :
    LayPost H.C (E.set j x) w hb S H (.slice (some ⟨ev, 0, none⟩) E.length cap) (W.setCell ⟨ev, j, none⟩ (.int .i64 x)) := by
  refine ⟨S, hp.step (fun k hk => Below.heap_setCell W ⟨ev, j, none⟩ _ k (fun e => hvS (by have e' : k = ev := e; rw [← e']; exact hk))) (by simp [World.setCell]), ?_, ?_, fun k h => .inl h⟩
  · unfold EnvRow at hE ⊢
    rw [List.map_set, List.length_set]
    exact (World.ownsRow.stored hE j _).1
  · exact ⟨hf.os, hf.tape, hf.output, by simpa [World.setCell] using hf.size, fun k hk hn => (Below.heap_setCell W ⟨ev, j, none⟩ _ k (fun e => hn (.inr (by rw [e]; rfl)))).trans (hf.block k hk fun h => hn (.inl h))⟩

theorem LayPost.below {C' : List Cl} {E' : List Int} {w w' w2 : World} {hb : Nat} {S : Nat → Prop} {H : Hp} {v : Value} (h : LayPost C' E' w hb S H v w') (hB : Below w'.heap.size w' w2) : LayPost C' E' w hb S H v w2 := by
  obtain ⟨S', h1, h2, h3, h4⟩ := h
  exact ⟨S', h1.below hB, h2.below hB, h3.trans (S' := S) (.of_below hB) (fun k h => .inl (.inl h)), h4⟩
theorem LayPost.alloc {C' : List Cl} {E' : List Int} {w w' : World} {hb : Nat} {S : Nat → Prop} {H : Hp} {v : Value} (h : LayPost C' E' w hb S H v w') (o : Obj) : LayPost C' E' w hb S H v (w'.alloc o) := h.below (below_alloc (Below.refl _ _) o)

theorem LayPost.drew {C' : List Cl} {E' : List Int} {w w' : World} {hb : Nat} {S : Nat → Prop} {H : Hp} {v : Value} (h : LayPost C' E' w hb S H v w') : LayPost C' E' w hb S H v w'.drew := h.below (pw_below_drewN (Below.refl _ _) 1)

theorem EnvRow.cell {w : World} {v : Value} {E : List Int} (h : EnvRow w v E) {j : Nat} (hj : j < E.length) : ∃ g cap, v = .slice (some ⟨g, 0, none⟩) E.length cap ∧ g < w.heap.size ∧ w.cell? ⟨g, j, none⟩ = some (.int .i64 (E.getD j (-1))) ∧ ∀ i, w.frozen? ⟨g, i, none⟩ = false := by
  have h0 := h
  unfold EnvRow at h0
  rcases h0.2 with ⟨_, e⟩ | ⟨g, cap, cur, rfl, _, hg, h1, h2, _⟩
  · omega
  · refine ⟨g, cap, rfl, blk_lt hg, ?_, fun i => World.ownsRow.frozenAt h0 i⟩
    rw [World.ownsRow.cellAt h0 j (by omega)]
    simp [List.getD_eq_getElem?_getD, List.getElem?_eq_getElem hj]

theorem infoC : (Try.prog.info? 66).map (fun i => (i.zero, i.size, i.bytes)) = some (some (.agg #[.int .i64 0, .string ⟨#[]⟩, .int .i64 0, .int .i64 0, .int .i64 0]), 5, 48) := by kernel_rfl
theorem zerosC (k : Nat) : (Builtin.zeroCells (Value.agg #[.int .i64 0, .string ⟨#[]⟩, .int .i64 0, .int .i64 0, .int .i64 0]).cells k).toList = (List.replicate k zCl).flatMap cellsC := by
  refine List.ext_getElem? fun p => ?_
  have hl := flat_len cellsC 5 (fun _ => rfl) (List.replicate k zCl)
  simp only [List.length_replicate] at hl
  by_cases hp : p < k * 5
  · obtain ⟨q, j, hj, rfl⟩ : ∃ q j, j < 5 ∧ p = q * 5 + j := ⟨p / 5, p % 5, Nat.mod_lt _ (by omega), by omega⟩
    rw [flat_get cellsC 5 (fun _ => rfl) _ q j (by simp; omega) hj]
    simp only [List.getElem_replicate]
    have hz : (Value.agg #[.int .i64 0, .string ⟨#[]⟩, .int .i64 0, .int .i64 0, .int .i64 0]).cells = #[.int .i64 0, .string ⟨#[]⟩, .int .i64 0, .int .i64 0, .int .i64 0] := rfl
    rw [hz]
    have hs : (Builtin.zeroCells #[.int .i64 0, .string ⟨#[]⟩, .int .i64 0, .int .i64 0, .int .i64 0] k)[q * 5 + j]? = some ((#[.int .i64 0, .string ⟨#[]⟩, .int .i64 0, .int .i64 0, .int .i64 0] : Array Value)[j]!) := by
      unfold Builtin.zeroCells
      rw [Array.getElem?_map]
      have h5 : (#[.int .i64 0, .string ⟨#[]⟩, .int .i64 0, .int .i64 0, .int .i64 0] : Array Value).size = 5 := rfl
      rw [h5, Array.getElem?_range, if_pos hp]
      simp only [Option.map_some]
      rw [show (q * 5 + j) % 5 = j by omega]
    rw [Array.getElem?_toList, hs]
    have : j = 0 ∨ j = 1 ∨ j = 2 ∨ j = 3 ∨ j = 4 := by omega
    rcases this with rfl | rfl | rfl | rfl | rfl <;> rfl
  · rw [List.getElem?_eq_none (by simp only [Array.length_toList, size_zeroCells]; exact Nat.le_of_not_lt hp), List.getElem?_eq_none (by rw [hl]; omega)]

theorem nodesL_len : ∀ xs : List S28, xs.length ≤ nodesL xs
  | [] => by rw [nodesL_nil]; simp
  | a :: r => by rw [nodesL_cons, List.length_cons]; have := nodes_pos a; have := nodesL_len r; omega

set_option maxHeartbeats 2000000 in
set_option maxRecDepth 100000 in
theorem lay_any (hb : Nat) (v : Value) (T : Nat → Prop) : ∀ (n : Nat) (t : S28), SizeOf.sizeOf t = n → ∀ (w : World) (x : Nat) (S : Nat → Prop) (H : Hp) (E : List Int) (A : Option Addr) (c : Nat),
    HpAt w hb S H → EnvRow w v E → (∀ k, v.ownBlock = some k → ¬ S k ∧ ¬ T k) → (∀ k, S k → ¬ T k) → (∀ k, T k → k < w.heap.size) → LF T w t A c → shT t = true → x < H.C.length → H.C[x]? = some zCl → (∀ u ∈ occT t, 1 ≤ u ∧ u ≤ E.length) → E.length ≤ 1000000 → H.C.length + nodes t ≤ 65537 →
    Calls Try.prog 34 #[.pointer (some ⟨hb, 0, none⟩), .int .i64 x, .agg #[.int .i64 t.f0, .string t.f1, .int .i64 t.f2, .slice A t.f3.length c], v] w fun e w' => e = .returned (.tuple #[]) ∧ LayPost (layT t x H.C E).1 (layT t x H.C E).2 w hb S H v w' := by
  intro n
  induction n using Nat.strongRecOn with
  | _ n ih =>
  intro t hn w x S H E A c hp hE hvS hS hTl hL hsh hx hxz hocc hEl hroom
  obtain ⟨vc, vn, vm, hv0⟩ := hp
  have hvS' : ∀ k, v.ownBlock = some k → ¬ S k := fun k hk => (hvS k hk).1
  obtain ⟨kd, nm, nt, xs⟩ := t
  simp only at *
  have hv := hv0.alloc (.cells #[.int .i64 kd, .string nm, .int .i64 nt, .slice A xs.length c] 28)
  have hE1 := hE.alloc (.cells #[.int .i64 kd, .string nm, .int .i64 nt, .slice A xs.length c] 28)
  have kT := blk_new w (.cells #[.int .i64 kd, .string nm, .int .i64 nt, .slice A xs.length c] 28)
  have hf1 : Fs S w (w.alloc (.cells #[.int .i64 kd, .string nm, .int .i64 nt, .slice A xs.length c] 28)) := (Fs.refl S w).alloc _
  have hkd : kd = 1 ∨ kd = 2 ∨ kd = 3 ∨ kd = 4 := by
    rw [shT] at hsh
    by_cases h1 : kd = 1
    · exact .inl h1
    by_cases h2 : kd = 2
    · exact .inr (.inl h2)
    by_cases h4 : kd = 4
    · exact .inr (.inr (.inr h4))
    by_cases h3 : kd = 3
    · exact .inr (.inr (.inl h3))
    rw [if_neg h1, if_neg h2, if_neg h4, if_neg h3] at hsh
    cases hsh
  obtain ⟨g, cap, rfl, g1, g2, g3, g4, hseen, g6⟩ := hv0.cell hxz
  have c2 := hv0.c2
  have hlc := hv0.lc
  have hbl := blk_lt hv0.blk
  have hxl5 : x * 5 + 4 < H.C.length * 5 := by omega
  have d0 := hseen.d0
  have d1 := hseen.d1
  have d2 := hseen.d2
  have d3 := hseen.d3
  have d4 := hseen.d4
  have p0 := g6 (x * 5)
  have p1 := g6 (x * 5 + 1)
  have p2 := g6 (x * 5 + 2)
  have p3 := g6 (x * 5 + 3)
  have p4 := g6 (x * 5 + 4)
  simp only [zCl] at d0 d1 d2 d3 d4
  rcases hkd with rfl | rfl | rfl | rfl
  · obtain ⟨o1, o2⟩ := hocc nt (by rw [occT, if_pos rfl]; simp)
    obtain ⟨j, rfl⟩ : ∃ j : Nat, nt = (j : Int) + 1 := ⟨(nt - 1).toNat, by omega⟩
    have hjl : j < E.length := by omega
    have hjj : ((j : Int) + 1 - 1).toNat = j := by omega
    obtain ⟨ev, ecap, rfl, ev1, ev2, ev3⟩ := hE.cell hjl
    have hvSe := hvS' ev rfl
    have hee : envAt E ((j : Int) + 1) = E.getD j (-1) := by unfold envAt; rw [hjj]
    rw [layT, if_pos rfl, hee, hjj]
    have ev4 := ev3 j
    clear ih g6 ev3
    obtain ⟨d, hd⟩ : ∃ d, d = E.getD j (-1) := ⟨_, rfl⟩
    rw [← hd] at ev2 hee ⊢
    have Hd := Lib.hid hd
    clear hd
    by_cases hneg : d < 0
    · rw [if_pos hneg]
      have e1 : decide (d < 0) = true := decide_eq_true hneg
      have hfin := (lay_env (j := j) x ⟨_, _, _, hv0⟩ hE hvSe (Fs.refl S w)).alloc (.cells #[.int .i64 1, .string nm, .int .i64 ((j : Int) + 1), .slice A xs.length c] 28)
      go_enter Try.func34, Try.ntmps34
      go_wp2
      refine bodyPost_ret (v := .tuple #[]) (results_none rfl _ _ _) rfl ⟨rfl, hfin⟩
    · rw [if_neg hneg]
      have e1 : decide (d < 0) = false := decide_eq_false hneg
      have hfin := ((lay_put (refC d) hv0 hx hE hvS' (Fs.refl S w)).alloc (.cells #[.int .i64 1, .string nm, .int .i64 ((j : Int) + 1), .slice A xs.length c] 28)).drew
      simp only [refC] at hfin ⊢
      go_enter Try.func34, Try.ntmps34
      go_wp2
      go_region
      all_goals
        go_wp2
        exact bodyPost_end (results_none rfl _ _ _) rfl ⟨rfl, hfin⟩
  · rw [layT, if_neg (by decide), if_pos rfl]
    clear ih g6
    have hfin := ((lay_put ⟨2, ⟨#[]⟩, nt, 0, 0⟩ hv0 hx hE hvS' (Fs.refl S w)).alloc (.cells #[.int .i64 2, .string nm, .int .i64 nt, .slice A xs.length c] 28)).drew
    simp only at hfin
    go_enter Try.func34, Try.ntmps34
    go_wp2
    go_region
    all_goals
      go_wp2
      exact bodyPost_end (results_none rfl _ _ _) rfl ⟨rfl, hfin⟩
  · rw [layT, if_neg (by decide), if_neg (by decide), if_pos rfl]
    clear ih g6
    have hfin := ((lay_put ⟨3, nm, 0, 0, 0⟩ hv0 hx hE hvS' (Fs.refl S w)).alloc (.cells #[.int .i64 3, .string nm, .int .i64 nt, .slice A xs.length c] 28)).drew
    simp only at hfin
    go_enter Try.func34, Try.ntmps34
    go_wp2
    go_region
    all_goals
      go_wp2
      exact bodyPost_end (results_none rfl _ _ _) rfl ⟨rfl, hfin⟩
  · rw [layT, if_neg (by decide), if_neg (by decide), if_neg (by decide), if_pos rfl]
    have hfin1 := HpV.putC hv0 hx ⟨4, nm, 0, H.C.length, xs.length⟩
    simp only at hfin1
    clear g6
    go_enter Try.func34, Try.ntmps34
    go_wp2
    go_region
    all_goals
      go_wp2
      obtain ⟨hv2, hf2⟩ := hfin1
      have hE2 := ((hE.fs hf2 hvS').alloc (.cells #[.int .i64 4, .string nm, .int .i64 nt, .slice A xs.length c] 28)).drew
      have hv3 := (hv2.alloc (.cells #[.int .i64 4, .string nm, .int .i64 nt, .slice A xs.length c] 28)).drew
      have hf3 := (hf2.alloc (.cells #[.int .i64 4, .string nm, .int .i64 nt, .slice A xs.length c] 28)).drew
      have kT3 : (((((((w.setCell ⟨g, x * 5, none⟩ (.int .i64 4)).setCell ⟨g, x * 5 + 1, none⟩ (.string nm)).setCell ⟨g, x * 5 + 2, none⟩ (.int .i64 0)).setCell ⟨g, x * 5 + 3, none⟩ (.int .i64 H.C.length)).setCell ⟨g, x * 5 + 4, none⟩ (.int .i64 xs.length)).alloc (.cells #[.int .i64 4, .string nm, .int .i64 nt, .slice A xs.length c] 28)).drew).heap[w.heap.size]? = some (.cells #[.int .i64 4, .string nm, .int .i64 nt, .slice A xs.length c] 28 (0, 0)) := by
        have h := blk_new (((((w.setCell ⟨g, x * 5, none⟩ (.int .i64 4)).setCell ⟨g, x * 5 + 1, none⟩ (.string nm)).setCell ⟨g, x * 5 + 2, none⟩ (.int .i64 0)).setCell ⟨g, x * 5 + 3, none⟩ (.int .i64 H.C.length)).setCell ⟨g, x * 5 + 4, none⟩ (.int .i64 xs.length)) (.cells #[.int .i64 4, .string nm, .int .i64 nt, .slice A xs.length c] 28)
        rw [show (((((w.setCell ⟨g, x * 5, none⟩ (.int .i64 4)).setCell ⟨g, x * 5 + 1, none⟩ (.string nm)).setCell ⟨g, x * 5 + 2, none⟩ (.int .i64 0)).setCell ⟨g, x * 5 + 3, none⟩ (.int .i64 H.C.length)).setCell ⟨g, x * 5 + 4, none⟩ (.int .i64 xs.length)).heap.size = w.heap.size by simp [World.setCell]] at h
        exact h
      generalize ((((((w.setCell ⟨g, x * 5, none⟩ (.int .i64 4)).setCell ⟨g, x * 5 + 1, none⟩ (.string nm)).setCell ⟨g, x * 5 + 2, none⟩ (.int .i64 0)).setCell ⟨g, x * 5 + 3, none⟩ (.int .i64 H.C.length)).setCell ⟨g, x * 5 + 4, none⟩ (.int .i64 xs.length)).alloc (.cells #[.int .i64 4, .string nm, .int .i64 nt, .slice A xs.length c] 28)).drew = W2 at hE2 hv3 hf3 kT3 ⊢
      clear hv2 hf2 c2 d0 d1 d2 d3 d4 p0 p1 p2 p3 p4 hseen g1 g2 g3
      rw [shT] at hsh
      simp only [show ¬((4 : Int) = 1) by decide, show ¬((4 : Int) = 2) by decide, if_false, if_true, Bool.and_eq_true, decide_eq_true_eq] at hsh
      obtain ⟨⟨⟨n1, n8⟩, hshL⟩, hnm⟩ := hsh
      rw [nodes_eq4] at hroom
      rw [occ_eq4] at hocc
      have hnl : xs.length ≤ nodesL xs := nodesL_len xs
      obtain ⟨C1, hC1⟩ : ∃ C1, C1 = H.C.set x ⟨4, nm, 0, H.C.length, xs.length⟩ := ⟨_, rfl⟩
      have hC1l : C1.length = H.C.length := by rw [hC1, List.length_set]
      rw [← hC1] at hv3
      have HC1 := Lib.hid hC1
      clear hC1
      have hr3 : W2.ownsRow 0 66 5 (.slice (some ⟨g, 0, none⟩) H.C.length cap) H.C.length (C1.flatMap cellsC) := by
        have h := hv3.rc
        rwa [show ({ H with C := C1 } : Hp).C = C1 from rfl, hC1l] at h
      obtain ⟨i0, hi, hz0, hz1, hz2⟩ := info_parts infoC
      have c2 := hv3.c2
      have t3 : W2.cell? ⟨w.heap.size, 3, none⟩ = some (.slice A xs.length c) := blk_cell kT3 3
      have l0 := blk_lt kT3
      have l1 := blk_lt hv3.blk
      go_region_law ((refine step_zeros_lies _ rfl (.tmp 87) (.tmp 90) 54 3 rfl 0 66 i0 _ 5 48 .i64 .i64 Try.underlying54 Try.underlying3 hi hz0 hz1 hz2 rfl (by decide) _ H.C.length (C1.flatMap cellsC) rfl hr3.drew (by omega) xs.length rfl (by omega) (by rw [zerosC]; intro u hu; obtain ⟨q, hq, hu⟩ := List.mem_flatMap.1 hu; exact oneC q u hu) (h63 := by unfold maxLen; omega) (hbytes := by omega) (hbase := Nat.zero_le _) (H := W2.heap.size) (hH := by simp) (h := ?_)); intro gN cN w3 hown3 hgrow3 hor3 hlt3; have kb3 := blk_grown (w := W2.drew) hv3.blk hgrow3 hv3.neC; have e3 := blk_cell kb3 2; have q3 := blk_frozen kb3 2)
      all_goals
        have hor4 : (Value.slice (some ⟨g, 0, none⟩) H.C.length cap).ownBlock = some gN ∨ gN = W2.heap.size := hor3
        have hle1 : (W2.drewN 1).heap.size ≤ W2.heap.size := by simp
        obtain ⟨hp4, hf4, hs4⟩ := HpV.setC (u := .slice (some ⟨gN, 0, none⟩) (H.C.length + xs.length) cN) (X := C1 ++ List.replicate xs.length zCl) (hv3.drewN 1) hgrow3 (by
          have h := hown3
          rw [zerosC, ← List.flatMap_append] at h
          rw [List.length_append, List.length_replicate, hC1l]
          exact h) (fun k hk => by
          rcases hor4 with h | h
          · left; rw [h]; exact hk
          · right
            have hk' : gN = k := by simpa [Value.ownBlock] using hk
            rw [← hk', h]; exact hle1) (by rw [List.length_append, List.length_replicate, hC1l]; omega)
        have kT4 := blk_far (p := ⟨hb, 2, none⟩) (blk_grown (w := W2.drew) kT3 hgrow3 (own_ne hr3 kT3 (by decide))) (show w.heap.size ≠ hb by omega) (.slice (some ⟨gN, 0, none⟩) (H.C.length + xs.length) cN)
        have hE4 : EnvRow (w3.setCell ⟨hb, 2, none⟩ (.slice (some ⟨gN, 0, none⟩) (H.C.length + xs.length) cN)) v E := EnvRow.fs (w := W2.drewN 1) hE2.drew hf4 hvS'
        have hf5 : Fs S w (w3.setCell ⟨hb, 2, none⟩ (.slice (some ⟨gN, 0, none⟩) (H.C.length + xs.length) cN)) := (hf3.drewN 1).trans hf4 (fun k h => .inl h)
        have hs5 : ∀ k, (S k ∨ (Value.slice (some ⟨gN, 0, none⟩) (H.C.length + xs.length) cN).ownBlock = some k) → S k ∨ w.heap.size < k := fun k hk => (hs4 k hk).imp_right fun h => Nat.lt_of_lt_of_le l0 (by simpa using h)
        generalize hS4 : (fun k => S k ∨ (Value.slice (some ⟨gN, 0, none⟩) (H.C.length + xs.length) cN).ownBlock = some k) = S4 at hp4
        have hs6 : ∀ k, S4 k → S k ∨ w.heap.size < k := fun k hk => hs5 k (by rw [← hS4] at hk; exact hk)
        clear hS4 hs4 hs5 hgrow3 hown3 hor3 hor4 kb3 e3 q3 hE2 hv3 hf3 kT3 hr3 c2 t3 l0 l1
        clear hf4
        generalize (w3.setCell ⟨hb, 2, none⟩ (.slice (some ⟨gN, 0, none⟩) (H.C.length + xs.length) cN)) = W4 at hp4 kT4 hE4 hf5 ⊢
        have t3 : W4.cell? ⟨w.heap.size, 3, none⟩ = some (.slice A xs.length c) := blk_cell kT4 3
        have l0 := blk_lt kT4
        have hvw : ∀ k, v.ownBlock = some k → k < w.heap.size := fun k hk => (World.ownsRow.lt hE k hk).2
        have hSw : ∀ k, S k → k < w.heap.size := hv0.Sl
        have hxm : xs.length ≤ c ∧ wfL xs := ⟨hL.le, by have h := hL.wf; rw [wfT] at h; exact h.2⟩
        obtain ⟨hxc, hwfL⟩ := hxm
        have hzx : ∀ a ∈ xs, SizeOf.sizeOf a < n := fun a ha => by rw [← hn]; exact sz_mem (t := ⟨4, nm, nt, xs⟩) ha
        go_wp2
        go_loopw [97] (fun i wr => ∃ (k : Nat) (Ck : List Cl) (Ek : List Int) (Sk : Nat → Prop), k ≤ xs.length ∧ i = .int .i64 k ∧ layL xs H.C.length (C1 ++ List.replicate xs.length zCl) E = layL (xs.drop k) (H.C.length + k) Ck Ek ∧
            HpAt wr hb Sk { H with C := Ck } ∧ EnvRow wr v Ek ∧ Fs (fun k => S k ∨ v.ownBlock = some k) w wr ∧ (∀ j, Sk j → S j ∨ w.heap.size < j) ∧ Ek.length = E.length ∧ H.C.length + xs.length ≤ Ck.length ∧ (∀ i, k ≤ i → i < xs.length → Ck[H.C.length + i]? = some zCl) ∧ Ck.length + nodesL (xs.drop k) ≤ 65536 + (xs.length - k) ∧
            wr.heap[w.heap.size]? = some (.cells #[.int .i64 4, .string nm, .int .i64 nt, .slice A xs.length c] 28 (0, 0)))
          (fun i _ => xs.length - (intOf i).toNat)
        case atStart => exact ⟨0, C1 ++ List.replicate xs.length zCl, E, S4, Nat.zero_le _, rfl, rfl, ⟨_, _, _, hp4⟩, hE4, hf5.mono fun k h => .inl h, hs6, rfl, by simp [hC1l], fun i _ hi => by rw [List.getElem?_append_right (by omega), hC1l, Nat.add_sub_cancel_left, List.getElem?_replicate, if_pos hi], by simp [hC1l]; omega, kT4⟩
        case round =>
          clear hp4 hE4 hf5 kT4 hs6 t3 l0
          obtain ⟨k, Ck, Ek, Sk, hk, rfl, hm, hpk, hEk, hfk, hsk, hel, hlk, hzk, hnk, hkT⟩ := hrel
          have lT := blk_lt hkT
          by_cases hlt : k < xs.length
          · have hSv : ∀ j, (S j ∨ v.ownBlock = some j) → ¬ T j := fun j hj => by
              rcases hj with h | h
              · exact hS j h
              · exact (hvS j h).2
            obtain ⟨ad, A3, c3, rfl, y0, y1, y2, y3, l3, g3⟩ := (hL.fs hfk hSv).rd k hlt
            have hsz := hfk.size
            rw [List.drop_eq_getElem_cons hlt, layL_cons] at hm
            rw [List.drop_eq_getElem_cons hlt, nodesL_cons] at hnk
            have hnd := nodesL_len (xs.drop (k + 1))
            rw [List.length_drop] at hnd
            have hza := hzx _ (List.getElem_mem hlt)
            have hwa := wfL_all.1 hwfL _ (List.getElem_mem hlt)
            have hsa := shL_all.1 hshL _ (List.getElem_mem hlt)
            have hoa : ∀ u ∈ occT xs[k], 1 ≤ u ∧ u ≤ Ek.length := fun u hu => by
              rw [hel]
              exact hocc u (occL_mem.2 ⟨_, List.getElem_mem hlt, hu⟩)
            generalize xs[k] = a at y0 y1 y2 y3 l3 g3 hm hza hwa hsa hoa hnk
            have hzk0 := hzk k (Nat.le_refl _) hlt
            obtain ⟨hLay, hlen, _⟩ := layT_spec mkV a (H.C.length + k) Ck Ek hsa hwa (by omega) hzk0 hoa
            have hi := ih _ hza a rfl (wr.alloc (.cells #[.int .i64 a.f0, .string a.f1, .int .i64 a.f2, .slice A3 a.f3.length c3] 28)) (H.C.length + k) Sk { H with C := Ck } Ek A3 c3 (hpk.alloc _) (hEk.alloc _) (fun j hj => ⟨fun h => by
                rcases hsk j h with h | h
                · exact hvS' j hj h
                · have := hvw j hj; omega, (hvS j hj).2⟩) (fun j hj => by
                rcases hsk j hj with h | h
                · exact hS j h
                · exact fun ht => by have := hTl j ht; omega) (fun j hj => by have := hTl j hj; simp; omega) ⟨Kd.F_alloc g3 _, l3, hwa⟩ hsa (by show H.C.length + k < Ck.length; omega) hzk0 hoa (by rw [hel]; exact hEl) (by show Ck.length + nodes a ≤ 65537; omega)
            have hpc : ({ H with C := Ck } : Hp).C = Ck := rfl
            rw [hpc] at hi
            generalize (layT a (H.C.length + k) Ck Ek).1 = C5, (layT a (H.C.length + k) Ck Ek).2 = E5 at hi hm hLay hlen
            push_cast at hi
            clear ih hoa hwa hsa hza
            go_wp2_with fail
            refine hi.mono ?_
            rintro e w5 ⟨rfl, S5, hp5, hE5, hf5, hs5⟩
            clear hi
            have hk5 := hf5.blk (blk_alloc hkT _) (fun h => by
              rcases h with h | h
              · rcases hsk _ h with h | h
                · have := hSw _ h; omega
                · omega
              · have := hvw _ h; omega)
            have hf6 : Fs (fun k => S k ∨ v.ownBlock = some k) w w5 := (hfk.alloc _).trans hf5 (fun j hj => by
              rcases hj with h | h
              · rcases hsk j h with h | h
                · exact .inl (.inl h)
                · exact .inr (by omega)
              · exact .inl (.inr h))
            have hs6 : ∀ j, S5 j → S j ∨ w.heap.size < j := fun j hj => by
              rcases hs5 j hj with h | h
              · exact hsk j h
              · simp at h
                exact .inr (by omega)
            go_wp2
            go_roundw
            case rel => exact ⟨k + 1, C5, E5, S5, by omega, by go_num, hm, hp5, hE5, hf6, hs6, hLay.elen.trans hel, by have := hLay.len; omega, fun i h1 h2 => (hLay.old (H.C.length + i) (by omega) (.inr (by omega))).trans (hzk i (by omega) h2), by omega, hk5⟩
            case measure => simp [intOf]; omega
          · obtain rfl : k = xs.length := by omega
            rw [List.drop_of_length_le (Nat.le_refl _), layL_nil] at hm
            clear ih
            go_wp2
            refine bodyPost_end (results_none rfl _ _ _) rfl ⟨rfl, ?_⟩
            rw [← HC1.out, hm]
            exact ⟨Sk, hpk, hEk, hfk, fun j hj => (hsk j hj).imp_right Nat.le_of_lt⟩

end Go.Proofs.Ytjhhacighfpdbaa
