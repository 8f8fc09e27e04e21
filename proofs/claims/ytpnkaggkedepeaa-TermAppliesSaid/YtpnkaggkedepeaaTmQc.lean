/- The document's Bare, Put and Copy, walked. -/
import Derived.Test.YtpnkaggkedepeaaTmQb
import Derived.Deep.RegionHeld3
namespace Go.Proofs.Ytpnkaggkedepeaa
set_option linter.unusedVariables false
open Go.RowKit Go.Maps Go.Proofs.YtpnkaggkedepeaaW.PrintWords Go.Proofs.YtpnkaggkedepeaaW.PrintLast Go.Proofs.YtpnkaggkedepeaaW.PrintMore Go.Proofs.Ytpnkaggkedepeaa.PTermTells Go.Extern

mutual
/-- A copy, as the document makes it. -/
def cpR : S24 → S24
  | ⟨kd, nm, nt, xs⟩ => if kd = 1 ∧ nt = 0 then z24 else if kd = 4 then ⟨4, nm, 0, cpRL xs⟩ else if kd ≤ 2 then ⟨kd, ⟨#[]⟩, nt, []⟩ else ⟨kd, nm, 0, []⟩
def cpRL : List S24 → List S24
  | [] => []
  | a :: r => cpR a :: cpRL r
end
def bareR (t : S24) : S24 := if t.f0 ≤ 2 then ⟨t.f0, ⟨#[]⟩, t.f2, []⟩ else ⟨t.f0, t.f1, 0, []⟩
theorem cpRL_map : ∀ xs : List S24, cpRL xs = xs.map cpR
  | [] => by rw [cpRL]; rfl
  | a :: r => by rw [cpRL, cpRL_map r]; rfl
theorem cpRL_take (xs : List S24) (k : Nat) (h : k < xs.length) : cpRL (xs.take (k + 1)) = cpRL (xs.take k) ++ [cpR xs[k]] := by
  rw [List.take_succ_eq_append_getElem h, cpRL_map, cpRL_map, List.map_append]; rfl
theorem nodesL_length : ∀ xs : List S24, xs.length ≤ nodesL xs
  | [] => Nat.zero_le _
  | a :: r => by rw [nodesL_cons, List.length_cons]; have := nodes_pos a; have := nodesL_length r; omega
theorem cpRL_len (xs : List S24) : (cpRL xs).length = xs.length := by rw [cpRL_map, List.length_map]
mutual
theorem cpR_nrm : ∀ t : S24, shT t = true → cpR t = nrm t
  | ⟨kd, nm, nt, xs⟩, h => by
    have hk := sh_kind' h
    simp only at hk
    rw [shT] at h
    unfold nrm
    rw [cpR, subT]
    by_cases h1 : kd = 1
    · rw [if_pos h1] at h
      have := of_decide_eq_true h
      rw [if_neg (by omega), if_neg (by omega), if_pos (by omega), if_pos h1, h1]
    rw [if_neg (by omega), if_neg h1]
    rw [if_neg h1] at h
    by_cases h4 : kd = 4
    · rw [if_pos h4, if_pos h4]
      rw [if_neg (by omega), if_pos h4] at h
      simp only [Bool.and_eq_true] at h
      rw [cpRL_nrm xs h.1.2]
    · rw [if_neg h4, if_neg h4, bare_kind]
      by_cases h2 : kd = 2
      · rw [if_pos (by omega), if_pos (.inr h2)]
      · rw [if_neg (by omega), if_neg (by omega)]
theorem cpRL_nrm : ∀ xs : List S24, shL xs = true → cpRL xs = subL (fun _ => none) xs
  | [], _ => by rw [cpRL, subL_nil]
  | a :: r, h => by
    rw [shL_cons, Bool.and_eq_true] at h
    have := cpR_nrm a h.1
    unfold nrm at this
    rw [cpRL, subL_cons, this, cpRL_nrm r h.2]
end
set_option maxHeartbeats 1000000 in
set_option maxRecDepth 100000 in
theorem rbare_any (t : S24) (w : World) (A : Option Addr) (c : Nat) :
    Calls Try.prog 82 #[.agg #[.int .i64 t.f0, .string t.f1, .int .i64 t.f2, .slice A t.f3.length c]] w fun e w' => e = .returned (.agg #[.int .i64 (bareR t).f0, .string (bareR t).f1, .int .i64 (bareR t).f2, .slice none 0 0]) ∧ Below w.heap.size w w' := by
  obtain ⟨kd, nm, nt, xs⟩ := t
  unfold bareR
  simp only
  by_cases k2 : kd ≤ 2
  · simp only [if_pos k2]
    go_enter Try.func82, Try.ntmps82
    go_wp2
    all_goals
      refine bodyPost_ret (v := .agg #[.int .i64 kd, .string ⟨#[]⟩, .int .i64 nt, .slice none 0 0]) (by simp [results, Try.results82, go_sem]) rfl ⟨rfl, ?_⟩
      repeat (refine below_set ?_ (by omega))
      exact below_alloc (below_alloc (Below.refl w.heap.size w) _) _
  · simp only [if_neg k2]
    go_enter Try.func82, Try.ntmps82
    go_wp2
    all_goals
      refine bodyPost_ret (v := .agg #[.int .i64 kd, .string nm, .int .i64 0, .slice none 0 0]) (by simp [results, Try.results82, go_sem]) rfl ⟨rfl, ?_⟩
      repeat (refine below_set ?_ (by omega))
      exact below_alloc (below_alloc (Below.refl w.heap.size w) _) _

def rput_T9 : Bool × List (List Nat × List Nat) := (true, [([], []), ([0], [0]), ([], []), ([2], [2]), ([], []), ([3, 4], [3, 4]), ([5], [5]), ([], []), ([], []), ([6, 7, 8], [6, 7, 8]), ([9], [9]), ([1, 10, 9], [1, 10]), ([0, 1, 2, 3, 4, 5, 6, 7, 8, 9, 10, 11], []), ([12, 11, 11, 0, 1, 2, 3, 4, 5, 6, 7, 8, 9, 10, 11], [11, 12])])
def rput_B9 : List Nat := [0, 1, 0, 4, 0, 28, 60, 0, 0, 508, 1020, 2047, 4095, 8191]
theorem rput_tab9 : rtab .any (opsOf Try.f65 9) = rput_T9 := by kernel_rfl
theorem rput_bits9 : waitsOk rput_T9.2 rput_B9 = true := by kernel_rfl

set_option maxHeartbeats 4000000 in
set_option maxRecDepth 100000 in
theorem rput_any : ∀ (n : Nat) (t : S24), SizeOf.sizeOf t = n → ∀ (w0 w : World) (c : Nat) (A : Option Addr), Kd.C k24 w0 A t.f3.length t.f3 → t.f3.length ≤ c → Below w0.heap.size w0 w → nodes t < 1000000 →
    Calls Try.prog 65 #[.agg #[.int .i64 t.f0, .string t.f1, .int .i64 t.f2, .slice A t.f3.length c], .int .i64 0, .agg #[.int .i64 0, .string ⟨#[]⟩, .int .i64 0, .slice none 0 0]] w fun e w' => ∃ v,
      e = .returned (.agg #[.int .i64 (cpR t).f0, .string (cpR t).f1, .int .i64 (cpR t).f2, v]) ∧ Kd.R k24 24 w' w.heap.size (fun _ => True) v (cpR t).f3 ∧ Below w.heap.size w w' := by
  intro n
  induction n using Nat.strongRecOn with
  | _ n ih =>
  intro t hn w0 w c A hC hc hB hnd
  obtain ⟨kd, nm, nt, xs⟩ := t
  simp only at hC hc ⊢
  have hB3 := below_alloc (below_alloc (below_alloc (Below.refl w.heap.size w) (.cells #[.int .i64 kd, .string nm, .int .i64 nt, .slice A xs.length c] 24)) (.cells #[.int .i64 0, .string ⟨#[]⟩, .int .i64 0, .slice none 0 0] 24)) (.cells #[.int .i64 0, .string ⟨#[]⟩, .int .i64 0, .slice none 0 0] 24)
  rw [cpR]
  by_cases h0 : kd = 1 ∧ nt = 0
  · obtain ⟨rfl, rfl⟩ := h0
    rw [if_pos ⟨rfl, rfl⟩]
    clear ih
    go_enter Try.func65, Try.ntmps65
    go_wp2
    refine bodyPost_ret (v := .agg #[.int .i64 0, .string ⟨#[]⟩, .int .i64 0, .slice none 0 0]) (by simp [results, Try.results65, go_sem]) rfl ⟨.slice none 0 0, rfl, Kd.R_nil _ _ _ _ _, ?_⟩
    repeat (refine below_set ?_ (by omega))
    exact hB3
  rw [if_neg h0]
  have kT : (((w.alloc (.cells #[.int .i64 kd, .string nm, .int .i64 nt, .slice A xs.length c] 24)).alloc (.cells #[.int .i64 0, .string ⟨#[]⟩, .int .i64 0, .slice none 0 0] 24)).alloc (.cells #[.int .i64 0, .string ⟨#[]⟩, .int .i64 0, .slice none 0 0] 24)).heap[w.heap.size]? = some (.cells #[.int .i64 kd, .string nm, .int .i64 nt, .slice A xs.length c] 24 (0, 0)) := blk_alloc (blk_alloc (blk_new w _) _) _
  have kX : (((w.alloc (.cells #[.int .i64 kd, .string nm, .int .i64 nt, .slice A xs.length c] 24)).alloc (.cells #[.int .i64 0, .string ⟨#[]⟩, .int .i64 0, .slice none 0 0] 24)).alloc (.cells #[.int .i64 0, .string ⟨#[]⟩, .int .i64 0, .slice none 0 0] 24)).heap[w.heap.size + 1]? = some (.cells #[.int .i64 0, .string ⟨#[]⟩, .int .i64 0, .slice none 0 0] 24 (0, 0)) := by
    have := blk_new (w.alloc (.cells #[.int .i64 kd, .string nm, .int .i64 nt, .slice A xs.length c] 24)) (.cells #[.int .i64 0, .string ⟨#[]⟩, .int .i64 0, .slice none 0 0] 24)
    rw [World.size_alloc] at this
    exact blk_alloc this _
  have kR : (((w.alloc (.cells #[.int .i64 kd, .string nm, .int .i64 nt, .slice A xs.length c] 24)).alloc (.cells #[.int .i64 0, .string ⟨#[]⟩, .int .i64 0, .slice none 0 0] 24)).alloc (.cells #[.int .i64 0, .string ⟨#[]⟩, .int .i64 0, .slice none 0 0] 24)).heap[w.heap.size + 1 + 1]? = some (.cells #[.int .i64 0, .string ⟨#[]⟩, .int .i64 0, .slice none 0 0] 24 (0, 0)) := by
    have := blk_new ((w.alloc (.cells #[.int .i64 kd, .string nm, .int .i64 nt, .slice A xs.length c] 24)).alloc (.cells #[.int .i64 0, .string ⟨#[]⟩, .int .i64 0, .slice none 0 0] 24)) (.cells #[.int .i64 0, .string ⟨#[]⟩, .int .i64 0, .slice none 0 0] 24)
    rw [World.size_alloc, World.size_alloc] at this
    exact this
  by_cases k4 : kd = 4
  · subst k4
    rw [if_pos rfl]
    have hn4 : nodes ⟨4, nm, nt, xs⟩ = 1 + nodesL xs := by rw [nodes, if_pos rfl]
    rw [hn4] at hnd
    have hz : ∀ a ∈ xs, SizeOf.sizeOf a < n ∧ nodes a < 1000000 := fun a ha => ⟨by rw [← hn]; exact sz_mem (t := ⟨4, nm, nt, xs⟩) ha, by have := (nodesL_mem ha).1; omega⟩
    have hxl : xs.length ≤ nodesL xs := nodesL_length xs
    clear hn hn4 h0
    have hmx := hC.2.1
    go_enter Try.func65, Try.ntmps65
    go_upto_region 7 with (fail)
    have hB4 := below_alloc hB3 (.cells #[.int .i64 4, .string nm, .int .i64 0, .slice none 0 0] 24)
    replace kT := blk_alloc kT (.cells #[.int .i64 4, .string nm, .int .i64 0, .slice none 0 0] 24)
    replace kX := blk_alloc kX (.cells #[.int .i64 4, .string nm, .int .i64 0, .slice none 0 0] 24)
    replace kR := blk_alloc kR (.cells #[.int .i64 4, .string nm, .int .i64 0, .slice none 0 0] 24)
    have kO : ((((w.alloc (.cells #[.int .i64 4, .string nm, .int .i64 nt, .slice A xs.length c] 24)).alloc (.cells #[.int .i64 0, .string ⟨#[]⟩, .int .i64 0, .slice none 0 0] 24)).alloc (.cells #[.int .i64 0, .string ⟨#[]⟩, .int .i64 0, .slice none 0 0] 24)).alloc (.cells #[.int .i64 4, .string nm, .int .i64 0, .slice none 0 0] 24)).heap[w.heap.size + 1 + 1 + 1]? = some (.cells #[.int .i64 4, .string nm, .int .i64 0, .slice none 0 0] 24 (0, 0)) := by
      have := blk_new (((w.alloc (.cells #[.int .i64 4, .string nm, .int .i64 nt, .slice A xs.length c] 24)).alloc (.cells #[.int .i64 0, .string ⟨#[]⟩, .int .i64 0, .slice none 0 0] 24)).alloc (.cells #[.int .i64 0, .string ⟨#[]⟩, .int .i64 0, .slice none 0 0] 24)) (.cells #[.int .i64 4, .string nm, .int .i64 0, .slice none 0 0] 24)
      rw [World.size_alloc, World.size_alloc, World.size_alloc] at this
      exact this
    generalize (((w.alloc (.cells #[.int .i64 4, .string nm, .int .i64 nt, .slice A xs.length c] 24)).alloc (.cells #[.int .i64 0, .string ⟨#[]⟩, .int .i64 0, .slice none 0 0] 24)).alloc (.cells #[.int .i64 0, .string ⟨#[]⟩, .int .i64 0, .slice none 0 0] 24)).alloc (.cells #[.int .i64 4, .string nm, .int .i64 0, .slice none 0 0] 24) = w4 at hB4 kT kX kR kO ⊢
    clear hB3
    go_loopw [8] (fun i wr => ∃ (k : Nat) (v : Value), k ≤ xs.length ∧ i = .int .i64 k ∧ wr.heap[w.heap.size]? = some (.cells #[.int .i64 4, .string nm, .int .i64 nt, .slice A xs.length c] 24 (0, 0)) ∧
        wr.heap[w.heap.size + 1]? = some (.cells #[.int .i64 0, .string ⟨#[]⟩, .int .i64 0, .slice none 0 0] 24 (0, 0)) ∧ wr.heap[w.heap.size + 1 + 1]? = some (.cells #[.int .i64 0, .string ⟨#[]⟩, .int .i64 0, .slice none 0 0] 24 (0, 0)) ∧
        wr.heap[w.heap.size + 1 + 1 + 1]? = some (.cells #[.int .i64 4, .string nm, .int .i64 0, v] 24 (0, 0)) ∧ Kd.R k24 24 wr w.heap.size (fun j => w.heap.size + 1 + 1 + 1 < j) v (cpRL (xs.take k)) ∧ Below w.heap.size w wr)
      (fun i _ => xs.length - (intOf i).toNat)
    case atStart => exact ⟨0, .slice none 0 0, Nat.zero_le _, rfl, kT, kX, kR, kO, by rw [List.take_zero, cpRL]; exact Kd.R_nil _ _ _ _ _, hB4⟩
    case round =>
      clear kT kX kR kO hB4
      obtain ⟨k, v, hk, rfl, kT, kX, kR, kO, hRv, hBr⟩ := hrel
      have hB0 := below_step hB hBr
      have x3 := blk_cell kT 3
      by_cases hlt : k < xs.length
      · obtain ⟨ad, A3, c3, rfl, y0, y1, y2, y3, l3, g3⟩ := C_rd hC k hlt rfl
        have htk := cpRL_take xs k hlt
        have hza := hz _ (List.getElem_mem hlt)
        have hal := cpRL_len (xs.take k)
        rw [List.length_take, Nat.min_eq_left hk] at hal
        replace hal : (cpRL (xs.take k)).length ≤ xs.length := by omega
        generalize xs[k] = a at y0 y1 y2 y3 l3 g3 htk hza
        generalize hac : cpRL (xs.take k) = acc at hRv htk hal
        clear hac
        have HTK := Lib.hid htk
        clear htk
        have HS := Lib.hid (show ∀ W, W.heap[w.heap.size]? = some (.cells #[.int .i64 4, .string nm, .int .i64 nt, .slice (some ad) xs.length c] 24 (0, 0)) → W.heap[w.heap.size + 1]? = some (.cells #[.int .i64 0, .string ⟨#[]⟩, .int .i64 0, .slice none 0 0] 24 (0, 0)) → Below w0.heap.size w0 W → W.cell? ⟨w.heap.size, 3, none⟩ = some (.slice (some ad) xs.length c) ∧ W.cell? ⟨w.heap.size + 1, 0, none⟩ = some (.int .i64 0) ∧ W.cell? ⟨w.heap.size + 1, 1, none⟩ = some (.string ⟨#[]⟩) ∧ W.cell? ⟨w.heap.size + 1, 2, none⟩ = some (.int .i64 0) ∧ W.cell? ⟨w.heap.size + 1, 3, none⟩ = some (.slice none 0 0) ∧ W.cell? (ad.add (k * 4)) = some (.int .i64 a.f0) ∧ W.cell? ⟨(ad.add (k * 4)).block, (ad.add (k * 4)).off + 1, none⟩ = some (.string a.f1) ∧ W.cell? ⟨(ad.add (k * 4)).block, (ad.add (k * 4)).off + 2, none⟩ = some (.int .i64 a.f2) ∧ W.cell? ⟨(ad.add (k * 4)).block, (ad.add (k * 4)).off + 3, none⟩ = some (.slice A3 a.f3.length c3) from fun W k1 k2 hW =>
          ⟨blk_cell k1 3, blk_cell k2 0, blk_cell k2 1, blk_cell k2 2, blk_cell k2 3, (hW.cell (World.block_lt_of_cell? w0 _ y0)).trans y0, (hW.cell (World.block_lt_of_cell? w0 _ y1)).trans y1, (hW.cell (World.block_lt_of_cell? w0 _ y2)).trans y2, (hW.cell (World.block_lt_of_cell? w0 _ y3)).trans y3⟩)
        have hS1 := HS.out wr.drew kT kX hB0.drew
        have hi := ih _ hza.1 a rfl w0 wr.drew c3 A3 g3 l3 hB0.drew hza.2
        have d0 : Below wr.heap.size wr wr.drew := (Below.refl _ wr).drew
        have o30 : wr.drew.cell? ⟨w.heap.size + 1 + 1 + 1, 3, none⟩ = some v := blk_cell (show wr.drew.heap[w.heap.size + 1 + 1 + 1]? = some (.cells #[.int .i64 4, .string nm, .int .i64 0, v] 24 (0, 0)) from kO) 3
        have hvo : ∀ j, v.ownBlock = some j → w.heap.size + 1 + 1 + 1 < j ∧ j < wr.heap.size := fun j hj => ⟨hRv.1 j hj, ((Kd.R_bound hRv).1 j hj).2.2.1⟩
        have hwr := hBr.size
        have hsz := blk_lt kO
        obtain ⟨r, hr⟩ : ∃ r, r = cpR a := ⟨_, rfl⟩
        rw [← hr] at hi HTK
        clear hr ih y0 y1 y2 y3 hB0 hk
        obtain ⟨e0, e1, e2, e3⟩ := r
        simp only at hi
        go_wp2_with fail
        refine start_ (n := 14) (S := fun W => W.cell? ⟨w.heap.size, 3, none⟩ = some (.slice (some ad) xs.length c) ∧ W.cell? ⟨w.heap.size + 1, 0, none⟩ = some (.int .i64 0) ∧ W.cell? ⟨w.heap.size + 1, 1, none⟩ = some (.string ⟨#[]⟩) ∧ W.cell? ⟨w.heap.size + 1, 2, none⟩ = some (.int .i64 0) ∧ W.cell? ⟨w.heap.size + 1, 3, none⟩ = some (.slice none 0 0) ∧ W.cell? (ad.add (k * 4)) = some (.int .i64 a.f0) ∧ W.cell? ⟨(ad.add (k * 4)).block, (ad.add (k * 4)).off + 1, none⟩ = some (.string a.f1) ∧ W.cell? ⟨(ad.add (k * 4)).block, (ad.add (k * 4)).off + 2, none⟩ = some (.int .i64 a.f2) ∧ W.cell? ⟨(ad.add (k * 4)).block, (ad.add (k * 4)).off + 3, none⟩ = some (.slice A3 a.f3.length c3) ∧ W.cell? ⟨w.heap.size + 1 + 1 + 1, 3, none⟩ = some v) (ds := [13]) #[false, false, false, false, false, false, false, false, false, false, false, false, false, false] (by kernel_rfl) rfl rfl (by obtain ⟨a0, a1, a2, a3, a4, a5, a6, a7, a8⟩ := hS1; exact ⟨a0, a1, a2, a3, a4, a5, a6, a7, a8, o30⟩) (fun hHeld => ?_)
        refine with_tabW rput_tab9 rput_bits9 (fun HT_ HW_ => ?_)
        refine pure_ (i := 0) (N := some 34) (v := ?_) (a' := ?_) #[true, false, false, false, false, false, false, false, false, false, false, false, false, false] rfl rfl (any_of HT_.out (by kernel_rfl)) (fun _ _ _ h => h) (Or.inl ⟨by rfl, ?_⟩) ?_ ?_
        rotate_left
        · intro w'
          go_simp
          with_reducible rfl
        rotate_left
        · simp only [Act.put, List.setIfInBounds_toArray, List.set_cons_zero, List.set_cons_succ]
          rfl
        refine pure_ (i := 2) (N := some 36) (v := ?_) (a' := ?_) #[true, false, true, false, false, false, false, false, false, false, false, false, false, false] rfl rfl (any_of HT_.out (by kernel_rfl)) (fun _ _ _ h => h) (Or.inl ⟨by rfl, ?_⟩) ?_ ?_
        rotate_left
        · intro w'
          go_simp
          with_reducible rfl
        rotate_left
        · simp only [Act.put, List.setIfInBounds_toArray, List.set_cons_zero, List.set_cons_succ]
          rfl
        refine pure_ (i := 4) (N := some 38) (v := ?_) (a' := ?_) #[true, false, true, false, true, false, false, false, false, false, false, false, false, false] rfl rfl (any_of HT_.out (by kernel_rfl)) (fun _ _ _ h => h) (Or.inl ⟨by rfl, ?_⟩) ?_ ?_
        rotate_left
        · intro w'
          go_simp
          with_reducible rfl
        rotate_left
        · simp only [Act.put, List.setIfInBounds_toArray, List.set_cons_zero, List.set_cons_succ]
          rfl
        refine pure_ (i := 7) (N := some 41) (v := ?_) (a' := ?_) #[true, false, true, false, true, false, false, true, false, false, false, false, false, false] rfl rfl (any_of HT_.out (by kernel_rfl)) (fun _ _ _ h => h) (Or.inl ⟨by rfl, ?_⟩) ?_ ?_
        rotate_left
        · intro w'
          go_simp
          with_reducible rfl
        rotate_left
        · simp only [Act.put, List.setIfInBounds_toArray, List.set_cons_zero, List.set_cons_succ]
          rfl
        refine take_ (i := 1) (N := some 35) (v := ?_) (a' := ?_) #[true, true, true, false, true, false, false, true, false, false, false, false, false, false] rfl rfl (take_ofW HT_.out HW_.out (by kernel_rfl)) (fun _ _ _ h => h) (Or.inl ⟨by rfl, ?_⟩) hHeld ?_ ?_
        rotate_left
        · rintro w' ⟨s0, s1, s2, s3, s4, s5, s6, s7, s8, s9⟩
          go_simp
          with_reducible rfl
        rotate_left
        · simp only [Act.put, List.setIfInBounds_toArray, List.set_cons_zero, List.set_cons_succ]
          rfl
        refine take_ (i := 3) (N := some 37) (v := ?_) (a' := ?_) #[true, true, true, true, true, false, false, true, false, false, false, false, false, false] rfl rfl (take_ofW HT_.out HW_.out (by kernel_rfl)) (fun _ _ _ h => h) (Or.inl ⟨by rfl, ?_⟩) hHeld ?_ ?_
        rotate_left
        · rintro w' ⟨s0, s1, s2, s3, s4, s5, s6, s7, s8, s9⟩
          go_simp
          with_reducible rfl
        rotate_left
        · simp only [Act.put, List.setIfInBounds_toArray, List.set_cons_zero, List.set_cons_succ]
          rfl
        refine pure_ (i := 5) (N := some 39) (v := ?_) (a' := ?_) #[true, true, true, true, true, true, false, true, false, false, false, false, false, false] rfl rfl (any_of HT_.out (by kernel_rfl)) (fun _ _ _ h => h) (Or.inl ⟨by rfl, ?_⟩) ?_ ?_
        rotate_left
        · intro w'
          go_simp
          with_reducible rfl
        rotate_left
        · simp only [Act.put, List.setIfInBounds_toArray, List.set_cons_zero, List.set_cons_succ]
          rfl
        refine take_ (i := 6) (N := some 40) (v := ?_) (a' := ?_) #[true, true, true, true, true, true, true, true, false, false, false, false, false, false] rfl rfl (take_ofW HT_.out HW_.out (by kernel_rfl)) (fun _ _ _ h => h) (Or.inl ⟨by rfl, ?_⟩) hHeld ?_ ?_
        rotate_left
        · rintro w' ⟨s0, s1, s2, s3, s4, s5, s6, s7, s8, s9⟩
          go_simp
          with_reducible rfl
        rotate_left
        · simp only [Act.put, List.setIfInBounds_toArray, List.set_cons_zero, List.set_cons_succ]
          rfl
        refine take_ (i := 8) (N := some 42) (v := ?_) (a' := ?_) #[true, true, true, true, true, true, true, true, true, false, false, false, false, false] rfl rfl (take_ofW HT_.out HW_.out (by kernel_rfl)) (fun _ _ _ h => h) (Or.inl ⟨by rfl, ?_⟩) hHeld ?_ ?_
        rotate_left
        · rintro w' ⟨s0, s1, s2, s3, s4, s5, s6, s7, s8, s9⟩
          go_simp
          with_reducible rfl
        rotate_left
        · simp only [Act.put, List.setIfInBounds_toArray, List.set_cons_zero, List.set_cons_succ]
          rfl
        refine one_ (i := 9) (N := some 43) #[true, true, true, true, true, true, true, true, true, true, false, false, false, false] rfl rfl (one_of HT_.out (by kernel_rfl)) (by decide) (fun K hK => ?_)
        refine goes_ Try.func65 (by kernel_rfl) rfl #[.agg #[.int .i64 a.f0, .string a.f1, .int .i64 a.f2, .slice A3 a.f3.length c3], .int .i64 0, .agg #[.int .i64 0, .string ⟨#[]⟩, .int .i64 0, .slice none 0 0]] (by rfl) rfl rfl (by (try simp only [List.map_toArray, List.map_cons, List.map_nil]); first | done | rfl) ?_
        with_reducible refine hi.mono ?_
        rintro e wy ⟨v5, rfl, R5, d5⟩
        obtain ⟨A5, c5, rfl, hc5, C5⟩ := Kd.R_reads R5
        have D5 := below_step d0 d5
        have kT5 := blk_below kT D5
        have kX5 := blk_below kX D5
        have kR5 := blk_below kR D5
        have kO5 := blk_below kO D5
        have B5 := below_step (below_step hB hBr) D5
        have hRy := Kd.R_below hRv D5
        have hwy := D5.size
        have hM : Kd.M k24 wy w.heap.size (fun j => wr.heap.size ≤ j) ⟨e0, e1, e2, e3⟩ [.int .i64 e0, .string e1, .int .i64 e2, .slice A5 e3.length c5] := k24_mkM wy w.heap.size _ ⟨e0, e1, e2, e3⟩ (Kd.R_mono (Kd.R_lower (Kd.R_bound R5) (by simpa using hwr)) (fun j hj => by have := hj.2.1; simpa using this))
        refine ⟨_, rfl, ?_⟩
        refine hK.out _ _ (by obtain ⟨a0, a1, a2, a3, a4, a5, a6, a7, a8⟩ := HS.out wy kT5 kX5 B5; exact ⟨a0, a1, a2, a3, a4, a5, a6, a7, a8, blk_cell kO5 3⟩) (fun hHeld => ?_)
        clear hK K
        refine norm_ (a' := ?_) ?_ ?_
        rotate_left
        · show Act.put _ (some 43) _ = _
          simp only [Act.put, List.setIfInBounds_toArray, List.set_cons_zero, List.set_cons_succ]
          rfl
        refine one_ (i := 10) (N := some 44) #[true, true, true, true, true, true, true, true, true, true, true, false, false, false] rfl rfl (one_of HT_.out (by kernel_rfl)) (by decide) (fun K hK => ?_)
        refine value_ (w1 := ?_) (v := ?_) (by rfl) rfl ?_ ?_
        rotate_left 2
        · go_simp
          constructor
          · rfl
          · rfl
        refine hK.out _ _ (by obtain ⟨a0, a1, a2, a3, a4, a5, a6, a7, a8⟩ := HS.out _ (blk_alloc kT5 _) (blk_alloc kX5 _) (below_alloc B5 _); exact ⟨a0, a1, a2, a3, a4, a5, a6, a7, a8, blk_cell (blk_alloc kO5 _) 3⟩) (fun hHeld => ?_)
        clear hK K
        refine norm_ (a' := ?_) ?_ ?_
        rotate_left
        · show Act.put _ (some 44) _ = _
          simp only [Act.put, List.setIfInBounds_toArray, List.set_cons_zero, List.set_cons_succ]
          rfl
        refine one_ (i := 11) (N := some 45) #[true, true, true, true, true, true, true, true, true, true, true, true, false, false] rfl rfl (one_of HT_.out (by kernel_rfl)) (by decide) (fun K hK => ?_)
        refine Kd.R_append_step k24 (w0 := w) w.heap.size (by rfl) (.tmp 35) (.tmp 44) 22 24 (.agg #[.int .i64 0, .string ⟨#[]⟩, .int .i64 0, .slice none 0 0]) 56 rfl Try.underlying22 info24 rfl (by decide) (by omega) v acc (⟨e0, e1, e2, e3⟩ : S24) [.int .i64 e0, .string e1, .int .i64 e2, .slice A5 e3.length c5] (fun j => w.heap.size + 1 + 1 + 1 < j) (fun j => wr.heap.size ≤ j) (by rfl) (by rfl) hM (fun j hj => ⟨by omega, fun e => by have := hvo j e.symm; omega⟩) (fun j hj => by omega) hRy (below_step hBr D5) (by omega) (by omega) ?_
        intro v8 w8 hR8 hb8 hg8 hat8
        have hlen : (acc ++ [(⟨e0, e1, e2, e3⟩ : S24)]).length = acc.length + 1 := by simp
        obtain ⟨A8, c8, rfl, hc8, C8⟩ := Kd.R_reads hR8
        rw [hlen] at hR8 ⊢
        clear hlen
        have kT8 := blk_grown kT5 hg8 (fun e => by have := hvo _ e.symm; omega)
        have kX8 := blk_grown kX5 hg8 (fun e => by have := hvo _ e.symm; omega)
        have kR8 := blk_grown kR5 hg8 (fun e => by have := hvo _ e.symm; omega)
        have kO8 := blk_grown kO5 hg8 (fun e => by have := hvo _ e.symm; omega)
        have B8 := below_step hB hb8
        refine hK.out _ _ (by obtain ⟨a0, a1, a2, a3, a4, a5, a6, a7, a8⟩ := HS.out w8 kT8 kX8 B8; exact ⟨a0, a1, a2, a3, a4, a5, a6, a7, a8, blk_cell kO8 3⟩) (fun hHeld => ?_)
        clear hK K
        refine norm_ (a' := ?_) ?_ ?_
        rotate_left
        · show Act.put _ (some 45) _ = _
          simp only [Act.put, List.setIfInBounds_toArray, List.set_cons_zero, List.set_cons_succ]
          rfl
        refine pure_ (i := 12) (N := some 46) (v := ?_) (a' := ?_) #[true, true, true, true, true, true, true, true, true, true, true, true, true, false] rfl rfl (any_of HT_.out (by kernel_rfl)) (fun _ _ _ h => h) (Or.inl ⟨by rfl, ?_⟩) ?_ ?_
        rotate_left
        · intro w'
          go_simp
          with_reducible rfl
        rotate_left
        · simp only [Act.put, List.setIfInBounds_toArray, List.set_cons_zero, List.set_cons_succ]
          rfl
        refine last_ (i := 13) (N := none) #[true, true, true, true, true, true, true, true, true, true, true, true, true, true] rfl rfl (one_of HT_.out (by kernel_rfl)) (by decide) (fun K hK => ?_)
        have p3 := blk_cell kO8 3
        have fo := fun i => blk_frozen kO8 i
        have lo := blk_lt kO8
        refine skip_ (w1 := ?_) (by rfl) rfl ?_ ?_
        rotate_left
        · go_simp
          rfl
        refine hK.out _ _ ?_
        clear hK K
        refine done_ (done_of HT_.out (by kernel_rfl)) ?_
        go_wp2
        go_roundw
        case rel => exact ⟨k + 1, .slice A8 (acc.length + 1) c8, by omega, by go_num, blk_far kT8 (show w.heap.size ≠ w.heap.size + 1 + 1 + 1 by omega) _, blk_far kX8 (show w.heap.size + 1 ≠ w.heap.size + 1 + 1 + 1 by omega) _, blk_far kR8 (show w.heap.size + 1 + 1 ≠ w.heap.size + 1 + 1 + 1 by omega) _, blk_set kO8 3 _, by rw [HTK.out]; exact Kd.R_step hR8 (fun j hj _ => Below.heap_setCell _ _ _ j (show j ≠ w.heap.size + 1 + 1 + 1 by omega)), below_set hb8 (by omega)⟩
        case measure => simp [intOf]; omega
      · obtain rfl : k = xs.length := by omega
        rw [List.take_length] at hRv
        obtain ⟨Av, cv, rfl, hcv, Cv⟩ := Kd.R_reads hRv
        have o0 := blk_cell kO 0
        have o1 := blk_cell kO 1
        have o2 := blk_cell kO 2
        have o3 := blk_cell kO 3
        have r0 := blk_cell kR 0
        have r1 := blk_cell kR 1
        have r2 := blk_cell kR 2
        have r3 := blk_cell kR 3
        have fr := fun i => blk_frozen kR i
        have lr := blk_lt kR
        clear ih
        go_wp2
        have kF := res_box kR (.int .i64 4) (.string nm) (.int .i64 0) (.slice Av (cpRL xs).length cv)
        have hBF : Below w.heap.size w ((((wr.setCell ⟨w.heap.size + 1 + 1, 0, none⟩ (.int .i64 4)).setCell ⟨w.heap.size + 1 + 1, 1, none⟩ (.string nm)).setCell ⟨w.heap.size + 1 + 1, 2, none⟩ (.int .i64 0)).setCell ⟨w.heap.size + 1 + 1, 3, none⟩ (.slice Av (cpRL xs).length cv)) :=
          below_set (below_set (below_set (below_set hBr (by omega)) (by omega)) (by omega)) (by omega)
        have hRF := R_set4 (g := w.heap.size + 1 + 1) hRv (fun j hj => by omega) (.int .i64 4) (.string nm) (.int .i64 0) (.slice Av (cpRL xs).length cv)
        generalize ((((wr.setCell ⟨w.heap.size + 1 + 1, 0, none⟩ (.int .i64 4)).setCell ⟨w.heap.size + 1 + 1, 1, none⟩ (.string nm)).setCell ⟨w.heap.size + 1 + 1, 2, none⟩ (.int .i64 0)).setCell ⟨w.heap.size + 1 + 1, 3, none⟩ (.slice Av (cpRL xs).length cv)) = WF at kF hBF hRF ⊢
        have q0 := blk_cell kF 0
        have q1 := blk_cell kF 1
        have q2 := blk_cell kF 2
        have q3 := blk_cell kF 3
        refine bodyPost_ret (v := .agg #[.int .i64 4, .string nm, .int .i64 0, .slice Av (cpRL xs).length cv]) (by simp [results, Try.results65, go_sem, q0, q1, q2, q3]) rfl ?_
        exact ⟨.slice Av (cpRL xs).length cv, rfl, Kd.R_mono hRF (fun _ _ => trivial), hBF⟩
  · rw [if_neg k4]
    have k4' : (kd != 4) = true := by simpa using k4
    have hbare := rbare_any ⟨kd, nm, nt, xs⟩ (((w.alloc (.cells #[.int .i64 kd, .string nm, .int .i64 nt, .slice A xs.length c] 24)).alloc (.cells #[.int .i64 0, .string ⟨#[]⟩, .int .i64 0, .slice none 0 0] 24)).alloc (.cells #[.int .i64 0, .string ⟨#[]⟩, .int .i64 0, .slice none 0 0] 24)) A c
    have hbv : bareR ⟨kd, nm, nt, xs⟩ = if kd ≤ 2 then ⟨kd, ⟨#[]⟩, nt, []⟩ else ⟨kd, nm, 0, []⟩ := rfl
    rw [← hbv]
    have hb3 : (bareR ⟨kd, nm, nt, xs⟩).f3 = [] := by unfold bareR; split <;> rfl
    generalize bareR ⟨kd, nm, nt, xs⟩ = bt at hbare hb3 ⊢
    clear hbv ih
    have hg : kd = 1 ∧ nt ≠ 0 ∨ kd ≠ 1 := by omega
    rcases hg with ⟨rfl, hnt⟩ | hk1
    · have hnt' : (nt == 0) = false := by simpa using hnt
      go_enter Try.func65, Try.ntmps65
      go_wp2_with fail
      refine hbare.mono ?_
      rintro e w1 ⟨rfl, hb1⟩
      replace kR := blk_below kR hb1
      have hB5 := below_step hB3 hb1
      have r0 := blk_cell kR 0
      have r1 := blk_cell kR 1
      have r2 := blk_cell kR 2
      have r3 := blk_cell kR 3
      have fr := fun i => blk_frozen kR i
      have lr := blk_lt kR
      clear hb1 hbare kT kX hB3
      go_wp2
      have kF := res_box kR (.int .i64 bt.f0) (.string bt.f1) (.int .i64 bt.f2) (.slice none 0 0)
      have hBF : Below w.heap.size w ((((w1.setCell ⟨w.heap.size + 1 + 1, 0, none⟩ (.int .i64 bt.f0)).setCell ⟨w.heap.size + 1 + 1, 1, none⟩ (.string bt.f1)).setCell ⟨w.heap.size + 1 + 1, 2, none⟩ (.int .i64 bt.f2)).setCell ⟨w.heap.size + 1 + 1, 3, none⟩ (.slice none 0 0)) :=
        below_set (below_set (below_set (below_set hB5 (by omega)) (by omega)) (by omega)) (by omega)
      generalize ((((w1.setCell ⟨w.heap.size + 1 + 1, 0, none⟩ (.int .i64 bt.f0)).setCell ⟨w.heap.size + 1 + 1, 1, none⟩ (.string bt.f1)).setCell ⟨w.heap.size + 1 + 1, 2, none⟩ (.int .i64 bt.f2)).setCell ⟨w.heap.size + 1 + 1, 3, none⟩ (.slice none 0 0)) = WF at kF hBF ⊢
      have q0 := blk_cell kF 0
      have q1 := blk_cell kF 1
      have q2 := blk_cell kF 2
      have q3 := blk_cell kF 3
      refine bodyPost_ret (v := .agg #[.int .i64 bt.f0, .string bt.f1, .int .i64 bt.f2, .slice none 0 0]) (by simp [results, Try.results65, go_sem, q0, q1, q2, q3]) rfl ?_
      exact ⟨.slice none 0 0, rfl, by rw [hb3]; exact Kd.R_nil _ _ _ _ _, hBF⟩
    · have hk1' : (kd == 1) = false := by simpa using hk1
      go_enter Try.func65, Try.ntmps65
      go_wp2_with fail
      refine hbare.mono ?_
      rintro e w1 ⟨rfl, hb1⟩
      replace kR := blk_below kR hb1
      have hB5 := below_step hB3 hb1
      have r0 := blk_cell kR 0
      have r1 := blk_cell kR 1
      have r2 := blk_cell kR 2
      have r3 := blk_cell kR 3
      have fr := fun i => blk_frozen kR i
      have lr := blk_lt kR
      clear hb1 hbare kT kX hB3
      go_wp2
      have kF := res_box kR (.int .i64 bt.f0) (.string bt.f1) (.int .i64 bt.f2) (.slice none 0 0)
      have hBF : Below w.heap.size w ((((w1.setCell ⟨w.heap.size + 1 + 1, 0, none⟩ (.int .i64 bt.f0)).setCell ⟨w.heap.size + 1 + 1, 1, none⟩ (.string bt.f1)).setCell ⟨w.heap.size + 1 + 1, 2, none⟩ (.int .i64 bt.f2)).setCell ⟨w.heap.size + 1 + 1, 3, none⟩ (.slice none 0 0)) :=
        below_set (below_set (below_set (below_set hB5 (by omega)) (by omega)) (by omega)) (by omega)
      generalize ((((w1.setCell ⟨w.heap.size + 1 + 1, 0, none⟩ (.int .i64 bt.f0)).setCell ⟨w.heap.size + 1 + 1, 1, none⟩ (.string bt.f1)).setCell ⟨w.heap.size + 1 + 1, 2, none⟩ (.int .i64 bt.f2)).setCell ⟨w.heap.size + 1 + 1, 3, none⟩ (.slice none 0 0)) = WF at kF hBF ⊢
      have q0 := blk_cell kF 0
      have q1 := blk_cell kF 1
      have q2 := blk_cell kF 2
      have q3 := blk_cell kF 3
      refine bodyPost_ret (v := .agg #[.int .i64 bt.f0, .string bt.f1, .int .i64 bt.f2, .slice none 0 0]) (by simp [results, Try.results65, go_sem, q0, q1, q2, q3]) rfl ?_
      exact ⟨.slice none 0 0, rfl, by rw [hb3]; exact Kd.R_nil _ _ _ _ _, hBF⟩

end Go.Proofs.Ytpnkaggkedepeaa
