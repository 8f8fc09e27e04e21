/- Rename, Variant, Vars, Apply, Items. -/
import Derived.Test.YtpnkaggkedepeaaTmGb
import Derived.RegionTactic
import Derived.ChangeAlike

/- Rename in plain words and its walk. -/
namespace Go.Proofs.Ytpnkaggkedepeaa
set_option linter.unusedVariables false
open Go.RowKit Go.Maps Go.Proofs.YtpnkaggkedepeaaW.PrintWords Go.Proofs.YtpnkaggkedepeaaW.PrintLast Go.Proofs.YtpnkaggkedepeaaW.PrintMore Go.Proofs.Ytpnkaggkedepeaa.PTermTells Go.Extern

theorem tightT {w : World} {b n : Nat} {L : Tm} (h : w.ownsMap Try.prog 2 rawE b n (mdat encT L)) : TmapAt w b L := by
  have hs := mdat_size encT L
  obtain ⟨es, clock, hb, F, hn, hD⟩ := h
  refine ⟨es, clock, hb, F, ?_, hD⟩
  rw [hD] at hs
  simp only [Maps.size, length_sorted, List.length_map, Array.length_toList] at hs
  omega
theorem putTm {w' : World} {b n : Nat} {L : Tm} {k : Int} {p : Tv} (h1 : w'.ownsMap Try.prog 2 rawE b n ((mdat encT L).put (.int .i64 k) (.held (encT p)))) : TmapAt w' b (mput k p L) := by
  rw [mdat_put] at h1
  exact tightT h1
theorem TmapAt.new (w : World) : TmapAt (w.alloc (.map #[] 0)) w.heap.size [] := World.ownsMap_made (H := Value) w Try.prog 2 rawE
theorem ints_rd {w : World} {A : Option Addr} {n : Nat} {xs : List Int} (h : Kd.C (Kd.int .i64) w A n xs) (k : Nat) (hk : k < xs.length) :
    ∃ ad, A = some ad ∧ w.cell? (ad.add k) = some (.int .i64 xs[k]) := by
  have h1 := h.1
  obtain ⟨ad, e, hx⟩ := Kd.at_int h (k : Int) (by omega) (by omega)
  refine ⟨ad, e, ?_⟩
  simpa [rd, List.getD_eq_getElem?_getD, List.getElem?_eq_getElem hk] using hx

theorem right_call (t : S24) (W : World) (g : Nat) (A : Option Addr) (c : Nat) (hC : Kd.C k24 W A t.f3.length t.f3) (hc : t.f3.length ≤ c) (hb : W.heap[g]? = some (.cells #[.int .i64 t.f0, .string t.f1, .int .i64 t.f2, .slice A t.f3.length c] 24 (0, 0))) :
    Calls Try.prog 51 #[.slice (some ⟨g, 0, none⟩) 1 1] W fun e w' => e = .returned (.bool (okT t)) ∧ Below W.heap.size W w' := by
  have h := right_any [t] W (some ⟨g, 0, none⟩) 1 (C_one hb hc hC) (by simp)
  refine h.mono fun e w' ⟨he, hw⟩ => ⟨by rw [he]; simp, hw⟩

/-- A term stored into the box of the result, one box more: what is read there, and that nothing else has turned. -/
theorem box_ret {w W : World} {g : Nat} {ok : Nat → Prop} {z0 z1 z2 z3 : Value} {v : Value} {xs : List S24} (X : Obj) (e0 : Int) (e1 : ByteArray) (e2 : Int)
    (hb : W.heap[g]? = some (.cells #[z0, z1, z2, z3] 24 (0, 0))) (hR : Kd.R k24 24 W w.heap.size ok v xs) (hg : ∀ j, ok j → j ≠ g) (hB : Below w.heap.size w W) (hlt : w.heap.size ≤ g) :
    (((((W.setCell ⟨g, 0, none⟩ (.int .i64 e0)).setCell ⟨g, 1, none⟩ (.string e1)).setCell ⟨g, 2, none⟩ (.int .i64 e2)).setCell ⟨g, 3, none⟩ v).alloc X).cell? ⟨g, 0, none⟩ = some (.int .i64 e0) ∧
    (((((W.setCell ⟨g, 0, none⟩ (.int .i64 e0)).setCell ⟨g, 1, none⟩ (.string e1)).setCell ⟨g, 2, none⟩ (.int .i64 e2)).setCell ⟨g, 3, none⟩ v).alloc X).cell? ⟨g, 1, none⟩ = some (.string e1) ∧
    (((((W.setCell ⟨g, 0, none⟩ (.int .i64 e0)).setCell ⟨g, 1, none⟩ (.string e1)).setCell ⟨g, 2, none⟩ (.int .i64 e2)).setCell ⟨g, 3, none⟩ v).alloc X).cell? ⟨g, 2, none⟩ = some (.int .i64 e2) ∧
    (((((W.setCell ⟨g, 0, none⟩ (.int .i64 e0)).setCell ⟨g, 1, none⟩ (.string e1)).setCell ⟨g, 2, none⟩ (.int .i64 e2)).setCell ⟨g, 3, none⟩ v).alloc X).cell? ⟨g, 3, none⟩ = some v ∧
    Kd.R k24 24 (((((W.setCell ⟨g, 0, none⟩ (.int .i64 e0)).setCell ⟨g, 1, none⟩ (.string e1)).setCell ⟨g, 2, none⟩ (.int .i64 e2)).setCell ⟨g, 3, none⟩ v).alloc X) w.heap.size (fun _ => True) v xs ∧
    Below w.heap.size w (((((W.setCell ⟨g, 0, none⟩ (.int .i64 e0)).setCell ⟨g, 1, none⟩ (.string e1)).setCell ⟨g, 2, none⟩ (.int .i64 e2)).setCell ⟨g, 3, none⟩ v).alloc X) := by
  have kF := blk_alloc (res_box hb (.int .i64 e0) (.string e1) (.int .i64 e2) v) X
  refine ⟨blk_cell kF 0, blk_cell kF 1, blk_cell kF 2, blk_cell kF 3, Kd.R_mono (Kd.R_alloc (R_set4 hR hg _ _ _ _) X) (fun _ _ => trivial), ?_⟩
  refine below_alloc ?_ X
  exact below_set (below_set (below_set (below_set hB hlt) hlt) hlt) hlt

/-- A term stored into the box of the result: what is read there, and that nothing else has turned. -/
theorem box_ret0 {w W : World} {g : Nat} {ok : Nat → Prop} {z0 z1 z2 z3 : Value} {v : Value} {xs : List S24} (e0 : Int) (e1 : ByteArray) (e2 : Int)
    (hb : W.heap[g]? = some (.cells #[z0, z1, z2, z3] 24 (0, 0))) (hR : Kd.R k24 24 W w.heap.size ok v xs) (hg : ∀ j, ok j → j ≠ g) (hB : Below w.heap.size w W) (hlt : w.heap.size ≤ g) :
    ((((W.setCell ⟨g, 0, none⟩ (.int .i64 e0)).setCell ⟨g, 1, none⟩ (.string e1)).setCell ⟨g, 2, none⟩ (.int .i64 e2)).setCell ⟨g, 3, none⟩ v).cell? ⟨g, 0, none⟩ = some (.int .i64 e0) ∧
    ((((W.setCell ⟨g, 0, none⟩ (.int .i64 e0)).setCell ⟨g, 1, none⟩ (.string e1)).setCell ⟨g, 2, none⟩ (.int .i64 e2)).setCell ⟨g, 3, none⟩ v).cell? ⟨g, 1, none⟩ = some (.string e1) ∧
    ((((W.setCell ⟨g, 0, none⟩ (.int .i64 e0)).setCell ⟨g, 1, none⟩ (.string e1)).setCell ⟨g, 2, none⟩ (.int .i64 e2)).setCell ⟨g, 3, none⟩ v).cell? ⟨g, 2, none⟩ = some (.int .i64 e2) ∧
    ((((W.setCell ⟨g, 0, none⟩ (.int .i64 e0)).setCell ⟨g, 1, none⟩ (.string e1)).setCell ⟨g, 2, none⟩ (.int .i64 e2)).setCell ⟨g, 3, none⟩ v).cell? ⟨g, 3, none⟩ = some v ∧
    Kd.R k24 24 ((((W.setCell ⟨g, 0, none⟩ (.int .i64 e0)).setCell ⟨g, 1, none⟩ (.string e1)).setCell ⟨g, 2, none⟩ (.int .i64 e2)).setCell ⟨g, 3, none⟩ v) w.heap.size (fun _ => True) v xs ∧
    Below w.heap.size w ((((W.setCell ⟨g, 0, none⟩ (.int .i64 e0)).setCell ⟨g, 1, none⟩ (.string e1)).setCell ⟨g, 2, none⟩ (.int .i64 e2)).setCell ⟨g, 3, none⟩ v) := by
  have kF := res_box hb (.int .i64 e0) (.string e1) (.int .i64 e2) v
  refine ⟨blk_cell kF 0, blk_cell kF 1, blk_cell kF 2, blk_cell kF 3, Kd.R_mono (R_set4 hR hg _ _ _ _) (fun _ _ => trivial), ?_⟩
  exact below_set (below_set (below_set (below_set hB hlt) hlt) hlt) hlt

/-- The variables vs stand for the variables from a number on. -/
def renM : List Int → Int → Tm → Tm
  | [], _, L => L
  | v :: r, n, L => renM r (n + 1) (mput v (⟨1, ⟨#[]⟩, n, []⟩, none, 0) L)
/-- What Rename answers. -/
def renT (t : S24) (n : Int) : S24 × Int × Int :=
  if okT t = false then (z24, 0, 70)
  else if n < 1 ∨ n > 4611686018427387904 then (z24, 0, 1)
  else ((putT (fnT (renM (varsT t []) n [])) t 1 0).1, n + (varsT t []).length, 0)

theorem renM_snoc : ∀ (vs : List Int) (v n : Int) (L : Tm), renM (vs ++ [v]) n L = mput v (⟨1, ⟨#[]⟩, n + vs.length, []⟩, none, 0) (renM vs n L)
  | [], v, n, L => by simp [renM]
  | u :: r, v, n, L => by
    simp only [List.cons_append, renM, List.length_cons]
    rw [renM_snoc r v (n + 1)]
    congr 3
    push_cast
    omega

theorem renM_len : ∀ (vs : List Int) (n : Int) (L : Tm), (renM vs n L).length ≤ L.length + vs.length
  | [], n, L => by simp [renM]
  | v :: r, n, L => by
    have := renM_len r (n + 1) (mput v (⟨1, ⟨#[]⟩, n, []⟩, none, 0) L)
    simp only [renM, List.length_cons]
    have h2 : (mput v ((⟨1, ⟨#[]⟩, n, []⟩, none, 0) : Tv) L).length ≤ L.length + 1 := by
      unfold mput
      rw [length_minsert]
      have : (mrem v L).length ≤ L.length := List.length_filter_le _ _
      omega
    omega
/-- A map of variables. -/
def VarsM (L : Tm) : Prop := ∀ k tv, mget L k = some tv → tv.1.f3 = [] ∧ tv.2.1 = none ∧ wfT tv.1
theorem VarsM.at {L : Tm} (h : VarsM L) (w0 : World) : TmIn w0 L := fun k tv hk => by
  obtain ⟨h1, h2, h3⟩ := h k tv hk
  rw [h1, h2]
  exact ⟨Kd.C_nil _ _, Nat.zero_le _, h3⟩
theorem renM_vars : ∀ (vs : List Int) (n : Int) (L : Tm), VarsM L → 1 ≤ n → n + vs.length ≤ 9223372036854775807 → VarsM (renM vs n L)
  | [], n, L, h, _, _ => h
  | v :: r, n, L, h, h1, h2 => by
    simp only [List.length_cons] at h2
    push_cast at h2
    refine renM_vars r (n + 1) _ ?_ (by omega) (by omega)
    intro k tv hk
    by_cases hkv : k = v
    · subst hkv
      have hm := mget_mem hk
      rcases mem_mput.1 hm with he | ⟨_, hne⟩
      · cases he
        refine ⟨rfl, rfl, ?_⟩
        rw [wfT, wfL_nil]
        exact ⟨⟨by omega, by omega⟩, trivial⟩
      · exact absurd rfl hne
    · rw [mget_mput_other hkv] at hk
      exact h k tv hk

mutual
theorem varsT_i64 : ∀ (t : S24) (out : List Int), wfT t → (∀ x ∈ out, I64 x) → ∀ x ∈ varsT t out, I64 x
  | ⟨kd, nm, nt, xs⟩, out, hw, ho => by
    rw [wfT] at hw
    unfold varsT
    by_cases h1 : kd = 1
    · rw [if_pos h1]
      split
      · exact ho
      · intro x hx
        rcases List.mem_append.1 hx with hx | hx
        · exact ho x hx
        · rw [List.mem_singleton.1 hx]; exact hw.1
    rw [if_neg h1]
    by_cases h4 : kd = 4
    · rw [if_pos h4]; exact varsL_i64 xs out hw.2 ho
    · rw [if_neg h4]; exact ho
theorem varsL_i64 : ∀ (xs : List S24) (out : List Int), wfL xs → (∀ x ∈ out, I64 x) → ∀ x ∈ varsL xs out, I64 x
  | [], out, _, ho => by rw [varsL_nil]; exact ho
  | a :: r, out, hw, ho => by
    rw [varsL_cons]
    rw [wfL_cons] at hw
    exact varsL_i64 r _ hw.2 (varsT_i64 a out hw.1 ho)
end

set_option maxHeartbeats 400000 in
set_option maxRecDepth 100000 in
theorem rename_any (t : S24) (n : Int) (w : World) (A : Option Addr) (c : Nat) (hC : Kd.C k24 w A t.f3.length t.f3) (hc : t.f3.length ≤ c) (hwf : wfT t) (hn : I64 n) :
    Calls Try.prog 28 #[.agg #[.int .i64 t.f0, .string t.f1, .int .i64 t.f2, .slice A t.f3.length c], .int .i64 n] w fun e w' => ∃ v,
      e = .returned (.tuple #[.agg #[.int .i64 (renT t n).1.f0, .string (renT t n).1.f1, .int .i64 (renT t n).1.f2, v], .int .i64 (renT t n).2.1, .int .i64 (renT t n).2.2]) ∧ Kd.R k24 24 w' w.heap.size (fun _ => True) v (renT t n).1.f3 ∧ Below w.heap.size w w' := by
  have kT1 : ∀ o2 o3, (((w.alloc (.cells #[.int .i64 t.f0, .string t.f1, .int .i64 t.f2, .slice A t.f3.length c] 24)).alloc o2).alloc o3).heap[w.heap.size]? = some (.cells #[.int .i64 t.f0, .string t.f1, .int .i64 t.f2, .slice A t.f3.length c] 24 (0, 0)) := fun _ _ => blk_alloc (blk_alloc (blk_new w _) _) _
  have kR1 : ∀ o1 cs o3, (((w.alloc o1).alloc (.cells cs 24)).alloc o3).heap[w.heap.size + 1]? = some (.cells cs 24 (0, 0)) := by
    intro o1 cs o3
    have := blk_new (w.alloc o1) (.cells cs 24)
    rw [show (w.alloc o1).heap.size = w.heap.size + 1 by simp] at this
    exact blk_alloc this _
  have kS1 : ∀ o1 o2 cs, (((w.alloc o1).alloc o2).alloc (.cells cs 24)).heap[w.heap.size + 1 + 1]? = some (.cells cs 24 (0, 0)) := by
    intro o1 o2 cs
    have := blk_new ((w.alloc o1).alloc o2) (.cells cs 24)
    rwa [show ((w.alloc o1).alloc o2).heap.size = w.heap.size + 1 + 1 by simp] at this
  have hB1 : ∀ o1 o2 o3, Below w.heap.size w (((w.alloc o1).alloc o2).alloc o3) := fun _ _ _ => below_alloc (below_alloc (below_alloc (Below.refl _ _) _) _) _
  have hr := fun o1 o2 => right_call t (((w.alloc o1).alloc o2).alloc (.cells #[.int .i64 t.f0, .string t.f1, .int .i64 t.f2, .slice A t.f3.length c] 24)) (w.heap.size + 1 + 1) A c (Kd.C_alloc (Kd.C_alloc (Kd.C_alloc hC _) _) _) hc (kS1 _ _ _)
  have hq0 := fun (WF : World) (kF : WF.heap[w.heap.size + 1]? = some (.cells #[.int .i64 0, .string ⟨#[]⟩, .int .i64 0, .slice none 0 0] 24 (0, 0))) => kF
  unfold renT
  by_cases hk : okT t = false
  · simp only [hk, if_true] at hr ⊢
    go_enter Try.func28, Try.ntmps28
    go_wp2_with fail
    refine (hr _ _).mono ?_
    rintro e w1 ⟨rfl, hb1⟩
    have kR := blk_below (kR1 _ _ _) hb1
    have hBw := below_step (hB1 _ _ _) hb1
    clear hr hb1 kT1 kR1 kS1 hB1 hq0
    have r0 : w1.cell? ⟨w.heap.size + 1, 0, none⟩ = some (.int .i64 0) := blk_cell kR 0
    have r1 : w1.cell? ⟨w.heap.size + 1, 1, none⟩ = some (.string ⟨#[]⟩) := blk_cell kR 1
    have r2 : w1.cell? ⟨w.heap.size + 1, 2, none⟩ = some (.int .i64 0) := blk_cell kR 2
    have r3 : w1.cell? ⟨w.heap.size + 1, 3, none⟩ = some (.slice none 0 0) := blk_cell kR 3
    have lR := blk_lt kR
    have fr := fun i => blk_frozen kR i
    go_wp2
    have kF := res_box kR (.int .i64 0) (.string ⟨#[]⟩) (.int .i64 0) (.slice none 0 0)
    have hfF : Below w.heap.size w ((((w1.setCell ⟨w.heap.size + 1, 0, none⟩ (.int .i64 0)).setCell ⟨w.heap.size + 1, 1, none⟩ (.string ⟨#[]⟩)).setCell ⟨w.heap.size + 1, 2, none⟩ (.int .i64 0)).setCell ⟨w.heap.size + 1, 3, none⟩ (.slice none 0 0)) := by
      repeat (refine below_set ?_ (show w.heap.size ≤ w.heap.size + 1 by omega))
      exact hBw
    generalize ((((w1.setCell ⟨w.heap.size + 1, 0, none⟩ (.int .i64 0)).setCell ⟨w.heap.size + 1, 1, none⟩ (.string ⟨#[]⟩)).setCell ⟨w.heap.size + 1, 2, none⟩ (.int .i64 0)).setCell ⟨w.heap.size + 1, 3, none⟩ (.slice none 0 0)) = WF at kF hfF ⊢
    have q0 : WF.cell? ⟨w.heap.size + 1, 0, none⟩ = some (.int .i64 0) := blk_cell kF 0
    have q1 : WF.cell? ⟨w.heap.size + 1, 1, none⟩ = some (.string ⟨#[]⟩) := blk_cell kF 1
    have q2 : WF.cell? ⟨w.heap.size + 1, 2, none⟩ = some (.int .i64 0) := blk_cell kF 2
    have q3 : WF.cell? ⟨w.heap.size + 1, 3, none⟩ = some (.slice none 0 0) := blk_cell kF 3
    refine bodyPost_ret (v := .tuple #[.agg #[.int .i64 0, .string ⟨#[]⟩, .int .i64 0, .slice none 0 0], .int .i64 0, .int .i64 70]) (by simp [results, Try.results28, go_sem, q0, q1, q2, q3]) rfl ⟨.slice none 0 0, rfl, Kd.R_nil _ _ _ _ _, hfF⟩
  simp only [hk]
  have hk' : okT t = true := by simpa using hk
  rw [hk'] at hr
  by_cases hng : n < 1 ∨ n > 4611686018427387904
  · simp only [if_pos hng]
    have e1 : (decide (n < 1) || decide (4611686018427387904 < n)) = true := by simp; omega
    go_enter Try.func28, Try.ntmps28
    go_wp2_with fail
    refine (hr _ _).mono ?_
    rintro e w1 ⟨rfl, hb1⟩
    have kR := blk_below (kR1 _ _ _) hb1
    have hBw := below_step (hB1 _ _ _) hb1
    clear hr hb1 kT1 kR1 kS1 hB1 hq0
    have r0 : w1.cell? ⟨w.heap.size + 1, 0, none⟩ = some (.int .i64 0) := blk_cell kR 0
    have r1 : w1.cell? ⟨w.heap.size + 1, 1, none⟩ = some (.string ⟨#[]⟩) := blk_cell kR 1
    have r2 : w1.cell? ⟨w.heap.size + 1, 2, none⟩ = some (.int .i64 0) := blk_cell kR 2
    have r3 : w1.cell? ⟨w.heap.size + 1, 3, none⟩ = some (.slice none 0 0) := blk_cell kR 3
    have lR := blk_lt kR
    have fr := fun i => blk_frozen kR i
    go_wp2
    all_goals
      have kF := res_box kR (.int .i64 0) (.string ⟨#[]⟩) (.int .i64 0) (.slice none 0 0)
      have hfF : Below w.heap.size w ((((w1.setCell ⟨w.heap.size + 1, 0, none⟩ (.int .i64 0)).setCell ⟨w.heap.size + 1, 1, none⟩ (.string ⟨#[]⟩)).setCell ⟨w.heap.size + 1, 2, none⟩ (.int .i64 0)).setCell ⟨w.heap.size + 1, 3, none⟩ (.slice none 0 0)) := by
        repeat (refine below_set ?_ (show w.heap.size ≤ w.heap.size + 1 by omega))
        exact hBw
      generalize ((((w1.setCell ⟨w.heap.size + 1, 0, none⟩ (.int .i64 0)).setCell ⟨w.heap.size + 1, 1, none⟩ (.string ⟨#[]⟩)).setCell ⟨w.heap.size + 1, 2, none⟩ (.int .i64 0)).setCell ⟨w.heap.size + 1, 3, none⟩ (.slice none 0 0)) = WF at kF hfF ⊢
      have q0 : WF.cell? ⟨w.heap.size + 1, 0, none⟩ = some (.int .i64 0) := blk_cell kF 0
      have q1 : WF.cell? ⟨w.heap.size + 1, 1, none⟩ = some (.string ⟨#[]⟩) := blk_cell kF 1
      have q2 : WF.cell? ⟨w.heap.size + 1, 2, none⟩ = some (.int .i64 0) := blk_cell kF 2
      have q3 : WF.cell? ⟨w.heap.size + 1, 3, none⟩ = some (.slice none 0 0) := blk_cell kF 3
      refine bodyPost_ret (v := .tuple #[.agg #[.int .i64 0, .string ⟨#[]⟩, .int .i64 0, .slice none 0 0], .int .i64 0, .int .i64 1]) (by simp [results, Try.results28, go_sem, q0, q1, q2, q3]) rfl ⟨.slice none 0 0, rfl, Kd.R_nil _ _ _ _ _, hfF⟩
  simp only [if_neg hng]
  have e1 : (decide (n < 1) || decide (4611686018427387904 < n)) = false := by simp; omega
  have hmm := @run_makeMap Try.prog
  have hnd := nodes_ok hk'
  have hvl := varsT_len t []
  rw [List.length_nil, Nat.zero_add] at hvl
  have hvi := varsT_i64 t [] hwf (by simp)
  have hcall := fun (w0 : World) hC' => vars_any _ t rfl w0 w0 c A (.slice none 0 0) [] hC' hc (Below.refl _ _) (OutAt.none _ _) (by simp; omega)
  obtain ⟨vs, hvs⟩ : ∃ u, u = varsT t [] := ⟨_, rfl⟩
  rw [← hvs] at hvl hvi hcall
  rw [← hvs]
  obtain ⟨fin, hfin⟩ : ∃ u, u = putT (fnT (renM vs n [])) t 1 0 := ⟨_, rfl⟩
  rw [← hfin]
  have HFIN := Lib.hid hfin
  clear hfin hvs
  go_enter Try.func28, Try.ntmps28
  go_wp2_with fail
  refine (hr _ _).mono ?_
  rintro e w1 ⟨rfl, hb1⟩
  have kT := blk_below (kT1 _ _) hb1
  have kR := blk_below (kR1 _ _ _) hb1
  have hBw := below_step (hB1 _ _ _) hb1
  clear hr hb1 kT1 kR1 kS1 hB1 hq0
  have hlw0 := blk_lt kR
  have hBm := below_alloc hBw (.map #[] 0)
  replace kT := blk_alloc kT (.map #[] 0)
  replace kR := blk_alloc kR (.map #[] 0)
  have hM : TmapAt (w1.alloc (.map #[] 0)) w1.heap.size [] := TmapAt.new w1
  have t0 : (w1.alloc (.map #[] 0)).cell? ⟨w.heap.size, 0, none⟩ = some (.int .i64 t.f0) := blk_cell kT 0
  have t1 : (w1.alloc (.map #[] 0)).cell? ⟨w.heap.size, 1, none⟩ = some (.string t.f1) := blk_cell kT 1
  have t2 : (w1.alloc (.map #[] 0)).cell? ⟨w.heap.size, 2, none⟩ = some (.int .i64 t.f2) := blk_cell kT 2
  have t3 : (w1.alloc (.map #[] 0)).cell? ⟨w.heap.size, 3, none⟩ = some (.slice A t.f3.length c) := blk_cell kT 3
  have hlw : w.heap.size + 1 < w1.heap.size + 1 := by have := blk_lt kR; simpa using this
  have hlm := hM.lt
  have hc1 := hcall (w1.alloc (.map #[] 0)) (Kd.C_below hC hBm)
  go_wp2_with fail
  refine hc1.mono ?_
  rintro e w2 ⟨v2, rfl, hO, hb2⟩
  obtain ⟨Av, cv, rfl, hcv, CV⟩ := hO.reads
  obtain ⟨B0, hB0⟩ : ∃ u, u = (w1.alloc (.map #[] 0)).heap.size := ⟨_, rfl⟩
  have hB0' : w1.heap.size < B0 := by rw [hB0]; simp
  rw [← hB0] at hO
  replace kT := blk_below kT hb2
  replace kR := blk_below kR hb2
  replace hM := hM.alike (hb2.block _ hlm)
  have hB2 := below_step hBm hb2
  clear hb2 hc1 hcall t0 t1 t2 t3 hBm hBw hB0
  have hmx := CV.2.1
  have hvl2 : vs.length ≤ 2000 := by omega
  clear hvl hnd
  go_wp2
  go_loopw [1, 31] (fun f i wr => ∃ (k : Nat), k ≤ vs.length ∧ f = .int .i64 (n + k) ∧ i = .int .i64 k ∧ Below w.heap.size w wr ∧ TmapAt wr w1.heap.size (renM (vs.take k) n []) ∧ OutAt wr B0 (.slice Av vs.length cv) vs ∧
      wr.heap[w.heap.size]? = some (.cells #[.int .i64 t.f0, .string t.f1, .int .i64 t.f2, .slice A t.f3.length c] 24 (0, 0)) ∧ wr.heap[w.heap.size + 1]? = some (.cells #[.int .i64 0, .string ⟨#[]⟩, .int .i64 0, .slice none 0 0] 24 (0, 0)))
    (fun _ i _ => vs.length - (intOf i).toNat)
  case atStart => exact ⟨0, Nat.zero_le _, by simp, rfl, hB2, hM, hO, kT, kR⟩
  case round =>
    clear CV hO hM kT kR hB2
    obtain ⟨k, hk1, rfl, rfl, hBr, hMr, hOr, hT, hR⟩ := hrel
    by_cases hlt : k < vs.length
    · obtain ⟨A', c', e', _, CV⟩ := hOr.reads
      cases e'
      obtain ⟨ad, rfl, hy⟩ := ints_rd CV k hlt
      have hvi' := hvi _ (List.getElem_mem hlt)
      have hlen := renM_len (vs.take k) n []
      rw [List.length_take, List.length_nil] at hlen
      have hkey := keyOf_int_mk Try.underlying2 hvi'.wf
      have htk : vs.take (k + 1) = vs.take k ++ [vs[k]] := by rw [List.take_succ_eq_append_getElem hlt]
      have hsn := renM_snoc (vs.take k) vs[k] n []
      rw [← htk, List.length_take, show min k vs.length = k by omega] at hsn
      have hwr : IntKind.i64.wrap (n + k + 1) = n + (k + 1 : Nat) := by rw [IntKind.wrap_i64]; omega
      go_wp2_with (at_mapUpdate; refine wpList_mapUpdate_in _ rfl _ _ _ 75 rfl 2 24 law2 Try.underlying75 _ w1.heap.size (renM (vs.take k) n []).length _ rfl hMr (by unfold maxLen; omega) _ _ _ rfl rfl hkey (.held (encT (⟨1, ⟨#[]⟩, n + k, []⟩, none, 0))) [] rfl ?_; intro w5 hown5 hturn5)
      have hM5 := putTm hown5
      rw [← hsn] at hM5
      have hg5 := hturn5.grown
      have hT5 := blk_grown hT hg5 (fun e => by have := Option.some.inj e; omega)
      have hR5 := blk_grown hR hg5 (fun e => by have := Option.some.inj e; omega)
      have hO5 : OutAt w5 B0 (.slice (some ad) vs.length cv) vs := hOr.kept hg5 (by
        cases ho : (Value.slice (some ad) vs.length cv).ownBlock with
        | none => exact .inl rfl
        | some q => exact .inr (fun e => by have := (hOr.lt q ho).1; have := Option.some.inj e; omega))
      have hBe : Below w.heap.size w w5 := below_grown hBr hg5 (fun q e => by have := Option.some.inj e; omega) (Nat.le_refl _)
      refine ⟨⟨k + 1, hlt, by push_cast; rfl, by push_cast; rfl, hBe, hM5, hO5, hT5, hR5⟩, ?_⟩
      simp [intOf]; omega
    · obtain rfl : k = vs.length := by omega
      rw [List.take_length] at hMr
      have hVM := (renM_vars vs n [] (fun k tv hk => by simp [mget] at hk) (by omega) (by omega)).at wr
      have hmne : w1.heap.size ≠ wr.heap.size := by have := hMr.lt; omega
      have hlm' := hMr.lt
      have hp := putM_any (renM vs n []) w1.heap.size wr.heap.size wr hmne hVM _ t rfl hwf 1 0 (wr.alloc (.cells #[.int .i64 0] 3)) c A (hMr.alloc _) (Kd.C_below hC hBr) hc (below_alloc (Below.refl _ _) _) (Nat.le_refl _) (blk_new _ _) (by omega) (by omega) (by omega) (by omega)
      rw [← HFIN.out] at hp
      have hBa := below_alloc hBr (.cells #[.int .i64 0] 3)
      have hT1 := blk_alloc hT (.cells #[.int .i64 0] 3)
      have hR1 := blk_alloc hR (.cells #[.int .i64 0] 3)
      have t0 : (wr.alloc (.cells #[.int .i64 0] 3)).cell? ⟨w.heap.size, 0, none⟩ = some (.int .i64 t.f0) := blk_cell hT1 0
      have t1 : (wr.alloc (.cells #[.int .i64 0] 3)).cell? ⟨w.heap.size, 1, none⟩ = some (.string t.f1) := blk_cell hT1 1
      have t2 : (wr.alloc (.cells #[.int .i64 0] 3)).cell? ⟨w.heap.size, 2, none⟩ = some (.int .i64 t.f2) := blk_cell hT1 2
      have t3 : (wr.alloc (.cells #[.int .i64 0] 3)).cell? ⟨w.heap.size, 3, none⟩ = some (.slice A t.f3.length c) := blk_cell hT1 3
      have hsz := hBr.size
      have hlR := blk_lt hR
      clear hOr hvi
      go_wp2_with fail
      refine hp.mono ?_
      rintro e w5 ⟨v5, rfl, hR5, f5, c5⟩
      obtain ⟨A5, c5', rfl, hc5, C5⟩ := Kd.R_reads hR5
      obtain ⟨⟨e0, e1', e2, e3⟩, ok, q'⟩ := fin
      simp only at hR5 hc5 C5 c5 ⊢
      replace hR1 := f5.blk hR1 (show w.heap.size + 1 ≠ wr.heap.size by omega)
      have hBf := f5.below hBa hsz
      have r0 : w5.cell? ⟨w.heap.size + 1, 0, none⟩ = some (.int .i64 0) := blk_cell hR1 0
      have r1 : w5.cell? ⟨w.heap.size + 1, 1, none⟩ = some (.string ⟨#[]⟩) := blk_cell hR1 1
      have r2 : w5.cell? ⟨w.heap.size + 1, 2, none⟩ = some (.int .i64 0) := blk_cell hR1 2
      have r3 : w5.cell? ⟨w.heap.size + 1, 3, none⟩ = some (.slice none 0 0) := blk_cell hR1 3
      have lR := blk_lt hR1
      have fr := fun i => blk_frozen hR1 i
      have hRl : Kd.R k24 24 w5 w.heap.size (fun j => wr.heap.size < j) (.slice A5 e3.length c5') e3 := Kd.R_mono (Kd.R_lower (Kd.R_bound hR5) (by simp; omega)) (fun j hj => by have := hj.2.1; simp at this; omega)
      clear t0 t1 t2 t3 hp hT1 hT hR hMr hVM f5 c5 C5 HFIN
      go_wp2
      obtain ⟨q0, q1, q2, q3, hRF, hfF⟩ := box_ret (.cells #[.int .i64 e0, .string e1', .int .i64 e2, .slice A5 e3.length c5'] 24) e0 e1' e2 hR1 hRl (fun j hj => by omega) hBf (by omega)
      generalize (((((w5.setCell ⟨w.heap.size + 1, 0, none⟩ (.int .i64 e0)).setCell ⟨w.heap.size + 1, 1, none⟩ (.string e1')).setCell ⟨w.heap.size + 1, 2, none⟩ (.int .i64 e2)).setCell ⟨w.heap.size + 1, 3, none⟩ (.slice A5 e3.length c5')).alloc (.cells #[.int .i64 e0, .string e1', .int .i64 e2, .slice A5 e3.length c5'] 24)) = WF at q0 q1 q2 q3 hRF hfF ⊢
      refine bodyPost_ret (v := .tuple #[.agg #[.int .i64 e0, .string e1', .int .i64 e2, .slice A5 e3.length c5'], .int .i64 (n + vs.length), .int .i64 0]) (by simp [results, Try.results28, go_sem, q0, q1, q2, q3]) rfl ⟨.slice A5 e3.length c5', rfl, hRF, hfF⟩

end Go.Proofs.Ytpnkaggkedepeaa


/- Variant, Vars: their walks. -/
namespace Go.Proofs.Ytpnkaggkedepeaa
set_option linter.unusedVariables false
open Go.RowKit Go.Maps Go.Proofs.YtpnkaggkedepeaaW.PrintWords Go.Proofs.YtpnkaggkedepeaaW.PrintLast Go.Proofs.YtpnkaggkedepeaaW.PrintMore Go.Proofs.Ytpnkaggkedepeaa.PTermTells Go.Extern

/-- Are two right terms variants? -/
def variantT (a b : S24) : Bool := okT a && (okT b && decide (ordT (renT a 1).1 (renT b 1).1 = 0))
theorem renT_err1 (a : S24) : (renT a 1).2.2 = if okT a = true then 0 else 70 := by
  unfold renT
  cases h : okT a <;> simp

set_option maxHeartbeats 400000 in
set_option maxRecDepth 100000 in
theorem variant_any (a b : S24) (w : World) (A A' : Option Addr) (c c' : Nat) (hC : Kd.C k24 w A a.f3.length a.f3) (hc : a.f3.length ≤ c) (hC' : Kd.C k24 w A' b.f3.length b.f3) (hc' : b.f3.length ≤ c') (hwa : wfT a) (hwb : wfT b) :
    Calls Try.prog 21 #[.agg #[.int .i64 a.f0, .string a.f1, .int .i64 a.f2, .slice A a.f3.length c], .agg #[.int .i64 b.f0, .string b.f1, .int .i64 b.f2, .slice A' b.f3.length c']] w fun e w' =>
      e = .returned (.bool (variantT a b)) ∧ Below w.heap.size w w' := by
  have i1 : I64 1 := ⟨by omega, by omega⟩
  have hr1 := rename_any a 1 ((w.alloc (.cells #[.int .i64 a.f0, .string a.f1, .int .i64 a.f2, .slice A a.f3.length c] 24)).alloc (.cells #[.int .i64 b.f0, .string b.f1, .int .i64 b.f2, .slice A' b.f3.length c'] 24)) A c (Kd.C_alloc (Kd.C_alloc hC _) _) hc hwa i1
  rw [renT_err1] at hr1
  have hr2 := fun W hC' => rename_any b 1 W A' c' hC' hc' hwb i1
  rw [renT_err1] at hr2
  unfold variantT
  have kB : ((w.alloc (.cells #[.int .i64 a.f0, .string a.f1, .int .i64 a.f2, .slice A a.f3.length c] 24)).alloc (.cells #[.int .i64 b.f0, .string b.f1, .int .i64 b.f2, .slice A' b.f3.length c'] 24)).heap[w.heap.size + 1]? = some (.cells #[.int .i64 b.f0, .string b.f1, .int .i64 b.f2, .slice A' b.f3.length c'] 24 (0, 0)) := by
    have := blk_new (w.alloc (.cells #[.int .i64 a.f0, .string a.f1, .int .i64 a.f2, .slice A a.f3.length c] 24)) (.cells #[.int .i64 b.f0, .string b.f1, .int .i64 b.f2, .slice A' b.f3.length c'] 24)
    rwa [show (w.alloc (.cells #[.int .i64 a.f0, .string a.f1, .int .i64 a.f2, .slice A a.f3.length c] 24)).heap.size = w.heap.size + 1 by simp] at this
  have hB1 : Below w.heap.size w ((w.alloc (.cells #[.int .i64 a.f0, .string a.f1, .int .i64 a.f2, .slice A a.f3.length c] 24)).alloc (.cells #[.int .i64 b.f0, .string b.f1, .int .i64 b.f2, .slice A' b.f3.length c'] 24)) := below_alloc (below_alloc (Below.refl _ _) _) _
  generalize (renT a 1).1 = x at hr1 ⊢
  generalize (renT a 1).2.1 = x2 at hr1
  generalize (renT b 1).1 = y at hr2 ⊢
  generalize (renT b 1).2.1 = y2 at hr2
  obtain ⟨ea, hea⟩ : ∃ u : Int, u = if okT a = true then 0 else 70 := ⟨_, rfl⟩
  rw [← hea] at hr1
  obtain ⟨eb, heb⟩ : ∃ u : Int, u = if okT b = true then 0 else 70 := ⟨_, rfl⟩
  rw [← heb] at hr2
  generalize okT a = ka at hea ⊢
  generalize okT b = kb at heb ⊢
  have HEA := Lib.hid hea
  have HEB := Lib.hid heb
  clear hea heb
  obtain ⟨o, hoo⟩ : ∃ o, o = ordT x y := ⟨_, rfl⟩
  rw [← hoo]
  have HO := Lib.hid hoo
  clear hoo
  go_enter Try.func21, Try.ntmps21
  go_wp2_with fail
  refine hr1.mono ?_
  rintro e w1 ⟨v1, rfl, hR1, hb1⟩
  obtain ⟨A1, c1, rfl, hc1, C1⟩ := Kd.R_reads hR1
  have hBw := below_step hB1 hb1
  replace kB := blk_below kB hb1
  clear hr1 hR1 hB1 hb1
  obtain ⟨X, hX⟩ : ∃ X, X = Obj.cells #[.int .i64 x.f0, .string x.f1, .int .i64 x.f2, .slice A1 x.f3.length c1] 24 := ⟨_, rfl⟩
  have kB2 := blk_alloc kB X
  have kX := blk_new w1 X
  have C2 := Kd.C_alloc C1 X
  have hBx := below_alloc hBw X
  rw [hX] at kB2 kX C2 hBx
  have z0 := blk_cell kB2 0
  have z1 := blk_cell kB2 1
  have z2 := blk_cell kB2 2
  have z3 := blk_cell kB2 3
  have hr3 := hr2 _ (Kd.C_below hC' hBx)
  clear kB C1 hBw hX
  go_wp2_with fail
  refine hr3.mono ?_
  rintro e w2 ⟨v2, rfl, hR2, hb2⟩
  obtain ⟨A2, c2, rfl, hc2, D2⟩ := Kd.R_reads hR2
  have hBz := below_step hBx hb2
  replace kX := blk_below kX hb2
  replace C2 := Kd.C_below C2 hb2
  clear hr3 hr2 hR2 hb2 kB2 z0 z1 z2 z3 hBx
  have kY := blk_new w2 (.cells #[.int .i64 y.f0, .string y.f1, .int .i64 y.f2, .slice A2 y.f3.length c2] 24)
  replace kX := blk_alloc kX (.cells #[.int .i64 y.f0, .string y.f1, .int .i64 y.f2, .slice A2 y.f3.length c2] 24)
  replace C2 := Kd.C_alloc C2 (.cells #[.int .i64 y.f0, .string y.f1, .int .i64 y.f2, .slice A2 y.f3.length c2] 24)
  replace D2 := Kd.C_alloc D2 (.cells #[.int .i64 y.f0, .string y.f1, .int .i64 y.f2, .slice A2 y.f3.length c2] 24)
  replace hBz := below_alloc hBz (.cells #[.int .i64 y.f0, .string y.f1, .int .i64 y.f2, .slice A2 y.f3.length c2] 24)
  have x0 := blk_cell kX 0
  have x1 := blk_cell kX 1
  have x2' := blk_cell kX 2
  have x3 := blk_cell kX 3
  cases ka with
  | false =>
    obtain rfl : ea = 70 := HEA.out
    go_wp2
    go_ret
    exact ⟨rfl, hBz⟩
  | true =>
    obtain rfl : ea = 0 := HEA.out
    cases kb with
    | false =>
      obtain rfl : eb = 70 := HEB.out
      go_wp2
      go_ret
      exact ⟨rfl, hBz⟩
    | true =>
      obtain rfl : eb = 0 := HEB.out
      have ho := order_ok x y _ A1 A2 c1 c2 C2 hc1 D2 hc2
      rw [← HO.out] at ho
      go_wp2_with fail
      refine ho.mono ?_
      rintro e w3 ⟨rfl, h2⟩
      have h3 := below_step hBz h2
      by_cases h0 : o = 0
      · subst h0
        clear ho
        go_wp2
        go_ret
        exact ⟨rfl, h3⟩
      · have h0' : (o == 0) = false := by simpa using h0
        have h1' := decide_eq_false h0
        clear ho h0
        go_wp2
        go_ret
        exact ⟨by rw [h1']; rfl, h3⟩

/-- A term's variables; none of one that isn't right. -/
def varsOf (t : S24) : List Int := if okT t = true then varsT t [] else []

set_option maxHeartbeats 400000 in
set_option maxRecDepth 100000 in
theorem vars_of (t : S24) (w : World) (A : Option Addr) (c : Nat) (hC : Kd.C k24 w A t.f3.length t.f3) (hc : t.f3.length ≤ c) :
    Calls Try.prog 18 #[.agg #[.int .i64 t.f0, .string t.f1, .int .i64 t.f2, .slice A t.f3.length c]] w fun e w' => ∃ v, e = .returned v ∧ OutAt w' w.heap.size v (varsOf t) ∧ Below w.heap.size w w' := by
  have hr := right_one t w A c hC hc
  have kT := blk_alloc (blk_new w (.cells #[.int .i64 t.f0, .string t.f1, .int .i64 t.f2, .slice A t.f3.length c] 24)) (.cells #[.int .i64 t.f0, .string t.f1, .int .i64 t.f2, .slice A t.f3.length c] 24)
  have hr' := right_call t ((w.alloc (.cells #[.int .i64 t.f0, .string t.f1, .int .i64 t.f2, .slice A t.f3.length c] 24)).alloc (.cells #[.int .i64 t.f0, .string t.f1, .int .i64 t.f2, .slice A t.f3.length c] 24)) (w.heap.size + 1) A c (Kd.C_alloc (Kd.C_alloc hC _) _) hc (by
    have := blk_new (w.alloc (.cells #[.int .i64 t.f0, .string t.f1, .int .i64 t.f2, .slice A t.f3.length c] 24)) (.cells #[.int .i64 t.f0, .string t.f1, .int .i64 t.f2, .slice A t.f3.length c] 24)
    rwa [show (w.alloc (.cells #[.int .i64 t.f0, .string t.f1, .int .i64 t.f2, .slice A t.f3.length c] 24)).heap.size = w.heap.size + 1 by simp] at this)
  clear hr
  have hB1 : Below w.heap.size w ((w.alloc (.cells #[.int .i64 t.f0, .string t.f1, .int .i64 t.f2, .slice A t.f3.length c] 24)).alloc (.cells #[.int .i64 t.f0, .string t.f1, .int .i64 t.f2, .slice A t.f3.length c] 24)) := below_alloc (below_alloc (Below.refl _ _) _) _
  unfold varsOf
  by_cases hk : okT t = true
  · simp only [hk, if_true] at hr' ⊢
    have hnd := nodes_ok hk
    have hcall := fun (W : World) (hB : Below w.heap.size w W) => vars_any _ t rfl w W c A (.slice none 0 0) [] hC hc hB (OutAt.none _ _) (by simp; omega)
    go_enter Try.func18, Try.ntmps18
    go_wp2_with fail
    refine hr'.mono ?_
    rintro e w1 ⟨rfl, hb1⟩
    have kT1 := blk_below kT hb1
    have t0 := blk_cell kT1 0
    have t1 := blk_cell kT1 1
    have t2 := blk_cell kT1 2
    have t3 := blk_cell kT1 3
    have hBw := below_step hB1 hb1
    have h1 := hcall w1 hBw
    clear hb1 hr' kT hB1 hcall
    go_wp2_with fail
    refine h1.mono ?_
    rintro e w2 ⟨v, rfl, hO, hb2⟩
    go_wp2
    go_ret
    exact ⟨_, rfl, hO, hb2⟩
  · have hk' : okT t = false := by simpa using hk
    simp only [hk'] at hr' ⊢
    go_enter Try.func18, Try.ntmps18
    go_wp2_with fail
    refine hr'.mono ?_
    rintro e w1 ⟨rfl, hb1⟩
    have hBw := below_step hB1 hb1
    go_wp2
    go_ret
    exact ⟨_, rfl, OutAt.none _ _, hBw⟩

end Go.Proofs.Ytpnkaggkedepeaa


/- Apply in plain words and its walk. -/
namespace Go.Proofs.Ytpnkaggkedepeaa
set_option linter.unusedVariables false
open Go.RowKit Go.Maps Go.Proofs.YtpnkaggkedepeaaW.PrintWords Go.Proofs.YtpnkaggkedepeaaW.PrintLast Go.Proofs.YtpnkaggkedepeaaW.PrintMore Go.Proofs.Ytpnkaggkedepeaa.PTermTells Go.Extern

/-- A map's variables and terms, wherever these lie. -/
def strip (L : Tm) : List (Int × S24) := L.map fun p => (p.1, p.2.1)
theorem mget_strip (k : Int) : ∀ L : Tm, mget (strip L) k = (mget L k).map (·.1)
  | [] => rfl
  | p :: r => by
    have ih := mget_strip k r
    simp only [strip, List.map_cons, mget] at ih ⊢
    by_cases h : p.1 = k
    · simp [h]
    · simp only [h, if_false]; exact ih
theorem strip_minsert (x : Int × Tv) : ∀ L : Tm, strip (minsert x L) = minsert (x.1, x.2.1) (strip L)
  | [] => rfl
  | p :: r => by
    have ih := strip_minsert x r
    simp only [strip, List.map_cons, minsert] at ih ⊢
    split
    · rfl
    · rw [List.map_cons, ih]
theorem strip_mrem (k : Int) (L : Tm) : strip (mrem k L) = mrem k (strip L) := by
  simp only [strip, mrem, List.filter_map]
  rfl
theorem strip_mput (k : Int) (v : Tv) (L : Tm) : strip (mput k v L) = mput k v.1 (strip L) := by
  unfold mput
  rw [strip_minsert, strip_mrem]
theorem fnT_strip (L : Tm) : fnT L = mget (strip L) := by
  funext k
  rw [mget_strip]
  rfl

/-- The bindings of one's own variables, the first of each; none: a term isn't right. -/
def apL (mine : List Int) : List S50 → List (Int × S24) → Option (List (Int × S24))
  | [], L => some L
  | b :: r, L => if (mget L b.f0).isSome ∨ b.f0 ∉ mine then apL mine r L else if okT b.f1 = false then none else apL mine r (mput b.f0 b.f1 L)
/-- What Apply answers. -/
def applyT (t : S24) (bs : List S50) : S24 × Int :=
  if okT t = false then (z24, 70)
  else match apL (varsT t []) bs [] with
    | none => (z24, 70)
    | some L => if (putT (mget L) t 1 0).2.1 = true then ((putT (mget L) t 1 0).1, 0) else (z24, 2)

theorem C50_rd {w : World} {A : Option Addr} {n : Nat} {xs : List S50} (h : Kd.C k50 w A n xs) (k : Nat) (hk : k < xs.length) (hn : n = xs.length) :
    ∃ ad A4 c4, A = some ad ∧ w.cell? (ad.add (k * 5)) = some (.int .i64 xs[k].f0) ∧ w.cell? ⟨(ad.add (k * 5)).block, (ad.add (k * 5)).off + 1, none⟩ = some (.int .i64 xs[k].f1.f0) ∧
      w.cell? ⟨(ad.add (k * 5)).block, (ad.add (k * 5)).off + 2, none⟩ = some (.string xs[k].f1.f1) ∧ w.cell? ⟨(ad.add (k * 5)).block, (ad.add (k * 5)).off + 3, none⟩ = some (.int .i64 xs[k].f1.f2) ∧
      w.cell? ⟨(ad.add (k * 5)).block, (ad.add (k * 5)).off + 4, none⟩ = some (.slice A4 xs[k].f1.f3.length c4) ∧ xs[k].f1.f3.length ≤ c4 ∧ Kd.C k24 w A4 xs[k].f1.f3.length xs[k].f1.f3 := by
  obtain ⟨ad, A3, c3, e, y0, y1, y2, y3, y4, l3, g3⟩ := at_T50 h (k : Int) (by omega) (by omega)
  have hrd : rd_T50 xs (k : Int) = xs[k] := by simp [rd_T50, List.getD_eq_getElem?_getD, List.getElem?_eq_getElem hk]
  simp only [Int.toNat_natCast, hrd] at y0 y1 y2 y3 y4 l3 g3
  exact ⟨ad, A3, c3, e, y0, y1, y2, y3, y4, l3, g3⟩

theorem nodup_len : ∀ (l m : List Int), l.Nodup → (∀ x ∈ l, x ∈ m) → l.length ≤ m.length
  | [], m, _, _ => Nat.zero_le _
  | x :: l, m, hn, h => by
    obtain ⟨h1, h2⟩ := List.nodup_cons.1 hn
    have hx := h x (by simp)
    have := nodup_len l (m.erase x) h2 (fun y hy => by
      rw [List.mem_erase_of_ne (fun e : y = x => h1 (e ▸ hy))]
      exact h y (by simp [hy]))
    rw [List.length_erase_of_mem hx] at this
    have := List.length_pos_of_mem hx
    simp only [List.length_cons]; omega
/-- A map of some variables alone. -/
def KeyIn (vs : List Int) (L : Tm) : Prop := msorted L ∧ ∀ p ∈ L, p.1 ∈ vs
theorem KeyIn.nil (vs : List Int) : KeyIn vs [] := ⟨List.Pairwise.nil, fun p hp => by cases hp⟩
theorem KeyIn.put {vs : List Int} {L : Tm} (h : KeyIn vs L) {k : Int} (hk : k ∈ vs) {t : Tv} : KeyIn vs (mput k t L) :=
  ⟨msorted_mput h.1, fun p hp => by
    rcases mem_mput.1 hp with rfl | ⟨h1, _⟩
    · exact hk
    · exact h.2 p h1⟩
theorem KeyIn.len {vs : List Int} {L : Tm} (h : KeyIn vs L) : L.length ≤ vs.length := by
  have hn : (L.map (·.1)).Nodup := by
    rw [List.Nodup, List.pairwise_map]
    exact h.1.imp (fun {a b} hab e => by omega)
  have := nodup_len (L.map (·.1)) vs hn (fun x hx => by
    obtain ⟨p, hp, rfl⟩ := List.mem_map.1 hx
    exact h.2 p hp)
  simpa using this

set_option maxHeartbeats 400000 in
set_option maxRecDepth 100000 in
theorem apply_any (t : S24) (bs : List S50) (w : World) (A B : Option Addr) (c cb : Nat) (hC : Kd.C k24 w A t.f3.length t.f3) (hc : t.f3.length ≤ c) (hwf : wfT t)
    (hCb : Kd.C k50 w B bs.length bs) (hwb : ∀ b ∈ bs, I64 b.f0 ∧ wfT b.f1) :
    Calls Try.prog 33 #[.agg #[.int .i64 t.f0, .string t.f1, .int .i64 t.f2, .slice A t.f3.length c], .slice B bs.length cb] w fun e w' => ∃ v,
      e = .returned (.tuple #[.agg #[.int .i64 (applyT t bs).1.f0, .string (applyT t bs).1.f1, .int .i64 (applyT t bs).1.f2, v], .int .i64 (applyT t bs).2]) ∧ Kd.R k24 24 w' w.heap.size (fun _ => True) v (applyT t bs).1.f3 ∧ Below w.heap.size w w' := by
  have kT1 : ∀ o2 o3, (((w.alloc (.cells #[.int .i64 t.f0, .string t.f1, .int .i64 t.f2, .slice A t.f3.length c] 24)).alloc o2).alloc o3).heap[w.heap.size]? = some (.cells #[.int .i64 t.f0, .string t.f1, .int .i64 t.f2, .slice A t.f3.length c] 24 (0, 0)) := fun _ _ => blk_alloc (blk_alloc (blk_new w _) _) _
  have kR1 : ∀ o1 cs o3, (((w.alloc o1).alloc (.cells cs 24)).alloc o3).heap[w.heap.size + 1]? = some (.cells cs 24 (0, 0)) := by
    intro o1 cs o3
    have := blk_new (w.alloc o1) (.cells cs 24)
    rw [show (w.alloc o1).heap.size = w.heap.size + 1 by simp] at this
    exact blk_alloc this _
  have kS1 : ∀ o1 o2 cs, (((w.alloc o1).alloc o2).alloc (.cells cs 24)).heap[w.heap.size + 1 + 1]? = some (.cells cs 24 (0, 0)) := by
    intro o1 o2 cs
    have := blk_new ((w.alloc o1).alloc o2) (.cells cs 24)
    rwa [show ((w.alloc o1).alloc o2).heap.size = w.heap.size + 1 + 1 by simp] at this
  have hB1 : ∀ o1 o2 o3, Below w.heap.size w (((w.alloc o1).alloc o2).alloc o3) := fun _ _ _ => below_alloc (below_alloc (below_alloc (Below.refl _ _) _) _) _
  have hr := fun o1 o2 => right_call t (((w.alloc o1).alloc o2).alloc (.cells #[.int .i64 t.f0, .string t.f1, .int .i64 t.f2, .slice A t.f3.length c] 24)) (w.heap.size + 1 + 1) A c (Kd.C_alloc (Kd.C_alloc (Kd.C_alloc hC _) _) _) hc (kS1 _ _ _)
  obtain ⟨ans, hans⟩ : ∃ u, u = applyT t bs := ⟨_, rfl⟩
  rw [← hans]
  unfold applyT at hans
  by_cases hk : okT t = false
  · simp only [hk, if_true] at hr hans
    subst hans
    go_enter Try.func33, Try.ntmps33
    go_wp2_with fail
    refine (hr _ _).mono ?_
    rintro e w1 ⟨rfl, hb1⟩
    have kR := blk_below (kR1 _ _ _) hb1
    have hBw := below_step (hB1 _ _ _) hb1
    clear hr hb1 kT1 kR1 kS1 hB1
    have r0 : w1.cell? ⟨w.heap.size + 1, 0, none⟩ = some (.int .i64 0) := blk_cell kR 0
    have r1 : w1.cell? ⟨w.heap.size + 1, 1, none⟩ = some (.string ⟨#[]⟩) := blk_cell kR 1
    have r2 : w1.cell? ⟨w.heap.size + 1, 2, none⟩ = some (.int .i64 0) := blk_cell kR 2
    have r3 : w1.cell? ⟨w.heap.size + 1, 3, none⟩ = some (.slice none 0 0) := blk_cell kR 3
    have lR := blk_lt kR
    have fr := fun i => blk_frozen kR i
    go_wp2
    obtain ⟨q0, q1, q2, q3, hRF, hfF⟩ := box_ret0 0 ⟨#[]⟩ 0 kR (Kd.R_nil k24 24 w1 w.heap.size (fun _ => False)) (fun j hj => hj.elim) hBw (by omega)
    generalize ((((w1.setCell ⟨w.heap.size + 1, 0, none⟩ (.int .i64 0)).setCell ⟨w.heap.size + 1, 1, none⟩ (.string ⟨#[]⟩)).setCell ⟨w.heap.size + 1, 2, none⟩ (.int .i64 0)).setCell ⟨w.heap.size + 1, 3, none⟩ (.slice none 0 0)) = WF at q0 q1 q2 q3 hRF hfF ⊢
    refine bodyPost_ret (v := .tuple #[.agg #[.int .i64 0, .string ⟨#[]⟩, .int .i64 0, .slice none 0 0], .int .i64 70]) (by simp [results, Try.results33, go_sem, q0, q1, q2, q3]) rfl ⟨.slice none 0 0, rfl, hRF, hfF⟩
  simp only [hk] at hans
  have hk' : okT t = true := by simpa using hk
  rw [hk'] at hr
  have hmm := @run_makeMap Try.prog
  have hnd := nodes_ok hk'
  have hvl := varsT_len t []
  rw [List.length_nil, Nat.zero_add] at hvl
  have hvi := varsT_i64 t [] hwf (by simp)
  have hcall := fun (w0 : World) hC' => vars_any _ t rfl w0 w0 c A (.slice none 0 0) [] hC' hc (Below.refl _ _) (OutAt.none _ _) (by simp; omega)
  obtain ⟨vs, hvs⟩ : ∃ u, u = varsT t [] := ⟨_, rfl⟩
  rw [← hvs] at hvl hvi hcall hans
  have HANS := Lib.hid hans
  clear hans hvs
  go_enter Try.func33, Try.ntmps33
  go_wp2_with fail
  refine (hr _ _).mono ?_
  rintro e w1 ⟨rfl, hb1⟩
  have kT := blk_below (kT1 _ _) hb1
  have kR := blk_below (kR1 _ _ _) hb1
  have hBw := below_step (hB1 _ _ _) hb1
  clear hr hb1 kT1 kR1 kS1 hB1
  have hlw0 := blk_lt kR
  have hBm := below_alloc hBw (.map #[] 0)
  replace kT := blk_alloc kT (.map #[] 0)
  replace kR := blk_alloc kR (.map #[] 0)
  have hM : TmapAt (w1.alloc (.map #[] 0)) w1.heap.size [] := TmapAt.new w1
  have t0 : (w1.alloc (.map #[] 0)).cell? ⟨w.heap.size, 0, none⟩ = some (.int .i64 t.f0) := blk_cell kT 0
  have t1 : (w1.alloc (.map #[] 0)).cell? ⟨w.heap.size, 1, none⟩ = some (.string t.f1) := blk_cell kT 1
  have t2 : (w1.alloc (.map #[] 0)).cell? ⟨w.heap.size, 2, none⟩ = some (.int .i64 t.f2) := blk_cell kT 2
  have t3 : (w1.alloc (.map #[] 0)).cell? ⟨w.heap.size, 3, none⟩ = some (.slice A t.f3.length c) := blk_cell kT 3
  have hlw : w.heap.size + 1 < w1.heap.size + 1 := by have := blk_lt kR; simpa using this
  have hlm := hM.lt
  have hc1 := hcall (w1.alloc (.map #[] 0)) (Kd.C_below hC hBm)
  go_wp2_with fail
  refine hc1.mono ?_
  rintro e w2 ⟨v2, rfl, hO, hb2⟩
  obtain ⟨Av, cv, rfl, hcv, CV⟩ := hO.reads
  obtain ⟨B0, hB0⟩ : ∃ u, u = (w1.alloc (.map #[] 0)).heap.size := ⟨_, rfl⟩
  have hB0' : w1.heap.size < B0 := by rw [hB0]; simp
  rw [← hB0] at hO
  replace kT := blk_below kT hb2
  replace kR := blk_below kR hb2
  replace hM := hM.alike (hb2.block _ hlm)
  have hB2 := below_step hBm hb2
  clear hb2 hc1 hcall t0 t1 t2 t3 hBm hBw hB0 CV
  have hvl2 : vs.length ≤ 2000 := by omega
  have hmb := hCb.2.1
  clear hvl hnd
  go_wp2
  go_loopw [25] (fun i wr => ∃ (k : Nat) (L : Tm), k ≤ bs.length ∧ i = .int .i64 k ∧ apL vs bs [] = apL vs (bs.drop k) (strip L) ∧ KeyIn vs L ∧ TmIn w L ∧ Below w.heap.size w wr ∧ TmapAt wr w1.heap.size L ∧ OutAt wr B0 (.slice Av vs.length cv) vs ∧
      wr.heap[w.heap.size]? = some (.cells #[.int .i64 t.f0, .string t.f1, .int .i64 t.f2, .slice A t.f3.length c] 24 (0, 0)) ∧ wr.heap[w.heap.size + 1]? = some (.cells #[.int .i64 0, .string ⟨#[]⟩, .int .i64 0, .slice none 0 0] 24 (0, 0)))
    (fun i _ => bs.length - (intOf i).toNat)
  case atStart => exact ⟨0, [], Nat.zero_le _, rfl, rfl, KeyIn.nil _, (fun k tv hk => by simp [mget] at hk), hB2, hM, hO, kT, kR⟩
  case round =>
    clear hO hM kT kR hB2
    obtain ⟨k, L, hk1, rfl, hap, hLk, hTI, hBr, hMr, hOr, hT, hR⟩ := hrel
    have hLl := Nat.le_trans hLk.len hvl2
    obtain ⟨A', c', e', hcv2, CV⟩ := hOr.reads
    cases e'
    by_cases hlt : k < bs.length
    · obtain ⟨ad, A4, c4, rfl, y0, y1, y2, y3, y4, l4, g4⟩ := C50_rd hCb k hlt rfl
      replace y0 := (hBr.cell (World.block_lt_of_cell? w _ y0)).trans y0
      replace y1 := (hBr.cell (World.block_lt_of_cell? w _ y1)).trans y1
      replace y2 := (hBr.cell (World.block_lt_of_cell? w _ y2)).trans y2
      replace y3 := (hBr.cell (World.block_lt_of_cell? w _ y3)).trans y3
      replace y4 := (hBr.cell (World.block_lt_of_cell? w _ y4)).trans y4
      obtain ⟨hbi, hbw⟩ := hwb _ (List.getElem_mem hlt)
      rw [List.drop_eq_getElem_cons hlt] at hap
      generalize bs[k] = b at y0 y1 y2 y3 y4 l4 g4 hap hbi hbw
      obtain ⟨bv, ⟨b0, b1, b2, b3⟩⟩ := b
      simp only [apL] at y0 y1 y2 y3 y4 l4 g4 hap hbi hbw
      have hlk := fun o => lookT 75 Try.underlying75 (hMr.alloc o) hbi true
      rw [mget_strip] at hap
      cases hg : mget L bv with
      | some tv =>
        have hbn : bnd L bv = tv := by unfold bnd; rw [hg]; rfl
        rw [hbn, hg] at hlk
        simp only [if_true, encT] at hlk
        rw [hg] at hap
        simp only [Option.map_some, Option.isSome_some, true_or, if_true] at hap
        go_wp2
        refine ⟨⟨k + 1, L, hlt, by push_cast; rfl, hap, hLk, hTI, below_alloc (below_alloc hBr _) _, (hMr.alloc _).alloc _, (World.ownsRow.alloc (World.ownsRow.alloc hOr _) _), blk_alloc (blk_alloc hT _) _, blk_alloc (blk_alloc hR _) _⟩, ?_⟩
        simp [intOf]; omega
      | none =>
        have hbn : bnd L bv = zeroTv := by unfold bnd; rw [hg]; rfl
        rw [hbn, hg] at hlk
        simp only [if_true, encT] at hlk
        rw [hg] at hap
        simp only [Option.map_none, Option.isSome_none, Bool.false_eq_true, false_or] at hap
        have hcc := slices_Contains_int64_int64.calls (vs.length + 1) Av cv vs bv _ _ (Kd.C_alloc (Kd.C_alloc CV (.cells #[.int .i64 bv, .int .i64 b0, .string b1, .int .i64 b2, .slice A4 b3.length c4] 50)) (.cells #[.int .i64 0, .string ⟨#[]⟩, .int .i64 0, .slice none 0 0] 24)) hcv2 (contains_pure vs bv (by omega))
        have kX := blk_alloc (blk_new wr (.cells #[.int .i64 bv, .int .i64 b0, .string b1, .int .i64 b2, .slice A4 b3.length c4] 50)) (.cells #[.int .i64 0, .string ⟨#[]⟩, .int .i64 0, .slice none 0 0] 24)
        replace hT := blk_alloc (blk_alloc hT (.cells #[.int .i64 bv, .int .i64 b0, .string b1, .int .i64 b2, .slice A4 b3.length c4] 50)) (.cells #[.int .i64 0, .string ⟨#[]⟩, .int .i64 0, .slice none 0 0] 24)
        replace hR := blk_alloc (blk_alloc hR (.cells #[.int .i64 bv, .int .i64 b0, .string b1, .int .i64 b2, .slice A4 b3.length c4] 50)) (.cells #[.int .i64 0, .string ⟨#[]⟩, .int .i64 0, .slice none 0 0] 24)
        have hOa : OutAt _ B0 (.slice Av vs.length cv) vs := World.ownsRow.alloc (World.ownsRow.alloc hOr (.cells #[.int .i64 bv, .int .i64 b0, .string b1, .int .i64 b2, .slice A4 b3.length c4] 50)) (.cells #[.int .i64 0, .string ⟨#[]⟩, .int .i64 0, .slice none 0 0] 24)
        have hMa := (hMr.alloc (.cells #[.int .i64 bv, .int .i64 b0, .string b1, .int .i64 b2, .slice A4 b3.length c4] 50)).alloc (.cells #[.int .i64 0, .string ⟨#[]⟩, .int .i64 0, .slice none 0 0] 24)
        have hBa := below_alloc (below_alloc hBr (.cells #[.int .i64 bv, .int .i64 b0, .string b1, .int .i64 b2, .slice A4 b3.length c4] 50)) (.cells #[.int .i64 0, .string ⟨#[]⟩, .int .i64 0, .slice none 0 0] 24)
        have hlm5 := hMr.lt
        have hszr := hBr.size
        by_cases hmv : bv ∈ vs
        · rw [decide_eq_true hmv] at hcc
          simp only [hmv, not_true_eq_false, if_false] at hap
          go_wp2_with fail
          refine hcc.mono ?_
          rintro e wd ⟨rfl, nd, rfl⟩
          have kXd := blk_drewN kX nd
          have hTd := blk_drewN hT nd
          have hRd := blk_drewN hR nd
          have hOd : OutAt (((wr.alloc (.cells #[.int .i64 bv, .int .i64 b0, .string b1, .int .i64 b2, .slice A4 b3.length c4] 50)).alloc (.cells #[.int .i64 0, .string ⟨#[]⟩, .int .i64 0, .slice none 0 0] 24)).drewN nd) B0 (.slice Av vs.length cv) vs := hOa
          have hMd : TmapAt (((wr.alloc (.cells #[.int .i64 bv, .int .i64 b0, .string b1, .int .i64 b2, .slice A4 b3.length c4] 50)).alloc (.cells #[.int .i64 0, .string ⟨#[]⟩, .int .i64 0, .slice none 0 0] 24)).drewN nd) w1.heap.size L := hMa.alike rfl
          have hBd := below_drewN hBa nd
          have hsd : wr.heap.size < (((wr.alloc (.cells #[.int .i64 bv, .int .i64 b0, .string b1, .int .i64 b2, .slice A4 b3.length c4] 50)).alloc (.cells #[.int .i64 0, .string ⟨#[]⟩, .int .i64 0, .slice none 0 0] 24)).drewN nd).heap.size := blk_lt kXd
          clear kX hT hR hOa hMa hBa hcc CV hlk hOr hMr
          generalize ((wr.alloc (.cells #[.int .i64 bv, .int .i64 b0, .string b1, .int .i64 b2, .slice A4 b3.length c4] 50)).alloc (.cells #[.int .i64 0, .string ⟨#[]⟩, .int .i64 0, .slice none 0 0] 24)).drewN nd = Wd at kXd hTd hRd hOd hMd hBd hsd ⊢
          have xd0 : Wd.cell? ⟨wr.heap.size, 0, none⟩ = some (.int .i64 bv) := blk_cell kXd 0
          have xd1 : Wd.cell? ⟨wr.heap.size, 1, none⟩ = some (.int .i64 b0) := blk_cell kXd 1
          have xd2 : Wd.cell? ⟨wr.heap.size, 2, none⟩ = some (.string b1) := blk_cell kXd 2
          have xd3 : Wd.cell? ⟨wr.heap.size, 3, none⟩ = some (.int .i64 b2) := blk_cell kXd 3
          have xd4 : Wd.cell? ⟨wr.heap.size, 4, none⟩ = some (.slice A4 b3.length c4) := blk_cell kXd 4
          have hrc := right_call ⟨b0, b1, b2, b3⟩ (Wd.alloc (.cells #[.int .i64 b0, .string b1, .int .i64 b2, .slice A4 b3.length c4] 24)) Wd.heap.size A4 c4 (Kd.C_alloc (Kd.C_below g4 hBd) _) l4 (blk_new _ _)
          go_wp2_with fail
          refine hrc.mono ?_
          rintro e w5 ⟨rfl, hb5⟩
          have hB5 := below_step (below_alloc hBd _) hb5
          have hT5 := blk_below (blk_alloc hTd _) hb5
          have hR5 := blk_below (blk_alloc hRd _) hb5
          have hM5 := (hMd.alloc _).alike (hb5.block _ (hMd.alloc _).lt)
          have kX5 := blk_below (blk_alloc kXd _) hb5
          have hO5 : OutAt w5 B0 (.slice Av vs.length cv) vs := World.ownsRow.kept (World.ownsRow.alloc hOd _) ⟨hb5.os, hb5.tape, hb5.output, hb5.size, fun i hi _ => hb5.block i hi⟩ (Classical.em _)
          have xe0 : w5.cell? ⟨wr.heap.size, 0, none⟩ = some (.int .i64 bv) := blk_cell kX5 0
          have xe1 : w5.cell? ⟨wr.heap.size, 1, none⟩ = some (.int .i64 b0) := blk_cell kX5 1
          have xe2 : w5.cell? ⟨wr.heap.size, 2, none⟩ = some (.string b1) := blk_cell kX5 2
          have xe3 : w5.cell? ⟨wr.heap.size, 3, none⟩ = some (.int .i64 b2) := blk_cell kX5 3
          have xe4 : w5.cell? ⟨wr.heap.size, 4, none⟩ = some (.slice A4 b3.length c4) := blk_cell kX5 4
          have hlX5 := blk_lt kX5
          clear hrc hb5 kXd hTd hRd hOd hMd hBd hsd xd0 xd1 xd2 xd3 xd4 kX5
          cases hok : okT ⟨b0, b1, b2, b3⟩ with
          | false =>
            rw [hok] at hap
            simp only [if_true] at hap
            obtain rfl : ans = (z24, 70) := by rw [HANS.out, hap]; rfl
            have r0 : w5.cell? ⟨w.heap.size + 1, 0, none⟩ = some (.int .i64 0) := blk_cell hR5 0
            have r1 : w5.cell? ⟨w.heap.size + 1, 1, none⟩ = some (.string ⟨#[]⟩) := blk_cell hR5 1
            have r2 : w5.cell? ⟨w.heap.size + 1, 2, none⟩ = some (.int .i64 0) := blk_cell hR5 2
            have r3 : w5.cell? ⟨w.heap.size + 1, 3, none⟩ = some (.slice none 0 0) := blk_cell hR5 3
            have lR := blk_lt hR5
            have fr := fun i => blk_frozen hR5 i
            clear xe0 xe1 xe2 xe3 xe4 hap HANS hO5 hM5 hT5
            go_wp2
            obtain ⟨q0, q1, q2, q3, hRF, hfF⟩ := box_ret0 0 ⟨#[]⟩ 0 hR5 (Kd.R_nil k24 24 w5 w.heap.size (fun _ => False)) (fun j hj => hj.elim) hB5 (by omega)
            generalize ((((w5.setCell ⟨w.heap.size + 1, 0, none⟩ (.int .i64 0)).setCell ⟨w.heap.size + 1, 1, none⟩ (.string ⟨#[]⟩)).setCell ⟨w.heap.size + 1, 2, none⟩ (.int .i64 0)).setCell ⟨w.heap.size + 1, 3, none⟩ (.slice none 0 0)) = WF at q0 q1 q2 q3 hRF hfF ⊢
            refine bodyPost_ret (v := .tuple #[.agg #[.int .i64 0, .string ⟨#[]⟩, .int .i64 0, .slice none 0 0], .int .i64 70]) (by simp [results, Try.results33, go_sem, q0, q1, q2, q3]) rfl ⟨.slice none 0 0, rfl, hRF, hfF⟩
          | true =>
            rw [hok] at hap
            simp only [Bool.true_eq_false, if_false] at hap
            have hkey := keyOf_int_mk Try.underlying2 hbi.wf
            go_wp2_with (at_mapUpdate; refine wpList_mapUpdate_in _ rfl _ _ _ 75 rfl 2 24 law2 Try.underlying75 _ w1.heap.size L.length _ rfl hM5 (by unfold maxLen; omega) _ _ _ rfl rfl hkey (.held (encT (⟨b0, b1, b2, b3⟩, A4, c4))) [] rfl ?_; intro w7 hown7 hturn7)
            have hM7 := putTm hown7
            have hg7 := hturn7.grown
            have hT7 := blk_grown hT5 hg7 (fun e => by have := Option.some.inj e; omega)
            have hR7 := blk_grown hR5 hg7 (fun e => by have := Option.some.inj e; omega)
            have hO7 : OutAt w7 B0 (.slice Av vs.length cv) vs := hO5.kept hg7 (by
              cases ho : (Value.slice Av vs.length cv).ownBlock with
              | none => exact .inl rfl
              | some q => exact .inr (fun e => by have := (hO5.lt q ho).1; have := Option.some.inj e; omega))
            have hBe : Below w.heap.size w w7 := below_grown hB5 hg7 (fun q e => by have := Option.some.inj e; omega) (Nat.le_refl _)
            have hTI7 : TmIn w (mput bv (⟨b0, b1, b2, b3⟩, A4, c4) L) := by
              intro k tv hkt
              by_cases hkv : k = bv
              · subst hkv
                rcases mem_mput.1 (mget_mem hkt) with he | ⟨_, hne⟩
                · cases he; exact ⟨g4, l4, hbw⟩
                · exact absurd rfl hne
              · rw [mget_mput_other hkv] at hkt
                exact hTI k tv hkt
            have hml : (mput bv ((⟨b0, b1, b2, b3⟩, A4, c4) : Tv) L).length = L.length + 1 := length_mput_new hg
            refine ⟨⟨k + 1, mput bv (⟨b0, b1, b2, b3⟩, A4, c4) L, hlt, by push_cast; rfl, by rw [strip_mput]; exact hap, hLk.put hmv, hTI7, hBe, hM7, hO7, hT7, hR7⟩, ?_⟩
            simp [intOf]; omega
        · rw [decide_eq_false hmv] at hcc
          simp only [hmv, not_false_eq_true, if_true] at hap
          go_wp2_with fail
          refine hcc.mono ?_
          rintro e wd ⟨rfl, nd, rfl⟩
          clear hcc CV hlk
          go_wp2
          refine ⟨⟨k + 1, L, hlt, by push_cast; rfl, hap, hLk, hTI, below_drewN hBa nd, hMa.alike rfl, hOa, hT, hR⟩, ?_⟩
          simp [intOf]; omega
    · obtain rfl : k = bs.length := by omega
      rw [List.drop_of_length_le (Nat.le_refl _)] at hap
      simp only [apL] at hap
      have hVM : TmIn wr L := fun k tv hk => by obtain ⟨h1, h2, h3⟩ := hTI k tv hk; exact ⟨Kd.C_below h1 hBr, h2, h3⟩
      have hmne : w1.heap.size ≠ wr.heap.size := by have := hMr.lt; omega
      have hp := putM_any L w1.heap.size wr.heap.size wr hmne hVM _ t rfl hwf 1 0 (wr.alloc (.cells #[.int .i64 0] 3)) c A (hMr.alloc _) (Kd.C_below hC hBr) hc (below_alloc (Below.refl _ _) _) (Nat.le_refl _) (blk_new _ _) (by omega) (by omega) (by omega) (by omega)
      rw [fnT_strip] at hp
      obtain ⟨fin, hfin⟩ : ∃ u, u = putT (mget (strip L)) t 1 0 := ⟨_, rfl⟩
      rw [← hfin] at hp
      have hans := HANS.out
      rw [hap] at hans
      simp only [← hfin] at hans
      clear HANS hfin
      have hBa := below_alloc hBr (.cells #[.int .i64 0] 3)
      have hT1 := blk_alloc hT (.cells #[.int .i64 0] 3)
      have hR1 := blk_alloc hR (.cells #[.int .i64 0] 3)
      have t0 : (wr.alloc (.cells #[.int .i64 0] 3)).cell? ⟨w.heap.size, 0, none⟩ = some (.int .i64 t.f0) := blk_cell hT1 0
      have t1 : (wr.alloc (.cells #[.int .i64 0] 3)).cell? ⟨w.heap.size, 1, none⟩ = some (.string t.f1) := blk_cell hT1 1
      have t2 : (wr.alloc (.cells #[.int .i64 0] 3)).cell? ⟨w.heap.size, 2, none⟩ = some (.int .i64 t.f2) := blk_cell hT1 2
      have t3 : (wr.alloc (.cells #[.int .i64 0] 3)).cell? ⟨w.heap.size, 3, none⟩ = some (.slice A t.f3.length c) := blk_cell hT1 3
      have hsz := hBr.size
      have hlR := blk_lt hR
      clear hOr CV hvi hcv2
      go_wp2_with fail
      refine hp.mono ?_
      rintro e w5 ⟨v5, rfl, hR5, f5, c5⟩
      obtain ⟨A5, c5', rfl, hc5, C5⟩ := Kd.R_reads hR5
      obtain ⟨⟨e0, e1', e2, e3⟩, ok, q'⟩ := fin
      simp only at hR5 hc5 C5 c5 hans ⊢
      replace hR1 := f5.blk hR1 (show w.heap.size + 1 ≠ wr.heap.size by omega)
      have hBf := f5.below hBa hsz
      have hRl : Kd.R k24 24 w5 w.heap.size (fun j => wr.heap.size < j) (.slice A5 e3.length c5') e3 := Kd.R_mono (Kd.R_lower (Kd.R_bound hR5) (by simp; omega)) (fun j hj => by have := hj.2.1; simp at this; omega)
      clear t0 t1 t2 t3 hp hT1 hT hR hMr hVM f5 c5 C5
      cases ok with
      | false =>
        simp only [Bool.false_eq_true, if_false] at hans
        subst hans
        have hR2 := blk_alloc hR1 (.cells #[.int .i64 e0, .string e1', .int .i64 e2, .slice A5 e3.length c5'] 24)
        have hBf2 := below_alloc hBf (.cells #[.int .i64 e0, .string e1', .int .i64 e2, .slice A5 e3.length c5'] 24)
        clear hR1 hRl hR5 hBf
        have r0 : (w5.alloc (.cells #[.int .i64 e0, .string e1', .int .i64 e2, .slice A5 e3.length c5'] 24)).cell? ⟨w.heap.size + 1, 0, none⟩ = some (.int .i64 0) := blk_cell hR2 0
        have r1 : (w5.alloc (.cells #[.int .i64 e0, .string e1', .int .i64 e2, .slice A5 e3.length c5'] 24)).cell? ⟨w.heap.size + 1, 1, none⟩ = some (.string ⟨#[]⟩) := blk_cell hR2 1
        have r2 : (w5.alloc (.cells #[.int .i64 e0, .string e1', .int .i64 e2, .slice A5 e3.length c5'] 24)).cell? ⟨w.heap.size + 1, 2, none⟩ = some (.int .i64 0) := blk_cell hR2 2
        have r3 : (w5.alloc (.cells #[.int .i64 e0, .string e1', .int .i64 e2, .slice A5 e3.length c5'] 24)).cell? ⟨w.heap.size + 1, 3, none⟩ = some (.slice none 0 0) := blk_cell hR2 3
        have lR := blk_lt hR2
        have fr := fun i => blk_frozen hR2 i
        go_upto_if 63 with (fail)
        generalize (w5.alloc (.cells #[.int .i64 e0, .string e1', .int .i64 e2, .slice A5 e3.length c5'] 24)) = W6 at hR2 hBf2 r0 r1 r2 r3 lR fr ⊢
        go_wp2
        obtain ⟨q0, q1, q2, q3, hRF, hfF⟩ := box_ret0 0 ⟨#[]⟩ 0 hR2 (Kd.R_nil k24 24 W6 w.heap.size (fun _ => False)) (fun j hj => hj.elim) hBf2 (by omega)
        generalize ((((W6.setCell ⟨w.heap.size + 1, 0, none⟩ (.int .i64 0)).setCell ⟨w.heap.size + 1, 1, none⟩ (.string ⟨#[]⟩)).setCell ⟨w.heap.size + 1, 2, none⟩ (.int .i64 0)).setCell ⟨w.heap.size + 1, 3, none⟩ (.slice none 0 0)) = WF at q0 q1 q2 q3 hRF hfF ⊢
        refine bodyPost_ret (v := .tuple #[.agg #[.int .i64 0, .string ⟨#[]⟩, .int .i64 0, .slice none 0 0], .int .i64 2]) (by simp [results, Try.results33, go_sem, q0, q1, q2, q3]) rfl ⟨.slice none 0 0, rfl, hRF, hfF⟩
      | true =>
        simp only [if_true] at hans
        subst hans
        have r0 : w5.cell? ⟨w.heap.size + 1, 0, none⟩ = some (.int .i64 0) := blk_cell hR1 0
        have r1 : w5.cell? ⟨w.heap.size + 1, 1, none⟩ = some (.string ⟨#[]⟩) := blk_cell hR1 1
        have r2 : w5.cell? ⟨w.heap.size + 1, 2, none⟩ = some (.int .i64 0) := blk_cell hR1 2
        have r3 : w5.cell? ⟨w.heap.size + 1, 3, none⟩ = some (.slice none 0 0) := blk_cell hR1 3
        have lR := blk_lt hR1
        have fr := fun i => blk_frozen hR1 i
        go_wp2
        obtain ⟨q0, q1, q2, q3, hRF, hfF⟩ := box_ret (.cells #[.int .i64 e0, .string e1', .int .i64 e2, .slice A5 e3.length c5'] 24) e0 e1' e2 hR1 hRl (fun j hj => by omega) hBf (by omega)
        generalize (((((w5.setCell ⟨w.heap.size + 1, 0, none⟩ (.int .i64 e0)).setCell ⟨w.heap.size + 1, 1, none⟩ (.string e1')).setCell ⟨w.heap.size + 1, 2, none⟩ (.int .i64 e2)).setCell ⟨w.heap.size + 1, 3, none⟩ (.slice A5 e3.length c5')).alloc (.cells #[.int .i64 e0, .string e1', .int .i64 e2, .slice A5 e3.length c5'] 24)) = WF at q0 q1 q2 q3 hRF hfF ⊢
        refine bodyPost_ret (v := .tuple #[.agg #[.int .i64 e0, .string e1', .int .i64 e2, .slice A5 e3.length c5'], .int .i64 0]) (by simp [results, Try.results33, go_sem, q0, q1, q2, q3]) rfl ⟨.slice A5 e3.length c5', rfl, hRF, hfF⟩

end Go.Proofs.Ytpnkaggkedepeaa


/- Items in plain words and its walk. -/
namespace Go.Proofs.Ytpnkaggkedepeaa
set_option linter.unusedVariables false
open Go.RowKit Go.Maps Go.Proofs.YtpnkaggkedepeaaW.PrintWords Go.Proofs.YtpnkaggkedepeaaW.PrintLast Go.Proofs.YtpnkaggkedepeaaW.PrintMore Go.Proofs.Ytpnkaggkedepeaa.PTermTells Go.Extern

/-- The items of a list, and what it ends in. -/
def itemsL : S24 → List S24 × S24
  | ⟨kd, nm, nt, [a, b]⟩ => if kd = 4 ∧ nm.toList = [46] then (a :: (itemsL b).1, (itemsL b).2) else ([], ⟨kd, nm, nt, [a, b]⟩)
  | t => ([], t)
theorem itemsL_cons {nm : ByteArray} (h : nm.toList = [46]) (nt : Int) (a b : S24) : itemsL ⟨4, nm, nt, [a, b]⟩ = (a :: (itemsL b).1, (itemsL b).2) := by rw [itemsL]; simp [h]
theorem itemsL_end {t : S24} (h : ¬(t.f0 = 4 ∧ t.f1.toList = [46] ∧ t.f3.length = 2)) : itemsL t = ([], t) := by
  obtain ⟨kd, nm, nt, xs⟩ := t
  match xs, h with
  | [a, b], h =>
    rw [itemsL]
    rw [if_neg (fun hh => h ⟨hh.1, hh.2, rfl⟩)]
  | [], _ => rw [itemsL]; simp
  | [a], _ => rw [itemsL]; simp
  | a :: b :: c :: r, _ => rw [itemsL]; simp
theorem nodesL_append : ∀ (xs ys : List S24), nodesL (xs ++ ys) = nodesL xs + nodesL ys
  | [], ys => by rw [nodesL_nil]; simp
  | a :: r, ys => by rw [List.cons_append, nodesL_cons, nodesL_cons, nodesL_append r ys]; omega
mutual
theorem cpT_nodes : ∀ (t : S24) (deep s : Int), (cpT t deep s).2.1 = true → nodes (cpT t deep s).1 = nodes t
  | ⟨kd, nm, nt, xs⟩, deep, s => by
    unfold cpT
    by_cases h1 : s + 1 > 2000 ∨ deep > 100
    · simp only [if_pos h1]; intro h; cases h
    simp only [if_neg h1]
    by_cases h2 : kd ≠ 4
    · simp only [if_pos h2]
      intro _
      have : (bareT ⟨kd, nm, nt, xs⟩).f0 = kd ∧ (bareT ⟨kd, nm, nt, xs⟩).f3 = [] := by unfold bareT; simp only; split <;> exact ⟨rfl, rfl⟩
      obtain ⟨h3, h4⟩ := this
      generalize bareT ⟨kd, nm, nt, xs⟩ = b at h3 h4 ⊢
      obtain ⟨b0, b1, b2, b3⟩ := b
      simp only at h3 h4
      subst h3
      rw [nodes, nodes, if_neg h2, if_neg h2]
    simp only [if_neg h2]
    obtain rfl : kd = 4 := by omega
    have hb := cpL_nodes xs (deep + 1) [] (s + 1)
    by_cases h3 : (cpL xs (deep + 1) [] (s + 1)).2.1 = true
    · simp only [h3, if_true]
      intro _
      rw [nodes, nodes, if_pos rfl, if_pos rfl, hb h3, nodesL_nil, Nat.zero_add]
    · simp only [h3]; intro h; cases h
theorem cpL_nodes : ∀ (xs : List S24) (deep : Int) (acc : List S24) (s : Int), (cpL xs deep acc s).2.1 = true → nodesL (cpL xs deep acc s).1 = nodesL acc + nodesL xs
  | [], deep, acc, s => by rw [cpL_nil, nodesL_nil]; intro _; rfl
  | a :: r, deep, acc, s => by
    rw [cpL_cons]
    have ha := cpT_nodes a deep s
    by_cases h3 : (cpT a deep s).2.1 = true
    · simp only [h3, if_true]
      intro h
      rw [cpL_nodes r deep _ _ h, nodesL_append, nodesL_cons, nodesL_nil, nodesL_cons, ha h3]
      omega
    · simp only [h3]; intro h; cases h
end
theorem cpT_false : ∀ (t : S24) (deep s : Int), (cpT t deep s).2.1 = false → (cpT t deep s).1 = z24
  | ⟨kd, nm, nt, xs⟩, deep, s => by
    unfold cpT
    by_cases h1 : s + 1 > 2000 ∨ deep > 100
    · simp [if_pos h1]
    simp only [if_neg h1]
    by_cases h2 : kd ≠ 4
    · simp only [if_pos h2]; intro h; cases h
    simp only [if_neg h2]
    by_cases h3 : (cpL xs (deep + 1) [] (s + 1)).2.1 = true
    · simp only [h3, if_true]; intro h; cases h
    · simp [h3]
theorem cpT_small {t : S24} (h : okT t = true) : nodes (cpT t 1 0).1 ≤ 2000 := by
  have hn := nodes_ok h
  cases hc : (cpT t 1 0).2.1 with
  | true => rw [cpT_nodes t 1 0 hc]; exact hn
  | false => rw [cpT_false t 1 0 hc]; decide
theorem R0_set4 {W : World} {g g' : Nat} {t : TypeId} {cs : Array Value} (h : W.heap[g']? = some (.cells cs t (0, 0))) (hg : g' ≠ g) (x0 x1 x2 x3 : Value) :
    ((((W.setCell ⟨g, 0, none⟩ x0).setCell ⟨g, 1, none⟩ x1).setCell ⟨g, 2, none⟩ x2).setCell ⟨g, 3, none⟩ x3).heap[g']? = some (.cells cs t (0, 0)) :=
  blk_far (blk_far (blk_far (blk_far h hg x0) hg x1) hg x2) hg x3
/-- A pair of terms of one's own: its cells, and each one's arguments. -/
theorem R_two {W : World} {base : Nat} {ok : Nat → Prop} {A : Option Addr} {cap : Nat} {a b : S24} (h : Kd.R k24 24 W base ok (.slice A 2 cap) [a, b]) :
    ∃ g Aa ca Ab cb, A = some ⟨g, 0, none⟩ ∧ W.cell? ⟨g, 0, none⟩ = some (.int .i64 a.f0) ∧ W.cell? ⟨g, 1, none⟩ = some (.string a.f1) ∧ W.cell? ⟨g, 2, none⟩ = some (.int .i64 a.f2) ∧ W.cell? ⟨g, 3, none⟩ = some (.slice Aa a.f3.length ca) ∧
      W.cell? ⟨g, 4, none⟩ = some (.int .i64 b.f0) ∧ W.cell? ⟨g, 5, none⟩ = some (.string b.f1) ∧ W.cell? ⟨g, 6, none⟩ = some (.int .i64 b.f2) ∧ W.cell? ⟨g, 7, none⟩ = some (.slice Ab b.f3.length cb) ∧
      Kd.R k24 24 W base ok (.slice Aa a.f3.length ca) a.f3 ∧ Kd.R k24 24 W base ok (.slice Ab b.f3.length cb) b.f3 ∧ ok g := by
  obtain ⟨g, cap', e, _, _, _⟩ := Kd.R_form h (by simp)
  simp only [List.length_cons, List.length_nil, Nat.zero_add, Nat.reduceAdd, Value.slice.injEq, true_and] at e
  obtain ⟨rfl, rfl⟩ := e
  obtain ⟨c0, hl0, hM0, hc0⟩ := Kd.R_get h z24 0 (by omega) (by omega)
  obtain ⟨c1, hl1, hM1, hc1⟩ := Kd.R_get h z24 1 (by omega) (by omega)
  obtain ⟨v0, rfl, hR0⟩ := k24_openM hM0
  obtain ⟨v1, rfl, hR1⟩ := k24_openM hM1
  simp only [Int.toNat_zero, Int.toNat_one, List.getD_cons_zero, List.getD_cons_succ] at hR0 hR1 hc0 hc1
  obtain ⟨A0, d0, rfl, _, _⟩ := Kd.R_reads hR0
  obtain ⟨A1, d1, rfl, _, _⟩ := Kd.R_reads hR1
  have hz : k24.sz = 4 := rfl
  rw [hz] at hc0 hc1
  have ea : ∀ j, (⟨g, 0, none⟩ : Addr).add j = ⟨g, j, none⟩ := fun j => by simp [Addr.add]; omega
  simp only [ea] at hc0 hc1
  exact ⟨g, A0, d0, A1, d1, rfl, hc0 0 _ rfl, hc0 1 _ rfl, hc0 2 _ rfl, hc0 3 _ rfl, hc1 0 _ rfl, hc1 1 _ rfl, hc1 2 _ rfl, hc1 3 _ rfl, Kd.R_mono hR0 (fun _ hk => hk.1), Kd.R_mono hR1 (fun _ hk => hk.1), h.1 g rfl⟩
theorem items_len : ∀ t : S24, (itemsL t).1.length ≤ nodes t
  | ⟨kd, nm, nt, xs⟩ => by
    by_cases h : kd = 4 ∧ nm.toList = [46] ∧ xs.length = 2
    · obtain ⟨rfl, hd, hl⟩ := h
      match xs, hl with
      | [a, b], _ =>
        rw [itemsL_cons hd, nodes, if_pos rfl, nodesL_cons, nodesL_cons, nodesL_nil]
        have := items_len b
        simp only [List.length_cons]
        omega
    · rw [itemsL_end (t := ⟨kd, nm, nt, xs⟩) h]
      simp
def itemsT (t : S24) : List S24 × S24 := if okT t = true then itemsL (cpT t 1 0).1 else ([], z24)

set_option maxHeartbeats 400000 in
set_option maxRecDepth 100000 in
theorem items_any (t : S24) (w : World) (A : Option Addr) (c : Nat) (hC : Kd.C k24 w A t.f3.length t.f3) (hc : t.f3.length ≤ c) (hwf : wfT t) :
    Calls Try.prog 30 #[.agg #[.int .i64 t.f0, .string t.f1, .int .i64 t.f2, .slice A t.f3.length c]] w fun e w' => ∃ v u,
      e = .returned (.tuple #[v, .agg #[.int .i64 (itemsT t).2.f0, .string (itemsT t).2.f1, .int .i64 (itemsT t).2.f2, u]]) ∧ Kd.R k24 24 w' w.heap.size (fun _ => True) v (itemsT t).1 ∧ Kd.R k24 24 w' w.heap.size (fun _ => True) u (itemsT t).2.f3 ∧ Below w.heap.size w w' := by
  have kT1 : ∀ o2 o3, (((w.alloc (.cells #[.int .i64 t.f0, .string t.f1, .int .i64 t.f2, .slice A t.f3.length c] 24)).alloc o2).alloc o3).heap[w.heap.size]? = some (.cells #[.int .i64 t.f0, .string t.f1, .int .i64 t.f2, .slice A t.f3.length c] 24 (0, 0)) := fun _ _ => blk_alloc (blk_alloc (blk_new w _) _) _
  have kR1 : ∀ o1 cs o3, (((w.alloc o1).alloc (.cells cs 24)).alloc o3).heap[w.heap.size + 1]? = some (.cells cs 24 (0, 0)) := by
    intro o1 cs o3
    have := blk_new (w.alloc o1) (.cells cs 24)
    rw [show (w.alloc o1).heap.size = w.heap.size + 1 by simp] at this
    exact blk_alloc this _
  have kS1 : ∀ o1 o2 cs, (((w.alloc o1).alloc o2).alloc (.cells cs 24)).heap[w.heap.size + 1 + 1]? = some (.cells cs 24 (0, 0)) := by
    intro o1 o2 cs
    have := blk_new ((w.alloc o1).alloc o2) (.cells cs 24)
    rwa [show ((w.alloc o1).alloc o2).heap.size = w.heap.size + 1 + 1 by simp] at this
  have hB1 : ∀ o1 o2 o3, Below w.heap.size w (((w.alloc o1).alloc o2).alloc o3) := fun _ _ _ => below_alloc (below_alloc (below_alloc (Below.refl _ _) _) _) _
  have hr := fun o1 o2 => right_call t (((w.alloc o1).alloc o2).alloc (.cells #[.int .i64 t.f0, .string t.f1, .int .i64 t.f2, .slice A t.f3.length c] 24)) (w.heap.size + 1 + 1) A c (Kd.C_alloc (Kd.C_alloc (Kd.C_alloc hC _) _) _) hc (kS1 _ _ _)
  obtain ⟨ans, hans⟩ : ∃ u, u = itemsT t := ⟨_, rfl⟩
  rw [← hans]
  unfold itemsT at hans
  by_cases hk : okT t = true
  · simp only [hk, if_true] at hr hans
    have HANS := Lib.hid hans
    clear hans
    have hcp := fun (W : World) (b : Nat) (hC' : Kd.C k24 W A t.f3.length t.f3) (hcn : CntAt (W.alloc (.cells #[.int .i64 0] 3)) W.heap.size 0) => cp_any _ t rfl hwf 1 0 W (W.alloc (.cells #[.int .i64 0] 3)) W.heap.size c A hC' hc (below_alloc (Below.refl _ _) _) (Nat.le_refl _) hcn (by omega) (by omega) (by omega) (by omega)
    have hsm := cpT_small hk
    obtain ⟨fin, hfin⟩ : ∃ u, u = cpT t 1 0 := ⟨_, rfl⟩
    rw [← hfin] at hsm
    simp only [← hfin] at hcp
    have han2 : ans = itemsL fin.1 := by rw [HANS.out, hfin]
    clear HANS hfin
    have HANS := Lib.hid han2
    clear han2
    go_enter Try.func30, Try.ntmps30
    go_wp2_with fail
    refine (hr _ _).mono ?_
    rintro e w1 ⟨rfl, hb1⟩
    have kT := blk_below (kT1 _ _) hb1
    have kR := blk_below (kR1 _ _ _) hb1
    have hBw := below_step (hB1 _ _ _) hb1
    clear hr hb1 kT1 kR1 kS1 hB1
    have hlw0 := blk_lt kR
    have kTa := blk_alloc kT (.cells #[.int .i64 0] 3)
    have t0 := blk_cell kTa 0
    have t1 := blk_cell kTa 1
    have t2 := blk_cell kTa 2
    have t3 := blk_cell kTa 3
    have hcp1 := hcp w1 0 (Kd.C_below hC hBw) (blk_new _ _)
    have hBa := below_alloc hBw (.cells #[.int .i64 0] 3)
    have kRa := blk_alloc kR (.cells #[.int .i64 0] 3)
    clear hcp
    go_wp2_with fail
    refine hcp1.mono ?_
    rintro e w5 ⟨v5, rfl, hR5, f5, c5⟩
    obtain ⟨A5, c5', rfl, hc5, C5⟩ := Kd.R_reads hR5
    obtain ⟨⟨e0, e1', e2, e3⟩, ok, q'⟩ := fin
    simp only at hR5 hc5 C5 c5 HANS hsm ⊢
    have hBf := f5.below hBa hBw.size
    replace kTa := f5.blk kTa (show w.heap.size ≠ w1.heap.size by omega)
    replace kRa := f5.blk kRa (show w.heap.size + 1 ≠ w1.heap.size by omega)
    have hs1 : (w1.alloc (.cells #[.int .i64 0] 3)).heap.size = w1.heap.size + 1 := by simp
    rw [hs1] at hR5
    have hRl : Kd.R k24 24 w5 w.heap.size (fun j => w1.heap.size < j ∧ j < w5.heap.size) (.slice A5 e3.length c5') e3 := Kd.R_mono (Kd.R_lower (Kd.R_bound hR5) (by omega)) (fun j hj => by have := hj.2.1; have := hj.2.2.1; omega)
    have hw15 := f5.size
    rw [hs1] at hw15
    clear t0 t1 t2 t3 hcp1 f5 c5 C5 hR5 kT kR hBa hBw
    have s0 := blk_cell kTa 0
    have s1 := blk_cell kTa 1
    have s2 := blk_cell kTa 2
    have s3 := blk_cell kTa 3
    have fr := fun i => blk_frozen kTa i
    have lT := blk_lt kTa
    go_upto_region 6 with (fail)
    have kT6 := res_box kTa (.int .i64 e0) (.string e1') (.int .i64 e2) (.slice A5 e3.length c5')
    have kR6 := R0_set4 kRa (show w.heap.size + 1 ≠ w.heap.size by omega) (.int .i64 e0) (.string e1') (.int .i64 e2) (.slice A5 e3.length c5')
    have hR6 := R_set4 (g := w.heap.size) hRl (fun j hj => by omega) (.int .i64 e0) (.string e1') (.int .i64 e2) (.slice A5 e3.length c5')
    have hB6 := below_set (j := 3) (v := .slice A5 e3.length c5') (below_set (j := 2) (v := .int .i64 e2) (below_set (j := 1) (v := .string e1') (below_set (j := 0) (v := .int .i64 e0) hBf (Nat.le_refl _)) (Nat.le_refl _)) (Nat.le_refl _)) (Nat.le_refl _)
    have hN : ((((w5.setCell ⟨w.heap.size, 0, none⟩ (.int .i64 e0)).setCell ⟨w.heap.size, 1, none⟩ (.string e1')).setCell ⟨w.heap.size, 2, none⟩ (.int .i64 e2)).setCell ⟨w.heap.size, 3, none⟩ (.slice A5 e3.length c5')).heap.size = w5.heap.size := by simp [World.setCell]
    generalize ((((w5.setCell ⟨w.heap.size, 0, none⟩ (.int .i64 e0)).setCell ⟨w.heap.size, 1, none⟩ (.string e1')).setCell ⟨w.heap.size, 2, none⟩ (.int .i64 e2)).setCell ⟨w.heap.size, 3, none⟩ (.slice A5 e3.length c5')) = W6 at kT6 kR6 hR6 hB6 hN ⊢
    clear s0 s1 s2 s3 fr kTa kRa hRl hBf
    obtain ⟨NN, hNN⟩ : ∃ N, N = w5.heap.size := ⟨_, rfl⟩
    rw [← hNN] at hR6 hN hw15
    have hil := items_len ⟨e0, e1', e2, e3⟩
    rw [← HANS.out] at hil
    clear hNN lT
    go_loopg [5] (ans.1.length + 1) (fun kq vo wr => ∃ (u : S24) (acc : List S24) (vu : Value), kq = (itemsL u).1.length + 1 ∧ ans = (acc ++ (itemsL u).1, (itemsL u).2) ∧ Below w.heap.size w wr ∧
      wr.heap[w.heap.size]? = some (.cells #[.int .i64 u.f0, .string u.f1, .int .i64 u.f2, vu] 24 (0, 0)) ∧ wr.heap[w.heap.size + 1]? = some (.cells #[.int .i64 0, .string ⟨#[]⟩, .int .i64 0, .slice none 0 0] 24 (0, 0)) ∧
      Kd.R k24 24 wr w.heap.size (fun j => w1.heap.size < j ∧ j < NN) vu u.f3 ∧ Kd.R k24 24 wr w.heap.size (fun j => w1.heap.size < j) vo acc ∧ (∀ j, vo.ownBlock = some j → NN ≤ j) ∧ NN ≤ wr.heap.size)
    case atStart => exact ⟨⟨e0, e1', e2, e3⟩, [], _, by rw [HANS.out], by rw [HANS.out]; rfl, hB6, kT6, kR6, hR6, Kd.R_nil _ _ _ _ _, by simp [Value.ownBlock], Nat.le_of_eq hN.symm⟩
    case round =>
      clear HANS kT6 kR6 hR6 hB6 hN
      obtain ⟨u, acc, vu, hgk, hans, hBr, hT, hR, hRu, hRo, hob, hnr⟩ := hrel
      obtain ⟨Au, cu, rfl, hcu, Cu⟩ := Kd.R_reads hRu
      have lT := blk_lt hT
      have fT := fun i => blk_frozen hT i
      have t0 : wr.cell? ⟨w.heap.size, 0, none⟩ = some (.int .i64 u.f0) := blk_cell hT 0
      have t1 : wr.cell? ⟨w.heap.size, 1, none⟩ = some (.string u.f1) := blk_cell hT 1
      have t2 : wr.cell? ⟨w.heap.size, 2, none⟩ = some (.int .i64 u.f2) := blk_cell hT 2
      have t3 : wr.cell? ⟨w.heap.size, 3, none⟩ = some (.slice Au u.f3.length cu) := blk_cell hT 3
      by_cases hL : u.f0 = 4 ∧ u.f1.toList = [46] ∧ u.f3.length = 2
      · obtain ⟨u0, u1, u2, u3⟩ := u
        obtain ⟨h4, hn, hl⟩ := hL
        simp only at h4 hn hl
        subst h4
        have hnb : (u1.toList == [46]) = true := beq_iff_eq.mpr hn
        match u3, hl with
        | [a, b], _ =>
        rw [itemsL_cons hn] at hgk hans
        simp only [List.length_cons, List.length_nil, Nat.zero_add, Nat.reduceAdd] at t0 t1 t2 t3 hRu Cu hcu hT hgk hans
        obtain ⟨g, Aa, ca, Ab, cb, rfl, ya0, ya1, ya2, ya3, yb0, yb1, yb2, yb3, hRa, hRb, hog⟩ := R_two hRu
        have hal : acc.length + 1 ≤ 2000 := by rw [hans] at hil; simp only [List.length_append, List.length_cons] at hil; omega
        have hM : Kd.M k24 wr w.heap.size (fun j => w1.heap.size < j ∧ j < NN) a [.int .i64 a.f0, .string a.f1, .int .i64 a.f2, .slice Aa a.f3.length ca] := k24_mkM wr w.heap.size _ a hRa
        have haK : ∀ j, (w1.heap.size < j ∧ j < NN) → w1.heap.size < j ∧ some j ≠ u5.ownBlock := fun j hj => ⟨hj.1, fun e => by have := hob j e.symm; omega⟩
        have haF : ∀ j, wr.heap.size ≤ j → w1.heap.size < j := fun j hj => by omega
        have lacc : (acc.length + 1) * 56 ≤ 140737488355328 := by omega
        have hbw := hBr.size
        go_wp2_with (first
          | (at_builtin; refine Kd.R_append k24 (w0 := wr) w.heap.size rfl (.tmp 30) (.tmp 35) 22 24 (.agg #[.int .i64 0, .string ⟨#[]⟩, .int .i64 0, .slice none 0 0]) 56 rfl Try.underlying22 info24 rfl (by decide) (by omega) u5 acc a [.int .i64 a.f0, .string a.f1, .int .i64 a.f2, .slice Aa a.f3.length ca] (fun j => w1.heap.size < j) (fun j => w1.heap.size < j ∧ j < NN) rfl rfl hM haK haF hRo (Below.refl _ _) hbw lacc ?_
             intro v8 w8 hR8 hb8 hg8 hat8
             have kT8 := blk_grown hT hg8 (fun e => by have := hob _ e.symm; omega)
             have kR8 := blk_grown hR hg8 (fun e => by have := hob _ e.symm; omega)
             have hRu8 := Kd.R_grown hRu hg8 (fun j hj e => by have := hob _ e.symm; omega)
             have lT8 := blk_lt kT8
             have fT8 := fun i => blk_frozen kT8 i
             have x0 : w8.cell? ⟨w.heap.size, 0, none⟩ = some (.int .i64 4) := blk_cell kT8 0
             have x1 : w8.cell? ⟨w.heap.size, 1, none⟩ = some (.string u1) := blk_cell kT8 1
             have x2 := blk_cell kT8 2
             have x3 : w8.cell? ⟨w.heap.size, 3, none⟩ = some (.slice (some ⟨g, 0, none⟩) 2 cu) := blk_cell kT8 3
             obtain ⟨g', Aa', ca', Ab', cb', hgg, za0, za1, za2, za3, zb0, zb1, zb2, zb3, hRa8, hRb8, hog8⟩ := R_two hRu8
             injection hgg with hgg
             injection hgg with hgg
             subst hgg))
        have hs4 : ((((w8.setCell ⟨w.heap.size, 0, none⟩ (.int .i64 b.f0)).setCell ⟨w.heap.size, 1, none⟩ (.string b.f1)).setCell ⟨w.heap.size, 2, none⟩ (.int .i64 b.f2)).setCell ⟨w.heap.size, 3, none⟩ (.slice Ab' b.f3.length cb')).heap.size = w8.heap.size := by simp [World.setCell]
        have kT9 := res_box kT8 (.int .i64 b.f0) (.string b.f1) (.int .i64 b.f2) (.slice Ab' b.f3.length cb')
        have kR9 := R0_set4 kR8 (show w.heap.size + 1 ≠ w.heap.size by omega) (.int .i64 b.f0) (.string b.f1) (.int .i64 b.f2) (.slice Ab' b.f3.length cb')
        have hRb9 := R_set4 (g := w.heap.size) hRb8 (fun j hj => by omega) (.int .i64 b.f0) (.string b.f1) (.int .i64 b.f2) (.slice Ab' b.f3.length cb')
        have hRo9 := R_set4 (g := w.heap.size) hR8 (fun j hj => by omega) (.int .i64 b.f0) (.string b.f1) (.int .i64 b.f2) (.slice Ab' b.f3.length cb')
        have hB8 := below_grown hBr hg8 (fun j e => by have := hob j e; omega) (Nat.le_refl _)
        have hB9 := below_set (j := 3) (v := .slice Ab' b.f3.length cb') (below_set (j := 2) (v := .int .i64 b.f2) (below_set (j := 1) (v := .string b.f1) (below_set (j := 0) (v := .int .i64 b.f0) hB8 (Nat.le_refl _)) (Nat.le_refl _)) (Nat.le_refl _)) (Nat.le_refl _)
        have hg8s := hg8.size
        have hob9 : ∀ j, v8.ownBlock = some j → NN ≤ j := fun j hj => by
          rcases hat8 with h | ⟨q, h, hq⟩
          · exact hob j (by rw [← h]; exact hj)
          · rw [h] at hj; have := Option.some.inj hj; omega
        go_roundg ((itemsL b).1.length + 1)
        case measure => omega
        case rel => exact ⟨b, acc ++ [a], _, rfl, by rw [hans]; simp, hB9, kT9, kR9, hRb9, hRo9, hob9, by rw [hs4]; omega⟩
      · rw [itemsL_end hL] at hgk hans
        rw [List.append_nil] at hans
        subst hans
        have lR := blk_lt hR
        have fR := fun i => blk_frozen hR i
        have r0 : wr.cell? ⟨w.heap.size + 1, 0, none⟩ = some (.int .i64 0) := blk_cell hR 0
        have r1 : wr.cell? ⟨w.heap.size + 1, 1, none⟩ = some (.string ⟨#[]⟩) := blk_cell hR 1
        have r2 : wr.cell? ⟨w.heap.size + 1, 2, none⟩ = some (.int .i64 0) := blk_cell hR 2
        have r3 : wr.cell? ⟨w.heap.size + 1, 3, none⟩ = some (.slice none 0 0) := blk_cell hR 3
        have hcs : (u.f0 == 4) = false ∨ ((u.f0 == 4) = true ∧ ((u.f1.toList == [46]) = false ∨ ((u.f1.toList == [46]) = true ∧ ((u.f3.length : Int) == 2) = false))) := by
          cases h1 : (u.f0 == 4) with
          | false => exact .inl rfl
          | true =>
            cases h2 : (u.f1.toList == [46]) with
            | false => exact .inr ⟨rfl, .inl rfl⟩
            | true =>
              cases h3 : ((u.f3.length : Int) == 2) with
              | false => exact .inr ⟨rfl, .inr ⟨rfl, rfl⟩⟩
              | true => exact absurd ⟨by simpa using h1, by simpa using h2, (by have h4 : (u.f3.length : Int) = 2 := (by simpa using h3); omega)⟩ hL
        clear hL
        rcases hcs with h1 | ⟨h1, h2 | ⟨h2, h3⟩⟩
        case' inr.inl => have h2' := beq_eq_false_iff_ne.mp h2
        case' inr.inr => have h2' := beq_iff_eq.mp h2
        all_goals go_upto_region 9 with (fail)
        all_goals go_region
        all_goals go_wp2
        all_goals
          obtain ⟨q0, q1, q2, q3, hRF, hfF⟩ := box_ret0 u.f0 u.f1 u.f2 hR hRu (fun j hj => by omega) hBr (by omega)
          have hRoF := R_set4 (g := w.heap.size + 1) hRo (fun j hj => by omega) (.int .i64 u.f0) (.string u.f1) (.int .i64 u.f2) (.slice Au u.f3.length cu)
          generalize ((((wr.setCell ⟨w.heap.size + 1, 0, none⟩ (.int .i64 u.f0)).setCell ⟨w.heap.size + 1, 1, none⟩ (.string u.f1)).setCell ⟨w.heap.size + 1, 2, none⟩ (.int .i64 u.f2)).setCell ⟨w.heap.size + 1, 3, none⟩ (.slice Au u.f3.length cu)) = WF at q0 q1 q2 q3 hRF hfF hRoF ⊢
          have hRF' := Kd.R_drew hRF
          have hRoF' := Kd.R_drew hRoF
          have hfF' := below_drew hfF
          replace q0 : WF.drew.cell? ⟨w.heap.size + 1, 0, none⟩ = some (.int .i64 u.f0) := q0
          replace q1 : WF.drew.cell? ⟨w.heap.size + 1, 1, none⟩ = some (.string u.f1) := q1
          replace q2 : WF.drew.cell? ⟨w.heap.size + 1, 2, none⟩ = some (.int .i64 u.f2) := q2
          replace q3 : WF.drew.cell? ⟨w.heap.size + 1, 3, none⟩ = some (.slice Au u.f3.length cu) := q3
          clear hRF hRoF hfF
          generalize WF.drew = WG at q0 q1 q2 q3 hRF' hRoF' hfF' ⊢
          refine bodyPost_ret (v := .tuple #[u5, .agg #[.int .i64 u.f0, .string u.f1, .int .i64 u.f2, .slice Au u.f3.length cu]]) (by simp [results, Try.results30, go_sem, q0, q1, q2, q3]) rfl ⟨u5, .slice Au u.f3.length cu, rfl, Kd.R_mono hRoF' (fun _ _ => trivial), hRF', hfF'⟩
  · have hk' : okT t = false := by simpa using hk
    simp only [hk'] at hr hans
    subst hans
    go_enter Try.func30, Try.ntmps30
    go_wp2_with fail
    refine (hr _ _).mono ?_
    rintro e w1 ⟨rfl, hb1⟩
    have kR := blk_below (kR1 _ _ _) hb1
    have hBw := below_step (hB1 _ _ _) hb1
    clear hr hb1 kT1 kR1 kS1 hB1
    have r0 : w1.cell? ⟨w.heap.size + 1, 0, none⟩ = some (.int .i64 0) := blk_cell kR 0
    have r1 : w1.cell? ⟨w.heap.size + 1, 1, none⟩ = some (.string ⟨#[]⟩) := blk_cell kR 1
    have r2 : w1.cell? ⟨w.heap.size + 1, 2, none⟩ = some (.int .i64 0) := blk_cell kR 2
    have r3 : w1.cell? ⟨w.heap.size + 1, 3, none⟩ = some (.slice none 0 0) := blk_cell kR 3
    have lR := blk_lt kR
    have fr := fun i => blk_frozen kR i
    go_wp2
    obtain ⟨q0, q1, q2, q3, hRF, hfF⟩ := box_ret0 0 ⟨#[]⟩ 0 kR (Kd.R_nil k24 24 w1 w.heap.size (fun _ => False)) (fun j hj => hj.elim) hBw (by omega)
    generalize ((((w1.setCell ⟨w.heap.size + 1, 0, none⟩ (.int .i64 0)).setCell ⟨w.heap.size + 1, 1, none⟩ (.string ⟨#[]⟩)).setCell ⟨w.heap.size + 1, 2, none⟩ (.int .i64 0)).setCell ⟨w.heap.size + 1, 3, none⟩ (.slice none 0 0)) = WF at q0 q1 q2 q3 hRF hfF ⊢
    refine bodyPost_ret (v := .tuple #[.slice none 0 0, .agg #[.int .i64 0, .string ⟨#[]⟩, .int .i64 0, .slice none 0 0]]) (by simp [results, Try.results30, go_sem, q0, q1, q2, q3]) rfl ⟨.slice none 0 0, .slice none 0 0, rfl, Kd.R_nil _ _ _ _ _, hRF, hfF⟩

end Go.Proofs.Ytpnkaggkedepeaa
