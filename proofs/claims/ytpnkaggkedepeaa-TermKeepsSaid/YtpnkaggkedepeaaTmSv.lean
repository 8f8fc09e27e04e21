/- A right term and a variable: Solve ends. -/
import Derived.Test.YtpnkaggkedepeaaTmPl
namespace Go.Proofs.Ytpnkaggkedepeaa
set_option linter.unusedVariables false
open Go.RowKit Go.Maps Go.Proofs.YtpnkaggkedepeaaW.PrintWords Go.Proofs.YtpnkaggkedepeaaW.PrintLast Go.Proofs.YtpnkaggkedepeaaW.PrintMore Go.Proofs.Ytpnkaggkedepeaa.PTermTells Go.Extern

/-- One variable is bound, and it is on the way: a term stands within itself where that variable is in it. -/
theorem loops_occ {S : Sm} {v : Int} {x : S24} (hv : mget S v = some x) (ho : ∀ u, u ≠ v → mget S u = none) : ∀ (k : Nat) (t : S24) (s : Seen), nodes t < k → seenV s v = 1 → loopsP S k t s = some (decide (v ∈ occT t), s)
  | 0, _, _, h, _ => absurd h (Nat.not_lt_zero _)
  | k + 1, ⟨kd, nm, nt, xs⟩, s, hk, hs => by
    rw [loopsP]
    simp only
    by_cases h4 : kd = 4
    · subst h4
      rw [if_pos rfl, occT, if_neg (by decide), if_pos rfl]
      rw [nodes, if_pos rfl] at hk
      have hgo : ∀ ys : List S24, nodesL ys < k → anyP (loopsP S k) ys s = some (decide (v ∈ occL ys), s) := by
        intro ys
        induction ys with
        | nil => intro _; rw [occL_nil]; rfl
        | cons a r ih =>
          intro h
          rw [nodesL_cons] at h
          rw [anyP_cons, loops_occ hv ho k a s (by omega) hs, occL_cons]
          simp only [decide_eq_true_eq]
          by_cases e : v ∈ occT a
          · rw [if_pos e, decide_eq_true (List.mem_append_left _ e)]
          · rw [if_neg e, ih (by omega)]
            have : (v ∈ occT a ++ occL r) ↔ v ∈ occL r := by rw [List.mem_append]; exact ⟨fun h => h.resolve_left e, .inr⟩
            simp only [this]
      exact hgo xs (by omega)
    · rw [if_neg h4]
      by_cases h1 : kd = 1
      · subst h1
        rw [occT, if_pos rfl]
        by_cases e : nt = v
        · subst e
          rw [hv]
          simp only
          rw [if_neg (by rw [hs]; decide), if_pos hs]
          simp
        · rw [ho nt e]
          simp only [Option.some.injEq, Prod.mk.injEq, and_true]
          exact (decide_eq_false (fun h => e (List.mem_singleton.1 h).symm)).symm
      · rw [occT, if_neg h1, if_neg h4]
        cases mget S nt with
        | none => simp
        | some y => simp only; rw [if_pos (.inl h1)]; simp

theorem solve_var {t : S24} (ht : okT t = true) (wt : wfT t) {n : Int} (h1 : 1 ≤ n) (hi : I64 n) : ∃ W k F res, SolveOK W 2002 k F t ⟨1, ⟨#[]⟩, n, []⟩ res := by
  have hsh := ((okT_iff t).1 ht).1
  have hnd := nodes_ok ht
  have hov : okT (mkV n) = true := by
    refine (okT_iff _).2 ⟨sh_mkV h1, ?_, ?_⟩
    · unfold mkV; rw [nodes, if_neg (by decide)]; decide
    · unfold mkV; rw [dpt, if_neg (by decide)]; decide
  show ∃ W k F res, SolveOK W 2002 k F t (mkV n) res
  by_cases hf : t.f0 = 1
  · obtain ⟨W, k, F, res, h, -⟩ := solve_unifier ht hov wt (wf_mkV hi) (fun v => if v = n then mkV t.f2 else mkV v) (by
      rw [sg_var' _ hf, sg_var, if_pos rfl]
      by_cases e : t.f2 = n
      · rw [if_pos e]
      · rw [if_neg e]) (by
      rw [sg_var' _ hf]
      have : ∀ m, nodes (mkV m) ≤ 2000 := fun m => by unfold mkV; rw [nodes, if_neg (by decide)]; decide
      by_cases e : t.f2 = n
      · rw [if_pos e]; exact this _
      · rw [if_neg e]; exact this _)
    exact ⟨W, k, F, res, h⟩
  by_cases ho : n ∈ occT t
  · have hg : mget (mput n t []) n = some t := mget_mput_same List.Pairwise.nil
    have hg' : ∀ u, u ≠ n → mget (mput n t []) u = none := fun u hu => mget_mput_other hu
    refine ⟨1, nodes t + 2, 0, ([], false, 0), ?_⟩
    unfold SolveOK
    rw [ht, hov, if_neg (by decide)]
    refine ⟨mput n t [], true, ?_, ?_⟩
    · rw [solveS]
      have e1 : walkS [] 1 t 0 = some (t, 0) := by rw [walkS, if_neg hf]
      have e2 : walkS [] 1 (mkV n) 0 = some (mkV n, n) := rfl
      rw [e1, e2]
      simp only
      rw [if_neg (by omega), if_neg (fun h => hf h.1), if_neg hf, if_pos (show (mkV n).f0 = 1 from rfl), solveS]
    · rw [if_neg (by decide)]
      refine ⟨true, ?_, ?_⟩
      · intro ord hno hmem
        have hS : mput n t [] = [(n, t)] := rfl
        have hord : ord = [n] := by
          have hm : ∀ v, v ∈ ord ↔ v = n := fun v => by rw [hmem v, hS]; simp
          cases ord with
          | nil => exact absurd ((hm n).2 rfl) (by simp)
          | cons a r =>
            obtain rfl : a = n := (hm a).1 (by simp)
            cases r with
            | nil => rfl
            | cons b r =>
              obtain rfl : b = a := (hm b).1 (by simp)
              simp at hno
        rw [hord]
        have hs : seenV (mput n 1 []) n = 1 := by rw [seen_put List.Pairwise.nil, if_pos rfl]
        have hl := loops_occ hg hg' (nodes t + 1) t (mput n 1 []) (by omega) hs
        rw [decide_eq_true ho] at hl
        refine ⟨mput n 1 [], ?_⟩
        rw [List.map_cons, anyP_cons]
        have : loopsP (mput n t []) (nodes t + 2) (varT n) [] = some (true, mput n 1 []) := by
          rw [loopsP]
          unfold varT
          simp only
          rw [if_neg (by decide), hg]
          simp only
          have h0 : seenV [] n = 0 := rfl
          rw [h0, if_neg (by decide), if_neg (by decide), if_neg (by simp), hl]
          simp
        rw [this]
        simp
      · rw [if_pos rfl]
  · have he : sg (fun v => if v = n then nrm t else mkV v) t = nrm t := by
      rw [sg_congr _ mkV t (fun v hv => if_neg (fun (e : v = n) => ho (by rw [← e]; exact hv))), sg_id]
    obtain ⟨W, k, F, res, h, -⟩ := solve_unifier ht hov wt (wf_mkV hi) (fun v => if v = n then nrm t else mkV v) (by
      rw [he, sg_var, if_pos rfl]) (by rw [he, (nrm_nodes t).1]; omega)
    exact ⟨W, k, F, res, h⟩
end Go.Proofs.Ytpnkaggkedepeaa
