/- What Put lays, in plain words. -/
import Derived.Test.YtjhhacighfpdbaaHpL
namespace Go.Proofs.Ytjhhacighfpdbaa
set_option linter.unusedVariables false
open Go.RowKit Go.Maps Go.Proofs.YtjhhacighfpdbaaW.PrintWords Go.Proofs.YtjhhacighfpdbaaW.PrintLast Go.Proofs.YtjhhacighfpdbaaW.PrintMore Go.Proofs.Ytjhhacighfpdbaa.PHeapShares Go.Extern

/-- A term was put in: cells C2 and what its variables stand for, E2; σ: the terms of its variables. -/
structure Laid (t : S28) (C : List Cl) (E : List Int) (C2 : List Cl) (E2 : List Int) (σ : Int → S28) : Prop where
  hi : HI C2
  old : ∀ (i : Nat) (c : Cl), C[i]? = some c → C2[i]? = some c
  len : C2.length = C.length + nodes t
  rep : Rep C2 C.length (sg σ t)
  elen : E2.length = E.length
  kept : ∀ j, 0 ≤ E.getD j (-1) → E2.getD j (-1) = E.getD j (-1)
  new : ∀ j, E2.getD j (-1) = E.getD j (-1) ∨ (E.getD j (-1) < 0 ∧ ∃ k : Nat, E2.getD j (-1) = k ∧ C.length ≤ k ∧ k < C2.length ∧ C2[k]? = some zCl)
  vars : ∀ v ∈ occT t, ∃ k : Nat, envAt E2 v = k ∧ Rep C2 k (σ v)
  inj : ∀ i j, E.getD i (-1) < 0 → E.getD j (-1) < 0 → 0 ≤ E2.getD i (-1) → E2.getD i (-1) = E2.getD j (-1) → i = j

open Classical in
theorem put_laid (t : S28) (C : List Cl) (E : List Int) (hC : HI C) (hs : shT t = true) (hw : wfT t) (hv : ∀ v ∈ occT t, 1 ≤ v ∧ v ≤ E.length) (hE : ∀ v ∈ occT t, envAt E v < C.length) :
    ∃ σ, Laid t C E (layT t C.length (C ++ [zCl]) E).1 (layT t C.length (C ++ [zCl]) E).2 σ := by
  have hx : C.length < (C ++ [zCl]).length := by simp
  have hz : (C ++ [zCl])[C.length]? = some zCl := by simp
  have h0 := layT_spec mkV t C.length (C ++ [zCl]) E hs hw hx hz hv
  generalize hr : layT t C.length (C ++ [zCl]) E = r at h0
  obtain ⟨C2, E2⟩ := r
  obtain ⟨hL, hlen, _⟩ := h0
  simp only at hL hlen
  simp only [List.length_append, List.length_singleton] at hlen
  have hl2 := hL.len
  simp only [List.length_append, List.length_singleton] at hl2
  have hold : ∀ (i : Nat) (c : Cl), C[i]? = some c → C2[i]? = some c := fun i c h => by
    have hi := (List.getElem?_eq_some_iff.1 h).1
    rw [hL.old i (by simp; omega) (.inl hi), List.getElem?_append_left hi, h]
  have hnew : ∀ j, E2.getD j (-1) = E.getD j (-1) ∨ (E.getD j (-1) < 0 ∧ ∃ k : Nat, E2.getD j (-1) = k ∧ C.length ≤ k ∧ k < C2.length ∧ C2[k]? = some zCl) := fun j => by
    rcases hL.new j with h | ⟨h, k, e, hk, hz'⟩
    · exact .inl h
    · refine .inr ⟨h, k, e, ?_, (List.getElem?_eq_some_iff.1 hz').1, hz'⟩
      simp at hk
      omega
  have hex : ∀ v ∈ occT t, ∃ s, ∃ k : Nat, envAt E2 v = k ∧ Rep C2 k s := fun v hv' => by
    have h1 := hL.all v hv'
    have h2 := hE v hv'
    unfold envAt at h1 h2 ⊢
    rcases hnew (v - 1).toNat with h | ⟨h, k, e, _, _, hz'⟩
    · obtain ⟨s, hs'⟩ := hC (E.getD (v - 1).toNat (-1)).toNat (by omega)
      exact ⟨s, (E.getD (v - 1).toNat (-1)).toNat, by omega, hs'.ext hold⟩
    · exact ⟨_, k, e, .free k zCl hz' rfl⟩
  let σ : Int → S28 := fun v => if h : ∃ s, ∃ k : Nat, envAt E2 v = k ∧ Rep C2 k s then h.choose else mkV v
  have hσ : ∀ v ∈ occT t, ∃ k : Nat, envAt E2 v = k ∧ Rep C2 k (σ v) := fun v hv' => by
    have h := hex v hv'
    show ∃ k : Nat, envAt E2 v = k ∧ Rep C2 k (if h : ∃ s, ∃ k : Nat, envAt E2 v = k ∧ Rep C2 k s then h.choose else mkV v)
    rw [dif_pos h]
    exact h.choose_spec
  obtain ⟨_, _, hR⟩ := layT_spec σ t C.length (C ++ [zCl]) E hs hw hx hz hv
  rw [hr] at hR
  obtain ⟨hR1, hR2⟩ := hR C2 E2 (fun i _ => rfl) (fun j _ => rfl) (fun v h => hσ v (by rw [occL_cons, occL_nil, List.append_nil] at h; exact h))
  have hrep : Rep C2 C.length (sg σ t) := by simpa using hR1 0 (by simp)
  refine ⟨σ, fun i hi => ?_, hold, by show C2.length = _; omega, hrep, hL.elen, hL.kept, hnew, hσ, hL.inj⟩
  by_cases h1 : i < C.length
  · obtain ⟨s, hs'⟩ := hC i h1
    exact ⟨s, hs'.ext hold⟩
  · by_cases h2 : i = C.length
    · subst h2
      exact ⟨_, hrep⟩
    · exact hR2 i (by simp; omega) hi

end Go.Proofs.Ytjhhacighfpdbaa
