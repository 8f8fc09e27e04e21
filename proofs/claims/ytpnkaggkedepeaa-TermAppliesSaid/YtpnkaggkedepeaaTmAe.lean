/- What TermApplies says, in plain words. -/
import Derived.Test.YtpnkaggkedepeaaTmAd
import Derived.Test.YtpnkaggkedepeaaTmAb
namespace Go.Proofs.Ytpnkaggkedepeaa
set_option linter.unusedVariables false
open Go.RowKit Go.Maps Go.Proofs.YtpnkaggkedepeaaW.PrintWords Go.Proofs.YtpnkaggkedepeaaW.PrintLast Go.Proofs.YtpnkaggkedepeaaW.PrintMore Go.Proofs.Ytpnkaggkedepeaa.PTermTells Go.Extern

theorem items_nrm : ∀ t : S24, itemsL (nrm t) = ((itemsL t).1.map nrm, nrm (itemsL t).2)
  | ⟨kd, nm, nt, xs⟩ => by
    by_cases h : kd = 4 ∧ nm.toList = [46] ∧ xs.length = 2
    · obtain ⟨rfl, h2, h3⟩ := h
      match xs, h3 with
      | [a, b], _ =>
        have e : nrm ⟨4, nm, nt, [a, b]⟩ = ⟨4, nm, 0, [nrm a, nrm b]⟩ := by
          unfold nrm
          rw [subT, if_neg (by decide), if_pos rfl, subL_cons, subL_cons, subL_nil]
        rw [e, itemsL_cons h2, itemsL_cons h2, items_nrm b]
        rfl
    · rw [itemsL_end (t := ⟨kd, nm, nt, xs⟩) h, itemsL_end (t := nrm ⟨kd, nm, nt, xs⟩)]
      · rfl
      · intro hh
        apply h
        unfold nrm at hh
        rw [subT] at hh
        by_cases h1 : kd = 1
        · rw [if_pos h1] at hh
          have h14 : (1 : Int) = 4 := hh.1
          exact absurd h14 (by decide)
        rw [if_neg h1] at hh
        by_cases h4 : kd = 4
        · rw [if_pos h4] at hh
          simp only at hh
          refine ⟨h4, hh.2.1, ?_⟩
          have := hh.2.2
          rw [subL_map, List.length_map] at this
          exact this
        · rw [if_neg h4] at hh
          have := bareT_kd ⟨kd, nm, nt, xs⟩
          rw [this] at hh
          exact absurd hh.1 h4
theorem apply_like (t : S24) (bs : List S50) : ((applyT t bs).1.f0 = 0 ∧ (applyT t bs).1.f0 = 0) ∨ ((applyT t bs).1.f0 ≠ 0 ∧ (applyT t bs).1.f0 ≠ 0 ∧ shT (applyT t bs).1 = true ∧ shT (applyT t bs).1 = true ∧ ordT (applyT t bs).1 (applyT t bs).1 = 0) := by
  by_cases h : (applyT t bs).2 = 0
  · have he : applyT t bs = ((applyT t bs).1, 0) := by rw [← h]
    have hk := (okT_iff _).1 (apply_ok he).2.1
    have h0 : (applyT t bs).1.f0 ≠ 0 := by rcases sh_kind hk.1 with e | e | e | e <;> omega
    exact .inr ⟨h0, h0, hk.1, hk.1, ordT_refl _⟩
  · refine .inl ?_
    have hz : (applyT t bs).1 = z24 := by
      unfold applyT at h ⊢
      split
      · rfl
      · cases hl : apL (varsT t []) bs [] with
        | none => rfl
        | some L =>
          rename_i hok
          rw [if_neg hok, hl] at h
          simp only at h ⊢
          split
          · rename_i hp; rw [if_pos hp] at h; exact absurd rfl h
          · rfl
    rw [hz]
    exact ⟨rfl, rfl⟩
theorem items_alike {u : S24} (h : okT u = true) : (itemsT (nrm u)).1.length = (itemsL u).1.length ∧
    (∀ (i : Nat) (h1 : i < (itemsT (nrm u)).1.length) (h2 : i < (itemsL u).1.length), shT (itemsT (nrm u)).1[i] = true ∧ shT (itemsL u).1[i] = true ∧ ordT (itemsT (nrm u)).1[i] (itemsL u).1[i] = 0 ∧ 3 * nodes (itemsT (nrm u)).1[i] ≤ 6000) ∧
    shT (itemsT (nrm u)).2 = true ∧ shT (itemsL u).2 = true ∧ ordT (itemsT (nrm u)).2 (itemsL u).2 = 0 := by
  have e : itemsT (nrm u) = ((itemsL u).1.map nrm, nrm (itemsL u).2) := by rw [itemsT_ok (nrm_ok h), nrm_nrm, items_nrm]
  have ho := items_ok u h
  rw [e]
  refine ⟨List.length_map .., fun i h1 h2 => ?_, ?_, ?_, ?_⟩
  · have hy := ho.1 _ (List.getElem_mem h2)
    simp only [List.getElem_map]
    have hn := nodes_ok (nrm_ok hy)
    exact ⟨((okT_iff _).1 (nrm_ok hy)).1, ((okT_iff _).1 hy).1, nrm_same hy, by omega⟩
  · exact ((okT_iff _).1 (nrm_ok ho.2)).1
  · exact ((okT_iff _).1 ho.2).1
  · exact nrm_same ho.2
theorem listA_no {ts : List S24} {u : S24} (h : 100 < ts.length ∨ okT (listT ts u) = false) : listA ts u = (z24, 70) := by
  unfold listA
  by_cases h1 : 100 < ts.length
  · rw [if_pos h1]
  · rw [if_neg h1, if_pos (h.resolve_left h1)]
theorem listA_yes {ts : List S24} {u : S24} (h1 : ¬ 100 < ts.length) (h2 : okT (listT ts u) = true) : listA ts u = (nrm (listT ts u), 0) := by
  unfold listA
  rw [if_neg h1, h2, if_neg (by decide), (cp_ok h2).1]
theorem tame_one {x : S24} (h : tameT [x] = true) : nodes x ≤ 100 := by
  unfold tameT at h
  simpa using h
end Go.Proofs.Ytpnkaggkedepeaa
