/- Apply and the document's Apply answer the same. -/
import Derived.Test.YtpnkaggkedepeaaTmQf
namespace Go.Proofs.Ytpnkaggkedepeaa
set_option linter.unusedVariables false
open Go.RowKit Go.Maps Go.Proofs.YtpnkaggkedepeaaW.PrintWords Go.Proofs.YtpnkaggkedepeaaW.PrintLast Go.Proofs.YtpnkaggkedepeaaW.PrintMore Go.Proofs.Ytpnkaggkedepeaa.PTermTells Go.Extern

theorem apL_some (mine : List Int) : ∀ (bs : List S50) (L : List (Int × S24)), msorted L → (∀ v ∈ mine, mget L v = none → ∀ y, firstB bs v = some y → okT y = true) → ∃ L', apL mine bs L = some L'
  | [], L, _, _ => ⟨L, rfl⟩
  | b :: r, L, hs, h => by
    rw [apL]
    by_cases c1 : (mget L b.f0).isSome = true ∨ b.f0 ∉ mine
    · rw [if_pos c1]
      refine apL_some mine r L hs fun v hv hn y hy => h v hv hn y ?_
      rw [firstB_cons, if_neg ?_]
      · exact hy
      · rintro rfl
        rcases c1 with c1 | c1
        · rw [hn] at c1; cases c1
        · exact c1 hv
    · rw [if_neg c1]
      have c4 : b.f0 ∈ mine := Decidable.not_not.1 (fun hh => c1 (.inr hh))
      have c3 : mget L b.f0 = none := by
        cases hg : mget L b.f0 with
        | none => rfl
        | some y => exact absurd (.inl (by rw [hg]; rfl)) c1
      have hb := h b.f0 c4 c3 b.f1 (by rw [firstB_cons, if_pos rfl])
      rw [hb, if_neg (by decide)]
      refine apL_some mine r _ (msorted_mput hs) fun v hv hn y hy => ?_
      by_cases e : v = b.f0
      · subst e
        rw [mget_mput_same hs] at hn
        cases hn
      · rw [mget_mput_other e] at hn
        exact h v hv hn y (by rw [firstB_cons, if_neg (fun h => e h.symm)]; exact hy)
theorem apL_bad (mine : List Int) : ∀ (bs : List S50) (L : List (Int × S24)), msorted L → (∃ v ∈ mine, mget L v = none ∧ ∃ y, firstB bs v = some y ∧ okT y = false) → apL mine bs L = none
  | [], L, _, h => by
    obtain ⟨v, hv, hn, y, hy, ho⟩ := h
    cases hy
  | b :: r, L, hs, h => by
    obtain ⟨v, hv, hn, y, hy, ho⟩ := h
    rw [apL]
    rw [firstB_cons] at hy
    by_cases e : b.f0 = v
    · rw [if_pos e] at hy
      cases hy
      rw [if_neg (by rw [e, hn]; simp [hv]), if_pos ho]
    · rw [if_neg e] at hy
      by_cases c1 : (mget L b.f0).isSome = true ∨ b.f0 ∉ mine
      · rw [if_pos c1]
        exact apL_bad mine r L hs ⟨v, hv, hn, y, hy, ho⟩
      · rw [if_neg c1]
        by_cases c2 : okT b.f1 = false
        · rw [if_pos c2]
        · rw [if_neg c2]
          exact apL_bad mine r _ (msorted_mput hs) ⟨v, hv, by rw [mget_mput_other (fun h => e h.symm)]; exact hn, y, hy, ho⟩

/-- A bound term that is put in and isn't right. -/
def badV (bs : List S50) (v : Int) : Bool := match firstB bs v with | some y => !okT y | none => false
theorem badV_no {bs : List S50} {vs : List Int} (h : vs.any (badV bs) = false) : ∀ v ∈ vs, ∀ y, firstB bs v = some y → okT y = true := fun v hv y hy => by
  have := List.any_eq_false.1 h v hv
  unfold badV at this
  rw [hy] at this
  simpa using this
theorem badV_yes {bs : List S50} {vs : List Int} (h : vs.any (badV bs) = true) : ∃ v ∈ vs, ∃ y, firstB bs v = some y ∧ okT y = false := by
  obtain ⟨v, hv, e⟩ := List.any_eq_true.1 h
  unfold badV at e
  cases hf : firstB bs v with
  | none => rw [hf] at e; cases e
  | some y => rw [hf] at e; exact ⟨v, hv, y, hf, by simpa using e⟩

theorem apply_bad {t : S24} {bs : List S50} (ht : okT t = true) (h : (varsT t []).any (badV bs) = true) : applyT t bs = (z24, 70) := by
  obtain ⟨v, hv, y, hy, ho⟩ := badV_yes h
  unfold applyT
  rw [ht, if_neg (by decide), apL_bad _ bs [] List.Pairwise.nil ⟨v, hv, rfl, y, hy, ho⟩]
theorem apply_good {t : S24} {bs : List S50} (ht : okT t = true) (h : (varsT t []).any (badV bs) = false) :
    applyT t bs = if nodes (sg (bS bs) t) ≤ 2000 ∧ dpt (sg (bS bs) t) ≤ 100 then (sg (bS bs) t, 0) else (z24, 2) := by
  have hb := badV_no h
  obtain ⟨L, hL⟩ := apL_some (varsT t []) bs [] List.Pairwise.nil (fun v hv _ y hy => hb v hv y hy)
  obtain ⟨h1, h2⟩ := apL_first _ bs [] L List.Pairwise.nil (fun p hp => by cases hp) hL
  unfold applyT
  rw [ht, if_neg (by decide), hL]
  simp only
  have hs := putT_spec (mget L) t 1 0
  have he : subT (fun v => (mget L v).map nrm) t = sg (bS bs) t := by
    refine sub_congr _ _ t (fun v hv => ?_)
    rw [h2]
    simp only [mget, Option.isSome_none, Bool.false_eq_true, if_false, Option.getD_some]
    rw [if_pos ((mem_varsT t v).2 hv)]
    rfl
  rw [he] at hs
  by_cases hk : (putT (mget L) t 1 0).2.1 = true
  · have h3 := hs.ok.1 hk
    rw [if_pos hk, if_pos ⟨by omega, by omega⟩, (hs.val hk).1]
  · rw [if_neg hk, if_neg (fun hh => hk (hs.ok.2 ⟨by omega, by omega⟩))]

/-- How many symbols a bound variable takes. -/
def gV (bs : List S50) (v : Int) : Int := match firstB bs v with | some y => min (nodes y : Int) 2001 | none => 1
mutual
/-- How great the document says a term becomes. -/
def gr (bs : List S50) : S24 → Int
  | ⟨kd, nm, nt, xs⟩ => if kd = 1 then gV bs nt else if kd = 4 then 1 + grL bs xs else 1
def grL (bs : List S50) : List S24 → Int
  | [] => 0
  | a :: r => gr bs a + grL bs r
end
theorem grL_nil (bs : List S50) : grL bs [] = 0 := by rw [grL]
theorem grL_cons (bs : List S50) (a : S24) (r : List S24) : grL bs (a :: r) = gr bs a + grL bs r := by rw [grL]
theorem gV_bounds (bs : List S50) (v : Int) : 0 ≤ gV bs v ∧ gV bs v ≤ 2001 := by
  unfold gV
  split
  · omega
  · omega
mutual
theorem gr_bounds (bs : List S50) : ∀ t : S24, 0 ≤ gr bs t ∧ gr bs t ≤ 2001 * (nodes t : Int)
  | ⟨kd, nm, nt, xs⟩ => by
    have hp := nodes_pos ⟨kd, nm, nt, xs⟩
    rw [gr]
    by_cases h1 : kd = 1
    · rw [if_pos h1]
      have := gV_bounds bs nt
      omega
    rw [if_neg h1]
    by_cases h4 : kd = 4
    · rw [if_pos h4, nodes, if_pos h4]
      have := grL_bounds bs xs
      omega
    · rw [if_neg h4]; omega
theorem grL_bounds (bs : List S50) : ∀ xs : List S24, 0 ≤ grL bs xs ∧ grL bs xs ≤ 2001 * (nodesL xs : Int)
  | [] => by rw [grL_nil, nodesL_nil]; omega
  | a :: r => by
    have h1 := gr_bounds bs a
    have h2 := grL_bounds bs r
    rw [grL_cons, nodesL_cons]
    omega
end
mutual
theorem gr_eq (bs : List S50) : ∀ t : S24, shT t = true → (∀ v ∈ occT t, ∀ y, firstB bs v = some y → okT y = true) → gr bs t = (nodes (sg (bS bs) t) : Int)
  | ⟨kd, nm, nt, xs⟩, hs, hb => by
    rw [gr, sg_eq]
    by_cases h1 : kd = 1
    · subst h1
      rw [if_pos rfl, if_pos rfl]
      unfold gV bS
      cases hf : firstB bs nt with
      | none =>
        simp only [Option.map_none, Option.getD_none]
        unfold mkV
        rw [nodes, if_neg (by decide)]; rfl
      | some y =>
        simp only [Option.map_some, Option.getD_some]
        have hy := nodes_ok (hb nt (by rw [occT, if_pos rfl]; simp) y hf)
        rw [(nrm_nodes y).1]
        omega
    rw [if_neg h1, if_neg h1]
    by_cases h4 : kd = 4
    · subst h4
      rw [if_pos rfl, if_pos rfl, nodes, if_pos rfl]
      rw [shT, if_neg (by decide), if_neg (by decide), if_pos rfl] at hs
      simp only [Bool.and_eq_true] at hs
      rw [grL_eq bs xs hs.1.2 (fun v hv => hb v (by rw [occT, if_neg (by decide), if_pos rfl]; exact hv))]
      omega
    · rw [if_neg h4, if_neg h4, bare_kind]
      have : ∀ x : S24, x.f0 ≠ 4 → (1 : Int) = (nodes x : Int) := fun x hx => by rw [nodes_no hx]; rfl
      split
      · exact this _ h4
      · exact this _ h4
theorem grL_eq (bs : List S50) : ∀ xs : List S24, shL xs = true → (∀ v ∈ occL xs, ∀ y, firstB bs v = some y → okT y = true) → grL bs xs = (nodesL (sgL (bS bs) xs) : Int)
  | [], _, _ => by rw [grL_nil]; unfold sgL; rw [subL_nil, nodesL_nil]; rfl
  | a :: r, hs, hb => by
    rw [shL_cons, Bool.and_eq_true] at hs
    have h1 := gr_eq bs a hs.1 (fun v hv => hb v (by rw [occL_cons]; exact List.mem_append_left _ hv))
    have h2 := grL_eq bs r hs.2 (fun v hv => hb v (by rw [occL_cons]; exact List.mem_append_right _ hv))
    rw [grL_cons, h1, h2]
    unfold sgL sg
    rw [subL_cons, nodesL_cons]
    omega
end
mutual
theorem apR_val (bs : List S50) : ∀ t : S24, shT t = true → (∀ v ∈ occT t, ∀ y, firstB bs v = some y → okT y = true) → apR bs t = sg (bS bs) t
  | ⟨kd, nm, nt, xs⟩, h, hb => by
    rw [apR, sg_eq]
    by_cases h1 : kd = 1
    · rw [if_pos h1, if_pos h1]
      unfold bS apV
      simp only
      cases hf : firstB bs nt with
      | none =>
        simp only [Option.map_none, Option.getD_none]
        rw [bareR_eq h (by simp only; omega), bare_kind, if_pos (.inl h1), h1]; rfl
      | some y =>
        simp only [Option.map_some, Option.getD_some]
        exact cpR_nrm _ ((okT_iff y).1 (hb nt (by rw [occT, if_pos h1]; simp) y hf)).1
    rw [if_neg h1, if_neg h1]
    by_cases h4 : kd = 4
    · subst h4
      rw [if_pos rfl, if_pos rfl]
      rw [shT, if_neg (by decide), if_neg (by decide), if_pos rfl] at h
      simp only [Bool.and_eq_true] at h
      rw [apRL_val bs xs h.1.2 (fun v hv => hb v (by rw [occT, if_neg (by decide), if_pos rfl]; exact hv))]
    · rw [if_neg h4, if_neg h4]
      exact bareR_eq h h4
theorem apRL_val (bs : List S50) : ∀ xs : List S24, shL xs = true → (∀ v ∈ occL xs, ∀ y, firstB bs v = some y → okT y = true) → apRL bs xs = sgL (bS bs) xs
  | [], _, _ => by rw [apRL]; unfold sgL; rw [subL_nil]
  | a :: r, h, hb => by
    rw [shL_cons, Bool.and_eq_true] at h
    have h1 := apR_val bs a h.1 (fun v hv => hb v (by rw [occL_cons]; exact List.mem_append_left _ hv))
    have h2 := apRL_val bs r h.2 (fun v hv => hb v (by rw [occL_cons]; exact List.mem_append_right _ hv))
    unfold sgL at h2 ⊢
    unfold sg at h1
    rw [apRL, subL_cons, h1, h2]
end

/-- What the document's Apply answers. -/
def rapT (t : S24) (bs : List S50) : S24 × Int :=
  if okT t = false then (z24, 70) else if (varsT t []).any (badV bs) = true then (z24, 70)
  else if gr bs t > 2000 then (z24, 2) else if dpt (apR bs t) > 100 then (z24, 2) else (apR bs t, 0)
theorem apply_same (t : S24) (bs : List S50) : applyT t bs = rapT t bs := by
  unfold rapT
  by_cases ht : okT t = false
  · rw [if_pos ht]; unfold applyT; rw [if_pos ht]
  rw [if_neg ht]
  have ht : okT t = true := by simpa using ht
  have hsh := ((okT_iff t).1 ht).1
  by_cases hb : (varsT t []).any (badV bs) = true
  · rw [if_pos hb, apply_bad ht hb]
  rw [if_neg hb]
  have hb : (varsT t []).any (badV bs) = false := by simpa using hb
  have hv : ∀ v ∈ occT t, ∀ y, firstB bs v = some y → okT y = true := fun v hv => badV_no hb v ((mem_varsT t v).2 hv)
  rw [apply_good ht hb, gr_eq bs t hsh hv, apR_val bs t hsh hv]
  by_cases h1 : (nodes (sg (bS bs) t) : Int) > 2000
  · rw [if_pos h1, if_neg (by omega)]
  rw [if_neg h1]
  by_cases h2 : dpt (sg (bS bs) t) > 100
  · rw [if_pos h2, if_neg (by omega)]
  · rw [if_neg h2, if_pos ⟨by omega, by omega⟩]
end Go.Proofs.Ytpnkaggkedepeaa
