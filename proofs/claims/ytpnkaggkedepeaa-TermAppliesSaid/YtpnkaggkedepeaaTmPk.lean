/- Terms that can be made the same: Solve comes to an end, and finds it. -/
import Derived.Test.YtpnkaggkedepeaaTmGp
namespace Go.Proofs.Ytpnkaggkedepeaa
set_option linter.unusedVariables false
open Go.RowKit Go.Maps Go.Proofs.YtpnkaggkedepeaaW.PrintWords Go.Proofs.YtpnkaggkedepeaaW.PrintLast Go.Proofs.YtpnkaggkedepeaaW.PrintMore Go.Proofs.Ytpnkaggkedepeaa.PTermTells Go.Extern

/-- A term with terms in its variables' places. -/
def sg (σ : Int → S24) (t : S24) : S24 := subT (fun v => some (σ v)) t
def sgL (σ : Int → S24) (xs : List S24) : List S24 := subL (fun v => some (σ v)) xs
theorem sg_eq (σ : Int → S24) (kd : Int) (nm : ByteArray) (nt : Int) (xs : List S24) : sg σ ⟨kd, nm, nt, xs⟩ = if kd = 1 then σ nt else if kd = 4 then ⟨4, nm, 0, sgL σ xs⟩ else bareT ⟨kd, nm, nt, xs⟩ := by
  unfold sg sgL; rw [subT]
mutual
theorem sub_congr (f g : Int → Option S24) : ∀ t : S24, (∀ v ∈ occT t, (f v).getD (mkV v) = (g v).getD (mkV v)) → subT f t = subT g t
  | ⟨kd, nm, nt, xs⟩, h => by
    rw [subT, subT]
    rw [occT] at h
    by_cases h1 : kd = 1
    · rw [if_pos h1, if_pos h1]
      rw [if_pos h1] at h
      have := h nt (by simp)
      cases hf : f nt <;> cases hg : g nt <;> simp only [hf, hg, Option.getD_none, Option.getD_some] at this ⊢ <;> first | exact this | rfl
    rw [if_neg h1, if_neg h1]
    rw [if_neg h1] at h
    by_cases h4 : kd = 4
    · rw [if_pos h4, if_pos h4]
      rw [if_pos h4] at h
      rw [subL_congr f g xs h]
    · rw [if_neg h4, if_neg h4]
theorem subL_congr (f g : Int → Option S24) : ∀ xs : List S24, (∀ v ∈ occL xs, (f v).getD (mkV v) = (g v).getD (mkV v)) → subL f xs = subL g xs
  | [], _ => by rw [subL_nil, subL_nil]
  | a :: r, h => by
    rw [occL_cons] at h
    rw [subL_cons, subL_cons, sub_congr f g a (fun v hv => h v (List.mem_append_left _ hv)), subL_congr f g r (fun v hv => h v (List.mem_append_right _ hv))]
end
/-- What is bound is so in a solution; all is right. -/
structure Fit (σ : Int → S24) (S : Sm) : Prop where
  sorted : msorted S
  fit : ∀ v t, mget S v = some t → sg σ t = σ v ∧ shT t = true ∧ wfT t ∧ 1 ≤ v ∧ I64 v

theorem sh_mkV {v : Int} (h : 1 ≤ v) : shT (mkV v) = true := by unfold mkV; rw [shT, if_pos rfl]; exact decide_eq_true h
/-- Every way through variables ends within so many steps. -/
def Ends (S : Sm) (n : Nat) : Prop := ∀ t l, (walkS S n t l).isSome = true
theorem walk_more {S : Sm} : ∀ (n : Nat) (t : S24) (l : Int) (r : S24 × Int), walkS S n t l = some r → walkS S (n + 1) t l = some r
  | 0, _, _, _, h => by cases h
  | n + 1, t, l, r, h => by
    rw [walkS] at h ⊢
    by_cases h1 : t.f0 = 1
    · rw [if_pos h1] at h ⊢
      cases hg : mget S t.f2 with
      | none => rw [hg] at h; exact h
      | some y => rw [hg] at h; exact walk_more n y _ r h
    · rw [if_neg h1] at h ⊢; exact h
theorem walk_le {S : Sm} {n m : Nat} (hle : n ≤ m) {t : S24} {l : Int} {r : S24 × Int} (h : walkS S n t l = some r) : walkS S m t l = some r := by
  induction hle with
  | refl => exact h
  | step _ ih => exact walk_more _ _ _ _ ih
theorem Ends.at {S : Sm} {n m : Nat} (h : Ends S n) (hle : n ≤ m) (t : S24) (l : Int) : ∃ x v, walkS S m t l = some (x, v) := by
  obtain ⟨r, hr⟩ := Option.isSome_iff_exists.1 (h t l)
  exact ⟨r.1, r.2, walk_le hle hr⟩
theorem walk_put {S : Sm} (hs : msorted S) {j : Int} {u : S24}
    (hj : (mget S j = none ∧ (u.f0 = 1 → mget S u.f2 = none ∧ u.f2 ≠ j)) ∨ (∃ y z, mget S j = some y ∧ u.f0 = 1 ∧ u.f2 ≠ j ∧ mget S u.f2 = some z ∧ z.f0 ≠ 1)) :
    ∀ (m : Nat) (t : S24) (l : Int), (walkS S m t l).isSome = true → (walkS (mput j u S) (m + 1) t l).isSome = true
  | 0, _, _, h => by cases h
  | m + 1, t, l, h => by
    rw [walkS] at h ⊢
    by_cases h1 : t.f0 = 1
    · rw [if_pos h1] at h ⊢
      by_cases e : t.f2 = j
      · rw [e, mget_mput_same hs]
        simp only
        rw [e] at h
        rcases hj with ⟨hn, hu⟩ | ⟨y, z, hy, hu, hne, hz, hz1⟩
        · rw [walkS]
          by_cases hv : u.f0 = 1
          · obtain ⟨g1, g2⟩ := hu hv
            rw [if_pos hv, mget_mput_other g2, g1]; rfl
          · rw [if_neg hv]; rfl
        · rw [hy] at h
          simp only at h
          cases m with
          | zero => cases h
          | succ m =>
            rw [walkS, if_pos hu, mget_mput_other hne, hz]
            simp only
            rw [walkS, if_neg hz1]; rfl
      · rw [mget_mput_other e]
        cases hg : mget S t.f2 with
        | none => rfl
        | some y => rw [hg] at h; exact walk_put hs hj m y _ h
    · rw [if_neg h1]; rfl
theorem Ends.put {S : Sm} {n : Nat} (h : Ends S n) (hs : msorted S) {j : Int} {u : S24}
    (hj : (mget S j = none ∧ (u.f0 = 1 → mget S u.f2 = none ∧ u.f2 ≠ j)) ∨ (∃ y z, mget S j = some y ∧ u.f0 = 1 ∧ u.f2 ≠ j ∧ mget S u.f2 = some z ∧ z.f0 ≠ 1)) : Ends (mput j u S) (n + 1) :=
  fun t l => walk_put hs hj n t l (h t l)
theorem Fit.put {σ : Int → S24} {S : Sm} (h : Fit σ S) {j : Int} {u : S24} (h1 : sg σ u = σ j) (h2 : shT u = true) (h3 : wfT u) (h4 : 1 ≤ j) (h5 : I64 j) : Fit σ (mput j u S) := by
  refine ⟨msorted_mput h.sorted, fun v t hv => ?_⟩
  by_cases e : v = j
  · subst e
    rw [mget_mput_same h.sorted] at hv
    cases hv
    exact ⟨h1, h2, h3, h4, h5⟩
  · rw [mget_mput_other e] at hv
    exact h.fit v t hv

theorem sh_kind {t : S24} (h : shT t = true) : t.f0 = 1 ∨ t.f0 = 2 ∨ t.f0 = 3 ∨ t.f0 = 4 := by
  obtain ⟨kd, nm, nt, xs⟩ := t
  rw [shT] at h
  by_cases h1 : kd = 1
  · exact .inl h1
  rw [if_neg h1] at h
  by_cases h2 : kd = 2
  · exact .inr (.inl h2)
  rw [if_neg h2] at h
  by_cases h4 : kd = 4
  · exact .inr (.inr (.inr h4))
  rw [if_neg h4] at h
  by_cases h3 : kd = 3
  · exact .inr (.inr (.inl h3))
  rw [if_neg h3] at h
  cases h
end Go.Proofs.Ytpnkaggkedepeaa
