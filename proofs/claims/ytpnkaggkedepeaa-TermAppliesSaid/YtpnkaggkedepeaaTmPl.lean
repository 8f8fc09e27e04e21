/- Terms that can be made the same: nothing stands within itself, and what is bound, put in. The plain law of TermLeast. -/
import Derived.Test.YtpnkaggkedepeaaTmPk
namespace Go.Proofs.Ytpnkaggkedepeaa
set_option linter.unusedVariables false
open Go.RowKit Go.Maps Go.Proofs.YtpnkaggkedepeaaW.PrintWords Go.Proofs.YtpnkaggkedepeaaW.PrintLast Go.Proofs.YtpnkaggkedepeaaW.PrintMore Go.Proofs.Ytpnkaggkedepeaa.PTermTells Go.Extern

/-- What has been seen so far, of what is bound. -/
structure SeenOK (S : Sm) (s : Seen) : Prop where
  sorted : msorted s
  keys : ∀ p ∈ s, (mget S p.1).isSome = true
theorem SeenOK.len {S : Sm} {s : Seen} (h : SeenOK S s) : s.length ≤ S.length := by
  have := nodup_len (s.map (·.1)) (S.map (·.1)) (msorted_nodup h.sorted) (fun x hx => by
    obtain ⟨p, hp, rfl⟩ := List.mem_map.1 hx
    obtain ⟨t, ht⟩ := Option.isSome_iff_exists.1 (h.keys p hp)
    exact List.mem_map.2 ⟨_, mget_mem ht, rfl⟩)
  simpa using this
theorem SeenOK.put {S : Sm} {s : Seen} (h : SeenOK S s) {v : Int} (k : Int) (hv : (mget S v).isSome = true) : SeenOK S (mput v k s) :=
  ⟨msorted_mput h.sorted, fun p hp => by
    rcases mem_mput.1 hp with rfl | ⟨hp, _⟩
    · exact hv
    · exact h.keys p hp⟩
section
variable {σ : Int → S24} {S : Sm} {n : Nat}
end

/-- The first one of bindings that binds a variable. -/
def firstB (bs : List S50) (v : Int) : Option S24 := (bs.find? fun b => decide (b.f0 = v)).map (·.f1)
/-- What bindings put in a variable's places. -/
def bS (bs : List S50) (v : Int) : S24 := ((firstB bs v).map nrm).getD (mkV v)
theorem firstB_cons (b : S50) (bs : List S50) (v : Int) : firstB (b :: bs) v = if b.f0 = v then some b.f1 else firstB bs v := by
  unfold firstB
  rw [List.find?_cons]
  by_cases h : b.f0 = v
  · rw [if_pos h, decide_eq_true h]; rfl
  · rw [if_neg h, decide_eq_false h]
theorem apL_first (mine : List Int) : ∀ (bs : List S50) (L L' : List (Int × S24)), msorted L → (∀ p ∈ L, okT p.2 = true) → apL mine bs L = some L' → (∀ p ∈ L', okT p.2 = true) ∧ ∀ v, mget L' v = if (mget L v).isSome = true then mget L v else if v ∈ mine then firstB bs v else none
  | [], L, L', _, ho, h => by
    rw [apL] at h; cases h
    refine ⟨ho, fun v => ?_⟩
    cases mget L v <;> simp [firstB]
  | b :: r, L, L', hs, ho, h => by
    rw [apL] at h
    by_cases c1 : (mget L b.f0).isSome = true ∨ b.f0 ∉ mine
    · rw [if_pos c1] at h
      obtain ⟨h1, h2⟩ := apL_first mine r L L' hs ho h
      refine ⟨h1, fun v => ?_⟩
      rw [h2, firstB_cons]
      by_cases c2 : (mget L v).isSome = true
      · rw [if_pos c2, if_pos c2]
      · rw [if_neg c2, if_neg c2]
        by_cases c3 : v ∈ mine
        · rw [if_pos c3, if_pos c3]
          by_cases e : b.f0 = v
          · subst e
            exact absurd c3 (c1.resolve_left c2)
          · rw [if_neg e]
        · rw [if_neg c3, if_neg c3]
    · rw [if_neg c1] at h
      by_cases c2 : okT b.f1 = false
      · rw [if_pos c2] at h; cases h
      rw [if_neg c2] at h
      have c3 : mget L b.f0 = none := by
        cases hg : mget L b.f0 with
        | none => rfl
        | some y => exact absurd (.inl (by rw [hg]; rfl)) c1
      have c4 : b.f0 ∈ mine := Decidable.not_not.1 (fun hh => c1 (.inr hh))
      obtain ⟨h1, h2⟩ := apL_first mine r _ L' (msorted_mput hs) (fun p hp => by
        rcases mem_mput.1 hp with rfl | ⟨hp, _⟩
        · simpa using c2
        · exact ho p hp) h
      refine ⟨h1, fun v => ?_⟩
      rw [h2, firstB_cons]
      by_cases e : v = b.f0
      · subst e
        rw [mget_mput_same hs, c3]
        simp [c4]
      · have e' : ¬b.f0 = v := fun h => e h.symm
        rw [mget_mput_other e]
        simp only [if_neg e']
theorem apply_ok {t : S24} {bs : List S50} {x : S24} (h : applyT t bs = (x, 0)) : okT t = true ∧ okT x = true ∧ x = sg (bS bs) t := by
  unfold applyT at h
  cases ht : okT t with
  | false => rw [ht, if_pos rfl] at h; exact absurd (Prod.mk.inj h).2 (by decide)
  | true =>
    rw [ht, if_neg (by decide)] at h
    cases hL : apL (varsT t []) bs [] with
    | none => rw [hL] at h; exact absurd (Prod.mk.inj h).2 (by decide)
    | some L =>
      rw [hL] at h
      simp only at h
      by_cases hk : (putT (mget L) t 1 0).2.1 = true
      · rw [if_pos hk] at h
        have hx := (Prod.mk.inj h).1
        obtain ⟨h1, h2⟩ := apL_first _ bs [] L List.Pairwise.nil (fun p hp => by cases hp) hL
        have hs := putT_spec (mget L) t 1 0
        have h3 := hs.ok.1 hk
        rw [← hx, (hs.val hk).1]
        refine ⟨rfl, (okT_iff _).2 ⟨sh_sub _ (fun v y e => ?_) t ((okT_iff t).1 ht).1, by omega, by omega⟩, ?_⟩
        · cases hg : mget L v with
          | none => rw [hg] at e; cases e
          | some z =>
            rw [hg] at e; cases e
            exact ((okT_iff _).1 (nrm_ok (h1 (v, z) (mget_mem hg)))).1
        · refine sub_congr _ _ t (fun v hv => ?_)
          rw [h2]
          simp only [mget, Option.isSome_none, Bool.false_eq_true, if_false, Option.getD_some]
          rw [if_pos ((mem_varsT t v).2 hv)]
          rfl
      · rw [if_neg hk] at h; exact absurd (Prod.mk.inj h).2 (by decide)
end Go.Proofs.Ytpnkaggkedepeaa
