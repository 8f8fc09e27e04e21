/- What lay lays, in plain words. -/
import Derived.Test.YtjhhacighfpdbaaHpU
namespace Go.Proofs.Ytjhhacighfpdbaa
set_option linter.unusedVariables false
open Go.RowKit Go.Maps Go.Proofs.YtjhhacighfpdbaaW.PrintWords Go.Proofs.YtjhhacighfpdbaaW.PrintLast Go.Proofs.YtjhhacighfpdbaaW.PrintMore Go.Proofs.Ytjhhacighfpdbaa.PHeapShares Go.Extern

def zCl : Cl := ⟨0, ⟨#[]⟩, 0, 0, 0⟩
/-- What variable v stands for. -/
def envAt (E : List Int) (v : Int) : Int := E.getD (v - 1).toNat (-1)

mutual
/-- Cells and what variables stand for, behind a term that was laid at x. -/
def layT : S28 → Nat → List Cl → List Int → List Cl × List Int
  | ⟨kd, nm, nt, xs⟩, x, C, E =>
    if kd = 1 then (if envAt E nt < 0 then (C, E.set (nt - 1).toNat x) else (C.set x (refC (envAt E nt)), E))
    else if kd = 2 then (C.set x ⟨2, ⟨#[]⟩, nt, 0, 0⟩, E)
    else if kd = 3 then (C.set x ⟨3, nm, 0, 0, 0⟩, E)
    else if kd = 4 then layL xs C.length (C.set x ⟨4, nm, 0, C.length, xs.length⟩ ++ List.replicate xs.length zCl) E
    else (C, E)
def layL : List S28 → Nat → List Cl → List Int → List Cl × List Int
  | [], _, C, E => (C, E)
  | a :: r, f, C, E => layL r (f + 1) (layT a f C E).1 (layT a f C E).2
end
theorem layL_nil (f : Nat) (C : List Cl) (E : List Int) : layL [] f C E = (C, E) := by rw [layL]
theorem layL_cons (a : S28) (r : List S28) (f : Nat) (C : List Cl) (E : List Int) : layL (a :: r) f C E = layL r (f + 1) (layT a f C E).1 (layT a f C E).2 := by rw [layL]

/-- The cells x .. x + n and those from C's end on are what a lay may write; G: those. -/
structure Lay (n : Nat) (vs : List Int) (x : Nat) (C : List Cl) (E : List Int) (C' : List Cl) (E' : List Int) : Prop where
  elen : E'.length = E.length
  old : ∀ i, i < C.length → (i < x ∨ x + n ≤ i) → C'[i]? = C[i]?
  len : C.length ≤ C'.length
  kept : ∀ j, 0 ≤ E.getD j (-1) → E'.getD j (-1) = E.getD j (-1)
  new : ∀ j, E'.getD j (-1) = E.getD j (-1) ∨ (E.getD j (-1) < 0 ∧ ∃ k : Nat, E'.getD j (-1) = k ∧ (x ≤ k ∧ k < x + n ∨ C.length ≤ k ∧ k < C'.length) ∧ C'[k]? = some zCl)
  all : ∀ v ∈ vs, 0 ≤ envAt E' v
  inj : ∀ i j, E.getD i (-1) < 0 → E.getD j (-1) < 0 → 0 ≤ E'.getD i (-1) → E'.getD i (-1) = E'.getD j (-1) → i = j

/-- Where a lay's cells and variables stand, its terms stand. -/
def LayRep (σ : Int → S28) (ts : List S28) (x : Nat) (C C' : List Cl) (E' : List Int) : Prop :=
  ∀ (D : List Cl) (F : List Int), (∀ i, (x ≤ i ∧ i < x + ts.length ∨ C.length ≤ i ∧ i < C'.length) → D[i]? = C'[i]?) → (∀ j, 0 ≤ E'.getD j (-1) → F.getD j (-1) = E'.getD j (-1)) →
    (∀ v ∈ occL ts, ∃ k : Nat, envAt F v = k ∧ Rep D k (σ v)) → (∀ i (hi : i < ts.length), Rep D (x + i) (sg σ ts[i])) ∧ ∀ i, C.length ≤ i → i < C'.length → ∃ s, Rep D i s

theorem getD_set_same {E : List Int} {j : Nat} (h : j < E.length) (v d : Int) : (E.set j v).getD j d = v := by simp [List.getD_eq_getElem?_getD, List.getElem?_set_self h]
theorem getD_set_ne {E : List Int} {i j : Nat} (h : j ≠ i) (v d : Int) : (E.set i v).getD j d = E.getD j d := by simp [List.getD_eq_getElem?_getD, List.getElem?_set_ne (fun e => h e.symm)]

theorem Lay.leaf {x : Nat} {C : List Cl} {E : List Int} (c : Cl) {vs : List Int} (hv : ∀ v ∈ vs, 0 ≤ envAt E v) : Lay 1 vs x C E (C.set x c) E :=
  ⟨rfl, fun i _ h => by rw [List.getElem?_set_ne (by omega)], by simp, fun j _ => rfl, fun j => .inl rfl, hv, fun i j h _ h2 _ => by omega⟩

mutual
theorem layT_spec (σ : Int → S28) : ∀ (t : S28) (x : Nat) (C : List Cl) (E : List Int), shT t = true → wfT t → x < C.length → C[x]? = some zCl → (∀ v ∈ occT t, 1 ≤ v ∧ v ≤ E.length) →
    Lay 1 (occT t) x C E (layT t x C E).1 (layT t x C E).2 ∧ (layT t x C E).1.length + 1 = C.length + nodes t ∧ LayRep σ [t] x C (layT t x C E).1 (layT t x C E).2
  | ⟨kd, nm, nt, xs⟩, x, C, E, hs, hw, hx, hz, hv => by
    rw [shT] at hs
    rw [wfT] at hw
    have one : ∀ {P : S28 → Prop} {Q : Nat → S28 → Prop} (t : S28), Q 0 t → ∀ i (hi : i < [t].length), Q i [t][i] := fun t h i hi => by
      have : i = 0 := by simpa using hi
      subst this; exact h
    by_cases h1 : kd = 1
    · subst h1
      rw [if_pos rfl] at hs
      rw [layT, if_pos rfl, nodes, if_neg (show ¬((1 : Int) = 4) by decide), occT, if_pos rfl]
      rw [occT, if_pos rfl] at hv
      obtain ⟨g1, g2⟩ := hv nt (by simp)
      have hnl : (nt - 1).toNat < E.length := by omega
      by_cases he : envAt E nt < 0
      · rw [if_pos he]
        refine ⟨⟨by simp, fun i _ _ => rfl, Nat.le_refl _, fun j hj => ?_, fun j => ?_, fun v h => ?_, fun i j hi hj h0 hij => ?_⟩, by simp, fun D F hD hF hk => ⟨?_, fun i h1 h2 => absurd h2 (by simpa using h1)⟩⟩
        · by_cases e : j = (nt - 1).toNat
          · subst e; unfold envAt at he; omega
          · rw [getD_set_ne e]
        · by_cases e : j = (nt - 1).toNat
          · subst e
            rw [getD_set_same hnl]
            exact .inr ⟨he, x, rfl, .inl ⟨Nat.le_refl _, by omega⟩, hz⟩
          · rw [getD_set_ne e]; exact .inl rfl
        · simp at h; subst h
          unfold envAt
          rw [getD_set_same hnl]; omega
        · by_cases e : i = (nt - 1).toNat
          · by_cases e' : j = (nt - 1).toNat
            · rw [e, e']
            · subst e
              rw [getD_set_same hnl, getD_set_ne e'] at hij; omega
          · rw [getD_set_ne e] at h0; omega
        · refine one (P := fun _ => True) (Q := fun i t => Rep D (x + i) (sg σ t)) _ ?_
          obtain ⟨k, e1, e2⟩ := hk nt (by rw [occL_cons, occT, if_pos rfl]; simp)
          have h3 := hF (nt - 1).toNat (by rw [getD_set_same hnl]; omega)
          rw [getD_set_same hnl] at h3
          unfold envAt at e1
          have : k = x := by omega
          subst this
          rw [sg_eq, if_pos rfl]
          exact e2
      · rw [if_neg he]
        refine ⟨Lay.leaf _ fun v h => by simp at h; subst h; omega, by simp, fun D F hD hF hk => ⟨?_, fun i h1 h2 => absurd h2 (by simpa using h1)⟩⟩
        refine one (P := fun _ => True) (Q := fun i t => Rep D (x + i) (sg σ t)) _ ?_
        obtain ⟨k, e1, e2⟩ := hk nt (by rw [occL_cons, occT, if_pos rfl]; simp)
        have h3 : F.getD (nt - 1).toNat (-1) = E.getD (nt - 1).toNat (-1) := hF (nt - 1).toNat (by unfold envAt at he; show 0 ≤ E.getD (nt - 1).toNat (-1); omega)
        have h4 : envAt E nt = k := by unfold envAt at e1 ⊢; omega
        rw [sg_eq, if_pos rfl]
        exact .ref x k (refC (envAt E nt)) _ (by rw [hD x (.inl (by simp)), List.getElem?_set_self hx]) rfl h4 e2
    rw [if_neg h1] at hs
    by_cases h2 : kd = 2
    · subst h2
      rw [layT, if_neg (by decide), if_pos rfl, nodes, if_neg (by decide), occT, if_neg (by decide), if_neg (by decide)]
      refine ⟨Lay.leaf _ fun v h => by simp at h, by simp, fun D F hD hF hk => ⟨?_, fun i h1 h2 => absurd h2 (by simpa using h1)⟩⟩
      refine one (P := fun _ => True) (Q := fun i t => Rep D (x + i) (sg σ t)) _ ?_
      rw [sg_eq]
      exact .num x ⟨2, ⟨#[]⟩, nt, 0, 0⟩ (by rw [hD x (.inl (by simp)), List.getElem?_set_self hx]) rfl rfl hw.1 rfl
    rw [if_neg h2] at hs
    by_cases h4 : kd = 4
    · subst h4
      rw [if_pos rfl] at hs
      simp only [Bool.and_eq_true, decide_eq_true_eq] at hs
      obtain ⟨⟨⟨hl1, hl8⟩, hsl⟩, hnm⟩ := hs
      rw [layT, if_neg (by decide), if_neg (by decide), if_neg (by decide), if_pos rfl, nodes_eq4, occ_eq4]
      have hl := layL_spec σ xs C.length (C.set x ⟨4, nm, 0, C.length, xs.length⟩ ++ List.replicate xs.length zCl) E hsl hw.2 (by simp) (fun i h => by
        rw [List.getElem?_append_right (by simp), List.length_set, Nat.add_sub_cancel_left, List.getElem?_replicate, if_pos h]) (fun v h => hv v (by rw [occ_eq4]; exact h))
      · obtain ⟨hL, hlen, hR⟩ := hl
        simp only [List.length_append, List.length_set, List.length_replicate] at hL hlen hR
        refine ⟨⟨hL.elen, fun i hi h => ?_, by have := hL.len; simp at this; omega, hL.kept, fun j => ?_, hL.all, hL.inj⟩, by omega, fun D F hD hF hk => ?_⟩
        · rw [hL.old i (by simp; omega) (.inl hi), List.getElem?_append_left (by simpa using hi), List.getElem?_set_ne (by omega)]
        · rcases hL.new j with h | ⟨h, k, e, hk, hz'⟩
          · exact .inl h
          · refine .inr ⟨h, k, e, ?_, hz'⟩
            have := hL.len
            simp only [List.length_append, List.length_set, List.length_replicate] at this hk
            omega
        · have hlen' := hL.len
          simp only [List.length_append, List.length_set, List.length_replicate] at hlen'
          have hxx : (layL xs C.length (C.set x ⟨4, nm, 0, C.length, xs.length⟩ ++ List.replicate xs.length zCl) E).1[x]? = some ⟨4, nm, 0, C.length, xs.length⟩ := by
            rw [hL.old x (by simp; omega) (.inl hx), List.getElem?_append_left (by simpa using hx), List.getElem?_set_self hx]
          obtain ⟨r1, r2⟩ := hR D F (fun i hi => hD i (by simp only [List.length_append, List.length_set, List.length_replicate] at hi; omega)) hF (fun v h => hk v (by rw [occL_cons, occ_eq4]; exact List.mem_append_left _ h))
          simp only [List.length_append, List.length_set, List.length_replicate] at r2
          refine ⟨one (P := fun _ => True) (Q := fun i t => Rep D (x + i) (sg σ t)) _ ?_, fun i h1 h2 => ?_⟩
          · rw [sg_eq, if_neg (by decide), if_pos rfl, sgL_map]
            refine .comp x C.length ⟨4, nm, 0, C.length, xs.length⟩ _ (by rw [hD x (.inl (by simp))]; exact hxx) rfl rfl (by simp) (by simpa using hl1) (by simpa using hl8) hnm rfl fun i hi => ?_
            simp only [List.getElem_map]
            exact r1 i (by simpa using hi)
          · by_cases h3 : i < C.length + xs.length
            · have := r1 (i - C.length) (by omega)
              rw [show C.length + (i - C.length) = i by omega] at this
              exact ⟨_, this⟩
            · exact r2 i (by omega) h2
    rw [if_neg h4] at hs
    by_cases h3 : kd = 3
    · subst h3
      rw [if_pos rfl] at hs
      rw [layT, if_neg (by decide), if_neg (by decide), if_pos rfl, nodes, if_neg (by decide), occT, if_neg (by decide), if_neg (by decide)]
      refine ⟨Lay.leaf _ fun v h => by simp at h, by simp, fun D F hD hF hk => ⟨?_, fun i h1 h2 => absurd h2 (by simpa using h1)⟩⟩
      refine one (P := fun _ => True) (Q := fun i t => Rep D (x + i) (sg σ t)) _ ?_
      rw [sg_eq]
      exact .atom x ⟨3, nm, 0, 0, 0⟩ (by rw [hD x (.inl (by simp)), List.getElem?_set_self hx]) rfl rfl (of_decide_eq_true hs) rfl
    · rw [if_neg h3] at hs; cases hs
theorem layL_spec (σ : Int → S28) : ∀ (ts : List S28) (x : Nat) (C : List Cl) (E : List Int), shL ts = true → wfL ts → x + ts.length ≤ C.length → (∀ i, i < ts.length → C[x + i]? = some zCl) → (∀ v ∈ occL ts, 1 ≤ v ∧ v ≤ E.length) →
    Lay ts.length (occL ts) x C E (layL ts x C E).1 (layL ts x C E).2 ∧ (layL ts x C E).1.length + ts.length = C.length + nodesL ts ∧ LayRep σ ts x C (layL ts x C E).1 (layL ts x C E).2
  | [], x, C, E, hs, hw, hx, hz, hv => by
    rw [layL_nil, nodesL_nil]
    refine ⟨⟨rfl, fun i _ _ => rfl, Nat.le_refl _, fun j _ => rfl, fun j => .inl rfl, fun v h => by rw [occL_nil] at h; simp at h, fun i j h _ h2 _ => by simp only at h2; omega⟩, by simp, fun D F hD hF hk => ⟨fun i hi => by simp at hi, fun i h1 h2 => absurd h2 (by simp only; omega)⟩⟩
  | a :: r, x, C, E, hs, hw, hx, hz, hv => by
    rw [shL_cons, Bool.and_eq_true] at hs
    rw [wfL_cons] at hw
    rw [List.length_cons] at hx hz ⊢
    rw [layL_cons, nodesL_cons]
    obtain ⟨hA, lA, rA⟩ := layT_spec σ a x C E hs.1 hw.1 (by omega) (by simpa using hz 0 (by omega)) (fun v h => hv v (by rw [occL_cons]; exact List.mem_append_left _ h))
    generalize (layT a x C E).1 = C1, (layT a x C E).2 = E1 at hA lA rA ⊢
    have hna := nodes_pos a
    obtain ⟨hB, lB, rB⟩ := layL_spec σ r (x + 1) C1 E1 hs.2 hw.2 (by have := hA.len; omega) (fun i hi => by
        rw [hA.old (x + 1 + i) (by omega) (.inr (by omega))]
        have := hz (i + 1) (by omega)
        rw [show x + (i + 1) = x + 1 + i by omega] at this; exact this) (fun v h => by rw [hA.elen]; exact hv v (by rw [occL_cons]; exact List.mem_append_right _ h))
    generalize (layL r (x + 1) C1 E1).1 = C2, (layL r (x + 1) C1 E1).2 = E2 at hB lB rB ⊢
    have k1 := hA.len
    have k2 := hB.len
    have hkeep : ∀ j, 0 ≤ E1.getD j (-1) → E2.getD j (-1) = E1.getD j (-1) := hB.kept
    refine ⟨⟨hB.elen.trans hA.elen, fun i hi h => ?_, by omega, fun j hj => ?_, fun j => ?_, fun v h => ?_, fun i j hi hj h0 hij => ?_⟩, by omega, fun D F hD hF hk => ?_⟩
    · rw [hB.old i (by omega) (by omega), hA.old i hi (by omega)]
    · rw [hB.kept j (by rw [hA.kept j hj]; exact hj), hA.kept j hj]
    · rcases hA.new j with h | ⟨h, k, e, hk, hz'⟩
      · rcases hB.new j with h' | ⟨h', k, e, hk, hz'⟩
        · exact .inl (h'.trans h)
        · exact .inr ⟨by omega, k, e, by omega, hz'⟩
      · refine .inr ⟨h, k, by rw [hB.kept j (by omega)]; exact e, by omega, ?_⟩
        rw [hB.old k (by omega) (by omega)]; exact hz'
    · rw [occL_cons, List.mem_append] at h
      rcases h with h | h
      · have := hA.all v h
        unfold envAt at this ⊢
        rw [hB.kept _ this]; exact this
      · exact hB.all v h
    · by_cases a1 : 0 ≤ E1.getD i (-1)
      · rw [hB.kept i a1] at h0 hij
        by_cases a2 : 0 ≤ E1.getD j (-1)
        · rw [hB.kept j a2] at hij
          exact hA.inj i j hi hj h0 hij
        · exfalso
          rcases hB.new j with h' | ⟨_, k, e, hk, _⟩
          · omega
          · rcases hA.new i with h'' | ⟨_, k', e', hk', _⟩
            · omega
            · omega
      · by_cases a2 : 0 ≤ E1.getD j (-1)
        · exfalso
          rw [hB.kept j a2] at hij
          rcases hB.new i with h' | ⟨_, k, e, hk, _⟩
          · omega
          · rcases hA.new j with h'' | ⟨_, k', e', hk', _⟩
            · omega
            · omega
        · exact hB.inj i j (by omega) (by omega) h0 hij
    · obtain ⟨q1, q2⟩ := rB D F (fun i hi => hD i (by rw [List.length_cons]; omega)) hF (fun v h => hk v (by rw [occL_cons]; exact List.mem_append_right _ h))
      obtain ⟨p1, p2⟩ := rA D F (fun i hi => by
          rw [hD i (by rw [List.length_cons]; simp at hi; omega)]
          exact hB.old i (by simp at hi; omega) (by simp at hi; omega)) (fun j hj => by rw [hF j (by rw [hB.kept j hj]; exact hj), hB.kept j hj]) (fun v h => hk v (by rw [occL_cons] at h ⊢; rw [occL_nil, List.append_nil] at h; exact List.mem_append_left _ h))
      refine ⟨fun i hi => ?_, fun i h1 h2 => ?_⟩
      · cases i with
        | zero => simpa using p1 0 (by simp)
        | succ i =>
          have := q1 i (by simpa using hi)
          rw [show x + 1 + i = x + (i + 1) by omega] at this
          simpa using this
      · by_cases h3 : i < C1.length
        · exact p2 i h1 h3
        · exact q2 i (by omega) h2
end

end Go.Proofs.Ytjhhacighfpdbaa
