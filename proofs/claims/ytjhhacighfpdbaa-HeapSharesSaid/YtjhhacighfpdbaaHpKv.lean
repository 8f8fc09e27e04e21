/- A term.s variables, out of the texts of the term package. -/
import Derived.Test.YtjhhacighfpdbaaHpK
namespace Go.Proofs.Ytjhhacighfpdbaa
set_option linter.unusedVariables false
open Go.RowKit Go.Maps Go.Proofs.YtjhhacighfpdbaaW.PrintWords Go.Proofs.YtjhhacighfpdbaaW.PrintLast Go.Proofs.YtjhhacighfpdbaaW.PrintMore Go.Proofs.Ytjhhacighfpdbaa.PHeapShares Go.Extern

/-! From TmA. -/

/-! From TmB. -/

/-! From TmC. -/

/-! From TmPa. -/

/-! From TmPc. -/
def addv (out : List Int) (v : Int) : List Int := if v ∈ out then out else out ++ [v]
mutual
theorem varsT_occ : ∀ (t : S28) (out : List Int), varsT t out = (occT t).foldl addv out
  | ⟨kd, nm, nt, xs⟩, out => by
    rw [varsT, occT]
    by_cases h1 : kd = 1
    · rw [if_pos h1, if_pos h1]; rfl
    rw [if_neg h1, if_neg h1]
    by_cases h4 : kd = 4
    · rw [if_pos h4, if_pos h4]; exact varsL_occ xs out
    · rw [if_neg h4, if_neg h4]; rfl
theorem varsL_occ : ∀ (xs : List S28) (out : List Int), varsL xs out = (occL xs).foldl addv out
  | [], out => by rw [varsL_nil, occL_nil]; rfl
  | a :: r, out => by rw [varsL_cons, occL_cons, List.foldl_append, varsT_occ a, varsL_occ r]
end
theorem mem_addv {out : List Int} {v x : Int} : x ∈ addv out v ↔ x ∈ out ∨ x = v := by
  unfold addv
  by_cases h : v ∈ out
  · rw [if_pos h]
    constructor
    · exact .inl
    · rintro (h1 | rfl)
      · exact h1
      · exact h
  · rw [if_neg h]; simp
theorem mem_fold : ∀ (l out : List Int) (x : Int), x ∈ l.foldl addv out ↔ x ∈ out ∨ x ∈ l
  | [], out, x => by simp
  | v :: l, out, x => by
    rw [List.foldl_cons, mem_fold l, mem_addv, List.mem_cons]
    constructor
    · rintro ((h | h) | h)
      · exact .inl h
      · exact .inr (.inl h)
      · exact .inr (.inr h)
    · rintro (h | h | h)
      · exact .inl (.inl h)
      · exact .inl (.inr h)
      · exact .inr h
theorem nodup_fold : ∀ (l out : List Int), out.Nodup → (l.foldl addv out).Nodup
  | [], out, h => h
  | v :: l, out, h => by
    rw [List.foldl_cons]
    apply nodup_fold l
    unfold addv
    by_cases hv : v ∈ out
    · rw [if_pos hv]; exact h
    · rw [if_neg hv, List.nodup_append]
      exact ⟨h, by simp, fun a ha b hb e => hv (by rw [List.mem_singleton.1 hb] at e; exact e ▸ ha)⟩
theorem varsT_nodup (t : S28) : (varsT t []).Nodup := by rw [varsT_occ]; exact nodup_fold _ _ (by simp)
theorem mem_varsT (t : S28) (x : Int) : x ∈ varsT t [] ↔ x ∈ occT t := by rw [varsT_occ, mem_fold]; simp

/-- A term with its variables renamed. -/
def renS (g : Int → Int) (t : S28) : S28 := subT (fun v => some (mkV (g v))) t
def renL (g : Int → Int) (xs : List S28) : List S28 := subL (fun v => some (mkV (g v))) xs
theorem renS_eq (g : Int → Int) (kd : Int) (nm : ByteArray) (nt : Int) (xs : List S28) : renS g ⟨kd, nm, nt, xs⟩ = if kd = 1 then mkV (g nt) else if kd = 4 then ⟨4, nm, 0, renL g xs⟩ else bareT ⟨kd, nm, nt, xs⟩ := by
  unfold renS renL; rw [subT]
theorem renL_nil (g : Int → Int) : renL g [] = [] := by unfold renL; rw [subL]
theorem renL_cons (g : Int → Int) (a : S28) (r : List S28) : renL g (a :: r) = renS g a :: renL g r := by unfold renL renS; rw [subL]
theorem renL_map (g : Int → Int) (xs : List S28) : renL g xs = xs.map (renS g) := subL_map _ _
theorem renL_len (g : Int → Int) (xs : List S28) : (renL g xs).length = xs.length := by rw [renL_map, List.length_map]
mutual
theorem sub_ren (f : Int → Option S28) (g : Int → Int) : ∀ t : S28, (∀ v ∈ occT t, f v = some (mkV (g v)) ∨ (f v = none ∧ g v = v)) → subT f t = renS g t
  | ⟨kd, nm, nt, xs⟩, h => by
    rw [renS_eq, subT]
    rw [occT] at h
    by_cases h1 : kd = 1
    · rw [if_pos h1, if_pos h1]
      rw [if_pos h1] at h
      rcases h nt (by simp) with e | ⟨e, e2⟩
      · rw [e]
      · rw [e, e2]; rfl
    rw [if_neg h1, if_neg h1]
    rw [if_neg h1] at h
    by_cases h4 : kd = 4
    · rw [if_pos h4, if_pos h4]
      rw [if_pos h4] at h
      rw [subL_ren f g xs h]
    · rw [if_neg h4, if_neg h4]
theorem subL_ren (f : Int → Option S28) (g : Int → Int) : ∀ xs : List S28, (∀ v ∈ occL xs, f v = some (mkV (g v)) ∨ (f v = none ∧ g v = v)) → subL f xs = renL g xs
  | [], _ => by rw [subL_nil, renL_nil]
  | a :: r, h => by
    rw [occL_cons] at h
    rw [subL_cons, renL_cons, sub_ren f g a (fun v hv => h v (List.mem_append_left _ hv)), subL_ren f g r (fun v hv => h v (List.mem_append_right _ hv))]
end
mutual
theorem nodes_renS (g : Int → Int) : ∀ t : S28, nodes (renS g t) = nodes t ∧ dpt (renS g t) = dpt t
  | ⟨kd, nm, nt, xs⟩ => by
    rw [renS_eq]
    by_cases h1 : kd = 1
    · rw [if_pos h1]; subst h1; exact ⟨rfl, rfl⟩
    rw [if_neg h1]
    by_cases h4 : kd = 4
    · have := nodes_renL g xs
      subst h4
      simp only [if_true]
      rw [nodes, nodes, dpt, dpt]
      simp only [if_true]
      rw [this.1, this.2]; exact ⟨rfl, rfl⟩
    · rw [if_neg h4]
      have hb : (bareT ⟨kd, nm, nt, xs⟩).f0 ≠ 4 := by rw [bareT_kd]; exact h4
      rw [nodes_no hb, dpt_no hb, nodes_no (t := ⟨kd, nm, nt, xs⟩) h4, dpt_no (t := ⟨kd, nm, nt, xs⟩) h4]; exact ⟨rfl, rfl⟩
theorem nodes_renL (g : Int → Int) : ∀ xs : List S28, nodesL (renL g xs) = nodesL xs ∧ dptL (renL g xs) = dptL xs
  | [] => by rw [renL_nil]; exact ⟨rfl, rfl⟩
  | a :: r => by
    rw [renL_cons, nodesL_cons, nodesL_cons, dptL_cons, dptL_cons, (nodes_renS g a).1, (nodes_renS g a).2, (nodes_renL g r).1, (nodes_renL g r).2]; exact ⟨rfl, rfl⟩
end
mutual
theorem sh_renS (g : Int → Int) : ∀ t : S28, shT t = true → (∀ v ∈ occT t, 1 ≤ g v) → shT (renS g t) = true
  | ⟨kd, nm, nt, xs⟩, h, hg => by
    rw [renS_eq]
    rw [occT] at hg
    rw [shT] at h
    by_cases h1 : kd = 1
    · rw [if_pos h1]; rw [if_pos h1] at hg
      unfold mkV; rw [shT, if_pos rfl]
      have := hg nt (by simp); simpa using this
    rw [if_neg h1]; rw [if_neg h1] at hg h
    by_cases h4 : kd = 4
    · subst h4
      simp only [if_true]
      rw [if_pos rfl] at hg
      rw [if_neg (by decide), if_pos rfl] at h
      simp only [Bool.and_eq_true] at h
      rw [shT, if_neg (by decide), if_neg (by decide), if_pos rfl, sh_renL g xs h.1.2 hg, renL_len, h.1.1, h.2]; rfl
    · rw [if_neg h4, bare_kind]
      by_cases h2 : kd = 2
      · rw [if_pos (.inr h2)]; subst h2; rw [shT]; rfl
      · rw [if_neg (by omega), shT, if_neg h1, if_neg h2, if_neg h4]
        rw [if_neg h2, if_neg h4] at h; exact h
theorem sh_renL (g : Int → Int) : ∀ xs : List S28, shL xs = true → (∀ v ∈ occL xs, 1 ≤ g v) → shL (renL g xs) = true
  | [], _, _ => by rw [renL_nil, shL]
  | a :: r, h, hg => by
    rw [shL_cons, Bool.and_eq_true] at h
    rw [occL_cons] at hg
    rw [renL_cons, shL_cons, sh_renS g a h.1 (fun v hv => hg v (List.mem_append_left _ hv)), sh_renL g r h.2 (fun v hv => hg v (List.mem_append_right _ hv))]; rfl
end
theorem ok_renS (g : Int → Int) {t : S28} (h : okT t = true) (hg : ∀ v ∈ occT t, 1 ≤ g v) : okT (renS g t) = true := by
  rw [okT_iff] at h ⊢
  rw [(nodes_renS g t).1, (nodes_renS g t).2]
  exact ⟨sh_renS g t h.1 hg, h.2⟩

/-- A term's own variables: as it is, but for what its kinds don't name. -/
theorem ren_id (a : S28) : renS id a = nrm a := by
  unfold nrm
  exact (sub_ren (fun _ => none) id a (fun v _ => .inr ⟨rfl, rfl⟩)).symm

/-! From TmPe. -/
theorem nrm_ok {t : S28} (h : okT t = true) : okT (nrm t) = true := by
  rw [← ren_id]
  refine ok_renS id h (fun v hv => ?_)
  have hs := ((okT_iff t).1 h).1
  clear h
  have key : ∀ n : Nat, (∀ t : S28, SizeOf.sizeOf t < n → shT t = true → ∀ v ∈ occT t, 1 ≤ v) ∧ (∀ xs : List S28, SizeOf.sizeOf xs < n → shL xs = true → ∀ v ∈ occL xs, 1 ≤ v) := by
    intro n
    induction n with
    | zero => exact ⟨(fun _ h => absurd h (Nat.not_lt_zero _)), (fun _ h => absurd h (Nat.not_lt_zero _))⟩
    | succ n ih =>
      constructor
      · intro t hn hs v hv
        obtain ⟨kd, nm, nt, xs⟩ := t
        rw [shT] at hs
        rw [occT] at hv
        by_cases h1 : kd = 1
        · rw [if_pos h1] at hs hv
          rw [List.mem_singleton] at hv
          have := of_decide_eq_true hs
          omega
        rw [if_neg h1] at hs hv
        by_cases h4 : kd = 4
        · subst h4
          rw [if_pos rfl] at hv
          rw [if_neg (by decide), if_pos rfl] at hs
          simp only [Bool.and_eq_true] at hs
          simp only [S28.mk.sizeOf_spec] at hn
          exact ih.2 xs (by omega) hs.1.2 v hv
        · rw [if_neg h4] at hv; cases hv
      · intro xs hn hs v hv
        match xs with
        | [] => rw [occL_nil] at hv; cases hv
        | a :: r =>
          rw [occL_cons] at hv
          rw [shL_cons, Bool.and_eq_true] at hs
          simp only [List.cons.sizeOf_spec] at hn
          rcases List.mem_append.1 hv with h | h
          · exact ih.1 a (by omega) hs.1 v h
          · exact ih.2 r (by omega) hs.2 v h
  exact (key _).1 t (Nat.lt_succ_self _) hs v hv
theorem occ_pos {t : S28} (h : okT t = true) : ∀ v ∈ occT t, 1 ≤ v := by
  intro v hv
  have h2 := nrm_ok h
  have key : ∀ n : Nat, (∀ t : S28, SizeOf.sizeOf t < n → shT t = true → ∀ v ∈ occT t, 1 ≤ v) ∧ (∀ xs : List S28, SizeOf.sizeOf xs < n → shL xs = true → ∀ v ∈ occL xs, 1 ≤ v) := by
    intro n
    induction n with
    | zero => exact ⟨(fun _ h => absurd h (Nat.not_lt_zero _)), (fun _ h => absurd h (Nat.not_lt_zero _))⟩
    | succ n ih =>
      constructor
      · intro t hn hs v hv
        obtain ⟨kd, nm, nt, xs⟩ := t
        rw [shT] at hs
        rw [occT] at hv
        by_cases h1 : kd = 1
        · rw [if_pos h1] at hs hv
          rw [List.mem_singleton] at hv
          have := of_decide_eq_true hs
          omega
        rw [if_neg h1] at hs hv
        by_cases h4 : kd = 4
        · subst h4
          rw [if_pos rfl] at hv
          rw [if_neg (by decide), if_pos rfl] at hs
          simp only [Bool.and_eq_true] at hs
          simp only [S28.mk.sizeOf_spec] at hn
          exact ih.2 xs (by omega) hs.1.2 v hv
        · rw [if_neg h4] at hv; cases hv
      · intro xs hn hs v hv
        match xs with
        | [] => rw [occL_nil] at hv; cases hv
        | a :: r =>
          rw [occL_cons] at hv
          rw [shL_cons, Bool.and_eq_true] at hs
          simp only [List.cons.sizeOf_spec] at hn
          rcases List.mem_append.1 hv with h | h
          · exact ih.1 a (by omega) hs.1 v h
          · exact ih.2 r (by omega) hs.2 v h
  exact (key _).1 t (Nat.lt_succ_self _) ((okT_iff t).1 h).1 v hv
theorem shL_mem {a : S28} : ∀ {xs : List S28}, shL xs = true → a ∈ xs → shT a = true
  | b :: r, hs, h => by
    rw [shL_cons, Bool.and_eq_true] at hs
    rcases List.mem_cons.1 h with rfl | h
    · exact hs.1
    · exact shL_mem hs.2 h
section
variable {w0 W : World} {t u : S28} {A A' : Option Addr} {c c' : Nat}
end

end Go.Proofs.Ytjhhacighfpdbaa
