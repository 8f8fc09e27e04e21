/- All, Make and Leave of the document's locks, in plain words. -/
import Derived.Test.YtnenehdecbbfcaaLkW
namespace Go.Proofs.Ytnenehdecbbfcaa
set_option linter.unusedVariables false
open Go.RowKit Go.Maps Go.Proofs.YtnenehdecbbfcaaW.PrintWords Go.Proofs.YtnenehdecbbfcaaW.PrintLast Go.Proofs.YtnenehdecbbfcaaW.PrintMore Go.Proofs.Ytnenehdecbbfcaa.PLockAlone

def keysFrom : Nat → List S35 → List Int
  | _, [] => []
  | i, y :: r => if y.f0 = true then ((i : Int) + 1) :: keysFrom (i + 1) r else keysFrom (i + 1) r

theorem keysFrom_le : ∀ (l : List S35) (i : Nat), (keysFrom i l).length ≤ l.length
  | [], _ => Nat.le_refl _
  | y :: r, i => by
    have := keysFrom_le r (i + 1)
    unfold keysFrom
    split <;> simp <;> omega

theorem rd_at (M : List S35) (i : Nat) (h : i < M.length) : rd_T35 M (i : Int) = M[i] := by
  unfold rd_T35
  rw [List.getD_eq_getElem?_getD, List.getElem?_eq_getElem (by simp; omega), Option.getD_some]
  simp

theorem all_l0 (M : List S35) (hM : M.length < 5864062014805) : ∀ (d k i : Nat) (acc : List Int), i + d = M.length → d < k → acc.length ≤ i →
    pythiaref15_All.l0 k M acc (i : Int) = some (acc ++ keysFrom i (M.drop i)) := by
  intro d
  induction d with
  | zero =>
    intro k i acc hi hk ha
    obtain ⟨k, rfl⟩ : ∃ q, k = q + 1 := ⟨k - 1, by omega⟩
    simp only [pythiaref15_All.l0]
    rw [if_neg (by omega), List.drop_of_length_le (by omega)]
    simp [keysFrom]
  | succ d ih =>
    intro k i acc hi hk ha
    obtain ⟨k, rfl⟩ : ∃ q, k = q + 1 := ⟨k - 1, by omega⟩
    have hw : wrap64 ((i : Int) + 1) = ((i + 1 : Nat) : Int) := by unfold wrap64; omega
    simp only [pythiaref15_All.l0]
    rw [if_pos (by omega), if_pos (by omega), hw, List.drop_eq_getElem_cons (show i < M.length by omega), rd_at M i (by omega)]
    unfold keysFrom
    by_cases hb : (M[i]'(by omega)).f0 = true
    · rw [if_pos hb, if_pos hb, if_pos (by omega), ih k (i + 1) _ (by omega) (by omega) (by simp; omega)]
      simp
    · rw [if_neg hb, if_neg hb, ih k (i + 1) _ (by omega) (by omega) (by omega)]

theorem mem_keysFrom : ∀ (l : List S35) (i : Nat) (x : Int), x ∈ keysFrom i l ↔ ∃ q, ∃ h : q < l.length, l[q].f0 = true ∧ x = ((i + q : Nat) : Int) + 1
  | [], i, x => by simp [keysFrom]
  | y :: r, i, x => by
    have ih := mem_keysFrom r (i + 1) x
    have key : x ∈ keysFrom (i + 1) r ↔ ∃ q, ∃ h : q + 1 < (y :: r).length, (y :: r)[q + 1].f0 = true ∧ x = ((i + (q + 1) : Nat) : Int) + 1 := by
      rw [ih]
      constructor
      · rintro ⟨q, h, h1, h2⟩; exact ⟨q, by simpa using h, by simpa using h1, by omega⟩
      · rintro ⟨q, h, h1, h2⟩; exact ⟨q, by simpa using h, by simpa using h1, by omega⟩
    unfold keysFrom
    split
    · rename_i hy
      rw [List.mem_cons, key]
      constructor
      · rintro (h | ⟨q, h, h1, h2⟩)
        · exact ⟨0, by simp, by simpa using hy, by simpa using h⟩
        · exact ⟨q + 1, h, h1, h2⟩
      · rintro ⟨q, h, h1, h2⟩
        cases q with
        | zero => exact .inl (by simpa using h2)
        | succ q => exact .inr ⟨q, h, h1, h2⟩
    · rename_i hy
      rw [key]
      constructor
      · rintro ⟨q, h, h1, h2⟩; exact ⟨q + 1, h, h1, h2⟩
      · rintro ⟨q, h, h1, h2⟩
        cases q with
        | zero => exact absurd (by simpa using h1) hy
        | succ q => exact ⟨q, h, h1, h2⟩

theorem keysFrom_sorted : ∀ (l : List S35) (i : Nat), (keysFrom i l).Pairwise (· < ·)
  | [], _ => by simp [keysFrom]
  | y :: r, i => by
    have ih := keysFrom_sorted r (i + 1)
    unfold keysFrom
    split
    · refine List.pairwise_cons.2 ⟨fun x hx => ?_, ih⟩
      obtain ⟨q, _, _, rfl⟩ := (mem_keysFrom r (i + 1) x).1 hx
      omega
    · exact ih

theorem eq_of_sorted {a b : List Int} (ha : a.Pairwise (· < ·)) (hb : b.Pairwise (· < ·)) (h : ∀ x, x ∈ a ↔ x ∈ b) : a = b := by
  have na : a.Nodup := ha.imp fun h => by omega
  have nb : b.Nodup := hb.imp fun h => by omega
  refine List.Perm.eq_of_pairwise (le := fun x y => x ≤ y) (fun x y _ _ h1 h2 => by omega) (ha.imp fun h => by omega) (hb.imp fun h => by omega) ((List.perm_ext_iff_of_nodup na nb).2 h)

theorem keys_Mof {N : Nat} {made : Int} {L : Mx} (g : Good N made L) : keysFrom 0 (Mof made L) = L.map (·.1) := by
  refine eq_of_sorted (keysFrom_sorted _ _) (by rw [List.pairwise_map]; exact g.sorted) fun x => ?_
  rw [mem_keysFrom]
  constructor
  · rintro ⟨q, h, h1, h2⟩
    rw [Mof_get] at h1
    cases hg : mget L ((q : Int) + 1) with
    | none => rw [hg] at h1; simp [cellOf] at h1
    | some p =>
      have := mget_mem hg
      rw [List.mem_map]
      exact ⟨_, this, by simp only; omega⟩
  · intro hx
    obtain ⟨p, hp, rfl⟩ := List.mem_map.1 hx
    have hk := g.key p hp
    have hl := Mof_len made L
    refine ⟨p.1.toNat - 1, by omega, ?_, by omega⟩
    rw [Mof_get]
    have e : (((p.1.toNat - 1 : Nat)) : Int) + 1 = p.1 := by omega
    rw [e, mget_of_mem g.sorted (k := p.1) (v := p.2) hp]
    rfl

theorem all_pure {N : Nat} {made : Int} {L : Mx} (g : Good N made L) (hN : N < 5864062014805) (k : Nat) (hk : N < k) : pythiaref15_All.f k (Mof made L) = some (L.map (·.1)) := by
  have hm := g.made
  have := all_l0 (Mof made L) (by rw [Mof_len]; omega) (Mof made L).length k 0 [] (by omega) (by rw [Mof_len]; omega) (Nat.le_refl _)
  rw [List.drop_zero, keys_Mof g] at this
  simpa [pythiaref15_All.f] using this

theorem make_l0 (M : List S35) (hM : M.length < 5864062014804) : ∀ (d k i : Nat) (acc : List S35), i + d = M.length → d < k → acc.length = i →
    pythiaref15_Make.l0 k M acc (i : Int) = some (acc ++ M.drop i ++ [⟨true, 0, 0⟩], ((M.length + 1 : Nat) : Int), 0) := by
  intro d
  induction d with
  | zero =>
    intro k i acc hi hk ha
    obtain ⟨k, rfl⟩ : ∃ q, k = q + 1 := ⟨k - 1, by omega⟩
    simp only [pythiaref15_Make.l0]
    rw [if_neg (by omega), if_pos (by omega), List.drop_of_length_le (by omega)]
    simp
    omega
  | succ d ih =>
    intro k i acc hi hk ha
    obtain ⟨k, rfl⟩ : ∃ q, k = q + 1 := ⟨k - 1, by omega⟩
    have hw : wrap64 ((i : Int) + 1) = ((i + 1 : Nat) : Int) := by unfold wrap64; omega
    simp only [pythiaref15_Make.l0]
    rw [if_pos (by omega), if_pos (by omega), if_pos (by omega), hw, rd_at M i (by omega), ih k (i + 1) _ (by omega) (by omega) (by simp [ha]), List.drop_eq_getElem_cons (show i < M.length by omega)]
    simp only [List.append_assoc, List.cons_append, List.nil_append]

theorem Mof_new {N : Nat} {made : Int} {L : Mx} (g : Good N made L) : Mof made L ++ [⟨true, 0, 0⟩] = Mof (made + 1) (mput (made + 1) (0, 0) L) := by
  have hm := g.made
  have hl := Mof_len made L
  apply Mof_ext
  · simp [hl]; omega
  · intro i hi
    rw [cell_put g.sorted]
    by_cases h : i < (Mof made L).length
    · rw [List.getElem_append_left h, Mof_get, if_neg (by omega)]
    · have hi' : i = (Mof made L).length := by simp at hi; omega
      subst hi'
      rw [List.getElem_append_right (Nat.le_refl _), if_pos (by omega)]
      simp

theorem make_pure {N : Nat} {made : Int} {L : Mx} (g : Good N made L) (hN : N < 5864062014804) (k : Nat) (hk : N < k) :
    pythiaref15_Make.f k (Mof made L) = if 8 ≤ L.length then some (Mof made L, 0, 3) else some (Mof (made + 1) (mput (made + 1) (0, 0) L), made + 1, 0) := by
  have hm := g.made
  unfold pythiaref15_Make.f
  rw [all_pure g (by omega) k hk, Option.bind_some, List.length_map]
  by_cases h : 8 ≤ L.length
  · rw [if_pos h, if_pos (by omega)]
  · rw [if_neg h, if_neg (by omega)]
    have := make_l0 (Mof made L) (by rw [Mof_len]; omega) (Mof made L).length k 0 [] (by omega) (by rw [Mof_len]; omega) rfl
    rw [List.drop_zero, List.nil_append, Mof_new g, Mof_len] at this
    simp only [Int.natCast_zero] at this
    rw [this]
    congr 3
    omega

/-- The mutexes behind the first keys of those that a thread has. -/
def zeroed (L : Mx) (ks : List Int) : Mx := L.map fun p => if p.1 ∈ ks then (p.1, (0, 0)) else p
theorem zeroed_get (L : Mx) (ks : List Int) (i : Int) : mget (zeroed L ks) i = (mget L i).map fun v => if i ∈ ks then (0, 0) else v := by
  induction L with
  | nil => rfl
  | cons p r ih =>
    simp only [zeroed, List.map_cons] at ih ⊢
    unfold mget
    by_cases h : p.1 = i
    · subst h
      by_cases hk : p.1 ∈ ks <;> simp [hk]
    · by_cases hk : p.1 ∈ ks <;> simp [hk, h, ih]
theorem zeroed_nil (L : Mx) : zeroed L [] = L := by simp [zeroed]
theorem zeroed_all {L : Mx} (hs : msorted L) (t : Int) : zeroed L (leaveK L t) = leaveL L t := by
  unfold zeroed leaveL
  apply List.map_congr_left
  intro p hp
  unfold lv
  by_cases h : mine t p = true
  · rw [if_pos h, if_pos]
    exact List.mem_map.2 ⟨p, List.mem_filter.2 ⟨hp, h⟩, rfl⟩
  · rw [if_neg h, if_neg]
    intro hm
    obtain ⟨q, hq, he⟩ := List.mem_map.1 hm
    have h1 := List.mem_filter.1 hq
    have h2 := mget_of_mem hs (k := q.1) (v := q.2) h1.1
    have h3 := mget_of_mem hs (k := p.1) (v := p.2) hp
    rw [he, h3] at h2
    have : q = p := Prod.ext he (Option.some.inj h2).symm
    subst this
    exact h h1.2
theorem zeroed_step {made : Int} {L : Mx} {ks : List Int} {m : Int} (hm : (mget L m).isSome) : setFrom (m - 1) ⟨true, 0, 0⟩ 0 (Mof made (zeroed L ks)) = Mof made (zeroed L (ks ++ [m])) := by
  refine set_Mof fun i _ _ => ?_
  rw [zeroed_get, zeroed_get]
  by_cases e : i = m
  · subst e
    obtain ⟨v, hv⟩ := Option.isSome_iff_exists.1 hm
    simp [hv, cellOf]
  · rw [if_neg e]
    simp [e]

/-- The keys up to a number of those that a thread has. -/
def upto (L : Mx) (t i : Int) : List Int := leaveK (L.filter fun p => decide (p.1 ≤ i)) t

theorem filter_upto {L : Mx} (hs : msorted L) (i : Int) : (L.filter fun p => decide (p.1 ≤ i + 1)) = (L.filter fun p => decide (p.1 ≤ i)) ++ (match mget L (i + 1) with | some v => [(i + 1, v)] | none => []) := by
  induction L with
  | nil => rfl
  | cons p r ih =>
    have hp := List.pairwise_cons.1 hs
    have ih := ih hp.2
    rw [List.filter_cons, List.filter_cons]
    unfold mget
    by_cases h1 : p.1 = i + 1
    · have e1 : (r.filter fun q => decide (q.1 ≤ i + 1)) = [] := by
        rw [List.filter_eq_nil_iff]; intro q hq; have := hp.1 q hq; simp; omega
      have e2 : (r.filter fun q => decide (q.1 ≤ i)) = [] := by
        rw [List.filter_eq_nil_iff]; intro q hq; have := hp.1 q hq; simp; omega
      have n1 : decide (p.1 ≤ i) = false := decide_eq_false (by omega)
      rw [e1, e2, if_pos h1, n1]
      simp only [h1, Int.le_refl, decide_true, if_true]
      simp
      rw [← h1]
    · rw [if_neg h1, ih]
      by_cases h2 : p.1 ≤ i
      · rw [if_pos (decide_eq_true (by omega)), if_pos (decide_eq_true h2)]
        rfl
      · rw [if_neg (by simp; omega), if_neg (by simp; omega)]

theorem upto_succ {L : Mx} (hs : msorted L) (t i : Int) : upto L t (i + 1) = upto L t i ++ (match mget L (i + 1) with | some v => if mine t (i + 1, v) then [i + 1] else [] | none => []) := by
  unfold upto leaveK
  rw [filter_upto hs, List.filter_append, List.map_append]
  congr 1
  cases mget L (i + 1) with
  | none => rfl
  | some v =>
    simp only [List.filter_cons, List.filter_nil]
    split <;> rfl
theorem upto_zero {N : Nat} {made : Int} {L : Mx} (g : Good N made L) (t : Int) : upto L t 0 = [] := by
  unfold upto
  have : (L.filter fun p => decide (p.1 ≤ 0)) = [] := by
    rw [List.filter_eq_nil_iff]; intro q hq; have := g.key q hq; simp; omega
  rw [this]; rfl
theorem upto_all {N : Nat} {made : Int} {L : Mx} (g : Good N made L) (t : Int) : upto L t made = leaveK L t := by
  unfold upto
  have : (L.filter fun p => decide (p.1 ≤ made)) = L := by
    rw [List.filter_eq_self]; intro q hq; have := g.key q hq; simp; omega
  rw [this]
theorem upto_le (L : Mx) (t i : Int) : (upto L t i).length ≤ L.length := by
  unfold upto
  exact Nat.le_trans (leaveK_le _ _) (List.length_filter_le _ _)

end Go.Proofs.Ytnenehdecbbfcaa
