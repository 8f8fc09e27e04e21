/- What a call does to the locks, in plain words, and what is always true of them. -/
import Derived.Test.YtnenehdecbbfcaaLkE
namespace Go.Proofs.Ytnenehdecbbfcaa
open Go.RowKit Go.Maps

abbrev Mx := List (Int × (Int × Int))

/-- What is always true of the locks behind at most N calls. -/
structure Good (N : Nat) (made : Int) (L : Mx) : Prop where
  sorted : msorted L
  key : ∀ p ∈ L, 1 ≤ p.1 ∧ p.1 ≤ made
  cnt : ∀ p ∈ L, 0 ≤ p.2.2 ∧ p.2.2 ≤ N
  who : ∀ p ∈ L, (p.2.2 = 0 ∧ p.2.1 = 0) ∨ (0 < p.2.2 ∧ 1 ≤ p.2.1 ∧ I64 p.2.1)
  len : L.length ≤ 8
  made : 0 ≤ made ∧ made ≤ N

theorem Good.nil : Good 0 0 [] := ⟨List.Pairwise.nil, by simp, by simp, by simp, by simp, by simp⟩
theorem Good.mono {N N' : Nat} {made : Int} {L : Mx} (h : Good N made L) (hN : N ≤ N') : Good N' made L :=
  ⟨h.sorted, h.key, fun p hp => by have := h.cnt p hp; omega, h.who, h.len, by have := h.made; omega⟩

theorem own_cases (L : Mx) (m : Int) : (mget L m = none ∧ own L m = (0, 0)) ∨ ∃ o c, mget L m = some (o, c) ∧ own L m = (o, c) ∧ (m, (o, c)) ∈ L := by
  unfold own
  cases h : mget L m with
  | none => exact .inl ⟨rfl, rfl⟩
  | some v => exact .inr ⟨v.1, v.2, rfl, rfl, mget_mem h⟩

theorem Good.own {N : Nat} {made : Int} {L : Mx} (h : Good N made L) (m : Int) : 0 ≤ (own L m).2 ∧ (own L m).2 ≤ N := by
  rcases own_cases L m with ⟨_, e⟩ | ⟨o, c, _, e, hm⟩
  · rw [e]; simp
  · rw [e]; exact h.cnt _ hm

theorem Good.put {N : Nat} {made : Int} {L : Mx} (h : Good N made L) {m o c : Int} (hm : (mget L m).isSome) (hc : 0 ≤ c ∧ c ≤ (N : Int) + 1) (hw : (c = 0 ∧ o = 0) ∨ (0 < c ∧ 1 ≤ o ∧ I64 o)) : Good (N + 1) made (mput m (o, c) L) := by
  obtain ⟨u, hu⟩ := Option.isSome_iff_exists.1 hm
  have hk := h.key _ (mget_mem hu)
  refine ⟨msorted_mput h.sorted, ?_, ?_, ?_, ?_, by have := h.made; omega⟩
  · intro p hp
    rcases mem_mput.1 hp with rfl | ⟨hp, _⟩
    · exact hk
    · exact h.key p hp
  · intro p hp
    rcases mem_mput.1 hp with rfl | ⟨hp, _⟩
    · simp only; omega
    · have := h.cnt p hp; omega
  · intro p hp
    rcases mem_mput.1 hp with rfl | ⟨hp, _⟩
    · exact hw
    · exact h.who p hp
  · rw [length_mput_old h.sorted hu]; exact h.len

theorem Good.rem {N : Nat} {made : Int} {L : Mx} (h : Good N made L) (m : Int) : Good N made (mrem m L) :=
  ⟨msorted_mrem h.sorted, fun p hp => h.key p (mem_mrem.1 hp).1, fun p hp => h.cnt p (mem_mrem.1 hp).1, fun p hp => h.who p (mem_mrem.1 hp).1,
   Nat.le_trans (List.length_filter_le _ _) h.len, h.made⟩

theorem Good.new {N : Nat} {made : Int} {L : Mx} (h : Good N made L) (hl : ¬ 8 ≤ L.length) : Good (N + 1) (made + 1) (mput (made + 1) (0, 0) L) := by
  have hn : mget L (made + 1) = none := mget_of_not fun p hp => by have := h.key p hp; omega
  refine ⟨msorted_mput h.sorted, ?_, ?_, ?_, ?_, by have := h.made; omega⟩
  · intro p hp
    rcases mem_mput.1 hp with rfl | ⟨hp, _⟩
    · have := h.made; simp only; omega
    · have := h.key p hp; omega
  · intro p hp
    rcases mem_mput.1 hp with rfl | ⟨hp, _⟩
    · simp only; omega
    · have := h.cnt p hp; omega
  · intro p hp
    rcases mem_mput.1 hp with rfl | ⟨hp, _⟩
    · exact .inl ⟨rfl, rfl⟩
    · exact h.who p hp
  · rw [length_mput_new hn]; omega

theorem Good.leave {N : Nat} {made : Int} {L : Mx} (h : Good N made L) (t : Int) : Good N made (leaveL L t) := by
  refine ⟨leaveL_sorted h.sorted t, ?_, ?_, ?_, by simp only [leaveL, List.length_map]; exact h.len, h.made⟩
  all_goals
    intro p hp
    obtain ⟨q, hq, rfl⟩ := List.mem_map.1 hp
  · rw [lv_fst]; exact h.key q hq
  · have := h.cnt q hq
    unfold lv; split
    · simp only; omega
    · exact this
  · have := h.who q hq
    unfold lv; split
    · exact .inl ⟨rfl, rfl⟩
    · exact this

theorem take_some {L : Mx} {m t : Int} (h : takeE L m t = 0) : (mget L m).isSome ∧ 1 ≤ t := by
  unfold takeE findE at h
  cases hg : (mget L m).isSome with
  | false => simp [hg] at h
  | true =>
    simp only [hg, if_true] at h
    by_cases ht : t < 1
    · simp [ht] at h
    · exact ⟨rfl, by omega⟩

theorem give_some {L : Mx} {m t : Int} (h : giveE L m t = 0) : (mget L m).isSome ∧ 1 ≤ t ∧ (own L m).1 = t := by
  unfold giveE findE at h
  cases hg : (mget L m).isSome with
  | false => simp [hg] at h
  | true =>
    simp only [hg, if_true] at h
    by_cases ht : t < 1
    · simp [ht] at h
    · simp only [ht, if_false, ne_eq, not_true] at h
      by_cases ho : (own L m).1 = t
      · exact ⟨rfl, by omega, ho⟩
      · simp [ho] at h

/-- What a call leaves: the numbers made, the mutexes. -/
def stepM (kind : Int) (made : Int) (L : Mx) : Int := if kind = 1 ∧ ¬ 8 ≤ L.length then made + 1 else made
def stepL (kind m t : Int) (made : Int) (L : Mx) : Mx :=
  if kind = 1 then (if 8 ≤ L.length then L else mput (made + 1) (0, 0) L)
  else if kind = 2 then dropL L m
  else if kind = 3 then takeL L m t
  else if kind = 4 then giveL L m t
  else if kind = 5 then leaveL L t
  else L

theorem Good.take {N : Nat} {made : Int} {L : Mx} (h : Good N made L) {m t : Int} (ht : I64 t) : Good (N + 1) made (takeL L m t) := by
  unfold takeL
  split
  · rename_i e
    obtain ⟨h1, h2⟩ := take_some e
    have := h.own m
    exact h.put h1 (by omega) (.inr ⟨by omega, h2, ht⟩)
  · exact h.mono (by omega)

theorem Good.give {N : Nat} {made : Int} {L : Mx} (h : Good N made L) {m t : Int} (ht : I64 t) : Good (N + 1) made (giveL L m t) := by
  unfold giveL
  split
  · rename_i e
    obtain ⟨h1, h2, h3⟩ := give_some e
    rcases own_cases L m with ⟨h4, h5⟩ | ⟨o, c, h4, h5, h6⟩
    · rw [h4] at h1; simp at h1
    · rw [h5] at h3
      have h7 := h.who _ h6
      have h8 := h.cnt _ h6
      simp only at h3 h7 h8
      rw [h5]
      have hc : 0 < c := by rcases h7 with h7 | h7 <;> omega
      by_cases h1c : c = 1
      · simp only [h1c, if_true]
        exact h.put h1 (by omega) (.inl ⟨rfl, rfl⟩)
      · simp only [h1c, if_false]
        exact h.put h1 (by omega) (.inr ⟨by omega, h2, ht⟩)
  · exact h.mono (by omega)

theorem Good.step {N : Nat} {made : Int} {L : Mx} (h : Good N made L) {kind m t : Int} (ht : I64 t) : Good (N + 1) (stepM kind made L) (stepL kind m t made L) := by
  unfold stepM stepL
  by_cases h1 : kind = 1
  · by_cases h8 : 8 ≤ L.length
    · rw [if_neg (fun hh => hh.2 h8), if_pos h1, if_pos h8]; exact h.mono (by omega)
    · rw [if_pos ⟨h1, h8⟩, if_pos h1, if_neg h8]; exact h.new h8
  · rw [if_neg (fun hh => h1 hh.1), if_neg h1]
    by_cases h2 : kind = 2
    · rw [if_pos h2]; unfold dropL; split
      · exact (h.rem m).mono (by omega)
      · exact h.mono (by omega)
    · rw [if_neg h2]
      by_cases h3 : kind = 3
      · rw [if_pos h3]; exact h.take ht
      · rw [if_neg h3]
        by_cases h4 : kind = 4
        · rw [if_pos h4]; exact h.give ht
        · rw [if_neg h4]
          by_cases h5 : kind = 5
          · rw [if_pos h5]; exact (h.leave t).mono (by omega)
          · rw [if_neg h5]; exact h.mono (by omega)

end Go.Proofs.Ytnenehdecbbfcaa
