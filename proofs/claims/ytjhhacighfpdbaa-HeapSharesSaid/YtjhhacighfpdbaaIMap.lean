/- Maps with int keys, read as sorted lists of pairs: what has, atKey, put, del and size of such a datum are. No program in sight. -/
import Derived.Maps.OwnSet
import Derived.Sort.KeysCollected
namespace Go.Proofs.Ytjhhacighfpdbaa
open Go.RowKit Go.Maps

/-- An element read as itself. -/
def rawE (v : Value) : Option (DataW Value × List MemPlace) := some (.held v, [])

section
variable {α : Type}
/-- The datum of a list of pairs. -/
def mdat (enc : α → Value) (L : List (Int × α)) : DataW Value := .map (L.map fun p => (.int .i64 p.1, .held (enc p.2)))
/-- What a key has. -/
def mget : List (Int × α) → Int → Option α
  | [], _ => none
  | p :: r, k => if p.1 = k then some p.2 else mget r k
/-- Without a key. -/
def mrem (k : Int) (L : List (Int × α)) : List (Int × α) := L.filter fun p => !decide (p.1 = k)
/-- A pair put ahead of the first greater key. -/
def minsert (x : Int × α) : List (Int × α) → List (Int × α)
  | [] => [x]
  | y :: r => if x.1 < y.1 then x :: y :: r else y :: minsert x r
/-- A key's value set. -/
def mput (k : Int) (v : α) (L : List (Int × α)) : List (Int × α) := minsert (k, v) (mrem k L)
def msorted (L : List (Int × α)) : Prop := L.Pairwise fun p q => p.1 < q.1

theorem same_int (a b : Int) : (Lit.int .i64 a).sameKey (.int .i64 b) = decide (a = b) := by simp [Lit.sameKey]

theorem mdat_has (enc : α → Value) (k : Int) : ∀ L : List (Int × α), Maps.has (mdat enc L) (.int .i64 k) = (mget L k).isSome
  | [] => by simp [mdat, Maps.has, mget]
  | p :: r => by
    have ih := mdat_has enc k r
    simp only [mdat, Maps.has, List.map_cons, List.any_cons, mget, same_int] at ih ⊢
    by_cases h : p.1 = k
    · simp [h]
    · simp only [h, decide_false, Bool.false_or, if_false]; exact ih

theorem mdat_at (enc : α → Value) (k : Int) (z : Value) : ∀ L : List (Int × α), (mdat enc L).atKey (.int .i64 k) (.held z) = .held (match mget L k with | some v => enc v | none => z)
  | [] => by simp [mdat, DataW.atKey, mget]
  | p :: r => by
    have ih := mdat_at enc k z r
    simp only [mdat, DataW.atKey, List.map_cons, List.find?_cons, mget, same_int] at ih ⊢
    by_cases h : p.1 = k
    · simp [h]
    · simp only [h, decide_false, if_false]; exact ih

theorem mdat_del (enc : α → Value) (k : Int) (L : List (Int × α)) : (mdat enc L).del (.int .i64 k) = mdat enc (mrem k L) := by
  simp only [mdat, DataW.del, mrem, List.filter_map]
  congr 2
  apply List.filter_congr
  intro p _
  simp [same_int]

theorem minsert_map (enc : α → Value) (x : Int × α) : ∀ L : List (Int × α),
    DataW.insert (Lit.int .i64 x.1, DataW.held (enc x.2)) (L.map fun p => (Lit.int .i64 p.1, DataW.held (enc p.2))) = (minsert x L).map fun p => (Lit.int .i64 p.1, DataW.held (enc p.2))
  | [] => rfl
  | y :: r => by
    have ih := minsert_map enc x r
    simp only [List.map_cons, DataW.insert, minsert, Lit.before, decide_eq_true_eq]
    split
    · rfl
    · rw [ih]; rfl

theorem mdat_put (enc : α → Value) (k : Int) (v : α) (L : List (Int × α)) : (mdat enc L).put (.int .i64 k) (.held (enc v)) = mdat enc (mput k v L) := by
  have h := mdat_del enc k L
  simp only [mdat, DataW.del, DataW.map.injEq] at h
  simp only [mdat, DataW.put]
  rw [h, mput, ← minsert_map enc (k, v)]

theorem mdat_size (enc : α → Value) (L : List (Int × α)) : Maps.size (mdat enc L) = L.length := by simp [mdat, Maps.size]

theorem mget_mem {k : Int} {v : α} : ∀ {L : List (Int × α)}, mget L k = some v → (k, v) ∈ L
  | [], h => by simp [mget] at h
  | p :: r, h => by
    unfold mget at h
    split at h
    · rename_i e; cases h; subst e; exact List.mem_cons_self
    · exact List.mem_cons_of_mem _ (mget_mem h)

theorem mget_none {k : Int} : ∀ {L : List (Int × α)}, mget L k = none → ∀ p ∈ L, p.1 ≠ k
  | [], _, p, hp => by simp at hp
  | q :: r, h, p, hp => by
    unfold mget at h
    split at h
    · cases h
    · rename_i e
      rcases List.mem_cons.1 hp with rfl | hp
      · exact e
      · exact mget_none h p hp

theorem mget_of_not {k : Int} : ∀ {L : List (Int × α)}, (∀ p ∈ L, p.1 ≠ k) → mget L k = none
  | [], _ => rfl
  | q :: r, h => by
    unfold mget
    rw [if_neg (h q List.mem_cons_self)]
    exact mget_of_not fun p hp => h p (List.mem_cons_of_mem _ hp)

theorem mget_of_mem {k : Int} {v : α} : ∀ {L : List (Int × α)}, msorted L → (k, v) ∈ L → mget L k = some v
  | [], _, h => by simp at h
  | q :: r, hs, h => by
    unfold mget
    rcases List.mem_cons.1 h with e | h
    · subst e; simp
    · have := (List.pairwise_cons.1 hs).1 _ h
      rw [if_neg (by simp at this; omega)]
      exact mget_of_mem (List.pairwise_cons.1 hs).2 h

theorem mem_minsert {x y : Int × α} : ∀ {L : List (Int × α)}, y ∈ minsert x L ↔ y = x ∨ y ∈ L
  | [] => by simp [minsert]
  | q :: r => by
    have ih := mem_minsert (x := x) (y := y) (L := r)
    unfold minsert
    split
    · simp
    · simp only [List.mem_cons, ih]
      constructor
      · rintro (h | h | h) <;> simp [h]
      · rintro (h | h | h) <;> simp [h]

theorem length_minsert (x : Int × α) : ∀ L : List (Int × α), (minsert x L).length = L.length + 1
  | [] => rfl
  | q :: r => by
    unfold minsert
    split
    · rfl
    · simp [length_minsert x r]

theorem msorted_minsert {x : Int × α} : ∀ {L : List (Int × α)}, msorted L → (∀ p ∈ L, p.1 ≠ x.1) → msorted (minsert x L)
  | [], _, _ => by simp [minsert, msorted]
  | q :: r, hs, hne => by
    have hp := List.pairwise_cons.1 hs
    unfold minsert
    split
    · rename_i h
      refine List.pairwise_cons.2 ⟨fun p hpm => ?_, hs⟩
      rcases List.mem_cons.1 hpm with rfl | hpm
      · exact h
      · have := hp.1 p hpm; omega
    · rename_i h
      refine List.pairwise_cons.2 ⟨fun p hpm => ?_, msorted_minsert hp.2 fun p hpm => hne p (List.mem_cons_of_mem _ hpm)⟩
      rcases mem_minsert.1 hpm with rfl | hpm
      · have := hne q List.mem_cons_self; omega
      · exact hp.1 p hpm

theorem msorted_mrem {k : Int} {L : List (Int × α)} (h : msorted L) : msorted (mrem k L) := List.Pairwise.filter _ h

theorem mem_mrem {k : Int} {L : List (Int × α)} {p : Int × α} : p ∈ mrem k L ↔ p ∈ L ∧ p.1 ≠ k := by simp [mrem]

theorem msorted_mput {k : Int} {v : α} {L : List (Int × α)} (h : msorted L) : msorted (mput k v L) :=
  msorted_minsert (msorted_mrem h) fun _ hp => (mem_mrem.1 hp).2

theorem mem_mput {k : Int} {v : α} {L : List (Int × α)} {p : Int × α} : p ∈ mput k v L ↔ p = (k, v) ∨ (p ∈ L ∧ p.1 ≠ k) := by
  unfold mput
  rw [mem_minsert, mem_mrem]

theorem mget_mrem_same {k : Int} {L : List (Int × α)} : mget (mrem k L) k = none := mget_of_not fun _ hp => (mem_mrem.1 hp).2

theorem mget_mrem_other {k j : Int} (hne : j ≠ k) : ∀ {L : List (Int × α)}, mget (mrem k L) j = mget L j
  | [] => rfl
  | q :: r => by
    have ih := mget_mrem_other hne (L := r)
    unfold mrem at ih ⊢
    rw [List.filter_cons]
    by_cases h : q.1 = k
    · simp only [h, decide_true, Bool.not_true, Bool.false_eq_true, if_false]
      rw [ih]
      conv => rhs; unfold mget
      rw [if_neg (by omega)]
    · simp only [h, decide_false, Bool.not_false, if_true]
      unfold mget
      rw [ih]

theorem mget_minsert_other {x : Int × α} {j : Int} (hne : x.1 ≠ j) : ∀ {L : List (Int × α)}, mget (minsert x L) j = mget L j
  | [] => by simp [minsert, mget, hne]
  | q :: r => by
    have ih := mget_minsert_other hne (L := r)
    unfold minsert
    split
    · conv => lhs; unfold mget
      rw [if_neg hne]
    · unfold mget
      rw [ih]

theorem mget_mput_other {k j : Int} {v : α} {L : List (Int × α)} (hne : j ≠ k) : mget (mput k v L) j = mget L j := by
  unfold mput
  rw [mget_minsert_other (by exact fun e => hne e.symm), mget_mrem_other hne]

theorem mget_mput_same {k : Int} {v : α} {L : List (Int × α)} (hs : msorted L) : mget (mput k v L) k = some v :=
  mget_of_mem (msorted_mput hs) (mem_mput.2 (.inl rfl))

theorem mrem_of_none {k : Int} {L : List (Int × α)} (h : mget L k = none) : mrem k L = L := by
  unfold mrem
  rw [List.filter_eq_self]
  intro p hp
  simp [mget_none h p hp]

theorem length_mrem {k : Int} {v : α} : ∀ {L : List (Int × α)}, msorted L → mget L k = some v → (mrem k L).length + 1 = L.length
  | [], _, h => by simp [mget] at h
  | q :: r, hs, h => by
    have hp := List.pairwise_cons.1 hs
    unfold mget at h
    by_cases e : q.1 = k
    · have : mrem k (q :: r) = r := by
        unfold mrem
        rw [List.filter_cons]
        simp only [e, decide_true, Bool.not_true, Bool.false_eq_true, if_false]
        rw [List.filter_eq_self]
        intro p hpm
        have := hp.1 p hpm
        simp; omega
      rw [this]; simp
    · rw [if_neg e] at h
      have ih := length_mrem hp.2 h
      unfold mrem at ih ⊢
      rw [List.filter_cons]
      simp only [e, decide_false, Bool.not_false, if_true, List.length_cons]
      omega

theorem length_mput_new {k : Int} {v : α} {L : List (Int × α)} (h : mget L k = none) : (mput k v L).length = L.length + 1 := by
  unfold mput
  rw [length_minsert, mrem_of_none h]

theorem length_mput_old {k : Int} {v u : α} {L : List (Int × α)} (hs : msorted L) (h : mget L k = some u) : (mput k v L).length = L.length := by
  unfold mput
  rw [length_minsert, length_mrem hs h]

theorem minsert_last {x : Int × α} : ∀ {L : List (Int × α)}, (∀ p ∈ L, p.1 < x.1) → minsert x L = L ++ [x]
  | [], _ => rfl
  | q :: r, h => by
    unfold minsert
    rw [if_neg (by have := h q List.mem_cons_self; omega), minsert_last fun p hp => h p (List.mem_cons_of_mem _ hp)]
    rfl

theorem mput_last {k : Int} {v : α} {L : List (Int × α)} (h : ∀ p ∈ L, p.1 < k) : mput k v L = L ++ [(k, v)] := by
  unfold mput
  rw [mrem_of_none (mget_of_not fun p hp => by have := h p hp; omega)]
  exact minsert_last h

/-- A key's value set in its place. -/
def mset (k : Int) (v : α) (L : List (Int × α)) : List (Int × α) := L.map fun p => if p.1 = k then (k, v) else p

theorem mput_old {k : Int} {v : α} : ∀ {L : List (Int × α)}, msorted L → (mget L k).isSome → mput k v L = mset k v L
  | [], _, h => by simp [mget] at h
  | q :: r, hs, h => by
    have hp := List.pairwise_cons.1 hs
    unfold mget at h
    by_cases e : q.1 = k
    · have e1 : mrem k (q :: r) = r := by
        unfold mrem
        rw [List.filter_cons]
        simp only [e, decide_true, Bool.not_true, Bool.false_eq_true, if_false]
        rw [List.filter_eq_self]
        intro p hpm
        have := hp.1 p hpm
        simp; omega
      have e2 : mset k v r = r := by
        unfold mset
        conv => rhs; rw [← List.map_id r]
        apply List.map_congr_left
        intro p hpm
        have := hp.1 p hpm
        rw [if_neg (by omega)]; rfl
      unfold mput
      rw [e1]
      show minsert (k, v) r = mset k v (q :: r)
      have e3 : mset k v (q :: r) = (k, v) :: mset k v r := by simp [mset, e]
      rw [e3, e2]
      cases r with
      | nil => rfl
      | cons y s =>
        unfold minsert
        have := hp.1 y List.mem_cons_self
        rw [if_pos (by show k < y.1; omega)]
    · rw [if_neg e] at h
      have ih := mput_old (v := v) hp.2 h
      obtain ⟨u, hu⟩ := Option.isSome_iff_exists.1 h
      have hlt := hp.1 _ (mget_mem hu)
      have e1 : mrem k (q :: r) = q :: mrem k r := by
        unfold mrem
        rw [List.filter_cons]
        simp [e]
      have e3 : mset k v (q :: r) = q :: mset k v r := by simp [mset, e]
      unfold mput at ih ⊢
      rw [e1, e3]
      conv => lhs; unfold minsert
      simp only at hlt
      rw [if_neg (by show ¬ k < q.1; omega), ih]

end
end Go.Proofs.Ytjhhacighfpdbaa
