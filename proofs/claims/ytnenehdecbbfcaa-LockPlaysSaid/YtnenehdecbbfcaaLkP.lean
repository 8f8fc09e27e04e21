/- Leave, in plain words: who leaves gives back mutex after mutex, in the order of their numbers. No program in sight. -/
import Derived.Test.YtnenehdecbbfcaaIMap
namespace Go.Proofs.Ytnenehdecbbfcaa

/-- A thread has it. -/
def mine (t : Int) (p : Int × (Int × Int)) : Bool := decide (p.2.2 > 0) && decide (p.2.1 = t)
/-- What becomes of a mutex where a thread leaves. -/
def lv (t : Int) (p : Int × (Int × Int)) : Int × (Int × Int) := if mine t p then (p.1, (0, 0)) else p
def leaveL (L : List (Int × (Int × Int))) (t : Int) : List (Int × (Int × Int)) := L.map (lv t)
def leaveK (L : List (Int × (Int × Int))) (t : Int) : List Int := (L.filter (mine t)).map (·.1)
/-- .. behind k of them. -/
def leaveLk (L : List (Int × (Int × Int))) (t : Int) (k : Nat) : List (Int × (Int × Int)) := (L.take k).map (lv t) ++ L.drop k

theorem lv_fst (t : Int) (p : Int × (Int × Int)) : (lv t p).1 = p.1 := by unfold lv; split <;> rfl

theorem leaveLk_zero (L : List (Int × (Int × Int))) (t : Int) : leaveLk L t 0 = L := by simp [leaveLk]
theorem leaveLk_all (L : List (Int × (Int × Int))) (t : Int) : leaveLk L t L.length = leaveL L t := by simp [leaveLk, leaveL]
theorem leaveLk_length (L : List (Int × (Int × Int))) (t : Int) (k : Nat) : (leaveLk L t k).length = L.length := by simp [leaveLk]; omega

theorem sorted_map {L L' : List (Int × (Int × Int))} (h : msorted L) (e : L'.map (·.1) = L.map (·.1)) : msorted L' := by
  have h1 : (L.map (·.1)).Pairwise (· < ·) := by rw [List.pairwise_map]; exact h
  rw [← e, List.pairwise_map] at h1
  exact h1

theorem leaveLk_fst (L : List (Int × (Int × Int))) (t : Int) (k : Nat) : (leaveLk L t k).map (·.1) = L.map (·.1) := by
  unfold leaveLk
  rw [List.map_append, List.map_map]
  have : (L.take k).map ((·.1) ∘ lv t) = (L.take k).map (·.1) := by
    apply List.map_congr_left
    intro p _
    exact lv_fst t p
  rw [this, ← List.map_append, List.take_append_drop]

theorem leaveL_fst (L : List (Int × (Int × Int))) (t : Int) : (leaveL L t).map (·.1) = L.map (·.1) := by rw [← leaveLk_all]; exact leaveLk_fst L t _
theorem leaveLk_sorted {L : List (Int × (Int × Int))} (h : msorted L) (t : Int) (k : Nat) : msorted (leaveLk L t k) := sorted_map h (leaveLk_fst L t k)
theorem leaveL_sorted {L : List (Int × (Int × Int))} (h : msorted L) (t : Int) : msorted (leaveL L t) := sorted_map h (leaveL_fst L t)

theorem drop_at {α : Type} {L : List α} {k : Nat} (hk : k < L.length) : L.drop k = L[k] :: L.drop (k + 1) := List.drop_eq_getElem_cons hk

theorem leaveLk_get {L : List (Int × (Int × Int))} (h : msorted L) (t : Int) {k : Nat} (hk : k < L.length) : mget (leaveLk L t k) L[k].1 = some L[k].2 := by
  apply mget_of_mem (leaveLk_sorted h t k)
  unfold leaveLk
  rw [drop_at hk]
  exact List.mem_append_right _ List.mem_cons_self

theorem leaveLk_succ {L : List (Int × (Int × Int))} (t : Int) {k : Nat} (hk : k < L.length) : leaveLk L t (k + 1) = (L.take k).map (lv t) ++ lv t L[k] :: L.drop (k + 1) := by
  unfold leaveLk
  rw [List.take_succ_eq_append_getElem hk, List.map_append, List.append_assoc]
  rfl

theorem leaveLk_keep {L : List (Int × (Int × Int))} {t : Int} {k : Nat} (hk : k < L.length) (hm : mine t L[k] = false) : leaveLk L t (k + 1) = leaveLk L t k := by
  rw [leaveLk_succ t hk]
  unfold leaveLk
  rw [drop_at hk]
  simp [lv, hm]

theorem leaveLk_put {L : List (Int × (Int × Int))} (h : msorted L) {t : Int} {k : Nat} (hk : k < L.length) (hm : mine t L[k] = true) : mput L[k].1 (0, 0) (leaveLk L t k) = leaveLk L t (k + 1) := by
  have hs := leaveLk_sorted h t k
  rw [mput_old hs (by rw [leaveLk_get h t hk]; rfl), leaveLk_succ t hk]
  have hne : ∀ p ∈ L, p ≠ L[k] → p.1 ≠ L[k].1 := by
    intro p hp hne e
    have h1 := mget_of_mem h (k := p.1) (v := p.2) hp
    have h2 := mget_of_mem h (k := L[k].1) (v := L[k].2) (List.getElem_mem hk)
    rw [e, h2] at h1
    exact hne (Prod.ext e (Option.some.inj h1).symm)
  have hpw : L.Pairwise (fun p q => p ≠ q) := List.Pairwise.imp (fun {a b} hab e => by subst e; simp at hab) h
  unfold leaveLk
  rw [drop_at hk]
  unfold mset
  rw [List.map_append, List.map_map, List.map_cons]
  have hsplit : L = L.take k ++ L[k] :: L.drop (k + 1) := by rw [← drop_at hk, List.take_append_drop]
  have hd : ∀ p ∈ L.take k, p ≠ L[k] := by
    intro p hp
    have h3 := hpw
    rw [hsplit] at h3
    exact (List.pairwise_append.1 h3).2.2 p hp _ List.mem_cons_self
  have hd2 : ∀ p ∈ L.drop (k + 1), p ≠ L[k] := by
    intro p hp
    have h3 := hpw
    rw [hsplit] at h3
    exact ((List.pairwise_cons.1 (List.pairwise_append.1 h3).2.1).1 p hp).symm
  congr 1
  · apply List.map_congr_left
    intro p hp
    have h5 := hne p (List.mem_of_mem_take hp) (hd p hp)
    show (if (lv t p).1 = L[k].1 then _ else lv t p) = lv t p
    rw [lv_fst, if_neg h5]
  · congr 1
    · simp [lv, hm]
    · conv => rhs; rw [← List.map_id (L.drop (k + 1))]
      apply List.map_congr_left
      intro p hp
      have h5 := hne p (List.mem_of_mem_drop hp) (hd2 p hp)
      rw [if_neg h5]; rfl

theorem leaveK_keep {L : List (Int × (Int × Int))} {t : Int} {k : Nat} (hk : k < L.length) (hm : mine t L[k] = false) : leaveK (L.take (k + 1)) t = leaveK (L.take k) t := by
  unfold leaveK
  rw [List.take_succ_eq_append_getElem hk, List.filter_append, List.map_append]
  simp only [List.filter_cons, List.filter_nil, hm]
  simp
theorem leaveK_put {L : List (Int × (Int × Int))} {t : Int} {k : Nat} (hk : k < L.length) (hm : mine t L[k] = true) : leaveK (L.take (k + 1)) t = leaveK (L.take k) t ++ [L[k].1] := by
  unfold leaveK
  rw [List.take_succ_eq_append_getElem hk, List.filter_append, List.map_append]
  simp only [List.filter_cons, List.filter_nil, hm]
  simp
theorem leaveK_le (L : List (Int × (Int × Int))) (t : Int) : (leaveK L t).length ≤ L.length := by
  unfold leaveK
  rw [List.length_map]
  exact List.length_filter_le _ _

end Go.Proofs.Ytnenehdecbbfcaa
