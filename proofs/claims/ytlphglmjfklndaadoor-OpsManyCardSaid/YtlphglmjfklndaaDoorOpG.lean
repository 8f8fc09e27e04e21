/- All: the operators in their order. -/
import Derived.Test.YtlphglmjfklndaaDoorOpF
import Derived.Sort.OwnSorted
namespace Go.Proofs.YtlphglmjfklndaaDoor
set_option linter.unusedVariables false
open Go.RowKit Go.Sort Go.Proofs.YtlphglmjfklndaaDoorW.PrintWords Go.Proofs.YtlphglmjfklndaaDoorW.PrintLast Go.Proofs.YtlphglmjfklndaaDoorW.PrintMore Go.Proofs.YtlphglmjfklndaaDoor.POpsApart Go.Extern

instance : Inhabited S27 := ⟨z27⟩

section
variable {α : Type} (enc : α → List Value) (sz : Nat) (hsz : ∀ x, (enc x).length = sz)
include hsz
theorem flat_len : ∀ xs : List α, (xs.flatMap enc).length = xs.length * sz
  | [] => by simp
  | a :: r => by rw [List.flatMap_cons, List.length_append, hsz, flat_len r, List.length_cons, Nat.succ_mul, Nat.add_comm]
theorem flat_get : ∀ (xs : List α) (i j : Nat) (hi : i < xs.length), j < sz → (xs.flatMap enc)[i * sz + j]? = (enc xs[i])[j]?
  | a :: r, 0, j, hi, hj => by rw [List.flatMap_cons, List.getElem?_append_left (by rw [hsz]; omega)]; simp
  | a :: r, i + 1, j, hi, hj => by
    rw [List.flatMap_cons, List.getElem?_append_right (by rw [hsz, Nat.succ_mul]; omega), hsz, Nat.succ_mul, show i * sz + sz + j - sz = i * sz + j by omega, flat_get r i j (by simpa using hi) hj]
    simp
end

/-- Three comparisons in a row that go together. -/
structure Tri (p q r : Int) : Prop where
  le : p ≤ 0 → q ≤ 0 → r ≤ 0
  ge : 0 ≤ p → 0 ≤ q → 0 ≤ r
  st : p ≤ 0 → q ≤ 0 → r = 0 → p = 0 ∧ q = 0
  ts : 0 ≤ p → 0 ≤ q → r = 0 → p = 0 ∧ q = 0

theorem Tri.lex {p q r x y z : Int} (h : Tri p q r) (k : p = 0 → q = 0 → r = 0 → Tri x y z) : Tri (if p ≠ 0 then p else x) (if q ≠ 0 then q else y) (if r ≠ 0 then r else z) := by
  by_cases hp : p = 0
  · by_cases hq : q = 0
    · have hr : r = 0 := by have := h.le (by omega) (by omega); have := h.ge (by omega) (by omega); omega
      simp only [hp, hq, hr, ne_eq, not_true_eq_false, if_false]
      exact k hp hq hr
    · have hr : r ≠ 0 := fun e => by
        rcases Int.le_total q 0 with c | c
        · exact hq (h.st (by omega) c e).2
        · exact hq (h.ts (by omega) c e).2
      simp only [hp, ne_eq, not_true_eq_false, if_false, hq, not_false_eq_true, if_true, hr]
      have h1 := h.le; have h2 := h.ge
      refine ⟨fun _ b => h1 (by omega) b, fun _ b => h2 (by omega) b, fun _ _ e => absurd e hr, fun _ _ e => absurd e hr⟩
  · by_cases hq : q = 0
    · have hr : r ≠ 0 := fun e => by
        rcases Int.le_total p 0 with c | c
        · exact hp (h.st c (by omega) e).1
        · exact hp (h.ts c (by omega) e).1
      simp only [hp, ne_eq, not_true_eq_false, if_false, hq, not_false_eq_true, if_true, hr]
      have h1 := h.le; have h2 := h.ge
      refine ⟨fun a _ => h1 a (by omega), fun a _ => h2 a (by omega), fun _ _ e => absurd e hr, fun _ _ e => absurd e hr⟩
    · simp only [hp, ne_eq, hq, not_false_eq_true, if_true]
      by_cases hr : r = 0
      · simp only [hr, not_true_eq_false, if_false]
        have h1 := h.st; have h2 := h.ts
        refine ⟨fun a b => absurd (h1 a b hr).1 hp, fun a b => absurd (h2 a b hr).1 hp, fun a b _ => absurd (h1 a b hr).1 hp, fun a b _ => absurd (h2 a b hr).1 hp⟩
      · simp only [hr, not_false_eq_true, if_true]; exact h

theorem tri_cmpI (a b c : Int) : Tri (cmpI a b) (cmpI b c) (cmpI a c) := by
  unfold cmpI
  constructor <;> (repeat' split) <;> omega
theorem cmpI_anti (a b : Int) : cmpI a b = -cmpI b a := by unfold cmpI; (repeat' split) <;> omega
theorem cmpI_refl (a : Int) : cmpI a a = 0 := by unfold cmpI; (repeat' split) <;> omega
theorem cmpI_zero {a b : Int} (h : cmpI a b = 0) : a = b := by unfold cmpI at h; repeat' split at h <;> omega
theorem compare_cons (a b : UInt8) (l m : List UInt8) : Lib.compareBytes (a :: l) (b :: m) = if cmpI a.toNat b.toNat ≠ 0 then cmpI a.toNat b.toNat else Lib.compareBytes l m := by
  rw [Lib.compareBytes]
  unfold cmpI
  simp only [UInt8.lt_iff_toNat_lt]
  by_cases h1 : a.toNat < b.toNat
  · rw [if_pos h1, if_pos (by omega : (a.toNat : Int) < b.toNat)]; rfl
  · rw [if_neg h1, if_neg (by omega : ¬(a.toNat : Int) < b.toNat)]
    by_cases h2 : b.toNat < a.toNat
    · rw [if_pos h2, if_pos (by omega : (a.toNat : Int) > b.toNat)]; rfl
    · rw [if_neg h2, if_neg (by omega : ¬(a.toNat : Int) > b.toNat)]; rfl
theorem tri_bytes : ∀ l m n : List UInt8, Tri (Lib.compareBytes l m) (Lib.compareBytes m n) (Lib.compareBytes l n)
  | [], [], [] => by constructor <;> simp [Lib.compareBytes]
  | [], [], _ :: _ => by constructor <;> simp [Lib.compareBytes]
  | [], _ :: _, [] => by constructor <;> simp [Lib.compareBytes]
  | [], a :: l, b :: m => by constructor <;> simp [Lib.compareBytes]
  | _ :: _, [], [] => by constructor <;> simp [Lib.compareBytes]
  | _ :: _, [], _ :: _ => by constructor <;> simp [Lib.compareBytes]
  | a :: l, b :: m, [] => by constructor <;> simp [Lib.compareBytes]
  | a :: l, b :: m, c :: n => by
    rw [compare_cons, compare_cons, compare_cons]
    exact (tri_cmpI _ _ _).lex (fun _ _ _ => tri_bytes l m n)
theorem bytes_anti : ∀ l m : List UInt8, Lib.compareBytes l m = -Lib.compareBytes m l
  | [], [] => by simp [Lib.compareBytes]
  | [], _ :: _ => by simp [Lib.compareBytes]
  | _ :: _, [] => by simp [Lib.compareBytes]
  | a :: l, b :: m => by
    rw [compare_cons, compare_cons, cmpI_anti a.toNat b.toNat, bytes_anti l m]
    by_cases h : cmpI b.toNat a.toNat = 0
    · simp [h]
    · simp [h]
theorem bytes_zero : ∀ l m : List UInt8, Lib.compareBytes l m = 0 → l = m
  | [], [], _ => rfl
  | [], _ :: _, h => by simp [Lib.compareBytes] at h
  | _ :: _, [], h => by simp [Lib.compareBytes] at h
  | a :: l, b :: m, h => by
    rw [compare_cons] at h
    by_cases h0 : cmpI a.toNat b.toNat = 0
    · rw [if_neg (by simpa using h0)] at h
      have h1 := cmpI_zero h0
      rw [bytes_zero l m h, (UInt8.toNat_inj.1 (by omega) : a = b)]
    · rw [if_pos h0] at h; exact absurd h h0
theorem bytes_refl : ∀ l : List UInt8, Lib.compareBytes l l = 0
  | [] => by simp [Lib.compareBytes]
  | a :: l => by rw [compare_cons, cmpI_refl]; exact bytes_refl l
theorem tri_S (a b c : ByteArray) : Tri (cmpS a b) (cmpS b c) (cmpS a c) := tri_bytes _ _ _
theorem cmpS_anti (a b : ByteArray) : cmpS a b = -cmpS b a := bytes_anti _ _
theorem cmpS_refl (a : ByteArray) : cmpS a a = 0 := bytes_refl _
theorem cmpS_zero {a b : ByteArray} (h : cmpS a b = 0) : a = b := by
  have := bytes_zero _ _ h
  cases a; cases b; simp at this; subst this; rfl


/-! ### The order of operators -/
theorem cmpO_eq (a b : S27) : cmpO a b = if cmpS a.f0 b.f0 ≠ 0 then cmpS a.f0 b.f0 else cmpI (clsO a) (clsO b) := by
  unfold cmpO
  by_cases h : cmpS a.f0 b.f0 = 0 <;> simp [h]
theorem cmpO_tri (a b c : S27) : Tri (cmpO a b) (cmpO b c) (cmpO a c) := by
  rw [cmpO_eq, cmpO_eq, cmpO_eq]
  exact (tri_S _ _ _).lex (fun _ _ _ => tri_cmpI _ _ _)
theorem cmpO_anti (a b : S27) : cmpO a b = -cmpO b a := by
  unfold cmpO
  rw [cmpS_anti a.f0, cmpI_anti (clsO a)]
  by_cases h : cmpS b.f0 a.f0 = 0 <;> simp [h]
theorem cmpO_refl (a : S27) : cmpO a a = 0 := by unfold cmpO; rw [cmpS_refl, if_pos rfl, cmpI_refl]
theorem cmpO_zero {a b : S27} (h : cmpO a b = 0) : keyO a = keyO b := by
  unfold cmpO at h
  by_cases h0 : cmpS a.f0 b.f0 = 0
  · rw [if_pos h0] at h
    have h1 := cmpS_zero h0
    have h2 := cmpI_zero h
    unfold keyO
    rw [h1]
    unfold clsO at h2
    congr 1
    revert h2
    cases aftT a.f1 <;> cases aftT b.f1 <;> simp
  · rw [if_neg h0] at h; exact absurd h h0
theorem cmpO_swo : SWO (ltOf cmpO) := by
  refine ⟨fun x => by simp [ltOf, cmpO_refl], fun x y z h1 h2 => ?_, fun x y z h1 h2 => ?_⟩
  · simp only [ltOf, decide_eq_true_eq] at h1 h2 ⊢
    have t := cmpO_tri x y z
    have h3 := t.le (by omega) (by omega)
    rcases Int.lt_or_eq_of_le h3 with h | h
    · exact h
    · have := (t.st (by omega) (by omega) h).1; omega
  · simp only [ltOf, decide_eq_false_iff_not, Int.not_lt] at h1 h2 ⊢
    exact (cmpO_tri x y z).ge h1 h2

/-- In order, with no two of one key. -/
def Ord (ys : List S27) : Prop := ys.Pairwise fun a b => cmpO a b < 0
theorem Ord.perm_eq : ∀ {xs ys : List S27}, Ord xs → Ord ys → xs.Perm ys → xs = ys
  | [], ys, _, _, h => (List.Perm.nil_eq h)
  | a :: r, [], _, _, h => by have := h.length_eq; simp at this
  | a :: r, b :: s, h1, h2, h => by
    obtain ⟨p1, p2⟩ := List.pairwise_cons.1 h1
    obtain ⟨q1, q2⟩ := List.pairwise_cons.1 h2
    have e : a = b := by
      rcases List.mem_cons.1 (h.mem_iff.1 (List.mem_cons_self (a := a) (l := r))) with e | hm
      · exact e
      · rcases List.mem_cons.1 (h.mem_iff.2 (List.mem_cons_self (a := b) (l := s))) with e | hm2
        · exact e.symm
        · have x1 := q1 a hm
          have x2 := p1 b hm2
          rw [cmpO_anti] at x1
          omega
    subst e
    rw [Ord.perm_eq p2 q2 (List.Perm.cons_inv h)]

/-! ### Sorting a row of one's own -/
theorem flatK_toList (d : Array S27) : (flatK opc 3 d).toList = d.toList.flatMap opc := by
  have hsz : ∀ x : S27, (opc x).length = 3 := fun _ => rfl
  refine List.ext_getElem? fun t => ?_
  by_cases ht : t < d.size * 3
  · have hq : t / 3 < d.size := by omega
    have hr : t % 3 < 3 := Nat.mod_lt _ (by omega)
    have htq : t = t / 3 * 3 + t % 3 := by omega
    rw [Array.getElem?_toList, Array.getElem?_eq_getElem (by simpa using ht), ← getElem!_pos _ t (by simpa using ht), get_flatK opc 3 d t ht]
    conv => rhs; rw [htq]
    rw [flat_get opc 3 hsz d.toList (t / 3) (t % 3) (by simpa using hq) hr, Array.getElem_toList, ← getElem!_pos d (t / 3) hq, List.getElem?_eq_getElem (by rw [hsz]; exact hr), getElem!_pos (opc d[t / 3]!) (t % 3) (by rw [hsz]; exact hr)]
  · rw [List.getElem?_eq_none (by simp; omega), List.getElem?_eq_none (by rw [flat_len opc 3 hsz]; simp; omega)]

theorem take_putCellsK (cur : Array Value) (d : Array S27) (h : d.size * 3 ≤ cur.size) : (putCells id 0 (flatK opc 3 d) cur).toList.take (d.size * 3) = d.toList.flatMap opc := by
  rw [← flatK_toList]
  refine List.ext_getElem? fun j => ?_
  by_cases hj : j < d.size * 3
  · rw [List.getElem?_take_of_lt hj, Array.getElem?_toList, Array.getElem?_toList]
    simp [putCells, hj, show j < cur.size by omega]
  · rw [List.getElem?_take_eq_none (by omega), List.getElem?_eq_none (by simp; omega)]

theorem heap_sortedK {w : World} {g n : Nat} {os : Array Obj} {cur : Array Value} {e : TypeId} {fr : Nat × Nat} (d : Array S27) (hb : w.heap[g]? = some (.cells cur e fr)) :
    (sortWorldK opc 3 w g 0 n d os).heap[g]? = some (.cells (putCells id 0 (flatK opc 3 d) cur) e fr) := by
  have hg : g < w.heap.size := (Array.getElem?_eq_some_iff.1 hb).1
  unfold sortWorldK
  rw [heap_grow_old _ _ (by rw [size_putRowK]; exact hg)]
  simp [putRowK, putRow, mapBlock, Sort.ahead, Array.getElem?_modify, hb, onCells]
theorem heap_sortedK_other {w : World} {g n k : Nat} {os : Array Obj} (d : Array S27) (hk : k < w.heap.size) (hne : k ≠ g) : (sortWorldK opc 3 w g 0 n d os).heap[k]? = w.heap[k]? := by
  unfold sortWorldK
  rw [heap_grow_old _ _ (by rw [size_putRowK]; exact hk)]
  simp [putRowK, putRow, mapBlock, Sort.ahead, Array.getElem?_modify, Ne.symm hne]
theorem below_sortedK {w : World} {g n base : Nat} {os : Array Obj} (d : Array S27) (hg : base ≤ g) (hb : base ≤ w.heap.size) : Below base w (sortWorldK opc 3 w g 0 n d os) :=
  ⟨rfl, rfl, rfl, by unfold sortWorldK; rw [size_grow, size_putRowK]; exact Nat.le_add_right _ _, fun k hk => heap_sortedK_other d (by omega) (by omega)⟩

theorem holds_row {w : World} {base g cap : Nat} {xs : List S27} (h : w.ownsRow base 27 3 (.slice (some ⟨g, 0, none⟩) xs.length cap) xs.length (xs.flatMap opc)) : HoldsK opc 3 w g 0 xs.toArray := by
  have hg : ∃ cur, w.heap[g]? = some (.cells cur 27 (0, 0)) := by
    rcases h.2 with ⟨h0, _⟩ | ⟨g', cap', cur, hv, _, hb, _⟩
    · cases h0
    · cases hv; exact ⟨cur, hb⟩
  obtain ⟨cur, hb⟩ := hg
  intro j hj
  have hj' : j < xs.length * 3 := by simpa using hj
  refine ⟨?_, by simp [World.frozen?, hb]⟩
  rw [Nat.zero_add, World.ownsRow.cellAt h j (by omega)]
  have e := congrArg (fun l => l[j]?) (flatK_toList xs.toArray)
  simp only at e
  rw [← e, Array.getElem?_toList, Array.getElem?_eq_getElem hj, ← getElem!_pos _ j hj]
  rfl

theorem sort_any (w : World) (base g cap cp : Nat) (xs : List S27) (hT : xs.Pairwise fun a b => keyO a ≠ keyO b) (h : w.ownsRow base 27 3 (.slice (some ⟨g, 0, none⟩) xs.length cap) xs.length (xs.flatMap opc)) (hb : base ≤ w.heap.size)
    (hcp : w.heap[cp]? = some (.cells #[.func (.func 21) #[] #[]] 53 (0, 0))) (hl : xs.length < 1000000) :
    Calls Tryd.prog 32 #[.slice (some ⟨g, 0, none⟩) xs.length cap, .func (.func 24) #[] #[.pointer (some ⟨cp, 0, none⟩)]] w fun e w' =>
      e = .returned (.tuple #[]) ∧ ∃ ys, ys.Perm xs ∧ Ord ys ∧ w'.ownsRow base 27 3 (.slice (some ⟨g, 0, none⟩) xs.length cap) xs.length (ys.flatMap opc) ∧ Below base w w' := by
  obtain ⟨cur, hg, hbl, hn, hcap, hcs⟩ : ∃ cur, base ≤ g ∧ w.heap[g]? = some (.cells cur 27 (0, 0)) ∧ xs.length ≤ cap ∧ cap ≤ maxLen ∧ cur.size = cap * 3 := by
    rcases h.2 with ⟨h0, _⟩ | ⟨g', cap', cur, hv, h1, h2, h3, h4, h5, _⟩
    · cases h0
    · cases hv; exact ⟨cur, h1, h2, h3, h4, h5⟩
  have hne : cp ≠ g := fun e => by rw [e, hbl] at hcp; cases hcp
  have hcmp : CmpLays Tryd.prog 24 #[.pointer (some ⟨cp, 0, none⟩)] opc 3 cmpO g 0 xs.toArray.size w := fun m os dk hs x y =>
    cmp_at x y cp _ ((heap_sortedK_other dk (blk_lt hcp) hne).trans hcp)
  refine (AnyQ.slices_SortFunc Tryd.sortF 3 (fun w => by first | exact Tryd.isAgg27 | exact Tryd.isAgg27 w) (fun w => by first | exact Tryd.sizeOf27 | exact Tryd.sizeOf27 w) opc (fun _ => rfl) opc_one cmpO cmpO_swo 24 #[.pointer (some ⟨cp, 0, none⟩)] g 0 cap xs.toArray w
    (enters_of Tryd.func24 (by kernel_rfl) rfl) hcmp (holds_row h) (blk_lt hbl) (by simp; omega)).mono ?_
  rintro e w' ⟨rfl, d', n, os, hp, hs, rfl⟩
  have hsz : d'.size = xs.length := by simpa using hp.1
  have hperm : d'.toList.Perm xs := by
    have h3 := hp.2.2
    have e1 : (d'.extract 0 xs.toArray.size) = d' := by rw [List.size_toArray, ← hsz]; exact Array.extract_size
    have e2 : (xs.toArray.extract 0 xs.toArray.size) = xs.toArray := Array.extract_size
    rw [e1, e2] at h3
    exact h3
  refine ⟨rfl, d'.toList, hperm, ?_, ⟨?_, .inr ⟨g, cap, _, rfl, hg, heap_sortedK d' hbl, hn, hcap, by simp [putCells, hcs], ?_⟩⟩, below_sortedK d' hg hb⟩
  · unfold Ord
    have hd : d'.toList.Pairwise fun a b => keyO a ≠ keyO b := hperm.symm.pairwise hT (fun h => Ne.symm h)
    rw [List.pairwise_iff_getElem] at hd ⊢
    intro i j hi hj hij
    have h1 := hs i j (Nat.zero_le _) hij (by simpa [hsz] using hj)
    rw [getElem!_pos d' i (by simpa using hi), getElem!_pos d' j (by simpa using hj)] at h1
    simp only [ltOf, decide_eq_false_iff_not, Int.not_lt] at h1
    have h2 := hd i j hi hj hij
    simp only [Array.getElem_toList] at h2 ⊢
    have h3 : cmpO d'[i] d'[j] ≠ 0 := fun e => h2 (cmpO_zero e)
    rw [cmpO_anti] at h1
    omega
  · rw [flat_len opc 3 (fun _ => rfl), Array.length_toList, hsz]
  · rw [← hsz]
    exact take_putCellsK cur d' (by omega)

end Go.Proofs.YtlphglmjfklndaaDoor
