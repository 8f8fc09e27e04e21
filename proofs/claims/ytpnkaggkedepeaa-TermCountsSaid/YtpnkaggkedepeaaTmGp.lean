/- Terms in plain words. -/
import Derived.Test.YtpnkaggkedepeaaTmGe
import Derived.Test.YtpnkaggkedepeaaPTermTellsr11
import Derived.Lib.SmallJoins
import Derived.Deep.Slices
import Derived.Deep.Strs
import Derived.SizedLaws
import Derived.ChangeShapes
import Derived.OpenShut

/- Terms in plain words: size, depth, shape, what is put in. -/
namespace Go.Proofs.Ytpnkaggkedepeaa
set_option linter.unusedVariables false
open Go.RowKit Go.Maps Go.Proofs.YtpnkaggkedepeaaW.PrintWords Go.Proofs.YtpnkaggkedepeaaW.PrintLast Go.Proofs.YtpnkaggkedepeaaW.PrintMore Go.Proofs.Ytpnkaggkedepeaa.PTermTells Go.Extern

mutual
/-- A term's depth. -/
def dpt : S24 → Int
  | ⟨kd, nm, nt, xs⟩ => if kd = 4 then dptL xs + 1 else 1
def dptL : List S24 → Int
  | [] => 0
  | a :: r => max (dpt a) (dptL r)
end
theorem dptL_nil : dptL [] = 0 := by rw [dptL]
theorem dptL_cons (a : S24) (r : List S24) : dptL (a :: r) = max (dpt a) (dptL r) := by rw [dptL]
mutual
theorem dpt_pos : ∀ t : S24, 1 ≤ dpt t
  | ⟨kd, nm, nt, xs⟩ => by
    rw [dpt]
    split
    · have := dptL_pos xs; omega
    · omega
theorem dptL_pos : ∀ xs : List S24, 0 ≤ dptL xs
  | [] => by rw [dptL_nil]; omega
  | a :: r => by rw [dptL_cons]; have := dpt_pos a; omega
end
mutual
/-- Are a term's kinds, names, numbers and numbers of arguments right? -/
def shT : S24 → Bool
  | ⟨kd, nm, nt, xs⟩ => if kd = 1 then decide (nt ≥ 1) else if kd = 2 then true else if kd = 4 then decide (1 ≤ xs.length ∧ xs.length ≤ 8) && shL xs && decide ((nm.size : Int) ≤ 64) else if kd = 3 then decide ((nm.size : Int) ≤ 64) else false
def shL : List S24 → Bool
  | [] => true
  | a :: r => shT a && shL r
end
theorem shL_nil : shL [] = true := by rw [shL]
theorem shL_cons (a : S24) (r : List S24) : shL (a :: r) = (shT a && shL r) := by rw [shL]

theorem nodes_pos (t : S24) : 1 ≤ nodes t := by cases t; rw [nodes]; omega

mutual
theorem meas_spec : ∀ (t : S24) (deep s : Int), ((meas t deep s).2.1 = true ↔ shT t = true ∧ s + nodes t ≤ 2000 ∧ deep + dpt t ≤ 101) ∧ ((meas t deep s).2.1 = true → (meas t deep s).1 = dpt t)
  | ⟨kd, nm, nt, xs⟩, deep, s => by
    have hn := nodes_pos ⟨kd, nm, nt, xs⟩
    have hd := dpt_pos ⟨kd, nm, nt, xs⟩
    unfold meas
    by_cases h1 : s + 1 > 2000 ∨ deep > 100
    · rw [if_pos h1]
      refine ⟨⟨by simp, fun h => ?_⟩, by simp⟩
      have := h.2.1; have := h.2.2; omega
    rw [if_neg h1]
    unfold shT nodes dpt
    by_cases h2 : kd = 1
    · subst h2; simp; omega
    rw [if_neg h2, if_neg h2]
    by_cases h3 : kd = 2
    · subst h3; simp; omega
    rw [if_neg h3, if_neg h3]
    by_cases h4 : kd = 4
    · subst h4
      simp only [if_true]
      by_cases h5 : xs.length < 1 ∨ xs.length > 8
      · rw [if_pos h5]
        refine ⟨⟨by simp, fun h => ?_⟩, by simp⟩
        have := h.1; simp at this; omega
      rw [if_neg h5]
      have ih := measL_spec xs (deep + 1) 0 (s + 1) (by omega) (by omega) (by omega)
      have hp := dptL_pos xs
      by_cases h6 : (measL xs (deep + 1) 0 (s + 1)).2.1 = true
      · simp only [h6, if_true]
        have h7 := ih.1.1 h6
        have h8 := ih.2 h6
        refine ⟨?_, fun _ => by rw [h8]; omega⟩
        have e1 : decide (1 ≤ xs.length ∧ xs.length ≤ 8) = true := by simp; omega
        rw [e1, h7.1]
        have := h7.2.1; have := h7.2.2
        simp only [Bool.true_and, decide_eq_true_eq]
        push_cast
        constructor
        · intro h; exact ⟨h, by omega, by omega⟩
        · intro h; exact h.1
      · simp only [h6]
        refine ⟨⟨by simp, fun h => ?_⟩, by simp⟩
        exfalso
        apply h6
        rw [ih.1]
        have h9 := h.1
        simp only [Bool.and_eq_true] at h9
        refine ⟨h9.1.2, ?_, ?_⟩
        · have := h.2.1; push_cast at this; omega
        · have := h.2.2; omega
    rw [if_neg h4, if_neg h4]
    by_cases h5 : kd = 3
    · subst h5; simp; omega
    · simp [h5, h4]
theorem measL_spec : ∀ (xs : List S24) (deep d s : Int), s ≤ 2000 → deep ≤ 101 → 0 ≤ d → ((measL xs deep d s).2.1 = true ↔ shL xs = true ∧ s + nodesL xs ≤ 2000 ∧ deep + dptL xs ≤ 101) ∧ ((measL xs deep d s).2.1 = true → (measL xs deep d s).1 = max d (dptL xs))
  | [], deep, d, s, hs, hd, h0 => by
    rw [measL_nil, shL_nil, nodesL_nil, dptL_nil]
    exact ⟨⟨fun _ => ⟨rfl, by simpa using hs, by omega⟩, fun _ => rfl⟩, fun _ => by simp only; omega⟩
  | a :: r, deep, d, s, hs, hd, h0 => by
    have ha := meas_spec a deep s
    rw [measL_cons, shL_cons, nodesL_cons, dptL_cons]
    have hna := nodes_pos a
    have hda := dpt_pos a
    have hpr := dptL_pos r
    by_cases h6 : (meas a deep s).2.1 = true
    · rw [if_pos h6]
      have h7 := ha.1.1 h6
      have h8 := ha.2 h6
      have h9 := meas_nodes a deep s h6
      have ih := measL_spec r deep (max d (meas a deep s).1) (meas a deep s).2.2 (by omega) hd (by omega)
      refine ⟨?_, fun h => by rw [ih.2 h, h8]; omega⟩
      rw [ih.1, h7.1, h9]
      push_cast
      simp only [Bool.true_and]
      constructor
      · rintro ⟨x, y, z⟩; exact ⟨x, by omega, by omega⟩
      · rintro ⟨x, y, z⟩; exact ⟨x, by omega, by omega⟩
    · rw [if_neg h6]
      refine ⟨⟨by simp, fun h => ?_⟩, by simp⟩
      exfalso
      apply h6
      rw [ha.1]
      have h9 := h.1
      simp only [Bool.and_eq_true] at h9
      have := h.2.1; push_cast at this
      exact ⟨h9.1, by omega, by have := h.2.2; omega⟩
end

theorem okT_iff (t : S24) : okT t = true ↔ shT t = true ∧ nodes t ≤ 2000 ∧ dpt t ≤ 100 := by
  unfold okT
  rw [(meas_spec t 1 0).1]
  constructor
  · rintro ⟨a, b, c⟩; exact ⟨a, by omega, by omega⟩
  · rintro ⟨a, b, c⟩; exact ⟨a, by omega, by omega⟩
theorem depthT_ok {t : S24} (h : okT t = true) : depthT t = dpt t := by
  unfold depthT
  rw [if_pos h]
  exact (meas_spec t 1 0).2 h

mutual
/-- A term with what its kinds name alone, and with terms in its variables' places. -/
def subT (f : Int → Option S24) : S24 → S24
  | ⟨kd, nm, nt, xs⟩ => if kd = 1 then (match f nt with | some x => x | none => ⟨1, ⟨#[]⟩, nt, []⟩) else if kd = 4 then ⟨4, nm, 0, subL f xs⟩ else bareT ⟨kd, nm, nt, xs⟩
def subL (f : Int → Option S24) : List S24 → List S24
  | [] => []
  | a :: r => subT f a :: subL f r
end
theorem subL_nil (f : Int → Option S24) : subL f [] = [] := by rw [subL]
theorem subL_cons (f : Int → Option S24) (a : S24) (r : List S24) : subL f (a :: r) = subT f a :: subL f r := by rw [subL]
theorem subL_map (f : Int → Option S24) : ∀ xs, subL f xs = xs.map (subT f)
  | [] => by rw [subL_nil]; rfl
  | a :: r => by rw [subL_cons, subL_map f r]; rfl
/-- A term with what its kinds name alone. -/
def nrm (t : S24) : S24 := subT (fun _ => none) t
theorem bareT_kd (t : S24) : (bareT t).f0 = t.f0 := by unfold bareT; split <;> rfl
theorem bareT_f3 (t : S24) : (bareT t).f3 = [] := by unfold bareT; split <;> rfl
theorem nodes_no {t : S24} (h : t.f0 ≠ 4) : nodes t = 1 := by cases t; rw [nodes, if_neg h]
theorem dpt_no {t : S24} (h : t.f0 ≠ 4) : dpt t = 1 := by cases t; rw [dpt, if_neg h]

/-- What a walk through a term answers that counts and gives up: within the bounds it is the term, with the count. -/
structure Cut (deep s : Int) (x : S24) (r : S24 × Bool × Int) : Prop where
  ok : r.2.1 = true ↔ s + nodes x ≤ 2000 ∧ deep + dpt x ≤ 101
  val : r.2.1 = true → r.1 = x ∧ r.2.2 = s + nodes x
  no : r.2.1 = false → r.1 = z24
structure CutL (deep s : Int) (xs : List S24) (r : List S24 × Bool × Int) (acc : List S24) : Prop where
  ok : r.2.1 = true ↔ s + nodesL xs ≤ 2000 ∧ deep + dptL xs ≤ 101
  val : r.2.1 = true → r.1 = acc ++ xs ∧ r.2.2 = s + nodesL xs

theorem cut_leaf {deep s : Int} {x : S24} (h4 : x.f0 ≠ 4) (h1 : ¬(s + 1 > 2000 ∨ deep > 100)) : Cut deep s x (x, true, s + 1) := by
  have hn := nodes_no h4
  have hd := dpt_no h4
  exact ⟨⟨fun _ => ⟨by rw [hn]; omega, by rw [hd]; omega⟩, fun _ => rfl⟩, fun _ => ⟨rfl, by rw [hn]; rfl⟩, fun h => by cases h⟩
theorem cut_deep {deep s : Int} (x : S24) (h1 : s + 1 > 2000 ∨ deep > 100) : Cut deep s x (z24, false, s + 1) := by
  have hn := nodes_pos x
  have hd := dpt_pos x
  exact ⟨⟨(fun h => by cases h), fun h => by omega⟩, (fun h => by cases h), fun _ => rfl⟩
theorem cut_comp {deep s : Int} {nm : ByteArray} {xs : List S24} {r : List S24 × Bool × Int} (h1 : ¬(s + 1 > 2000 ∨ deep > 100)) (h : CutL (deep + 1) (s + 1) xs r []) :
    Cut deep s ⟨4, nm, 0, xs⟩ (if r.2.1 = true then (⟨4, nm, 0, r.1⟩, true, r.2.2) else (z24, false, r.2.2)) := by
  have hn : nodes ⟨4, nm, 0, xs⟩ = 1 + nodesL xs := by rw [nodes, if_pos rfl]
  have hd : dpt ⟨4, nm, 0, xs⟩ = dptL xs + 1 := by rw [dpt, if_pos rfl]
  by_cases h6 : r.2.1 = true
  · rw [if_pos h6]
    have hv := h.val h6
    have ho := h.ok.1 h6
    refine ⟨⟨fun _ => ⟨by rw [hn]; push_cast; omega, by rw [hd]; omega⟩, fun _ => rfl⟩, fun _ => ⟨by simp only; rw [hv.1]; rfl, by simp only; rw [hv.2, hn]; push_cast; omega⟩, fun h => by cases h⟩
  · rw [if_neg h6]
    refine ⟨⟨(fun h => by cases h), fun hh => ?_⟩, (fun h => by cases h), fun _ => rfl⟩
    exfalso; apply h6; rw [h.ok]
    rw [hn, hd] at hh
    have := hh.1; push_cast at this
    exact ⟨by omega, by have := hh.2; omega⟩
theorem cutL_nil {deep s : Int} (hs : s ≤ 2000) (hd : deep ≤ 101) (acc : List S24) : CutL deep s [] (acc, true, s) acc :=
  ⟨⟨fun _ => ⟨by rw [nodesL_nil]; simpa using hs, by rw [dptL_nil]; omega⟩, fun _ => rfl⟩, fun _ => ⟨by simp, by rw [nodesL_nil]; simp⟩⟩
theorem cutL_cons {deep s : Int} {x : S24} {xs : List S24} {q : S24 × Bool × Int} {r : List S24 × Bool × Int} {acc : List S24} (h : Cut deep s x q) (hr : q.2.1 = true → CutL deep q.2.2 xs r (acc ++ [q.1])) :
    CutL deep s (x :: xs) (if q.2.1 = true then r else ([], false, q.2.2)) acc := by
  have hn := nodes_pos x
  have hp := dptL_pos xs
  rw [show CutL deep s (x :: xs) (if q.2.1 = true then r else ([], false, q.2.2)) acc ↔ _ from Iff.rfl]
  by_cases h6 : q.2.1 = true
  · rw [if_pos h6]
    have hv := h.val h6
    have ho := h.ok.1 h6
    have hR := hr h6
    refine ⟨?_, fun hh => ?_⟩
    · rw [hR.ok, hv.2, nodesL_cons, dptL_cons]
      push_cast
      constructor
      · rintro ⟨a, b⟩; exact ⟨by omega, by omega⟩
      · rintro ⟨a, b⟩; exact ⟨by omega, by omega⟩
    · have := hR.val hh
      rw [this.1, this.2, hv.1, hv.2, nodesL_cons]
      exact ⟨by simp, by push_cast; omega⟩
  · rw [if_neg h6]
    refine ⟨⟨(fun h => by cases h), fun hh => ?_⟩, (fun h => by cases h)⟩
    exfalso; apply h6; rw [h.ok]
    rw [nodesL_cons, dptL_cons] at hh
    have := hh.1; push_cast at this
    exact ⟨by omega, by have := hh.2; omega⟩

mutual
theorem cpT_spec : ∀ (t : S24) (deep s : Int), Cut deep s (nrm t) (cpT t deep s)
  | ⟨kd, nm, nt, xs⟩, deep, s => by
    unfold cpT nrm
    by_cases h1 : s + 1 > 2000 ∨ deep > 100
    · rw [if_pos h1]; exact cut_deep _ h1
    rw [if_neg h1]
    by_cases h2 : kd ≠ 4
    · rw [if_pos h2]
      have hb : subT (fun _ => none) ⟨kd, nm, nt, xs⟩ = bareT ⟨kd, nm, nt, xs⟩ := by
        rw [subT]
        by_cases h3 : kd = 1
        · subst h3; rfl
        · rw [if_neg h3, if_neg h2]
      rw [hb]
      exact cut_leaf (by rw [bareT_kd]; exact h2) h1
    · rw [if_neg h2]
      obtain rfl : kd = 4 := by omega
      rw [subT, if_neg (by decide), if_pos rfl]
      exact cut_comp h1 (cpL_spec xs (deep + 1) [] (s + 1) (by omega) (by omega))
theorem cpL_spec : ∀ (xs : List S24) (deep : Int) (acc : List S24) (s : Int), s ≤ 2000 → deep ≤ 101 → CutL deep s (subL (fun _ => none) xs) (cpL xs deep acc s) acc
  | [], deep, acc, s, hs, hd => by rw [cpL_nil, subL_nil]; exact cutL_nil hs hd acc
  | a :: r, deep, acc, s, hs, hd => by
    rw [cpL_cons, subL_cons]
    have ha := cpT_spec a deep s
    exact cutL_cons ha (fun h => by rw [(ha.val h).2]; exact cpL_spec r deep _ _ (ha.ok.1 h).1 hd)
end
mutual
theorem putT_spec (f : Int → Option S24) : ∀ (t : S24) (deep s : Int), Cut deep s (subT (fun v => (f v).map nrm) t) (putT f t deep s)
  | ⟨kd, nm, nt, xs⟩, deep, s => by
    unfold putT
    by_cases h0 : kd = 1
    · subst h0
      rw [if_pos rfl, subT, if_pos rfl]
      cases hf : f nt with
      | some x => exact cpT_spec x deep s
      | none =>
        have := cpT_spec ⟨1, nm, nt, xs⟩ deep s
        unfold nrm at this
        rw [subT, if_pos rfl] at this
        exact this
    rw [if_neg h0]
    by_cases h1 : s + 1 > 2000 ∨ deep > 100
    · rw [if_pos h1]; exact cut_deep _ h1
    rw [if_neg h1]
    by_cases h2 : kd ≠ 4
    · rw [if_pos h2, subT, if_neg h0, if_neg h2]
      exact cut_leaf (by rw [bareT_kd]; exact h2) h1
    · rw [if_neg h2]
      obtain rfl : kd = 4 := by omega
      rw [subT, if_neg (by decide), if_pos rfl]
      exact cut_comp h1 (putL_spec f xs (deep + 1) [] (s + 1) (by omega) (by omega))
theorem putL_spec (f : Int → Option S24) : ∀ (xs : List S24) (deep : Int) (acc : List S24) (s : Int), s ≤ 2000 → deep ≤ 101 → CutL deep s (subL (fun v => (f v).map nrm) xs) (putL f xs deep acc s) acc
  | [], deep, acc, s, hs, hd => by rw [putL_nil, subL_nil]; exact cutL_nil hs hd acc
  | a :: r, deep, acc, s, hs, hd => by
    rw [putL_cons, subL_cons]
    have ha := putT_spec f a deep s
    exact cutL_cons ha (fun h => by rw [(ha.val h).2]; exact putL_spec f r deep _ _ (ha.ok.1 h).1 hd)
end

end Go.Proofs.Ytpnkaggkedepeaa


/- The order of terms in plain words: it is one. -/
namespace Go.Proofs.Ytpnkaggkedepeaa
set_option linter.unusedVariables false
open Go.RowKit Go.Maps Go.Proofs.YtpnkaggkedepeaaW.PrintWords Go.Proofs.YtpnkaggkedepeaaW.PrintLast Go.Proofs.YtpnkaggkedepeaaW.PrintMore Go.Proofs.Ytpnkaggkedepeaa.PTermTells Go.Extern

/-- Three comparisons in a row that go together. -/
structure Tri (p q r : Int) : Prop where
  le : p ≤ 0 → q ≤ 0 → r ≤ 0
  ge : 0 ≤ p → 0 ≤ q → 0 ≤ r
  st : p ≤ 0 → q ≤ 0 → r = 0 → p = 0 ∧ q = 0
  ts : 0 ≤ p → 0 ≤ q → r = 0 → p = 0 ∧ q = 0

theorem Tri.lex {p q r x y z : Int} (h : Tri p q r) (k : p = 0 → q = 0 → r = 0 → Tri x y z) : Tri (if p ≠ 0 then p else x) (if q ≠ 0 then q else y) (if r ≠ 0 then r else z) := by
  by_cases hp : p = 0
  · by_cases hq : q = 0
    · have hr : r = 0 := by have := h.le (by omega) (by omega); have := h.ge (by omega) (by omega); omega
      simp only [hp, hq, hr, ne_eq, not_true_eq_false, if_false]
      exact k hp hq hr
    · have hr : r ≠ 0 := fun e => by
        rcases Int.le_total q 0 with c | c
        · exact hq (h.st (by omega) c e).2
        · exact hq (h.ts (by omega) c e).2
      simp only [hp, ne_eq, not_true_eq_false, if_false, hq, not_false_eq_true, if_true, hr]
      have h1 := h.le; have h2 := h.ge
      refine ⟨fun _ b => h1 (by omega) b, fun _ b => h2 (by omega) b, fun _ _ e => absurd e hr, fun _ _ e => absurd e hr⟩
  · by_cases hq : q = 0
    · have hr : r ≠ 0 := fun e => by
        rcases Int.le_total p 0 with c | c
        · exact hp (h.st c (by omega) e).1
        · exact hp (h.ts c (by omega) e).1
      simp only [hp, ne_eq, not_true_eq_false, if_false, hq, not_false_eq_true, if_true, hr]
      have h1 := h.le; have h2 := h.ge
      refine ⟨fun a _ => h1 a (by omega), fun a _ => h2 a (by omega), fun _ _ e => absurd e hr, fun _ _ e => absurd e hr⟩
    · simp only [hp, ne_eq, hq, not_false_eq_true, if_true]
      by_cases hr : r = 0
      · simp only [hr, not_true_eq_false, if_false]
        have h1 := h.st; have h2 := h.ts
        refine ⟨fun a b => absurd (h1 a b hr).1 hp, fun a b => absurd (h2 a b hr).1 hp, fun a b _ => absurd (h1 a b hr).1 hp, fun a b _ => absurd (h2 a b hr).1 hp⟩
      · simp only [hr, not_false_eq_true, if_true]; exact h

theorem tri_cmpI (a b c : Int) : Tri (cmpI a b) (cmpI b c) (cmpI a c) := by
  unfold cmpI
  constructor <;> (repeat' split) <;> omega
theorem cmpI_anti (a b : Int) : cmpI a b = -cmpI b a := by unfold cmpI; (repeat' split) <;> omega
theorem cmpI_refl (a : Int) : cmpI a a = 0 := by unfold cmpI; (repeat' split) <;> omega
theorem cmpI_zero {a b : Int} (h : cmpI a b = 0) : a = b := by unfold cmpI at h; repeat' split at h <;> omega
theorem compare_cons (a b : UInt8) (l m : List UInt8) : Lib.compareBytes (a :: l) (b :: m) = if cmpI a.toNat b.toNat ≠ 0 then cmpI a.toNat b.toNat else Lib.compareBytes l m := by
  rw [Lib.compareBytes]
  unfold cmpI
  simp only [UInt8.lt_iff_toNat_lt]
  by_cases h1 : a.toNat < b.toNat
  · rw [if_pos h1, if_pos (by omega : (a.toNat : Int) < b.toNat)]; rfl
  · rw [if_neg h1, if_neg (by omega : ¬(a.toNat : Int) < b.toNat)]
    by_cases h2 : b.toNat < a.toNat
    · rw [if_pos h2, if_pos (by omega : (a.toNat : Int) > b.toNat)]; rfl
    · rw [if_neg h2, if_neg (by omega : ¬(a.toNat : Int) > b.toNat)]; rfl
theorem tri_bytes : ∀ l m n : List UInt8, Tri (Lib.compareBytes l m) (Lib.compareBytes m n) (Lib.compareBytes l n)
  | [], [], [] => by constructor <;> simp [Lib.compareBytes]
  | [], [], _ :: _ => by constructor <;> simp [Lib.compareBytes]
  | [], _ :: _, [] => by constructor <;> simp [Lib.compareBytes]
  | [], a :: l, b :: m => by constructor <;> simp [Lib.compareBytes]
  | _ :: _, [], [] => by constructor <;> simp [Lib.compareBytes]
  | _ :: _, [], _ :: _ => by constructor <;> simp [Lib.compareBytes]
  | a :: l, b :: m, [] => by constructor <;> simp [Lib.compareBytes]
  | a :: l, b :: m, c :: n => by
    rw [compare_cons, compare_cons, compare_cons]
    exact (tri_cmpI _ _ _).lex (fun _ _ _ => tri_bytes l m n)
theorem bytes_anti : ∀ l m : List UInt8, Lib.compareBytes l m = -Lib.compareBytes m l
  | [], [] => by simp [Lib.compareBytes]
  | [], _ :: _ => by simp [Lib.compareBytes]
  | _ :: _, [] => by simp [Lib.compareBytes]
  | a :: l, b :: m => by
    rw [compare_cons, compare_cons, cmpI_anti a.toNat b.toNat, bytes_anti l m]
    by_cases h : cmpI b.toNat a.toNat = 0
    · simp [h]
    · simp [h]
theorem bytes_zero : ∀ l m : List UInt8, Lib.compareBytes l m = 0 → l = m
  | [], [], _ => rfl
  | [], _ :: _, h => by simp [Lib.compareBytes] at h
  | _ :: _, [], h => by simp [Lib.compareBytes] at h
  | a :: l, b :: m, h => by
    rw [compare_cons] at h
    by_cases h0 : cmpI a.toNat b.toNat = 0
    · rw [if_neg (by simpa using h0)] at h
      have h1 := cmpI_zero h0
      rw [bytes_zero l m h, (UInt8.toNat_inj.1 (by omega) : a = b)]
    · rw [if_pos h0] at h; exact absurd h h0
theorem bytes_refl : ∀ l : List UInt8, Lib.compareBytes l l = 0
  | [] => by simp [Lib.compareBytes]
  | a :: l => by rw [compare_cons, cmpI_refl]; exact bytes_refl l
theorem tri_S (a b c : ByteArray) : Tri (cmpS a b) (cmpS b c) (cmpS a c) := tri_bytes _ _ _
theorem cmpS_anti (a b : ByteArray) : cmpS a b = -cmpS b a := bytes_anti _ _
theorem cmpS_refl (a : ByteArray) : cmpS a a = 0 := bytes_refl _
theorem cmpS_zero {a b : ByteArray} (h : cmpS a b = 0) : a = b := by
  have := bytes_zero _ _ h
  cases a; cases b; simp at this; subst this; rfl

theorem ordT_eq (a b : S24) : ordT a b = if cmpI a.f0 b.f0 ≠ 0 then cmpI a.f0 b.f0 else if a.f0 = 1 ∨ a.f0 = 2 then cmpI a.f2 b.f2 else if a.f0 = 3 then cmpS a.f1 b.f1 else
    if cmpI a.f3.length b.f3.length ≠ 0 then cmpI a.f3.length b.f3.length else if cmpS a.f1 b.f1 ≠ 0 then cmpS a.f1 b.f1 else ordL a.f3 b.f3 := by
  cases a with
  | mk kd nm nt xs =>
    rw [ordT]
    simp only
    by_cases h : kd = b.f0
    · rw [h, cmpI_refl]; simp
    · rw [if_pos h, if_pos]
      intro h0; exact h (cmpI_zero h0)
theorem ordL_ll : ordL [] [] = 0 := by rw [ordL]
theorem ordL_lc (b : S24) (s : List S24) : ordL [] (b :: s) = -1 := by rw [ordL]
theorem ordL_cl (b : S24) (s : List S24) : ordL (b :: s) [] = 1 := by rw [ordL]

theorem ord_tri : ∀ n : Nat, (∀ a b c : S24, SizeOf.sizeOf a < n → Tri (ordT a b) (ordT b c) (ordT a c)) ∧ (∀ xs ys zs : List S24, SizeOf.sizeOf xs < n → Tri (ordL xs ys) (ordL ys zs) (ordL xs zs))
  | 0 => ⟨(fun _ _ _ h => absurd h (Nat.not_lt_zero _)), (fun _ _ _ h => absurd h (Nat.not_lt_zero _))⟩
  | n + 1 => by
    have ih := ord_tri n
    constructor
    · intro a b c hn
      rw [ordT_eq a b, ordT_eq b c, ordT_eq a c]
      refine (tri_cmpI _ _ _).lex fun h1 h2 _ => ?_
      have e1 := cmpI_zero h1
      have e2 := cmpI_zero h2
      rw [← e1]
      by_cases k1 : a.f0 = 1 ∨ a.f0 = 2
      · simp only [if_pos k1]; exact tri_cmpI _ _ _
      · simp only [if_neg k1]
        by_cases k3 : a.f0 = 3
        · simp only [if_pos k3]; exact tri_S _ _ _
        · simp only [if_neg k3]
          refine (tri_cmpI _ _ _).lex fun _ _ _ => (tri_S _ _ _).lex fun _ _ _ => ih.2 _ _ _ ?_
          cases a with
          | mk k m i xs => simp only [S24.mk.sizeOf_spec] at hn; simp only; omega
    · intro xs ys zs hn
      match xs, ys, zs with
      | [], [], [] => rw [ordL_ll]; constructor <;> simp
      | [], [], _ :: _ => rw [ordL_ll, ordL_lc]; constructor <;> simp
      | [], _ :: _, [] => rw [ordL_ll, ordL_lc, ordL_cl]; constructor <;> simp
      | [], _ :: _, _ :: _ => rw [ordL_lc, ordL_lc]; constructor <;> simp
      | _ :: _, [], [] => rw [ordL_ll, ordL_cl]; constructor <;> simp
      | _ :: _, [], _ :: _ => rw [ordL_lc, ordL_cl]; constructor <;> simp
      | _ :: _, _ :: _, [] => rw [ordL_cl, ordL_cl]; constructor <;> simp
      | a :: xs, b :: ys, c :: zs =>
        rw [ordL_cons, ordL_cons, ordL_cons]
        simp only [List.cons.sizeOf_spec] at hn
        exact (ih.1 a b c (by omega)).lex fun _ _ _ => ih.2 xs ys zs (by omega)
theorem ordT_tri (a b c : S24) : Tri (ordT a b) (ordT b c) (ordT a c) := (ord_tri _).1 a b c (Nat.lt_succ_self _)

mutual
theorem ordT_anti : ∀ a b : S24, ordT a b = -ordT b a
  | ⟨kd, nm, nt, xs⟩, b => by
    rw [ordT_eq, ordT_eq b]
    simp only
    rw [cmpI_anti b.f0 kd, cmpI_anti nt, cmpS_anti nm, cmpI_anti xs.length, ordL_anti xs b.f3]
    by_cases h : cmpI kd b.f0 = 0
    · have e := cmpI_zero h
      rw [h, ← e]
      simp only [Int.neg_zero, ne_eq, not_true_eq_false, if_false]
      by_cases k1 : kd = 1 ∨ kd = 2
      · simp only [if_pos k1]
      · simp only [if_neg k1]
        by_cases k3 : kd = 3
        · simp only [if_pos k3]
        · simp only [if_neg k3]
          by_cases h5 : cmpI b.f3.length xs.length = 0
          · simp only [h5, Int.neg_zero, not_true_eq_false, if_false]
            by_cases h6 : cmpS b.f1 nm = 0
            · simp only [h6, Int.neg_zero, not_true_eq_false, if_false]
            · simp [h6]
          · simp [h5]
    · simp [h]
theorem ordL_anti : ∀ xs ys : List S24, ordL xs ys = -ordL ys xs
  | [], [] => by rw [ordL_ll]; rfl
  | [], _ :: _ => by rw [ordL_lc, ordL_cl]
  | _ :: _, [] => by rw [ordL_lc, ordL_cl]; rfl
  | a :: xs, b :: ys => by
    rw [ordL_cons, ordL_cons, ordT_anti a b, ordL_anti xs ys]
    by_cases h : ordT b a = 0
    · simp [h]
    · simp [h]
end
theorem ordT_refl (a : S24) : ordT a a = 0 := by have := ordT_anti a a; omega
theorem ordL_refl (a : List S24) : ordL a a = 0 := by have := ordL_anti a a; omega

mutual
/-- Terms of a right shape that are the same are one, but for what their kinds don't name. -/
theorem ordT_zero : ∀ a b : S24, shT a = true → ordT a b = 0 → nrm a = nrm b
  | ⟨kd, nm, nt, xs⟩, ⟨kb, mb, tb, ys⟩, hs, h => by
    rw [ordT_eq] at h
    simp only at h
    by_cases h0 : cmpI kd kb = 0
    rotate_left
    · rw [if_pos h0] at h; exact absurd h h0
    rw [if_neg (by simpa using h0)] at h
    obtain rfl := cmpI_zero h0
    unfold nrm
    rw [subT, subT]
    by_cases k1 : kd = 1
    · subst k1
      simp only [true_or, if_true] at h
      rw [cmpI_zero h]; rfl
    rw [if_neg k1, if_neg k1]
    by_cases k2 : kd = 2
    · subst k2
      simp only [or_true, if_true] at h
      rw [cmpI_zero h]; rfl
    rw [if_neg (by omega)] at h
    by_cases k3 : kd = 3
    · subst k3
      simp only [if_true] at h
      rw [cmpS_zero h]; rfl
    rw [if_neg k3] at h
    by_cases k4 : kd = 4
    · subst k4
      simp only [if_true]
      by_cases h5 : cmpI xs.length ys.length = 0
      rotate_left
      · rw [if_pos h5] at h; exact absurd h h5
      rw [if_neg (by simpa using h5)] at h
      by_cases h6 : cmpS nm mb = 0
      rotate_left
      · rw [if_pos h6] at h; exact absurd h h6
      rw [if_neg (by simpa using h6)] at h
      rw [cmpS_zero h6, ordL_zero xs ys (by
        rw [shT] at hs
        simp at hs
        exact hs.1.2) h]
    · rw [shT] at hs; simp [k1, k2, k3, k4] at hs
theorem ordL_zero : ∀ xs ys : List S24, shL xs = true → ordL xs ys = 0 → subL (fun _ => none) xs = subL (fun _ => none) ys
  | [], [], _, _ => rfl
  | [], _ :: _, _, h => by rw [ordL_lc] at h; cases h
  | _ :: _, [], _, h => by rw [ordL_cl] at h; cases h
  | a :: xs, b :: ys, hs, h => by
    rw [shL_cons, Bool.and_eq_true] at hs
    rw [ordL_cons] at h
    by_cases h0 : ordT a b = 0
    · rw [if_neg (by simpa using h0)] at h
      rw [subL_cons, subL_cons, ordL_zero xs ys hs.2 h]
      have := ordT_zero a b hs.1 h0
      unfold nrm at this
      rw [this]
    · rw [if_pos h0] at h; exact absurd h h0
end
mutual
theorem ordT_nrm : ∀ a b : S24, shT a = true → shT b = true → ordT (nrm a) (nrm b) = ordT a b
  | ⟨kd, nm, nt, xs⟩, ⟨kb, mb, tb, ys⟩, ha, hb => by
    rw [ordT_eq, ordT_eq ⟨kd, nm, nt, xs⟩]
    unfold nrm
    rw [subT, subT]
    have e : ∀ (kd : Int) (nm : ByteArray) (nt : Int) (xs : List S24), (if kd = 1 then (match (none : Option S24) with | some x => x | none => ⟨1, ⟨#[]⟩, nt, []⟩) else if kd = 4 then ⟨4, nm, 0, subL (fun _ => none) xs⟩ else bareT ⟨kd, nm, nt, xs⟩).f0 = kd := by
      intro kd nm nt xs
      by_cases k1 : kd = 1
      · simp [k1]
      · rw [if_neg k1]
        by_cases k4 : kd = 4
        · simp [k4]
        · rw [if_neg k4, bareT_kd]
    rw [e, e]
    by_cases h0 : cmpI kd kb = 0
    rotate_left
    · simp only [ne_eq, h0, not_false_eq_true, if_true]
    obtain rfl := cmpI_zero h0
    simp only [h0, ne_eq, not_true_eq_false, if_false]
    by_cases k1 : kd = 1
    · subst k1; simp
    by_cases k2 : kd = 2
    · subst k2; simp [bareT]
    by_cases k3 : kd = 3
    · subst k3; simp [bareT]
    by_cases k4 : kd = 4
    · subst k4
      simp only [k1, k2, k3, or_self, if_false, if_true]
      rw [subL_map, subL_map, List.length_map, List.length_map, ← subL_map, ← subL_map, ordL_nrm xs ys (by rw [shT] at ha; simp at ha; exact ha.1.2) (by rw [shT] at hb; simp at hb; exact hb.1.2)]
    · rw [shT] at ha; simp [k1, k2, k3, k4] at ha
theorem ordL_nrm : ∀ xs ys : List S24, shL xs = true → shL ys = true → ordL (subL (fun _ => none) xs) (subL (fun _ => none) ys) = ordL xs ys
  | [], [], _, _ => rfl
  | [], _ :: _, _, _ => by rw [subL_nil, subL_cons, ordL_lc, ordL_lc]
  | _ :: _, [], _, _ => by rw [subL_nil, subL_cons, ordL_cl, ordL_cl]
  | a :: xs, b :: ys, ha, hb => by
    rw [shL_cons, Bool.and_eq_true] at ha hb
    rw [subL_cons, subL_cons, ordL_cons, ordL_cons, ordL_nrm xs ys ha.2 hb.2]
    have := ordT_nrm a b ha.1 hb.1
    unfold nrm at this
    rw [this]
end
end Go.Proofs.Ytpnkaggkedepeaa


/- Variables and renamings of terms in plain words. -/
namespace Go.Proofs.Ytpnkaggkedepeaa
set_option linter.unusedVariables false
open Go.RowKit Go.Maps Go.Proofs.YtpnkaggkedepeaaW.PrintWords Go.Proofs.YtpnkaggkedepeaaW.PrintLast Go.Proofs.YtpnkaggkedepeaaW.PrintMore Go.Proofs.Ytpnkaggkedepeaa.PTermTells Go.Extern

mutual
/-- Where variables stand in a term, in order. -/
def occT : S24 → List Int
  | ⟨kd, nm, nt, xs⟩ => if kd = 1 then [nt] else if kd = 4 then occL xs else []
def occL : List S24 → List Int
  | [] => []
  | a :: r => occT a ++ occL r
end
theorem occL_nil : occL [] = [] := by rw [occL]
theorem occL_cons (a : S24) (r : List S24) : occL (a :: r) = occT a ++ occL r := by rw [occL]
def addv (out : List Int) (v : Int) : List Int := if v ∈ out then out else out ++ [v]
mutual
theorem varsT_occ : ∀ (t : S24) (out : List Int), varsT t out = (occT t).foldl addv out
  | ⟨kd, nm, nt, xs⟩, out => by
    rw [varsT, occT]
    by_cases h1 : kd = 1
    · rw [if_pos h1, if_pos h1]; rfl
    rw [if_neg h1, if_neg h1]
    by_cases h4 : kd = 4
    · rw [if_pos h4, if_pos h4]; exact varsL_occ xs out
    · rw [if_neg h4, if_neg h4]; rfl
theorem varsL_occ : ∀ (xs : List S24) (out : List Int), varsL xs out = (occL xs).foldl addv out
  | [], out => by rw [varsL_nil, occL_nil]; rfl
  | a :: r, out => by rw [varsL_cons, occL_cons, List.foldl_append, varsT_occ a, varsL_occ r]
end
theorem mem_addv {out : List Int} {v x : Int} : x ∈ addv out v ↔ x ∈ out ∨ x = v := by
  unfold addv
  by_cases h : v ∈ out
  · rw [if_pos h]
    constructor
    · exact .inl
    · rintro (h1 | rfl)
      · exact h1
      · exact h
  · rw [if_neg h]; simp
theorem mem_fold : ∀ (l out : List Int) (x : Int), x ∈ l.foldl addv out ↔ x ∈ out ∨ x ∈ l
  | [], out, x => by simp
  | v :: l, out, x => by
    rw [List.foldl_cons, mem_fold l, mem_addv, List.mem_cons]
    constructor
    · rintro ((h | h) | h)
      · exact .inl h
      · exact .inr (.inl h)
      · exact .inr (.inr h)
    · rintro (h | h | h)
      · exact .inl (.inl h)
      · exact .inl (.inr h)
      · exact .inr h
theorem nodup_fold : ∀ (l out : List Int), out.Nodup → (l.foldl addv out).Nodup
  | [], out, h => h
  | v :: l, out, h => by
    rw [List.foldl_cons]
    apply nodup_fold l
    unfold addv
    by_cases hv : v ∈ out
    · rw [if_pos hv]; exact h
    · rw [if_neg hv, List.nodup_append]
      exact ⟨h, by simp, fun a ha b hb e => hv (by rw [List.mem_singleton.1 hb] at e; exact e ▸ ha)⟩
theorem fold_map (g : Int → Int) : ∀ (l out : List Int), (∀ x ∈ out ++ l, ∀ y ∈ out ++ l, g x = g y → x = y) → (l.map g).foldl addv (out.map g) = (l.foldl addv out).map g
  | [], out, _ => rfl
  | v :: l, out, h => by
    rw [List.map_cons, List.foldl_cons, List.foldl_cons]
    have e : addv (out.map g) (g v) = (addv out v).map g := by
      unfold addv
      by_cases hv : v ∈ out
      · rw [if_pos hv, if_pos (List.mem_map_of_mem hv)]
      · rw [if_neg hv, if_neg, List.map_append]; rfl
        intro hm
        obtain ⟨x, hx, he⟩ := List.mem_map.1 hm
        exact hv (h x (by simp [hx]) v (by simp) he ▸ hx)
    rw [e]
    have hs : ∀ x, x ∈ addv out v ++ l → x ∈ out ++ v :: l := by
      intro x hx
      simp only [List.mem_append, mem_addv, List.mem_cons] at hx ⊢
      rcases hx with (h | h) | h
      · exact .inl h
      · exact .inr (.inl h)
      · exact .inr (.inr h)
    exact fold_map g l _ (fun x hx y hy => h x (hs x hx) y (hs y hy))
theorem varsT_nodup (t : S24) : (varsT t []).Nodup := by rw [varsT_occ]; exact nodup_fold _ _ (by simp)
theorem mem_varsT (t : S24) (x : Int) : x ∈ varsT t [] ↔ x ∈ occT t := by rw [varsT_occ, mem_fold]; simp

/-- What a variable of some is called from a number on. -/
def rnm : List Int → Int → Int → Option Int
  | [], _, _ => none
  | u :: r, n, v => if v = u then some n else rnm r (n + 1) v
def mkV (n : Int) : S24 := ⟨1, ⟨#[]⟩, n, []⟩
theorem rnm_none : ∀ (vs : List Int) (n v : Int), v ∉ vs → rnm vs n v = none
  | [], _, _, _ => rfl
  | u :: r, n, v, h => by
    rw [rnm, if_neg (fun e => h (by rw [e]; simp)), rnm_none r _ _ (fun e => h (by simp [e]))]
theorem rnm_some : ∀ (vs : List Int) (n v : Int), v ∈ vs → ∃ k, rnm vs n v = some k ∧ n ≤ k ∧ k < n + vs.length
  | [], _, _, h => by simp at h
  | u :: r, n, v, h => by
    rw [rnm]
    by_cases e : v = u
    · rw [if_pos e]; exact ⟨n, rfl, Int.le_refl _, by simp only [List.length_cons]; push_cast; omega⟩
    · rw [if_neg e]
      obtain ⟨k, h1, h2, h3⟩ := rnm_some r (n + 1) v ((List.mem_cons.1 h).resolve_left e)
      exact ⟨k, h1, by omega, by simp only [List.length_cons]; push_cast; omega⟩
theorem rnm_inj : ∀ (vs : List Int) (n x y k : Int), rnm vs n x = some k → rnm vs n y = some k → x = y
  | [], _, _, _, _, h, _ => by cases h
  | u :: r, n, x, y, k, hx, hy => by
    rw [rnm] at hx hy
    have lo : ∀ v, rnm r (n + 1) v = some k → n + 1 ≤ k := fun v hv => by
      by_cases hm : v ∈ r
      · obtain ⟨k', h1, h2, _⟩ := rnm_some r (n + 1) v hm
        rw [h1] at hv; cases hv; exact h2
      · rw [rnm_none r _ _ hm] at hv; cases hv
    by_cases e1 : x = u
    · by_cases e2 : y = u
      · rw [e1, e2]
      · rw [if_pos e1] at hx; rw [if_neg e2] at hy; cases hx
        have := lo _ hy; omega
    · rw [if_neg e1] at hx
      by_cases e2 : y = u
      · rw [if_pos e2] at hy; cases hy
        have := lo _ hx; omega
      · rw [if_neg e2] at hy
        exact rnm_inj r _ x y k hx hy
theorem rnm_map (g : Int → Int) : ∀ (vs : List Int) (n v : Int), (∀ x ∈ vs, g x = g v → x = v) → rnm (vs.map g) n (g v) = rnm vs n v
  | [], _, _, _ => rfl
  | u :: r, n, v, h => by
    rw [List.map_cons, rnm, rnm]
    by_cases e : v = u
    · rw [if_pos e, if_pos (by rw [e])]
    · rw [if_neg e, if_neg (fun he => e (h u (by simp) he.symm).symm)]
      exact rnm_map g r _ v (fun x hx => h x (by simp [hx]))
/-- The name of a variable: its own where it has none. -/
def rnf (vs : List Int) (n v : Int) : Int := (rnm vs n v).getD v
theorem rnf_list : ∀ (vs : List Int) (n : Int), vs.Nodup → vs.map (rnf vs n) = (List.range vs.length).map fun (i : Nat) => n + (i : Int)
  | [], _, _ => rfl
  | u :: r, n, h => by
    obtain ⟨h1, h2⟩ := List.nodup_cons.1 h
    rw [List.map_cons, List.length_cons, List.range_succ_eq_map, List.map_cons, List.map_map]
    have e0 : rnf (u :: r) n u = n + ((0 : Nat) : Int) := by unfold rnf; rw [rnm, if_pos rfl]; simp
    rw [e0]
    congr 1
    have e1 : r.map (rnf (u :: r) n) = r.map (rnf r (n + 1)) := by
      apply List.map_congr_left
      intro x hx
      unfold rnf
      rw [rnm, if_neg (fun e : x = u => h1 (e ▸ hx))]
    rw [e1, rnf_list r (n + 1) h2]
    apply List.map_congr_left
    intro i _
    simp only [Function.comp]
    push_cast
    omega

/-- A term with its variables renamed. -/
def renS (g : Int → Int) (t : S24) : S24 := subT (fun v => some (mkV (g v))) t
def renL (g : Int → Int) (xs : List S24) : List S24 := subL (fun v => some (mkV (g v))) xs
theorem renS_eq (g : Int → Int) (kd : Int) (nm : ByteArray) (nt : Int) (xs : List S24) : renS g ⟨kd, nm, nt, xs⟩ = if kd = 1 then mkV (g nt) else if kd = 4 then ⟨4, nm, 0, renL g xs⟩ else bareT ⟨kd, nm, nt, xs⟩ := by
  unfold renS renL; rw [subT]
theorem renL_nil (g : Int → Int) : renL g [] = [] := by unfold renL; rw [subL]
theorem renL_cons (g : Int → Int) (a : S24) (r : List S24) : renL g (a :: r) = renS g a :: renL g r := by unfold renL renS; rw [subL]
theorem renL_map (g : Int → Int) (xs : List S24) : renL g xs = xs.map (renS g) := subL_map _ _
theorem renL_len (g : Int → Int) (xs : List S24) : (renL g xs).length = xs.length := by rw [renL_map, List.length_map]
mutual
theorem sub_ren (f : Int → Option S24) (g : Int → Int) : ∀ t : S24, (∀ v ∈ occT t, f v = some (mkV (g v)) ∨ (f v = none ∧ g v = v)) → subT f t = renS g t
  | ⟨kd, nm, nt, xs⟩, h => by
    rw [renS_eq, subT]
    rw [occT] at h
    by_cases h1 : kd = 1
    · rw [if_pos h1, if_pos h1]
      rw [if_pos h1] at h
      rcases h nt (by simp) with e | ⟨e, e2⟩
      · rw [e]
      · rw [e, e2]; rfl
    rw [if_neg h1, if_neg h1]
    rw [if_neg h1] at h
    by_cases h4 : kd = 4
    · rw [if_pos h4, if_pos h4]
      rw [if_pos h4] at h
      rw [subL_ren f g xs h]
    · rw [if_neg h4, if_neg h4]
theorem subL_ren (f : Int → Option S24) (g : Int → Int) : ∀ xs : List S24, (∀ v ∈ occL xs, f v = some (mkV (g v)) ∨ (f v = none ∧ g v = v)) → subL f xs = renL g xs
  | [], _ => by rw [subL_nil, renL_nil]
  | a :: r, h => by
    rw [occL_cons] at h
    rw [subL_cons, renL_cons, sub_ren f g a (fun v hv => h v (List.mem_append_left _ hv)), subL_ren f g r (fun v hv => h v (List.mem_append_right _ hv))]
end
mutual
theorem renS_congr (g h : Int → Int) : ∀ t : S24, (∀ v ∈ occT t, g v = h v) → renS g t = renS h t
  | ⟨kd, nm, nt, xs⟩, e => by
    rw [renS_eq, renS_eq]
    rw [occT] at e
    by_cases h1 : kd = 1
    · rw [if_pos h1, if_pos h1]; rw [if_pos h1] at e; rw [e nt (by simp)]
    rw [if_neg h1, if_neg h1]; rw [if_neg h1] at e
    by_cases h4 : kd = 4
    · rw [if_pos h4, if_pos h4]; rw [if_pos h4] at e; rw [renL_congr g h xs e]
    · rw [if_neg h4, if_neg h4]
theorem renL_congr (g h : Int → Int) : ∀ xs : List S24, (∀ v ∈ occL xs, g v = h v) → renL g xs = renL h xs
  | [], _ => by rw [renL_nil, renL_nil]
  | a :: r, e => by
    rw [occL_cons] at e
    rw [renL_cons, renL_cons, renS_congr g h a (fun v hv => e v (List.mem_append_left _ hv)), renL_congr g h r (fun v hv => e v (List.mem_append_right _ hv))]
end
theorem bare_bare (t : S24) : bareT (bareT t) = bareT t := by
  unfold bareT; by_cases h : t.f0 = 1 ∨ t.f0 = 2
  · rw [if_pos h, if_pos h]
  · rw [if_neg h, if_neg h]
mutual
theorem renS_renS (g h : Int → Int) : ∀ t : S24, renS h (renS g t) = renS (fun v => h (g v)) t
  | ⟨kd, nm, nt, xs⟩ => by
    rw [renS_eq, renS_eq]
    by_cases h1 : kd = 1
    · rw [if_pos h1, if_pos h1]; unfold mkV; rw [renS_eq]; rfl
    rw [if_neg h1, if_neg h1]
    by_cases h4 : kd = 4
    · rw [if_pos h4, if_pos h4, renS_eq, if_neg (by decide), if_pos rfl, renL_renL g h xs]
    · rw [if_neg h4, if_neg h4]
      have hb := bareT_kd ⟨kd, nm, nt, xs⟩
      have hbb := bare_bare ⟨kd, nm, nt, xs⟩
      generalize bareT ⟨kd, nm, nt, xs⟩ = b at hb hbb
      obtain ⟨k, m, i, l⟩ := b
      simp only at hb
      rw [renS_eq, if_neg (by omega), if_neg (by omega)]; exact hbb
theorem renL_renL (g h : Int → Int) : ∀ xs : List S24, renL h (renL g xs) = renL (fun v => h (g v)) xs
  | [] => by rw [renL_nil, renL_nil, renL_nil]
  | a :: r => by rw [renL_cons, renL_cons, renL_cons, renS_renS g h a, renL_renL g h r]
end
theorem bare_kind {kd : Int} {nm : ByteArray} {nt : Int} {xs : List S24} : bareT ⟨kd, nm, nt, xs⟩ = if kd = 1 ∨ kd = 2 then ⟨kd, ⟨#[]⟩, nt, []⟩ else ⟨kd, nm, 0, []⟩ := rfl
mutual
theorem occ_renS (g : Int → Int) : ∀ t : S24, occT (renS g t) = (occT t).map g
  | ⟨kd, nm, nt, xs⟩ => by
    rw [renS_eq, occT]
    by_cases h1 : kd = 1
    · rw [if_pos h1, if_pos h1]; unfold mkV; rw [occT, if_pos rfl]; rfl
    rw [if_neg h1, if_neg h1]
    by_cases h4 : kd = 4
    · rw [if_pos h4, if_pos h4, occT, if_neg (by decide), if_pos rfl, occ_renL g xs]
    · rw [if_neg h4, if_neg h4, bare_kind]
      split
      · rw [occT, if_neg h1, if_neg h4]; rfl
      · rw [occT, if_neg h1, if_neg h4]; rfl
theorem occ_renL (g : Int → Int) : ∀ xs : List S24, occL (renL g xs) = (occL xs).map g
  | [] => by rw [renL_nil, occL_nil]; rfl
  | a :: r => by rw [renL_cons, occL_cons, occL_cons, List.map_append, occ_renS g a, occ_renL g r]
end
mutual
theorem nodes_renS (g : Int → Int) : ∀ t : S24, nodes (renS g t) = nodes t ∧ dpt (renS g t) = dpt t
  | ⟨kd, nm, nt, xs⟩ => by
    rw [renS_eq]
    by_cases h1 : kd = 1
    · rw [if_pos h1]; subst h1; exact ⟨rfl, rfl⟩
    rw [if_neg h1]
    by_cases h4 : kd = 4
    · have := nodes_renL g xs
      subst h4
      simp only [if_true]
      rw [nodes, nodes, dpt, dpt]
      simp only [if_true]
      rw [this.1, this.2]; exact ⟨rfl, rfl⟩
    · rw [if_neg h4]
      have hb : (bareT ⟨kd, nm, nt, xs⟩).f0 ≠ 4 := by rw [bareT_kd]; exact h4
      rw [nodes_no hb, dpt_no hb, nodes_no (t := ⟨kd, nm, nt, xs⟩) h4, dpt_no (t := ⟨kd, nm, nt, xs⟩) h4]; exact ⟨rfl, rfl⟩
theorem nodes_renL (g : Int → Int) : ∀ xs : List S24, nodesL (renL g xs) = nodesL xs ∧ dptL (renL g xs) = dptL xs
  | [] => by rw [renL_nil]; exact ⟨rfl, rfl⟩
  | a :: r => by
    rw [renL_cons, nodesL_cons, nodesL_cons, dptL_cons, dptL_cons, (nodes_renS g a).1, (nodes_renS g a).2, (nodes_renL g r).1, (nodes_renL g r).2]; exact ⟨rfl, rfl⟩
end
mutual
theorem sh_renS (g : Int → Int) : ∀ t : S24, shT t = true → (∀ v ∈ occT t, 1 ≤ g v) → shT (renS g t) = true
  | ⟨kd, nm, nt, xs⟩, h, hg => by
    rw [renS_eq]
    rw [occT] at hg
    rw [shT] at h
    by_cases h1 : kd = 1
    · rw [if_pos h1]; rw [if_pos h1] at hg
      unfold mkV; rw [shT, if_pos rfl]
      have := hg nt (by simp); simpa using this
    rw [if_neg h1]; rw [if_neg h1] at hg h
    by_cases h4 : kd = 4
    · subst h4
      simp only [if_true]
      rw [if_pos rfl] at hg
      rw [if_neg (by decide), if_pos rfl] at h
      simp only [Bool.and_eq_true] at h
      rw [shT, if_neg (by decide), if_neg (by decide), if_pos rfl, sh_renL g xs h.1.2 hg, renL_len, h.1.1, h.2]; rfl
    · rw [if_neg h4, bare_kind]
      by_cases h2 : kd = 2
      · rw [if_pos (.inr h2)]; subst h2; rw [shT]; rfl
      · rw [if_neg (by omega), shT, if_neg h1, if_neg h2, if_neg h4]
        rw [if_neg h2, if_neg h4] at h; exact h
theorem sh_renL (g : Int → Int) : ∀ xs : List S24, shL xs = true → (∀ v ∈ occL xs, 1 ≤ g v) → shL (renL g xs) = true
  | [], _, _ => by rw [renL_nil, shL]
  | a :: r, h, hg => by
    rw [shL_cons, Bool.and_eq_true] at h
    rw [occL_cons] at hg
    rw [renL_cons, shL_cons, sh_renS g a h.1 (fun v hv => hg v (List.mem_append_left _ hv)), sh_renL g r h.2 (fun v hv => hg v (List.mem_append_right _ hv))]; rfl
end
theorem ok_renS (g : Int → Int) {t : S24} (h : okT t = true) (hg : ∀ v ∈ occT t, 1 ≤ g v) : okT (renS g t) = true := by
  rw [okT_iff] at h ⊢
  rw [(nodes_renS g t).1, (nodes_renS g t).2]
  exact ⟨sh_renS g t h.1 hg, h.2⟩

theorem fnT_renM : ∀ (vs : List Int) (n : Int) (L : Tm) (v : Int), vs.Nodup → msorted L → fnT (renM vs n L) v = match rnm vs n v with | some k => some (mkV k) | none => fnT L v
  | [], n, L, v, _, _ => rfl
  | u :: r, n, L, v, h, hL => by
    obtain ⟨h1, h2⟩ := List.nodup_cons.1 h
    rw [renM, fnT_renM r (n + 1) _ v h2 (msorted_mput hL), rnm]
    by_cases e : v = u
    · subst e
      rw [if_pos rfl, rnm_none r _ _ h1]
      simp only
      unfold fnT; rw [mget_mput_same hL]; rfl
    · rw [if_neg e]
      cases hr : rnm r (n + 1) v with
      | some k => rfl
      | none => simp only; unfold fnT; rw [mget_mput_other e]

theorem renT_ok {t : S24} (h : okT t = true) {n : Int} (h1 : 1 ≤ n) (h2 : n ≤ 4611686018427387904) : renT t n = (renS (rnf (varsT t []) n) t, n + (varsT t []).length, 0) := by
  unfold renT
  rw [h, if_neg (by decide), if_neg (by omega)]
  have hs := putT_spec (fnT (renM (varsT t []) n [])) t 1 0
  have e : subT (fun v => (fnT (renM (varsT t []) n []) v).map nrm) t = renS (rnf (varsT t []) n) t := by
    apply sub_ren
    intro v hv
    rw [fnT_renM _ _ _ _ (varsT_nodup t) List.Pairwise.nil]
    unfold rnf
    cases hr : rnm (varsT t []) n v with
    | some k => exact .inl rfl
    | none => exact .inr ⟨rfl, rfl⟩
  rw [e] at hs
  have hok := (okT_iff t).1 h
  have : (putT (fnT (renM (varsT t []) n [])) t 1 0).2.1 = true := by
    rw [hs.ok, (nodes_renS _ t).1, (nodes_renS _ t).2]
    exact ⟨by omega, by omega⟩
  rw [(hs.val this).1]

theorem rnf_inj {t : S24} {n : Int} : ∀ x ∈ occT t, ∀ y ∈ occT t, rnf (varsT t []) n x = rnf (varsT t []) n y → x = y := by
  intro x hx y hy h
  obtain ⟨k, h1, _⟩ := rnm_some (varsT t []) n x ((mem_varsT t x).2 hx)
  obtain ⟨j, h2, _⟩ := rnm_some (varsT t []) n y ((mem_varsT t y).2 hy)
  unfold rnf at h
  rw [h1, h2] at h
  simp only [Option.getD_some] at h
  exact rnm_inj _ _ _ _ _ h1 (h ▸ h2)
theorem rnf_bounds {t : S24} {n : Int} : ∀ x ∈ occT t, n ≤ rnf (varsT t []) n x ∧ rnf (varsT t []) n x < n + (varsT t []).length := by
  intro x hx
  obtain ⟨k, h1, h2, h3⟩ := rnm_some (varsT t []) n x ((mem_varsT t x).2 hx)
  unfold rnf; rw [h1]; exact ⟨h2, h3⟩
theorem vars_renS {g : Int → Int} {t : S24} (hg : ∀ x ∈ occT t, ∀ y ∈ occT t, g x = g y → x = y) : varsT (renS g t) [] = (varsT t []).map g := by
  rw [varsT_occ, varsT_occ, occ_renS]
  exact fold_map g (occT t) [] (by simpa using hg)
/-- A term whose variables are renamed apart is renamed as the term is. -/
theorem ren_ren {g : Int → Int} {t : S24} (hg : ∀ x ∈ occT t, ∀ y ∈ occT t, g x = g y → x = y) (n : Int) : renS (rnf (varsT (renS g t) []) n) (renS g t) = renS (rnf (varsT t []) n) t := by
  rw [renS_renS, vars_renS hg]
  apply renS_congr
  intro v hv
  unfold rnf
  rw [rnm_map g _ n v (fun x hx => hg x ((mem_varsT t x).1 hx) v hv)]
  obtain ⟨k, h1, _⟩ := rnm_some (varsT t []) n v ((mem_varsT t v).2 hv)
  rw [h1]; rfl
theorem variant_renS {g h : Int → Int} {t : S24} (hok : okT t = true) (hg : ∀ x ∈ occT t, ∀ y ∈ occT t, g x = g y → x = y) (hh : ∀ x ∈ occT t, ∀ y ∈ occT t, h x = h y → x = y)
    (g1 : ∀ v ∈ occT t, 1 ≤ g v) (h1 : ∀ v ∈ occT t, 1 ≤ h v) : variantT (renS g t) (renS h t) = true := by
  have k1 := ok_renS g hok g1
  have k2 := ok_renS h hok h1
  unfold variantT
  rw [k1, k2, renT_ok k1 (by decide) (by decide), renT_ok k2 (by decide) (by decide), ren_ren hg, ren_ren hh, ordT_refl]; rfl
mutual
theorem ord_nrm : ∀ a : S24, shT a = true → ordT (nrm a) a = 0
  | ⟨kd, nm, nt, xs⟩, h => by
    rw [ordT_eq]
    unfold nrm
    rw [subT]
    rw [shT] at h
    by_cases k1 : kd = 1
    · subst k1; simp [cmpI_refl]
    rw [if_neg k1]; rw [if_neg k1] at h
    by_cases k4 : kd = 4
    · subst k4
      simp only [if_true, cmpI_refl]
      simp at h
      rw [subL_map, List.length_map, ← subL_map, cmpI_refl, cmpS_refl, ordL_nrm' xs h.1.2]
      simp
    · rw [if_neg k4, bare_kind]
      by_cases k2 : kd = 2
      · subst k2; simp [cmpI_refl]
      · by_cases k3 : kd = 3
        · subst k3; simp [cmpI_refl, cmpS_refl]
        · simp [k2, k3, k4] at h
theorem ordL_nrm' : ∀ xs : List S24, shL xs = true → ordL (subL (fun _ => none) xs) xs = 0
  | [], _ => by rw [subL_nil, ordL_ll]
  | a :: r, h => by
    rw [shL_cons, Bool.and_eq_true] at h
    have := ord_nrm a h.1
    unfold nrm at this
    rw [subL_cons, ordL_cons, this, ordL_nrm' r h.2]; simp
end
/-- A term's own variables: as it is, but for what its kinds don't name. -/
theorem ren_id (a : S24) : renS id a = nrm a := by
  unfold nrm
  exact (sub_ren (fun _ => none) id a (fun v _ => .inr ⟨rfl, rfl⟩)).symm
end Go.Proofs.Ytpnkaggkedepeaa


/- Numbers of terms fit; contracts from a world on in which the terms lie. -/
namespace Go.Proofs.Ytpnkaggkedepeaa
set_option linter.unusedVariables false
open Go.RowKit Go.Maps Go.Proofs.YtpnkaggkedepeaaW.PrintWords Go.Proofs.YtpnkaggkedepeaaW.PrintLast Go.Proofs.YtpnkaggkedepeaaW.PrintMore Go.Proofs.Ytpnkaggkedepeaa.PTermTells Go.Extern

theorem I64_zero : I64 0 := by unfold I64; decide
theorem wfT_z24 : wfT z24 := by unfold z24; rw [wfT, wfL]; exact ⟨I64_zero, trivial⟩
theorem wfT_bare {t : S24} (h : wfT t) : wfT (bareT t) := by
  unfold bareT; split
  · rw [wfT, wfL]; exact ⟨wfT_int h, trivial⟩
  · rw [wfT, wfL]; exact ⟨I64_zero, trivial⟩
mutual
theorem wfT_sub (f : Int → Option S24) (hf : ∀ v x, f v = some x → wfT x) : ∀ t : S24, wfT t → wfT (subT f t)
  | ⟨kd, nm, nt, xs⟩, h => by
    have hb := wfT_bare h
    rw [wfT] at h
    rw [subT]
    by_cases h1 : kd = 1
    · rw [if_pos h1]
      cases e : f nt with
      | some x => exact hf _ _ e
      | none => simp only; rw [wfT, wfL]; exact ⟨h.1, trivial⟩
    rw [if_neg h1]
    by_cases h4 : kd = 4
    · rw [if_pos h4, wfT]; exact ⟨I64_zero, wfL_sub f hf xs h.2⟩
    · rw [if_neg h4]; exact hb
theorem wfL_sub (f : Int → Option S24) (hf : ∀ v x, f v = some x → wfT x) : ∀ xs : List S24, wfL xs → wfL (subL f xs)
  | [], _ => by rw [subL_nil, wfL]; trivial
  | a :: r, h => by rw [wfL_cons] at h; rw [subL_cons, wfL_cons]; exact ⟨wfT_sub f hf a h.1, wfL_sub f hf r h.2⟩
end
theorem wfT_nrm {t : S24} (h : wfT t) : wfT (nrm t) := wfT_sub _ (fun _ _ e => by cases e) t h
theorem wfT_put {f : Int → Option S24} (hf : ∀ v x, f v = some x → wfT x) {t : S24} (h : wfT t) (deep s : Int) : wfT (putT f t deep s).1 := by
  have hs := putT_spec f t deep s
  by_cases hk : (putT f t deep s).2.1 = true
  · rw [(hs.val hk).1]
    refine wfT_sub _ (fun v x e => ?_) t h
    cases hv : f v with
    | none => rw [hv] at e; cases e
    | some y => rw [hv] at e; cases e; exact wfT_nrm (hf v y hv)
  · rw [hs.no (by simpa using hk)]; exact wfT_z24
theorem wfT_ren {t : S24} (h : wfT t) {n : Int} (hn : I64 n) : wfT (renT t n).1 := by
  unfold renT
  split
  · exact wfT_z24
  · split
    · exact wfT_z24
    · rename_i hok hr
      have hok : okT t = true := by simpa using hok
      refine wfT_put (fun v x e => ?_) h 1 0
      have hm := renM_vars (varsT t []) n [] (fun k tv hk => by cases hk) (by omega) (by
        have h1 := varsT_len t []
        have h2 := nodes_ok hok
        simp only [List.length_nil] at h1
        omega)
      unfold fnT at e
      cases hg : mget (renM (varsT t []) n []) v with
      | none => rw [hg] at e; cases e
      | some tv => rw [hg] at e; cases e; exact (hm v tv hg).2.2

theorem Lies.at {w0 W : World} {t : S24} {A : Option Addr} {c : Nat} (h : Lies w0 t A c) (hB : Below w0.heap.size w0 W) : Lies W t A c := ⟨Kd.C_below h.C hB, h.le, h.wf⟩

section
variable {w0 W : World} {t u : S24} {A A' : Option Addr} {c c' : Nat}

theorem check_at (h : Lies w0 t A c) (hB : Below w0.heap.size w0 W) :
    Calls Try.prog 15 #[.agg #[.int .i64 t.f0, .string t.f1, .int .i64 t.f2, .slice A t.f3.length c]] W fun e w' => e = .returned (.int .i64 (if okT t = true then 0 else 70)) ∧ Below w0.heap.size w0 w' :=
  (check_any t W A c (h.at hB).C h.le).mono fun e w' ⟨a, b⟩ => ⟨a, below_step hB b⟩
theorem size_at (h : Lies w0 t A c) (hB : Below w0.heap.size w0 W) :
    Calls Try.prog 16 #[.agg #[.int .i64 t.f0, .string t.f1, .int .i64 t.f2, .slice A t.f3.length c]] W fun e w' => e = .returned (.int .i64 (sizeT t)) ∧ Below w0.heap.size w0 w' :=
  (size_any t W A c (h.at hB).C h.le).mono fun e w' ⟨a, b⟩ => ⟨a, below_step hB b⟩
theorem depth_at (h : Lies w0 t A c) (hB : Below w0.heap.size w0 W) :
    Calls Try.prog 17 #[.agg #[.int .i64 t.f0, .string t.f1, .int .i64 t.f2, .slice A t.f3.length c]] W fun e w' => e = .returned (.int .i64 (depthT t)) ∧ Below w0.heap.size w0 w' :=
  (depth_any t W A c (h.at hB).C h.le).mono fun e w' ⟨a, b⟩ => ⟨a, below_step hB b⟩
theorem vars_at (h : Lies w0 t A c) (hB : Below w0.heap.size w0 W) :
    Calls Try.prog 18 #[.agg #[.int .i64 t.f0, .string t.f1, .int .i64 t.f2, .slice A t.f3.length c]] W fun e w' => ∃ A' c', e = .returned (.slice A' (varsOf t).length c') ∧ (varsOf t).length ≤ c' ∧ Kd.C (Kd.int .i64) w' A' (varsOf t).length (varsOf t) ∧ Below w0.heap.size w0 w' :=
  (vars_of t W A c (h.at hB).C h.le).mono fun e w' ⟨v, a, o, b⟩ => by
    obtain ⟨A', c', rfl, h1, h2⟩ := o.reads
    exact ⟨A', c', a, h1, h2, below_step hB b⟩
theorem same_at (h : Lies w0 t A c) (k : Lies w0 u A' c') (hB : Below w0.heap.size w0 W) :
    Calls Try.prog 19 #[.agg #[.int .i64 t.f0, .string t.f1, .int .i64 t.f2, .slice A t.f3.length c], .agg #[.int .i64 u.f0, .string u.f1, .int .i64 u.f2, .slice A' u.f3.length c']] W fun e w' =>
      e = .returned (.bool (okT t && okT u && decide (ordT t u = 0))) ∧ Below w0.heap.size w0 w' :=
  (same_any t u W A A' c c' (h.at hB).C h.le (k.at hB).C k.le).mono fun e w' ⟨a, b⟩ => ⟨a, below_step hB b⟩
theorem order_at (h : Lies w0 t A c) (k : Lies w0 u A' c') (hB : Below w0.heap.size w0 W) :
    Calls Try.prog 20 #[.agg #[.int .i64 t.f0, .string t.f1, .int .i64 t.f2, .slice A t.f3.length c], .agg #[.int .i64 u.f0, .string u.f1, .int .i64 u.f2, .slice A' u.f3.length c']] W fun e w' =>
      e = .returned (.int .i64 (if (okT t && okT u) = true then ordT t u else 0)) ∧ Below w0.heap.size w0 w' :=
  (order_of t u W A A' c c' (h.at hB).C h.le (k.at hB).C k.le).mono fun e w' ⟨a, b⟩ => ⟨a, below_step hB b⟩
theorem variant_at (h : Lies w0 t A c) (k : Lies w0 u A' c') (hB : Below w0.heap.size w0 W) :
    Calls Try.prog 21 #[.agg #[.int .i64 t.f0, .string t.f1, .int .i64 t.f2, .slice A t.f3.length c], .agg #[.int .i64 u.f0, .string u.f1, .int .i64 u.f2, .slice A' u.f3.length c']] W fun e w' =>
      e = .returned (.bool (variantT t u)) ∧ Below w0.heap.size w0 w' :=
  (variant_any t u W A A' c c' (h.at hB).C h.le (k.at hB).C k.le h.wf k.wf).mono fun e w' ⟨a, b⟩ => ⟨a, below_step hB b⟩
theorem rename_at (h : Lies w0 t A c) {n : Int} (hn : I64 n) (hB : Below w0.heap.size w0 W) :
    Calls Try.prog 28 #[.agg #[.int .i64 t.f0, .string t.f1, .int .i64 t.f2, .slice A t.f3.length c], .int .i64 n] W fun e w' => ∃ A' c',
      e = .returned (.tuple #[.agg #[.int .i64 (renT t n).1.f0, .string (renT t n).1.f1, .int .i64 (renT t n).1.f2, .slice A' (renT t n).1.f3.length c'], .int .i64 (renT t n).2.1, .int .i64 (renT t n).2.2]) ∧ Lies w' (renT t n).1 A' c' ∧ Below w0.heap.size w0 w' :=
  (rename_any t n W A c (h.at hB).C h.le h.wf hn).mono fun e w' ⟨v, a, r, b⟩ => by
    obtain ⟨A', c', rfl, h1, h2⟩ := Kd.R_reads r
    exact ⟨A', c', a, ⟨h2, h1, wfT_ren h.wf hn⟩, below_step hB b⟩
end

theorem ordT_lo (a b : S24) : ∃ k : Int, ordT a b = k ∧ (k = -1 ∨ k = 0 ∨ k = 1) := by
  have hS : ∀ l m : List UInt8, Lib.compareBytes l m = -1 ∨ Lib.compareBytes l m = 0 ∨ Lib.compareBytes l m = 1 := by
    intro l
    induction l with
    | nil => intro m; cases m <;> simp [Lib.compareBytes]
    | cons a l ih =>
      intro m
      cases m with
      | nil => simp [Lib.compareBytes]
      | cons b m =>
        rw [Lib.compareBytes]
        split
        · simp
        · split
          · simp
          · exact ih m
  have hI : ∀ a b : Int, cmpI a b = -1 ∨ cmpI a b = 0 ∨ cmpI a b = 1 := by
    intro a b; unfold cmpI; (repeat' split) <;> simp
  have hT : ∀ n : Nat, (∀ a b : S24, SizeOf.sizeOf a < n → ordT a b = -1 ∨ ordT a b = 0 ∨ ordT a b = 1) ∧ (∀ xs ys : List S24, SizeOf.sizeOf xs < n → ordL xs ys = -1 ∨ ordL xs ys = 0 ∨ ordL xs ys = 1) := by
    intro n
    induction n with
    | zero => exact ⟨(fun _ _ h => absurd h (Nat.not_lt_zero _)), (fun _ _ h => absurd h (Nat.not_lt_zero _))⟩
    | succ n ih =>
      constructor
      · intro a b hn
        rw [ordT_eq]
        split
        · exact hI _ _
        · split
          · exact hI _ _
          · split
            · exact hS _ _
            · split
              · exact hI _ _
              · split
                · exact hS _ _
                · refine ih.2 _ _ ?_
                  cases a with
                  | mk k m i xs => simp only [S24.mk.sizeOf_spec] at hn; simp only; omega
      · intro xs ys hn
        match xs, ys with
        | [], [] => rw [ordL_ll]; simp
        | [], _ :: _ => rw [ordL_lc]; simp
        | _ :: _, [] => rw [ordL_cl]; simp
        | a :: xs, b :: ys =>
          simp only [List.cons.sizeOf_spec] at hn
          rw [ordL_cons]
          split
          · exact ih.1 a b (by omega)
          · exact ih.2 xs ys (by omega)
  exact ⟨_, rfl, (hT _).1 a b (Nat.lt_succ_self _)⟩
end Go.Proofs.Ytpnkaggkedepeaa


/- Lists of terms in plain words; contracts of List and Items from a world on. -/
namespace Go.Proofs.Ytpnkaggkedepeaa
set_option linter.unusedVariables false
open Go.RowKit Go.Maps Go.Proofs.YtpnkaggkedepeaaW.PrintWords Go.Proofs.YtpnkaggkedepeaaW.PrintLast Go.Proofs.YtpnkaggkedepeaaW.PrintMore Go.Proofs.Ytpnkaggkedepeaa.PTermTells Go.Extern

theorem nrm_ok {t : S24} (h : okT t = true) : okT (nrm t) = true := by
  rw [← ren_id]
  refine ok_renS id h (fun v hv => ?_)
  have hs := ((okT_iff t).1 h).1
  clear h
  have key : ∀ n : Nat, (∀ t : S24, SizeOf.sizeOf t < n → shT t = true → ∀ v ∈ occT t, 1 ≤ v) ∧ (∀ xs : List S24, SizeOf.sizeOf xs < n → shL xs = true → ∀ v ∈ occL xs, 1 ≤ v) := by
    intro n
    induction n with
    | zero => exact ⟨(fun _ h => absurd h (Nat.not_lt_zero _)), (fun _ h => absurd h (Nat.not_lt_zero _))⟩
    | succ n ih =>
      constructor
      · intro t hn hs v hv
        obtain ⟨kd, nm, nt, xs⟩ := t
        rw [shT] at hs
        rw [occT] at hv
        by_cases h1 : kd = 1
        · rw [if_pos h1] at hs hv
          rw [List.mem_singleton] at hv
          have := of_decide_eq_true hs
          omega
        rw [if_neg h1] at hs hv
        by_cases h4 : kd = 4
        · subst h4
          rw [if_pos rfl] at hv
          rw [if_neg (by decide), if_pos rfl] at hs
          simp only [Bool.and_eq_true] at hs
          simp only [S24.mk.sizeOf_spec] at hn
          exact ih.2 xs (by omega) hs.1.2 v hv
        · rw [if_neg h4] at hv; cases hv
      · intro xs hn hs v hv
        match xs with
        | [] => rw [occL_nil] at hv; cases hv
        | a :: r =>
          rw [occL_cons] at hv
          rw [shL_cons, Bool.and_eq_true] at hs
          simp only [List.cons.sizeOf_spec] at hn
          rcases List.mem_append.1 hv with h | h
          · exact ih.1 a (by omega) hs.1 v h
          · exact ih.2 r (by omega) hs.2 v h
  exact (key _).1 t (Nat.lt_succ_self _) hs v hv
theorem occ_pos {t : S24} (h : okT t = true) : ∀ v ∈ occT t, 1 ≤ v := by
  intro v hv
  have h2 := nrm_ok h
  have key : ∀ n : Nat, (∀ t : S24, SizeOf.sizeOf t < n → shT t = true → ∀ v ∈ occT t, 1 ≤ v) ∧ (∀ xs : List S24, SizeOf.sizeOf xs < n → shL xs = true → ∀ v ∈ occL xs, 1 ≤ v) := by
    intro n
    induction n with
    | zero => exact ⟨(fun _ h => absurd h (Nat.not_lt_zero _)), (fun _ h => absurd h (Nat.not_lt_zero _))⟩
    | succ n ih =>
      constructor
      · intro t hn hs v hv
        obtain ⟨kd, nm, nt, xs⟩ := t
        rw [shT] at hs
        rw [occT] at hv
        by_cases h1 : kd = 1
        · rw [if_pos h1] at hs hv
          rw [List.mem_singleton] at hv
          have := of_decide_eq_true hs
          omega
        rw [if_neg h1] at hs hv
        by_cases h4 : kd = 4
        · subst h4
          rw [if_pos rfl] at hv
          rw [if_neg (by decide), if_pos rfl] at hs
          simp only [Bool.and_eq_true] at hs
          simp only [S24.mk.sizeOf_spec] at hn
          exact ih.2 xs (by omega) hs.1.2 v hv
        · rw [if_neg h4] at hv; cases hv
      · intro xs hn hs v hv
        match xs with
        | [] => rw [occL_nil] at hv; cases hv
        | a :: r =>
          rw [occL_cons] at hv
          rw [shL_cons, Bool.and_eq_true] at hs
          simp only [List.cons.sizeOf_spec] at hn
          rcases List.mem_append.1 hv with h | h
          · exact ih.1 a (by omega) hs.1 v h
          · exact ih.2 r (by omega) hs.2 v h
  exact (key _).1 t (Nat.lt_succ_self _) ((okT_iff t).1 h).1 v hv
theorem nrm_nrm (t : S24) : nrm (nrm t) = nrm t := by rw [← ren_id, ← ren_id, renS_renS]; rfl
theorem nrm_same {t : S24} (h : okT t = true) : ordT (nrm t) t = 0 := ord_nrm t ((okT_iff t).1 h).1
theorem nrm_same' {t : S24} (h : okT t = true) : ordT t (nrm t) = 0 := by have := nrm_same h; have := ordT_anti t (nrm t); omega
theorem nrm_nodes (t : S24) : nodes (nrm t) = nodes t ∧ dpt (nrm t) = dpt t := by rw [← ren_id]; exact nodes_renS id t
theorem cp_ok {t : S24} (h : okT t = true) : (cpT t 1 0).1 = nrm t ∧ (cpT t 1 0).2.1 = true := by
  have hs := cpT_spec t 1 0
  have h1 := (okT_iff t).1 h
  have : (cpT t 1 0).2.1 = true := by
    rw [hs.ok, (nrm_nodes t).1, (nrm_nodes t).2]
    exact ⟨by omega, by omega⟩
  exact ⟨(hs.val this).1, this⟩
theorem nodesL_mem {a : S24} : ∀ {xs : List S24}, a ∈ xs → nodes a ≤ nodesL xs ∧ dpt a ≤ dptL xs
  | b :: r, h => by
    rw [nodesL_cons, dptL_cons]
    rcases List.mem_cons.1 h with rfl | h
    · exact ⟨by omega, by omega⟩
    · have := nodesL_mem h; exact ⟨by omega, by omega⟩
theorem shL_mem {a : S24} : ∀ {xs : List S24}, shL xs = true → a ∈ xs → shT a = true
  | b :: r, hs, h => by
    rw [shL_cons, Bool.and_eq_true] at hs
    rcases List.mem_cons.1 h with rfl | h
    · exact hs.1
    · exact shL_mem hs.2 h
theorem ok_arg {t a : S24} (h : okT t = true) (h4 : t.f0 = 4) (ha : a ∈ t.f3) : okT a = true := by
  rw [okT_iff] at h ⊢
  obtain ⟨kd, nm, nt, xs⟩ := t
  simp only at h4 ha
  subst h4
  rw [shT, nodes, dpt] at h
  simp only [if_true] at h
  have h0 := h.1
  rw [if_neg (by decide), if_neg (by decide)] at h0
  simp only [Bool.and_eq_true] at h0
  have := nodesL_mem ha
  exact ⟨shL_mem h0.1.2 ha, by omega, by omega⟩

theorem listT_cons (t : S24) (ts : List S24) (tail : S24) : listT (t :: ts) tail = consT t (listT ts tail) := rfl
theorem ok_list : ∀ (ts : List S24) (tail : S24), okT (listT ts tail) = true → (∀ t ∈ ts, okT t = true) ∧ okT tail = true
  | [], tail, h => ⟨(fun t ht => by cases ht), h⟩
  | t :: ts, tail, h => by
    rw [listT_cons] at h
    have h1 := ok_arg (a := t) h rfl (by unfold consT; simp)
    have h2 := ok_arg (a := listT ts tail) h rfl (by unfold consT; simp)
    have h3 := ok_list ts tail h2
    exact ⟨fun x hx => (List.mem_cons.1 hx).elim (fun e => by rw [e]; exact h1) (h3.1 x), h3.2⟩
theorem nrm_cons (t u : S24) : nrm (consT t u) = consT (nrm t) (nrm u) := by
  unfold nrm consT
  rw [subT, if_neg (by decide), if_pos rfl, subL_cons, subL_cons, subL_nil]
theorem nrm_list : ∀ (ts : List S24) (tail : S24), nrm (listT ts tail) = listT (ts.map nrm) (nrm tail)
  | [], tail => rfl
  | t :: ts, tail => by rw [listT_cons, nrm_cons, nrm_list ts tail]; rfl
theorem items_list : ∀ (ts : List S24) (tail : S24), itemsL (listT ts tail) = (ts ++ (itemsL tail).1, (itemsL tail).2)
  | [], tail => rfl
  | t :: ts, tail => by rw [listT_cons]; unfold consT; rw [itemsL_cons (by kernel_rfl), items_list ts tail]; rfl
theorem itemsT_ok {t : S24} (h : okT t = true) : itemsT t = itemsL (nrm t) := by unfold itemsT; rw [if_pos h, (cp_ok h).1]
theorem items_ok : ∀ t : S24, okT t = true → (∀ y ∈ (itemsL t).1, okT y = true) ∧ okT (itemsL t).2 = true
  | ⟨kd, nm, nt, xs⟩, h => by
    by_cases hk : kd = 4 ∧ nm.toList = [46] ∧ xs.length = 2
    · obtain ⟨rfl, hd, hl⟩ := hk
      match xs, hl with
      | [a, b], _ =>
        rw [itemsL_cons hd]
        have h1 := ok_arg (a := a) h rfl (by simp)
        have h2 := ok_arg (a := b) h rfl (by simp)
        have h3 := items_ok b h2
        exact ⟨fun y hy => (List.mem_cons.1 hy).elim (fun e => by rw [e]; exact h1) (h3.1 y), h3.2⟩
    · rw [itemsL_end (t := ⟨kd, nm, nt, xs⟩) hk]
      exact ⟨(fun y hy => by simp at hy), h⟩
theorem items_wf : ∀ t : S24, wfT t → (∀ y ∈ (itemsL t).1, wfT y) ∧ wfT (itemsL t).2
  | ⟨kd, nm, nt, xs⟩, h => by
    by_cases hk : kd = 4 ∧ nm.toList = [46] ∧ xs.length = 2
    · obtain ⟨rfl, hd, hl⟩ := hk
      match xs, hl with
      | [a, b], _ =>
        rw [itemsL_cons hd]
        have h1 := wfT_mem (a := a) h (by simp)
        have h2 := wfT_mem (a := b) h (by simp)
        have h3 := items_wf b h2
        exact ⟨fun y hy => (List.mem_cons.1 hy).elim (fun e => by rw [e]; exact h1) (h3.1 y), h3.2⟩
    · rw [itemsL_end (t := ⟨kd, nm, nt, xs⟩) hk]
      exact ⟨(fun y hy => by simp at hy), h⟩
theorem wf_cp {t : S24} (h : wfT t) (deep s : Int) : wfT (cpT t deep s).1 := by
  have hs := cpT_spec t deep s
  by_cases hk : (cpT t deep s).2.1 = true
  · rw [(hs.val hk).1]; exact wfT_nrm h
  · rw [hs.no (by simpa using hk)]; exact wfT_z24
theorem wf_items {t : S24} (h : wfT t) : (∀ y ∈ (itemsT t).1, wfT y) ∧ wfT (itemsT t).2 := by
  unfold itemsT
  split
  · exact items_wf _ (wf_cp h 1 0)
  · exact ⟨(fun y hy => by cases hy), wfT_z24⟩
theorem wf_listA {ts : List S24} {tail : S24} (hs : ∀ t ∈ ts, wfT t) (h : wfT tail) : wfT (listA ts tail).1 := by
  unfold listA
  split
  · exact wfT_z24
  · split
    · exact wfT_z24
    · exact wf_cp (wfT_list ts tail hs h) 1 0

section
variable {w0 W : World} {t u : S24} {A A' : Option Addr} {c c' : Nat}
theorem list_at (ts : List S24) {cap : Nat} (hC : Kd.C k24 w0 A ts.length ts) (hwf : ∀ t ∈ ts, wfT t) (k : Lies w0 u A' c') (hB : Below w0.heap.size w0 W) :
    Calls Try.prog 29 #[.slice A ts.length cap, .agg #[.int .i64 u.f0, .string u.f1, .int .i64 u.f2, .slice A' u.f3.length c']] W fun e w' => ∃ A1 c1,
      e = .returned (.tuple #[.agg #[.int .i64 (listA ts u).1.f0, .string (listA ts u).1.f1, .int .i64 (listA ts u).1.f2, .slice A1 (listA ts u).1.f3.length c1], .int .i64 (listA ts u).2]) ∧ Lies w' (listA ts u).1 A1 c1 ∧ Below w0.heap.size w0 w' :=
  (list_any ts u W A cap (Kd.C_below hC hB) hwf A' c' (k.at hB)).mono fun e w' ⟨v, a, r, b⟩ => by
    obtain ⟨A1, c1, rfl, h1, h2⟩ := Kd.R_reads r
    exact ⟨A1, c1, a, ⟨h2, h1, wf_listA hwf k.wf⟩, below_step hB b⟩
theorem items_at (h : Lies w0 t A c) (hB : Below w0.heap.size w0 W) :
    Calls Try.prog 30 #[.agg #[.int .i64 t.f0, .string t.f1, .int .i64 t.f2, .slice A t.f3.length c]] W fun e w' => ∃ A1 c1 A2 c2,
      e = .returned (.tuple #[.slice A1 (itemsT t).1.length c1, .agg #[.int .i64 (itemsT t).2.f0, .string (itemsT t).2.f1, .int .i64 (itemsT t).2.f2, .slice A2 (itemsT t).2.f3.length c2]]) ∧
      (itemsT t).1.length ≤ c1 ∧ Kd.C k24 w' A1 (itemsT t).1.length (itemsT t).1 ∧ Lies w' (itemsT t).2 A2 c2 ∧ Below w0.heap.size w0 w' :=
  (items_any t W A c (h.at hB).C h.le h.wf).mono fun e w' ⟨v, u, a, r1, r2, b⟩ => by
    obtain ⟨A1, c1, rfl, h1, h2⟩ := Kd.R_reads r1
    obtain ⟨A2, c2, rfl, h3, h4⟩ := Kd.R_reads r2
    exact ⟨A1, c1, A2, c2, a, h1, h2, ⟨h4, h3, (wf_items h.wf).2⟩, below_step hB b⟩
end
end Go.Proofs.Ytpnkaggkedepeaa


/- Two renamings of a term apart from each other are made the same: Solve in plain words. -/
namespace Go.Proofs.Ytpnkaggkedepeaa
set_option linter.unusedVariables false
open Go.RowKit Go.Maps Go.Proofs.YtpnkaggkedepeaaW.PrintWords Go.Proofs.YtpnkaggkedepeaaW.PrintLast Go.Proofs.YtpnkaggkedepeaaW.PrintMore Go.Proofs.Ytpnkaggkedepeaa.PTermTells Go.Extern

theorem clash_self (x : S24) : clashT x x = false := by
  unfold clashT
  rw [if_pos rfl, if_pos rfl]
  split
  · simp
  · split
    · simp
    · rfl

/-- A map that binds the variables D in one renaming to their names in another. -/
structure SR (g h : Int → Int) (D : List Int) (S : Sm) : Prop where
  sorted : msorted S
  here : ∀ v ∈ D, mget S (g v) = some (mkV (h v))
  only : ∀ p ∈ S, ∃ v ∈ D, p = (g v, mkV (h v))

theorem SR.nil (g h : Int → Int) : SR g h [] [] := ⟨List.Pairwise.nil, (fun v hv => by cases hv), fun p hp => by cases hp⟩
section
variable {g h : Int → Int} {V D : List Int} {S : Sm}
theorem SR.none_h (s : SR g h D S) (hD : ∀ v ∈ D, v ∈ V) (hlt : ∀ u ∈ V, ∀ v ∈ V, h u < g v) {v : Int} (hv : v ∈ V) : mget S (h v) = none :=
  mget_of_not fun p hp => by
    obtain ⟨u, hu, rfl⟩ := s.only p hp
    have := hlt v hv u (hD u hu)
    simp only; omega
theorem SR.none_g (s : SR g h D S) (hD : ∀ v ∈ D, v ∈ V) (hinj : ∀ u ∈ V, ∀ v ∈ V, g u = g v → u = v) {v : Int} (hv : v ∈ V) (hn : v ∉ D) : mget S (g v) = none :=
  mget_of_not fun p hp => by
    obtain ⟨u, hu, rfl⟩ := s.only p hp
    intro e
    exact hn (hinj u (hD u hu) v hv e ▸ hu)
theorem walk_var {S : Sm} {W : Nat} {x l : Int} (hx : mget S x = none) : walkS S (W + 1) (mkV x) l = some (mkV x, x) := by
  rw [walkS]; unfold mkV; rw [if_pos rfl]; simp only; rw [hx]
theorem walk_bound {S : Sm} {W : Nat} {x y l : Int} (hx : mget S x = some (mkV y)) (hy : mget S y = none) : walkS S (W + 2) (mkV x) l = some (mkV y, y) := by
  rw [walkS]; unfold mkV; rw [if_pos rfl]; simp only; rw [hx]; exact walk_var hy
theorem walk_not {S : Sm} {W : Nat} {t : S24} {l : Int} (ht : t.f0 ≠ 1) : walkS S (W + 1) t l = some (t, l) := by rw [walkS, if_neg ht]
theorem SR.put (s : SR g h D S) (hD : ∀ v ∈ D, v ∈ V) (hinj : ∀ u ∈ V, ∀ v ∈ V, g u = g v → u = v) {v : Int} (hv : v ∈ V) : SR g h (v :: D) (mput (g v) (mkV (h v)) S) := by
  refine ⟨msorted_mput s.sorted, fun u hu => ?_, fun p hp => ?_⟩
  · by_cases e : g u = g v
    · rw [e, mget_mput_same s.sorted]
      rcases List.mem_cons.1 hu with rfl | hu
      · rfl
      · rw [hinj u (hD u hu) v hv e]
    · rw [mget_mput_other e]
      rcases List.mem_cons.1 hu with rfl | hu
      · exact absurd rfl e
      · exact s.here u hu
  · rcases mem_mput.1 hp with rfl | ⟨hp, _⟩
    · exact ⟨v, by simp, rfl⟩
    · obtain ⟨u, hu, e⟩ := s.only p hp
      exact ⟨u, by simp [hu], e⟩

theorem occL_append : ∀ xs ys : List S24, occL (xs ++ ys) = occL xs ++ occL ys
  | [], ys => by rw [occL_nil]; rfl
  | a :: r, ys => by rw [List.cons_append, occL_cons, occL_cons, occL_append r ys, List.append_assoc]
theorem nodesL_rev : ∀ xs : List S24, nodesL xs.reverse = nodesL xs
  | [] => rfl
  | a :: r => by rw [List.reverse_cons, nodesL_append, nodesL_rev r, nodesL_cons, nodesL_cons, nodesL_nil]; omega
theorem occL_mem {v : Int} : ∀ xs : List S24, v ∈ occL xs ↔ ∃ t ∈ xs, v ∈ occT t
  | [] => by rw [occL_nil]; simp
  | a :: r => by rw [occL_cons, List.mem_append, occL_mem r]; simp
theorem ren_comp (g : Int → Int) (nm : ByteArray) (nt : Int) (xs : List S24) : renS g ⟨4, nm, nt, xs⟩ = ⟨4, nm, 0, renL g xs⟩ := by rw [renS_eq, if_neg (by decide), if_pos rfl]
theorem ren_other (g : Int → Int) {kd : Int} (nm : ByteArray) (nt : Int) (xs : List S24) (h1 : kd ≠ 1) (h4 : kd ≠ 4) : renS g ⟨kd, nm, nt, xs⟩ = bareT ⟨kd, nm, nt, xs⟩ := by rw [renS_eq, if_neg h1, if_neg h4]
theorem mkV_ren (g : Int → Int) (nm : ByteArray) (nt : Int) (xs : List S24) : renS g ⟨1, nm, nt, xs⟩ = mkV (g nt) := by rw [renS_eq, if_pos rfl]

theorem solve_ren (hinj : ∀ u ∈ V, ∀ v ∈ V, g u = g v → u = v) (hlt : ∀ u ∈ V, ∀ v ∈ V, h u < g v) (hpos : ∀ v ∈ V, 1 ≤ h v) (W : Nat) :
    ∀ (k : Nat) (ts : List S24) (D : List Int) (S : Sm), nodesL ts < k → (∀ t ∈ ts, shT t = true) → (∀ v ∈ occL ts, v ∈ V) → (∀ v ∈ D, v ∈ V) → SR g h D S →
      ∃ S' D', solveS (W + 2) k S (ts.map fun t => (renS g t, renS h t)) = some (S', true) ∧ SR g h D' S' ∧ (∀ v, v ∈ D' ↔ v ∈ D ∨ v ∈ occL ts)
  | 0, _, _, _, hk, _, _, _, _ => absurd hk (Nat.not_lt_zero _)
  | k + 1, [], D, S, _, _, _, _, hs => ⟨S, D, by rw [List.map_nil, solveS], hs, fun v => by rw [occL_nil]; simp⟩
  | k + 1, ⟨kd, nm, nt, xs⟩ :: r, D, S, hk, hsh, hV, hD, hs => by
    have hn := nodes_pos ⟨kd, nm, nt, xs⟩
    rw [nodesL_cons] at hk
    have hVr : ∀ v ∈ occL r, v ∈ V := fun v hv => hV v (by rw [occL_cons]; exact List.mem_append_right _ hv)
    have hshr : ∀ t ∈ r, shT t = true := fun t ht => hsh t (by simp [ht])
    rw [List.map_cons, solveS]
    by_cases h1 : kd = 1
    · subst h1
      have ho : occT ⟨1, nm, nt, xs⟩ = [nt] := by rw [occT, if_pos rfl]
      have hv : nt ∈ V := hV nt (by rw [occL_cons, ho]; simp)
      have hh := hs.none_h hD hlt hv
      simp only [mkV_ren]
      rw [walk_var (l := 0) hh]
      have hp := hpos nt hv
      by_cases hd : nt ∈ D
      · rw [walk_bound (l := 0) (hs.here nt hd) hh]
        simp only
        rw [if_pos (by first | exact ⟨by omega, rfl⟩ | exact ⟨by omega, trivial⟩)]
        obtain ⟨S', D', e, hs', hm⟩ := solve_ren hinj hlt hpos W k r D S (by omega) hshr hVr hD hs
        refine ⟨S', D', e, hs', fun v => ?_⟩
        rw [hm, occL_cons, ho]
        simp only [List.mem_append, List.mem_singleton]
        constructor
        · rintro (h | h)
          · exact .inl h
          · exact .inr (.inr h)
        · rintro (h | rfl | h)
          · exact .inl h
          · exact .inl hd
          · exact .inr h
      · have hg := hs.none_g hD hinj hv hd
        rw [walk_var (l := 0) hg]
        have hl := hlt nt hv nt hv
        simp only
        rw [if_neg (by omega), if_pos ⟨rfl, rfl⟩, show max (g nt) (h nt) = g nt by omega, show min (g nt) (h nt) = h nt by omega]
        obtain ⟨S', D', e, hs', hm⟩ := solve_ren hinj hlt hpos W k r (nt :: D) _ (by omega) hshr hVr (fun v hx => (List.mem_cons.1 hx).elim (fun e => e ▸ hv) (hD v)) (hs.put hD hinj hv)
        refine ⟨S', D', e, hs', fun v => ?_⟩
        rw [hm, occL_cons, ho]
        simp only [List.mem_append, List.mem_cons, List.not_mem_nil, or_false]
        constructor
        · rintro ((h | h) | h)
          · exact .inr (.inl h)
          · exact .inl h
          · exact .inr (.inr h)
        · rintro (h | h | h)
          · exact .inl (.inr h)
          · exact .inl (.inl h)
          · exact .inr h
    · have k1 : (renS g ⟨kd, nm, nt, xs⟩).f0 = kd := by
        rw [renS_eq, if_neg h1]; split
        · simp only; omega
        · exact bareT_kd _
      have k2 : (renS h ⟨kd, nm, nt, xs⟩).f0 = kd := by
        rw [renS_eq, if_neg h1]; split
        · simp only; omega
        · exact bareT_kd _
      simp only
      rw [walk_not (l := 0) (W := W + 1) (by omega), walk_not (l := 0) (W := W + 1) (by omega)]
      simp only
      rw [if_neg (by omega), if_neg (by omega), if_neg (by omega), if_neg (by omega)]
      by_cases h4 : kd = 4
      · subst h4
        have ho : occT ⟨4, nm, nt, xs⟩ = occL xs := by rw [occT, if_neg (by decide), if_pos rfl]
        have hnd : nodes ⟨4, nm, nt, xs⟩ = 1 + nodesL xs := by rw [nodes, if_pos rfl]
        have hst := hsh ⟨4, nm, nt, xs⟩ (by simp)
        rw [shT, if_neg (by decide), if_neg (by decide), if_pos rfl] at hst
        simp only [Bool.and_eq_true, decide_eq_true_eq] at hst
        rw [ren_comp, ren_comp]
        have hc : clashT ⟨4, nm, 0, renL g xs⟩ ⟨4, nm, 0, renL h xs⟩ = false := by
          unfold clashT
          simp [renL_len]
        rw [hc, if_neg (by decide), if_pos rfl]
        simp only
        rw [if_neg (by rw [renL_len]; omega), if_neg (by omega), renL_map, renL_map, List.zip_map', ← List.map_reverse, ← List.map_append]
        obtain ⟨S', D', e, hs', hm⟩ := solve_ren hinj hlt hpos W k (xs.reverse ++ r) D S (by rw [nodesL_append, nodesL_rev]; omega)
          (fun t ht => by
            rcases List.mem_append.1 ht with h | h
            · exact shL_mem hst.1.2 (List.mem_reverse.1 h)
            · exact hshr t h)
          (fun v hv => by
            rw [occL_append, List.mem_append] at hv
            refine hV v ?_
            rw [occL_cons, ho, List.mem_append]
            refine hv.imp (fun h => ?_) id
            rw [occL_mem] at h ⊢
            obtain ⟨t, ht, h⟩ := h
            exact ⟨t, List.mem_reverse.1 ht, h⟩) hD hs
        refine ⟨S', D', e, hs', fun v => ?_⟩
        rw [hm, occL_cons, ho, occL_append, List.mem_append, List.mem_append]
        have : v ∈ occL xs.reverse ↔ v ∈ occL xs := by rw [occL_mem, occL_mem]; simp
        rw [this]
      · have ho : occT ⟨kd, nm, nt, xs⟩ = [] := by rw [occT, if_neg h1, if_neg h4]
        rw [ren_other g nm nt xs h1 h4, ren_other h nm nt xs h1 h4, clash_self, if_neg (by decide), if_neg (by rw [bareT_kd]; exact h4)]
        obtain ⟨S', D', e, hs', hm⟩ := solve_ren hinj hlt hpos W k r D S (by omega) hshr hVr hD hs
        refine ⟨S', D', e, hs', fun v => ?_⟩
        rw [hm, occL_cons, ho]; simp

theorem SR.loops (s : SR g h D S) (hD : ∀ v ∈ D, v ∈ V) (hlt : ∀ u ∈ V, ∀ v ∈ V, h u < g v) :
    ∀ (ord : List Int) (m : Seen), (∀ x ∈ ord, x ∈ S.map (·.1)) → (∀ x, seenV m x = 0 ∨ seenV m x = 2) → msorted m → m.length + 2 * ord.length < 90000 → ∃ m', anyP (loopsP S 2) (ord.map varT) m = some (false, m')
  | [], m, _, _, _, _ => ⟨m, rfl⟩
  | x :: r, m, ho, hm, hms, hl => by
    simp only [List.length_cons] at hl
    rw [List.map_cons, anyP_cons]
    obtain ⟨p, hp, e⟩ := List.mem_map.1 (ho x (by simp))
    obtain ⟨v, hv, rfl⟩ := s.only p hp
    simp only at e
    subst e
    have hg := s.here v hv
    have hh := s.none_h hD hlt (hD v hv)
    have e : ∃ m2, loopsP S 2 (varT (g v)) m = some (false, m2) ∧ (∀ x, seenV m2 x = 0 ∨ seenV m2 x = 2) ∧ msorted m2 ∧ m2.length ≤ m.length + 2 := by
      rw [loopsP]
      unfold varT
      rw [if_neg (by simp)]
      simp only
      rw [hg]
      simp only
      rcases hm (g v) with h0 | h2
      · rw [if_neg (by rw [h0]; simp), if_neg (by rw [h0]; decide), if_neg (by omega)]
        have l1 := length_mput_le (g v) (1 : Int) m
        have l2 := length_mput_le (g v) (2 : Int) (mput (g v) 1 m)
        rw [loopsP]
        unfold mkV
        rw [if_neg (by simp)]
        simp only
        rw [hh]
        simp only [Bool.false_eq_true, if_false]
        rw [if_neg (by omega)]
        refine ⟨_, rfl, fun x => ?_, msorted_mput (msorted_mput hms), by omega⟩
        unfold seenV
        by_cases ex : x = g v
        · rw [ex, mget_mput_same (msorted_mput hms)]; exact .inr rfl
        · rw [mget_mput_other ex, mget_mput_other ex]; exact hm x
      · rw [if_pos (.inr h2)]
        exact ⟨m, rfl, hm, hms, by omega⟩
    obtain ⟨m2, e1, e2, e3, e4⟩ := e
    rw [e1]
    simp only [Bool.false_eq_true, if_false]
    exact s.loops hD hlt r m2 (fun y hy => ho y (by simp [hy])) e2 e3 (by omega)

theorem SR.binds {S' : Sm} (hh : ∀ p ∈ S, ∃ y, p.2 = mkV y ∧ mget S' y = none) (W F : Nat) : ∀ acc : List S50, ∃ bs, bindsS S' (W + 1) (F + 1) S acc = some (some bs) ∧ bs.length = acc.length + S.length := by
  induction S with
  | nil => exact fun acc => ⟨acc, rfl, rfl⟩
  | cons p r ih =>
    intro acc
    obtain ⟨y, e, hy⟩ := hh p (by simp)
    rw [bindsS, e, fullS, walk_var (l := 0) hy]
    simp only
    have : genTo (fullS S' (W + 1) F) (mkV y) 1 0 = some (bareT (mkV y), true, 1) := by
      unfold genTo; rw [if_neg (by decide), if_pos (by unfold mkV; simp)]; rfl
    rw [this]
    simp only [if_true]
    obtain ⟨bs, e2, e3⟩ := ih (fun q hq => hh q (by simp [hq])) (acc ++ [⟨p.1, bareT (mkV y)⟩])
    exact ⟨bs, e2, by rw [e3]; simp; omega⟩

/-- Two renamings of a right term, the second one's variables all below the first one's, are made the same by as many bindings as it has variables. -/
theorem solve_rens {t : S24} (hok : okT t = true) (hg : ∀ u ∈ occT t, ∀ v ∈ occT t, g u = g v → u = v) (hlt : ∀ u ∈ occT t, ∀ v ∈ occT t, h u < g v) (hpos : ∀ v ∈ occT t, 1 ≤ h v) :
    ∃ bs : List S50, SolveOK 3 3000 2 1 (renS g t) (renS h t) (bs, true, 0) ∧ bs.length = (varsT t []).length := by
  have hk := (okT_iff t).1 hok
  have hg1 : ∀ v ∈ occT t, 1 ≤ g v := fun v hv => by have := hlt v hv v hv; have := hpos v hv; omega
  obtain ⟨S, D, e, hs, hm⟩ := solve_ren (V := occT t) hg hlt hpos 1 3000 [t] [] [] (by rw [nodesL_cons, nodesL_nil]; omega) (fun x hx => by rw [List.mem_singleton.1 hx]; exact hk.1)
    (fun v hv => by rw [occL_cons, occL_nil, List.append_nil] at hv; exact hv) (fun v hv => by cases hv) (SR.nil g h)
  have hm' : ∀ v, v ∈ D ↔ v ∈ occT t := fun v => by rw [hm, occL_cons, occL_nil, List.append_nil]; simp
  have hD : ∀ v ∈ D, v ∈ occT t := fun v hv => (hm' v).1 hv
  have hn := msorted_nodup hs.sorted
  have hlen : S.length = (varsT t []).length := by
    have hv := varsT_nodup t
    have hvg : ((varsT t []).map g).Nodup := by
      rw [List.Nodup, List.pairwise_map]
      refine hv.imp_of_mem (fun {a b} ha hb hne e => hne (hg a ((mem_varsT t a).1 ha) b ((mem_varsT t b).1 hb) e))
    apply Nat.le_antisymm
    · have := nodup_len (S.map (·.1)) ((varsT t []).map g) hn (fun x hx => by
        obtain ⟨p, hp, rfl⟩ := List.mem_map.1 hx
        obtain ⟨v, hv, rfl⟩ := hs.only p hp
        exact List.mem_map_of_mem ((mem_varsT t v).2 (hD v hv)))
      simpa using this
    · have := nodup_len ((varsT t []).map g) (S.map (·.1)) hvg (fun x hx => by
        obtain ⟨v, hv, rfl⟩ := List.mem_map.1 hx
        have := mget_mem (hs.here v ((hm' v).2 ((mem_varsT t v).1 hv)))
        exact List.mem_map.2 ⟨_, this, rfl⟩)
      simpa using this
  have hv2 : (varsT t []).length ≤ 2000 := by
    have h1 := varsT_len t []
    simp only [List.length_nil] at h1
    omega
  obtain ⟨bs, hb, hbl⟩ := SR.binds (S := S) (S' := S) (fun p hp => by
    obtain ⟨v, hv, rfl⟩ := hs.only p hp
    exact ⟨h v, rfl, hs.none_h hD hlt (hD v hv)⟩) 2 0 []
  refine ⟨bs, ?_, by rw [hbl, hlen]; simp⟩
  unfold SolveOK
  rw [ok_renS g hok hg1, ok_renS h hok hpos, if_neg (by decide)]
  refine ⟨S, true, by simpa using e, ?_⟩
  rw [if_neg (by decide)]
  refine ⟨false, fun ord hno hmem => ?_, ?_⟩
  · have hol : ord.length ≤ S.length := by have := nodup_len ord (S.map (·.1)) hno (fun x hx => (hmem x).1 hx); simpa using this
    exact hs.loops hD hlt ord [] (fun x hx => (hmem x).1 hx) (fun x => .inl rfl) List.Pairwise.nil (by simp only [List.length_nil]; omega)
  · rw [if_neg (by decide)]
    exact ⟨some bs, hb, rfl⟩
end
end Go.Proofs.Ytpnkaggkedepeaa


/- Terms without variables are made the same just if they are the same; the document's HasLong and SameLongs. -/
namespace Go.Proofs.Ytpnkaggkedepeaa
set_option linter.unusedVariables false
open Go.RowKit Go.Maps Go.Proofs.YtpnkaggkedepeaaW.PrintWords Go.Proofs.YtpnkaggkedepeaaW.PrintLast Go.Proofs.YtpnkaggkedepeaaW.PrintMore Go.Proofs.Ytpnkaggkedepeaa.PTermTells Go.Extern

theorem rd_nat {l : List Int} {i : Nat} (h : i < l.length) : rd l (i : Int) = l[i] := by
  unfold rd; simp [List.getD_eq_getElem?_getD, List.getElem?_eq_getElem h]
theorem has_l0 (l : List Int) (a : Int) (hl : l.length < 1000000) : ∀ (d k i : Nat), i + d = l.length → d < k → pythiaref01_HasLong.l0 k l a (i : Int) = some (decide (a ∈ l.drop i)) := by
  intro d
  induction d with
  | zero =>
    intro k i hi hk
    obtain ⟨k, rfl⟩ : ∃ m, k = m + 1 := ⟨k - 1, by omega⟩
    rw [pythiaref01_HasLong.l0, if_neg (by omega), List.drop_of_length_le (by omega)]
    simp
  | succ d ih =>
    intro k i hi hk
    obtain ⟨k, rfl⟩ : ∃ m, k = m + 1 := ⟨k - 1, by omega⟩
    have hlt : i < l.length := by omega
    rw [pythiaref01_HasLong.l0, if_pos (by omega), if_pos (by omega), rd_nat hlt, List.drop_eq_getElem_cons hlt]
    by_cases h : l[i] = a
    · rw [if_pos h]
      congr 1
      symm
      rw [decide_eq_true_iff, List.mem_cons]
      exact .inl h.symm
    · rw [if_neg h, show wrap64 ((i : Int) + 1) = ((i + 1 : Nat) : Int) by unfold wrap64; omega, ih k (i + 1) (by omega) (by omega)]
      congr 1
      rw [decide_eq_decide, List.mem_cons]
      exact ⟨.inr, fun e => e.resolve_left (fun e2 => h e2.symm)⟩
theorem has_pure (l : List Int) (a : Int) (hl : l.length < 1000000) : pythiaref01_HasLong.f (l.length + 1) l a = some (decide (a ∈ l)) := by
  have := has_l0 l a hl l.length (l.length + 1) 0 (by omega) (by omega)
  simpa [pythiaref01_HasLong.f] using this
theorem same_l0 (l m : List Int) (hl : l.length < 1000000) (hm : l.length = m.length) : ∀ (d k i : Nat), i + d = l.length → d < k → pythiaref01_SameLongs.l0 k l m (i : Int) = some (decide (l.drop i = m.drop i)) := by
  intro d
  induction d with
  | zero =>
    intro k i hi hk
    obtain ⟨k, rfl⟩ : ∃ m, k = m + 1 := ⟨k - 1, by omega⟩
    rw [pythiaref01_SameLongs.l0, if_neg (by omega), List.drop_of_length_le (by omega), List.drop_of_length_le (by omega)]
    simp
  | succ d ih =>
    intro k i hi hk
    obtain ⟨k, rfl⟩ : ∃ m, k = m + 1 := ⟨k - 1, by omega⟩
    have hlt : i < l.length := by omega
    have hlt2 : i < m.length := by omega
    rw [pythiaref01_SameLongs.l0, if_pos (by omega), if_pos (by omega), if_pos (by omega), rd_nat hlt, rd_nat hlt2, List.drop_eq_getElem_cons hlt, List.drop_eq_getElem_cons hlt2]
    by_cases h : l[i] = m[i]
    · rw [if_pos h, show wrap64 ((i : Int) + 1) = ((i + 1 : Nat) : Int) by unfold wrap64; omega, ih k (i + 1) (by omega) (by omega), h]
      congr 1
      rw [decide_eq_decide]
      exact ⟨fun e => by rw [e], fun e => (List.cons.inj e).2⟩
    · rw [if_neg h]
      congr 1
      symm
      rw [decide_eq_false_iff_not]
      intro e
      exact h (List.cons.inj e).1
theorem sameLongs_pure (l m : List Int) (hl : l.length < 1000000) : pythiaref01_SameLongs.f (l.length + 1) l m = some (decide (l = m)) := by
  unfold pythiaref01_SameLongs.f
  by_cases h : l.length = m.length
  · rw [if_pos (by omega)]
    have := same_l0 l m hl h l.length (l.length + 1) 0 (by omega) (by omega)
    simpa using this
  · rw [if_neg (by omega)]
    have : l ≠ m := fun e => h (by rw [e])
    simp [this]

/-- A pair of terms without variables. -/
def Gr (p : S24 × S24) : Prop := shT p.1 = true ∧ shT p.2 = true ∧ occT p.1 = [] ∧ occT p.2 = []
theorem gr_kind {t : S24} (h : shT t = true) (ho : occT t = []) : t.f0 ≠ 1 := by
  obtain ⟨kd, nm, nt, xs⟩ := t
  intro h1
  simp only at h1
  rw [occT, if_pos h1] at ho
  cases ho
theorem occL_nilled {xs : List S24} (h : occL xs = []) : ∀ t ∈ xs, occT t = [] := by
  intro t ht
  cases hc : occT t with
  | nil => rfl
  | cons v r =>
    have : v ∈ occL xs := (occL_mem xs).2 ⟨t, ht, by rw [hc]; simp⟩
    rw [h] at this; cases this
theorem ordL_zip : ∀ xs ys : List S24, xs.length = ys.length → (ordL xs ys = 0 ↔ ∀ p ∈ xs.zip ys, ordT p.1 p.2 = 0)
  | [], [], _ => by rw [ordL_ll]; simp
  | [], _ :: _, h => by simp at h
  | _ :: _, [], h => by simp at h
  | a :: xs, b :: ys, h => by
    rw [ordL_cons, List.zip_cons_cons]
    have ih := ordL_zip xs ys (by simpa using h)
    by_cases h0 : ordT a b = 0
    · rw [if_neg (by simpa using h0), ih]; simp [h0]
    · rw [if_pos h0]
      constructor
      · intro h1; exact absurd h1 h0
      · intro h1; exact h1 (a, b) (by simp)
theorem fst_zip_nodes : ∀ xs ys : List S24, ((xs.zip ys).map fun p => nodes p.1).sum ≤ nodesL xs
  | [], _ => by simp
  | _ :: _, [] => by simp
  | a :: xs, b :: ys => by rw [List.zip_cons_cons, nodesL_cons]; simp only [List.map_cons, List.sum_cons]; have := fst_zip_nodes xs ys; omega

theorem solve_ground (W : Nat) : ∀ (k : Nat) (l : List (S24 × S24)), ((l.map fun p => nodes p.1).sum) < k → (∀ p ∈ l, Gr p) →
    ∃ ok, solveS (W + 1) k [] l = some ([], ok) ∧ (ok = true ↔ ∀ p ∈ l, ordT p.1 p.2 = 0)
  | 0, _, hk, _ => absurd hk (Nat.not_lt_zero _)
  | k + 1, [], _, _ => ⟨true, by rw [solveS], by simp⟩
  | k + 1, p :: r, hk, hg => by
    obtain ⟨x, y⟩ := p
    obtain ⟨g1, g2, g3, g4⟩ := hg (x, y) (by simp)
    simp only at g1 g2 g3 g4
    have k1 := gr_kind g1 g3
    have k2 := gr_kind g2 g4
    have hn := nodes_pos x
    simp only [List.map_cons, List.sum_cons] at hk
    have hgr : ∀ q ∈ r, Gr q := fun q hq => hg q (by simp [hq])
    rw [solveS, walk_not k1, walk_not k2]
    simp only
    rw [if_neg (by omega), if_neg (by omega), if_neg k1, if_neg k2]
    obtain ⟨kd, nm, nt, xs⟩ := x
    obtain ⟨kb, mb, tb, ys⟩ := y
    simp only at k1 k2
    have hrest : ordT ⟨kd, nm, nt, xs⟩ ⟨kb, mb, tb, ys⟩ = 0 → ∀ ok, (ok = true ↔ ∀ p ∈ r, ordT p.1 p.2 = 0) → (ok = true ↔ ∀ p ∈ ((⟨kd, nm, nt, xs⟩, ⟨kb, mb, tb, ys⟩) : S24 × S24) :: r, ordT p.1 p.2 = 0) := by
      intro h0 ok h
      rw [h]
      constructor
      · intro h1 p hp
        rcases List.mem_cons.1 hp with rfl | hp
        · exact h0
        · exact h1 p hp
      · intro h1 p hp; exact h1 p (by simp [hp])
    by_cases hc : clashT ⟨kd, nm, nt, xs⟩ ⟨kb, mb, tb, ys⟩ = true
    · rw [if_pos hc]
      refine ⟨false, rfl, ⟨(fun h => by cases h), fun h => ?_⟩⟩
      have h0 := h (⟨kd, nm, nt, xs⟩, ⟨kb, mb, tb, ys⟩) (by simp)
      simp only at h0
      rw [ordT_eq] at h0
      simp only at h0
      exfalso
      unfold clashT at hc
      simp only at hc
      by_cases e0 : cmpI kd kb = 0
      · have e := cmpI_zero e0
        subst e
        rw [if_neg (by simpa using e0)] at h0
        rw [if_pos rfl] at hc
        by_cases e2 : kd = 2
        · subst e2
          rw [if_pos (.inr rfl)] at h0
          rw [if_pos rfl] at hc
          have := cmpI_zero h0
          simp [this] at hc
        · rw [if_neg e2] at hc
          rw [if_neg (by omega)] at h0
          by_cases e3 : kd = 3
          · rw [if_pos e3] at h0
            have := cmpS_zero h0
            subst this
            rw [if_pos rfl, if_neg (by omega)] at hc
            cases hc
          · rw [if_neg e3] at h0
            by_cases e5 : cmpI xs.length ys.length = 0
            · rw [if_neg (by simpa using e5)] at h0
              by_cases e6 : cmpS nm mb = 0
              · have e7 := cmpI_zero e5
                have e8 := cmpS_zero e6
                subst e8
                rw [if_pos rfl] at hc
                have e9 : xs.length = ys.length := by omega
                simp [e9] at hc
              · rw [if_pos e6] at h0; exact e6 h0
            · rw [if_pos e5] at h0; exact e5 h0
      · rw [if_pos e0] at h0; exact e0 h0
    · rw [if_neg hc]
      have hc' : clashT ⟨kd, nm, nt, xs⟩ ⟨kb, mb, tb, ys⟩ = false := by simpa using hc
      have hkd : kd = kb := by
        unfold clashT at hc'
        by_cases e : kd = kb
        · exact e
        · simp [e] at hc'
      subst hkd
      by_cases h4 : kd = 4
      · subst h4
        have hl := clash_len hc' rfl
        simp only at hl
        rw [if_pos rfl]
        have g1' := g1
        have g2' := g2
        rw [shT, if_neg (by decide), if_neg (by decide), if_pos rfl] at g1' g2'
        simp only [Bool.and_eq_true, decide_eq_true_eq] at g1' g2'
        rw [occT, if_neg (by decide), if_pos rfl] at g3 g4
        simp only
        rw [if_neg (by omega), if_neg (by omega)]
        have hnd : nodes ⟨4, nm, nt, xs⟩ = 1 + nodesL xs := by rw [nodes, if_pos rfl]
        obtain ⟨ok, e, hm⟩ := solve_ground W k ((xs.zip ys).reverse ++ r) (by
            rw [List.map_append, List.map_reverse, List.sum_append_nat, List.sum_reverse]
            have := fst_zip_nodes xs ys
            omega)
          (fun q hq => by
            rcases List.mem_append.1 hq with h | h
            · have h := List.mem_reverse.1 h
              obtain ⟨q1, q2⟩ := q
              have := List.of_mem_zip h
              exact ⟨shL_mem g1'.1.2 this.1, shL_mem g2'.1.2 this.2, occL_nilled g3 _ this.1, occL_nilled g4 _ this.2⟩
            · exact hgr q h)
        refine ⟨ok, e, ?_⟩
        have hnm : cmpS nm mb = 0 := by
          have : nm.toList = mb.toList := by
            unfold clashT at hc'
            simp only [if_true] at hc'
            rw [if_neg (by decide)] at hc'
            by_cases e : nm.toList = mb.toList
            · exact e
            · rw [if_neg e] at hc'; cases hc'
          unfold cmpS
          rw [ByteArray.toList_eq, ByteArray.toList_eq] at this
          rw [this]; exact bytes_refl _
        have h0 : ordT ⟨4, nm, nt, xs⟩ ⟨4, mb, tb, ys⟩ = ordL xs ys := by
          rw [ordT_eq]
          simp only [cmpI_refl, hl, hnm]
          simp
        rw [hm]
        constructor
        · intro h p hp
          rcases List.mem_cons.1 hp with rfl | hp
          · rw [h0, ordL_zip xs ys hl]
            intro q hq
            exact h q (List.mem_append_left _ (List.mem_reverse.2 hq))
          · exact h p (List.mem_append_right _ hp)
        · intro h p hp
          rcases List.mem_append.1 hp with hp | hp
          · have := h (⟨4, nm, nt, xs⟩, ⟨4, mb, tb, ys⟩) (by simp)
            simp only at this
            rw [h0, ordL_zip xs ys hl] at this
            exact this p (List.mem_reverse.1 hp)
          · exact h p (by simp [hp])
      · rw [if_neg h4]
        obtain ⟨ok, e, hm⟩ := solve_ground W k r (by omega) hgr
        refine ⟨ok, e, hrest ?_ ok hm⟩
        rw [shT, if_neg k1, if_neg h4] at g1
        rw [ordT_eq]
        simp only [cmpI_refl, ne_eq, not_true_eq_false, if_false]
        unfold clashT at hc'
        simp only [if_true] at hc'
        by_cases e2 : kd = 2
        · subst e2
          rw [if_pos rfl] at hc'
          rw [if_pos (.inr rfl)]
          have : nt = tb := by simpa using hc'
          rw [this, cmpI_refl]
        · rw [if_neg e2] at hc' g1
          rw [if_neg (by omega)]
          by_cases e3 : kd = 3
          · rw [if_pos e3]
            have : nm.toList = mb.toList := by
              by_cases e : nm.toList = mb.toList
              · exact e
              · rw [if_neg e] at hc'; cases hc'
            rw [ByteArray.toList_eq, ByteArray.toList_eq] at this
            unfold cmpS
            rw [this]; exact bytes_refl _
          · rw [if_neg e3] at g1; cases g1

/-- What Solve answers of two right terms without variables. -/
theorem solve_grounds {a b : S24} (ha : okT a = true) (hb : okT b = true) (va : varsT a [] = []) (vb : varsT b [] = []) : SolveOK 1 2500 1 1 a b ([], decide (ordT a b = 0), 0) := by
  have oa : occT a = [] := by
    cases h : occT a with
    | nil => rfl
    | cons v r =>
      have := (mem_varsT a v).2 (by rw [h]; simp)
      rw [va] at this; cases this
  have ob : occT b = [] := by
    cases h : occT b with
    | nil => rfl
    | cons v r =>
      have := (mem_varsT b v).2 (by rw [h]; simp)
      rw [vb] at this; cases this
  have h1 := (okT_iff a).1 ha
  have h2 := (okT_iff b).1 hb
  obtain ⟨ok, e, hm⟩ := solve_ground 0 2500 [(a, b)] (by simp; omega) (fun p hp => by rw [List.mem_singleton.1 hp]; exact ⟨h1.1, h2.1, oa, ob⟩)
  unfold SolveOK
  rw [ha, hb, if_neg (by decide)]
  refine ⟨[], ok, e, ?_⟩
  by_cases hz : ordT a b = 0
  · have : ok = true := hm.2 (fun p hp => by rw [List.mem_singleton.1 hp]; exact hz)
    subst this
    rw [if_neg (by decide)]
    refine ⟨false, fun ord hno hmem => ?_, ?_⟩
    · have : ord = [] := by
        cases ord with
        | nil => rfl
        | cons x r => have := (hmem x).1 (by simp); simp at this
      subst this
      exact ⟨[], rfl⟩
    · rw [if_neg (by decide)]
      exact ⟨some [], rfl, by rw [decide_eq_true hz]⟩
  · have : ok = false := by
      cases ok with
      | false => rfl
      | true => exact absurd ((hm.1 rfl) (a, b) (by simp)) hz
    subst this
    rw [if_pos rfl, decide_eq_false hz]
theorem occ_nil_vars {a : S24} (va : varsT a [] = []) : occT a = [] := by
  cases h : occT a with
  | nil => rfl
  | cons v r =>
    have := (mem_varsT a v).2 (by rw [h]; simp)
    rw [va] at this; cases this
theorem variant_ground {a b : S24} (ha : okT a = true) (hb : okT b = true) (va : varsT a [] = []) (vb : varsT b [] = []) : variantT a b = decide (ordT a b = 0) := by
  unfold variantT
  have e : ∀ t : S24, varsT t [] = [] → renS (rnf (varsT t []) 1) t = nrm t := fun t h => by
    rw [← ren_id]
    refine renS_congr _ _ t (fun v hv => ?_)
    rw [occ_nil_vars h] at hv; cases hv
  rw [ha, hb, renT_ok ha (by decide) (by decide), renT_ok hb (by decide) (by decide)]
  simp only [e a va, e b vb, Bool.true_and]
  rw [ordT_nrm a b ((okT_iff a).1 ha).1 ((okT_iff b).1 hb).1]
theorem apL_none (mine : List Int) : ∀ bs : List S50, (∀ b ∈ bs, b.f0 ∉ mine) → apL mine bs [] = some []
  | [], _ => rfl
  | b :: r, h => by
    rw [apL, if_pos (.inr (h b (by simp)))]
    exact apL_none mine r (fun x hx => h x (by simp [hx]))
/-- Bindings of other variables alone leave a term as it is. -/
theorem apply_none {t : S24} (h : okT t = true) {bs : List S50} (hb : ∀ b ∈ bs, b.f0 ∉ varsT t []) : applyT t bs = (nrm t, 0) := by
  have hs := putT_spec (mget ([] : List (Int × S24))) t 1 0
  have e : subT (fun v => (mget ([] : List (Int × S24)) v).map nrm) t = nrm t := rfl
  rw [e] at hs
  have h1 := (okT_iff t).1 h
  have hk : (putT (mget ([] : List (Int × S24))) t 1 0).2.1 = true := by
    rw [hs.ok, (nrm_nodes t).1, (nrm_nodes t).2]; exact ⟨by omega, by omega⟩
  unfold applyT
  rw [h, if_neg (by decide), apL_none _ bs hb]
  simp only
  rw [if_pos hk, (hs.val hk).1]
end Go.Proofs.Ytpnkaggkedepeaa


/- Apply from a world on; rows of bindings that were collected; HasLong from a world on. -/
namespace Go.Proofs.Ytpnkaggkedepeaa
set_option linter.unusedVariables false
open Go.RowKit Go.Maps Go.Proofs.YtpnkaggkedepeaaW.PrintWords Go.Proofs.YtpnkaggkedepeaaW.PrintLast Go.Proofs.YtpnkaggkedepeaaW.PrintMore Go.Proofs.Ytpnkaggkedepeaa.PTermTells Go.Extern

theorem drawn_below {w w' : World} (h : Drawn0 w w') : Below w.heap.size w w' := by
  obtain ⟨n, rfl⟩ := h
  exact below_drewN (Below.refl _ _) n
theorem apL_wf (mine : List Int) : ∀ (bs : List S50) (L L' : List (Int × S24)), (∀ b ∈ bs, wfT b.f1) → (∀ p ∈ L, wfT p.2) → apL mine bs L = some L' → ∀ p ∈ L', wfT p.2
  | [], L, L', _, hL, h => by rw [apL] at h; cases h; exact hL
  | b :: r, L, L', hb, hL, h => by
    rw [apL] at h
    have hr : ∀ x ∈ r, wfT x.f1 := fun x hx => hb x (by simp [hx])
    split at h
    · exact apL_wf mine r L L' hr hL h
    · split at h
      · cases h
      · refine apL_wf mine r _ L' hr (fun p hp => ?_) h
        rcases mem_mput.1 hp with rfl | ⟨h1, _⟩
        · exact hb b (by simp)
        · exact hL p h1
theorem wf_apply {t : S24} {bs : List S50} (ht : wfT t) (hb : ∀ b ∈ bs, wfT b.f1) : wfT (applyT t bs).1 := by
  unfold applyT
  split
  · exact wfT_z24
  · cases h : apL (varsT t []) bs [] with
    | none => exact wfT_z24
    | some L =>
      have hw := apL_wf _ bs [] L hb (fun p hp => by cases hp) h
      simp only
      split
      · exact wfT_put (fun v x e => hw (v, x) (mget_mem e)) ht 1 0
      · exact wfT_z24

section
variable {w0 W : World} {t u : S24} {A A' B : Option Addr} {c c' : Nat}
theorem apply_at (h : Lies w0 t A c) (bs : List S50) {cb : Nat} (hC : Kd.C k50 W B bs.length bs) (hw : ∀ b ∈ bs, I64 b.f0 ∧ wfT b.f1) (hB : Below w0.heap.size w0 W) :
    Calls Try.prog 33 #[.agg #[.int .i64 t.f0, .string t.f1, .int .i64 t.f2, .slice A t.f3.length c], .slice B bs.length cb] W fun e w' => ∃ A1 c1,
      e = .returned (.tuple #[.agg #[.int .i64 (applyT t bs).1.f0, .string (applyT t bs).1.f1, .int .i64 (applyT t bs).1.f2, .slice A1 (applyT t bs).1.f3.length c1], .int .i64 (applyT t bs).2]) ∧ Lies w' (applyT t bs).1 A1 c1 ∧ Below w0.heap.size w0 w' :=
  (apply_any t bs W A B c cb (h.at hB).C h.le h.wf hC hw).mono fun e w' ⟨v, a, r, b⟩ => by
    obtain ⟨A1, c1, rfl, h1, h2⟩ := Kd.R_reads r
    exact ⟨A1, c1, a, ⟨h2, h1, wf_apply h.wf (fun b hb => (hw b hb).2)⟩, below_step hB b⟩
theorem hasLong_at (l : List Int) (a : Int) {cl : Nat} (hC : Kd.C (Kd.int .i64) W A l.length l) (hc : l.length ≤ cl) (hl : l.length < 1000000) (hB : Below w0.heap.size w0 W) :
    Calls Try.prog 34 #[.slice A l.length cl, .int .i64 a] W fun e w' => e = .returned (.bool (decide (a ∈ l))) ∧ Below w0.heap.size w0 w' :=
  (pythiaref01_HasLong.calls _ A cl l a _ W hC hc (has_pure l a hl)).mono fun e w' ⟨a, b⟩ => ⟨a, below_step hB (drawn_below b)⟩
end

/-- The cells of a binding. -/
def cellsB (p : Int × Tv) : List Value := [.int .i64 p.1, .int .i64 p.2.1.f0, .string p.2.1.f1, .int .i64 p.2.1.f2, .slice p.2.2.1 p.2.1.f3.length p.2.2.2]
def toS50 (p : Int × Tv) : S50 := ⟨p.1, p.2.1⟩
theorem cellsB_at : ∀ (M : List (Int × Tv)) (j i : Nat) (p : Int × Tv), M[j]? = some p → i < 5 → (M.flatMap cellsB)[j * 5 + i]? = (cellsB p)[i]?
  | [], j, i, p, h, _ => by simp at h
  | q :: M, 0, i, p, h, hi => by
    simp at h; subst h
    rw [List.flatMap_cons, List.getElem?_append_left (by simp [cellsB]; omega)]; simp
  | q :: M, j + 1, i, p, h, hi => by
    rw [List.flatMap_cons, List.getElem?_append_right (by simp [cellsB]; omega)]
    have := cellsB_at M j i p (by simpa using h) hi
    rw [← this]
    congr 1
    simp [cellsB]; omega
/-- A row of bindings, as it reads. -/
theorem binds_read {w0 W : World} {base : Nat} {v : Value} {M : List (Int × Tv)} (h : W.ownsRow base 50 5 v M.length (M.flatMap cellsB)) (hM : ∀ p ∈ M, Lies w0 p.2.1 p.2.2.1 p.2.2.2) (hB : Below w0.heap.size w0 W) (hl : M.length < 9223372036854775807) :
    ∃ A c, v = .slice A M.length c ∧ Kd.C k50 W A M.length (M.map toS50) := by
  have hrow : ∀ g c, v = .slice (some ⟨g, 0, none⟩) M.length c → Kd.C k50 W (some ⟨g, 0, none⟩) M.length (M.map toS50) := by
    intro g c hv
    refine ⟨by simp, by omega, fun _ => ⟨_, rfl, fun j p hj => ?_⟩⟩
    rw [List.getElem?_map] at hj
    obtain ⟨q, hq, rfl⟩ := Option.map_eq_some_iff.1 hj
    have hL := hM q (List.mem_of_getElem? hq)
    refine ⟨_, rfl, k50_mk W (toS50 q) hL.le (Kd.C_below hL.C hB), fun i u hu => ?_⟩
    have hi : i < 5 := by
      have := (List.getElem?_eq_some_iff.1 hu).1
      simpa using this
    have hc := cellsB_at M j i q hq hi
    refine h.cells (g := g) (by rw [hv]; rfl) (j * k50.sz + i) u ?_
    rw [show k50.sz = 5 from rfl, hc]
    exact hu
  rcases Go.Joins.ownsRow_forms h with ⟨rfl, hn⟩ | ⟨g, c, rfl⟩
  · exact ⟨none, 0, by rw [hn], ⟨by simp, by omega, fun h0 => by omega⟩⟩
  · exact ⟨_, c, rfl, hrow g c rfl⟩
end Go.Proofs.Ytpnkaggkedepeaa


/- Sizes, depths and variables of a compound term out of its parts'; one variable put in. -/
namespace Go.Proofs.Ytpnkaggkedepeaa
set_option linter.unusedVariables false
open Go.RowKit Go.Maps Go.Proofs.YtpnkaggkedepeaaW.PrintWords Go.Proofs.YtpnkaggkedepeaaW.PrintLast Go.Proofs.YtpnkaggkedepeaaW.PrintMore Go.Proofs.Ytpnkaggkedepeaa.PTermTells Go.Extern

theorem addv_fold (out vs : List Int) (v : Int) : (addv out v).foldl addv vs = addv (out.foldl addv vs) v := by
  by_cases h : v ∈ out
  · have e1 : addv out v = out := by unfold addv; rw [if_pos h]
    have e2 : addv (out.foldl addv vs) v = out.foldl addv vs := by
      unfold addv; rw [if_pos]; exact (mem_fold out vs v).2 (.inr h)
    rw [e1, e2]
  · have e1 : addv out v = out ++ [v] := by unfold addv; rw [if_neg h]
    rw [e1, List.foldl_append]; rfl
theorem fold_fold : ∀ (l out vs : List Int), (l.foldl addv out).foldl addv vs = l.foldl addv (out.foldl addv vs)
  | [], _, _ => rfl
  | v :: l, out, vs => by rw [List.foldl_cons, List.foldl_cons, fold_fold l, addv_fold]
/-- A term's variables, each once, behind some: whether those of a term alone are gone through, or all that stand in it. -/
theorem vars_again (t : S24) (vs : List Int) : (varsT t []).foldl addv vs = varsT t vs := by
  rw [varsT_occ, varsT_occ, fold_fold]; rfl
theorem varsL_take (args : List S24) (k : Nat) (h : k < args.length) : varsL (args.take (k + 1)) [] = (varsT args[k] []).foldl addv (varsL (args.take k) []) := by
  rw [vars_again, varsL_occ, varsL_occ, varsT_occ, List.take_succ_eq_append_getElem h, occL_append, occL_cons, occL_nil, List.append_nil, List.foldl_append]
theorem nodesL_take (args : List S24) (k : Nat) (h : k < args.length) : nodesL (args.take (k + 1)) = nodesL (args.take k) + nodes args[k] := by
  rw [List.take_succ_eq_append_getElem h, nodesL_append, nodesL_cons, nodesL_nil]; rfl
theorem dptL_append : ∀ xs ys : List S24, dptL (xs ++ ys) = max (dptL xs) (dptL ys)
  | [], ys => by rw [dptL_nil, List.nil_append]; have := dptL_pos ys; omega
  | a :: r, ys => by rw [List.cons_append, dptL_cons, dptL_cons, dptL_append r ys]; omega
theorem dptL_take (args : List S24) (k : Nat) (h : k < args.length) : dptL (args.take (k + 1)) = max (dptL (args.take k)) (dpt args[k]) := by
  rw [List.take_succ_eq_append_getElem h, dptL_append, dptL_cons, dptL_nil]; have := dpt_pos args[k]; have := dptL_pos (args.take k); omega

mutual
theorem sh_sub (f : Int → Option S24) (hf : ∀ v x, f v = some x → shT x = true) : ∀ t : S24, shT t = true → shT (subT f t) = true
  | ⟨kd, nm, nt, xs⟩, h => by
    rw [subT]
    rw [shT] at h
    by_cases h1 : kd = 1
    · rw [if_pos h1]; rw [if_pos h1] at h
      cases e : f nt with
      | some x => exact hf nt x e
      | none => simp only; rw [shT, if_pos rfl]; exact h
    rw [if_neg h1]; rw [if_neg h1] at h
    by_cases h4 : kd = 4
    · subst h4
      rw [if_pos rfl]
      rw [if_neg (by decide), if_pos rfl] at h
      simp only [Bool.and_eq_true] at h
      have hl : (subL f xs).length = xs.length := by rw [subL_map, List.length_map]
      rw [shT, if_neg (by decide), if_neg (by decide), if_pos rfl, shL_sub f hf xs h.1.2, hl, h.1.1, h.2]; rfl
    · rw [if_neg h4, bare_kind]
      by_cases h2 : kd = 2
      · rw [if_pos (.inr h2)]; subst h2; rw [shT]; rfl
      · rw [if_neg (by omega), shT, if_neg h1, if_neg h2, if_neg h4]
        rw [if_neg h2, if_neg h4] at h; exact h
theorem shL_sub (f : Int → Option S24) (hf : ∀ v x, f v = some x → shT x = true) : ∀ xs : List S24, shL xs = true → shL (subL f xs) = true
  | [], _ => by rw [subL_nil, shL]
  | a :: r, h => by
    rw [shL_cons, Bool.and_eq_true] at h
    rw [subL_cons, shL_cons, sh_sub f hf a h.1, shL_sub f hf r h.2]; rfl
end
mutual
theorem nodes_sub (v0 : Int) (x : S24) : ∀ t : S24, ∃ n : Nat, nodes (subT (fun v => if v = v0 then some x else none) t) = nodes t + n * (nodes x - 1)
  | ⟨kd, nm, nt, xs⟩ => by
    rw [subT]
    by_cases h1 : kd = 1
    · rw [if_pos h1]
      have hn : nodes ⟨kd, nm, nt, xs⟩ = 1 := nodes_no (by simp only; omega)
      by_cases e : nt = v0
      · rw [if_pos e]
        exact ⟨1, by rw [hn]; have := nodes_pos x; simp only; omega⟩
      · rw [if_neg e]
        exact ⟨0, by rw [hn]; simp only; rw [nodes, if_neg (by decide)]; omega⟩
    rw [if_neg h1]
    by_cases h4 : kd = 4
    · subst h4
      obtain ⟨n, hn⟩ := nodesL_sub v0 x xs
      refine ⟨n, ?_⟩
      rw [if_pos rfl, nodes, nodes, if_pos rfl, if_pos rfl, hn]; omega
    · rw [if_neg h4]
      refine ⟨0, ?_⟩
      rw [nodes_no (t := ⟨kd, nm, nt, xs⟩) h4, nodes_no (by rw [bareT_kd]; exact h4)]; omega
theorem nodesL_sub (v0 : Int) (x : S24) : ∀ xs : List S24, ∃ n : Nat, nodesL (subL (fun v => if v = v0 then some x else none) xs) = nodesL xs + n * (nodes x - 1)
  | [] => ⟨0, by rw [subL_nil]; simp⟩
  | a :: r => by
    obtain ⟨n, hn⟩ := nodes_sub v0 x a
    obtain ⟨m, hm⟩ := nodesL_sub v0 x r
    exact ⟨n + m, by rw [subL_cons, nodesL_cons, nodesL_cons, hn, hm, Nat.add_mul]; omega⟩
end
/-- One right term put in for one of a right term's variables: too great, or right, and as much greater as the variable stands there often. -/
theorem apply_one {t v : S24} {v0 : Int} (ht : okT t = true) (hv : okT v = true) (h0 : v0 ∈ varsT t []) :
    applyT t [⟨v0, v⟩] = (z24, 2) ∨ ∃ (u : S24) (n : Nat), applyT t [⟨v0, v⟩] = (u, 0) ∧ okT u = true ∧ nodes u = nodes t + n * (nodes v - 1) := by
  have ha : apL (varsT t []) [⟨v0, v⟩] [] = some [(v0, v)] := by
    rw [apL]
    rw [if_neg (by simp [mget, h0]), hv, if_neg (by decide), apL]
    rfl
  have hs := putT_spec (mget [(v0, v)]) t 1 0
  have ef : (fun w => (mget [(v0, v)] w).map nrm) = (fun w => if w = v0 then some (nrm v) else none) := by
    funext w
    rw [mget]
    by_cases e : w = v0
    · rw [if_pos e, if_pos e.symm]; rfl
    · rw [if_neg e, if_neg (fun h => e h.symm)]; rfl
  rw [ef] at hs
  unfold applyT
  rw [ht, if_neg (by decide), ha]
  simp only
  by_cases hk : (putT (mget [(v0, v)]) t 1 0).2.1 = true
  · right
    rw [if_pos hk, (hs.val hk).1]
    obtain ⟨n, hn⟩ := nodes_sub v0 (nrm v) t
    refine ⟨_, n, rfl, ?_, by rw [hn, (nrm_nodes v).1]⟩
    rw [okT_iff]
    have h1 := hs.ok.1 hk
    refine ⟨sh_sub _ (fun w x e => ?_) t ((okT_iff t).1 ht).1, by omega, by omega⟩
    by_cases e2 : w = v0
    · rw [if_pos e2] at e; cases e; exact ((okT_iff _).1 (nrm_ok hv)).1
    · rw [if_neg e2] at e; cases e
  · left
    rw [if_neg hk]
theorem counts_mod {a b n : Nat} (hb : 1 ≤ b) : ((a + n * (b - 1) : Nat) - (a : Int)) % (max 1 ((b : Int) - 1)) = 0 := by
  have e : ((a + n * (b - 1) : Nat) : Int) - (a : Int) = (n : Int) * ((b : Int) - 1) := by
    obtain ⟨c, rfl⟩ : ∃ c, b = c + 1 := ⟨b - 1, by omega⟩
    simp only [Nat.add_sub_cancel]
    push_cast
    rw [show ((c : Int) + 1 - 1) = (c : Int) by omega]
    omega
  rw [e]
  by_cases h : b = 1
  · subst h; simp
  · rw [show max 1 ((b : Int) - 1) = (b : Int) - 1 by omega]
    exact Int.mul_emod_left _ _
end Go.Proofs.Ytpnkaggkedepeaa


/- What the laws ask of the example; Solve from a world on. -/
namespace Go.Proofs.Ytpnkaggkedepeaa
set_option linter.unusedVariables false
open Go.RowKit Go.Maps Go.Proofs.YtpnkaggkedepeaaW.PrintWords Go.Proofs.YtpnkaggkedepeaaW.PrintLast Go.Proofs.YtpnkaggkedepeaaW.PrintMore Go.Proofs.Ytpnkaggkedepeaa.PTermTells Go.Extern

/-- What the example of the layer is asked for. -/
def Alive : Prop := ∀ w : World, Calls Try.prog 13 #[] w fun e w' => e = .returned (.bool true) ∧ Below w.heap.size w w'

theorem solve_at {w0 W : World} {t u : S24} {A A' : Option Addr} {c c' : Nat} (W3 K k F : Nat) (res : List S50 × Bool × Int) (hres : SolveOK W3 K k F t u res) (hK : K * 8 < 1000000) (h : Lies w0 t A c) (k : Lies w0 u A' c') (hB : Below w0.heap.size w0 W) :
    Calls Try.prog 31 #[.agg #[.int .i64 t.f0, .string t.f1, .int .i64 t.f2, .slice A t.f3.length c], .agg #[.int .i64 u.f0, .string u.f1, .int .i64 u.f2, .slice A' u.f3.length c']] W fun e w' => ∃ A1 c1,
      e = .returned (.tuple #[.slice A1 res.1.length c1, .bool res.2.1, .int .i64 res.2.2]) ∧ res.1.length ≤ c1 ∧ Kd.C k50 w' A1 res.1.length res.1 ∧ Below w0.heap.size w0 w' :=
  (solve_of W3 K _ F t u res hres hK W A A' c c' (h.at hB) (k.at hB)).mono fun e w' ⟨v, a, r, b⟩ => by
    obtain ⟨A1, c1, rfl, h1, h2⟩ := Kd.R_reads r
    exact ⟨A1, c1, a, h1, h2, below_step hB b⟩
end Go.Proofs.Ytpnkaggkedepeaa


/- Terms that came in, as they lie in memory. -/
namespace Go.Proofs.Ytpnkaggkedepeaa
set_option linter.unusedVariables false
open Go.RowKit Go.Maps Go.Deep Go.ChangeShapes Go.WideShapes Go.Proofs.YtpnkaggkedepeaaW.PrintWords Go.Proofs.YtpnkaggkedepeaaW.PrintLast Go.Proofs.YtpnkaggkedepeaaW.PrintMore Go.Proofs.Ytpnkaggkedepeaa.PTermTells

theorem cells24' : Try.prog.cellsOf 24 = 4 := by kernel_rfl
theorem cells50' : Try.prog.cellsOf 50 = 5 := by kernel_rfl
theorem cells2' : Try.prog.cellsOf 2 = 1 := by kernel_rfl
theorem cells3' : Try.prog.cellsOf 3 = 1 := by kernel_rfl
theorem cells9' : Try.prog.cellsOf 9 = 1 := by kernel_rfl
theorem cells22' : Try.prog.cellsOf 22 = 1 := by kernel_rfl

theorem wfL_of : ∀ ts : List S24, (∀ t ∈ ts, wfT t) → wfL ts
  | [], _ => by rw [wfL]; trivial
  | a :: r, h => by rw [wfL_cons]; exact ⟨h a (by simp), wfL_of r (fun t ht => h t (by simp [ht]))⟩

section
variable {H : Type} {enc : TypeId × Value → H} {W : World} {sp : Nat → Bool}

set_option maxRecDepth 100000 in
theorem row_open {fuel : Nat} {cs : List Value} {x : DataW H × List MemPlace} (h : DataW.trod enc Try.prog W 0 sp true fuel 22 cs = some x)
    (ih : ∀ n, n < fuel → ∀ cs x, DataW.trod enc Try.prog W 0 sp true n 24 cs = some x → ∃ (t : S24) (A : Option Addr) (c : Nat), cs = [.int .i64 t.f0, .string t.f1, .int .i64 t.f2, .slice A t.f3.length c] ∧ Lies W t A c) :
    ∃ (ts : List S24) (A : Option Addr) (c : Nat), cs = [.slice A ts.length c] ∧ ts.length ≤ c ∧ Kd.C k24 W A ts.length ts ∧ ∀ t ∈ ts, wfT t := by
  rcases DataW.trod_slice Try.underlying22 h with ⟨rfl, _⟩ | ⟨a, len, cap, elems, rest, n, rfl, rfl, _, _, hl, hm, hlen, hel, _, _⟩
  · exact ⟨[], none, 0, rfl, Nat.le_refl _, Kd.C_nil _ _, fun t ht => by cases ht⟩
  · unfold maxLen at hm
    have hone : ∀ i, i < len → ∃ o : S24 × Option Addr × Nat, Lies W o.1 o.2.1 o.2.2 ∧ ∀ j u, [Value.int .i64 o.1.f0, .string o.1.f1, .int .i64 o.1.f2, .slice o.2.1 o.1.f3.length o.2.2][j]? = some u → W.cell? (a.add (i * 4 + j)) = some u := by
      intro i hi
      have he := hel i hi
      rw [cells24', List.getElem?_eq_getElem (by omega)] at he
      cases hc : W.cells? 0 (a.add (i * 4)) 4 with
      | none => rw [hc] at he; cases he
      | some cs' =>
        rw [hc] at he
        obtain ⟨t, A, c, rfl, hL⟩ := ih n (Nat.lt_succ_self _) cs' _ he
        obtain ⟨_, hlen', hcell⟩ := World.cells?_some hc
        refine ⟨(t, A, c), hL, fun j u hj => ?_⟩
        have hjl : j < 4 := by
          have := (List.getElem?_eq_some_iff.1 hj).1
          simpa using this
        have := hcell j (by omega)
        rw [Go.Deep.add_add] at this
        rw [this]
        exact hj
    have hinh : Inhabited (S24 × Option Addr × Nat) := ⟨zeroTv⟩
    obtain ⟨f, hf⟩ := choose_lt hone
    refine ⟨(List.range len).map fun i => (f i).1, some a, cap, by simp, by simpa using hl, ⟨by simp, by simp; omega, fun _ => ⟨a, rfl, fun j p hj => ?_⟩⟩, fun t ht => ?_⟩
    · have hj' : j < len := by
        have := (List.getElem?_eq_some_iff.1 hj).1
        simpa using this
      have hp : (f j).1 = p := by simpa [hj'] using hj
      obtain ⟨hL, hc⟩ := hf j hj'
      rw [hp] at hL hc
      exact ⟨_, rfl, k24_mk W p hL.le hL.C, fun i u hu => hc i u hu⟩
    · obtain ⟨i, hi, rfl⟩ := List.mem_map.1 ht
      exact (hf i (List.mem_range.1 hi)).1.wf

set_option maxRecDepth 100000 in
theorem term_cells : ∀ (fuel : Nat) (cs : List Value) (x : DataW H × List MemPlace), DataW.trod enc Try.prog W 0 sp true fuel 24 cs = some x →
    ∃ (t : S24) (A : Option Addr) (c : Nat), cs = [.int .i64 t.f0, .string t.f1, .int .i64 t.f2, .slice A t.f3.length c] ∧ Lies W t A c := by
  intro fuel
  induction fuel using Nat.strongRecOn with
  | _ fuel ih =>
  intro cs x h
  obtain ⟨xs, n, rfl, _, hl, hlen, hf⟩ := DataW.trod_struct Try.underlying24 h
  rw [cells24'] at hl
  match cs, hl, xs, hlen with
  | [u0, u1, u2, u3], _, [y0, y1, y2, y3], _ =>
    have t0 : DataW.trod enc Try.prog W 0 sp true n 3 [u0] = some y0 := by simpa [cells3'] using hf 0 _ rfl
    have t1 : DataW.trod enc Try.prog W 0 sp true n 9 [u1] = some y1 := by simpa [cells9'] using hf 1 _ rfl
    have t2 : DataW.trod enc Try.prog W 0 sp true n 2 [u2] = some y2 := by simpa [cells2'] using hf 2 _ rfl
    have t3 : DataW.trod enc Try.prog W 0 sp true n 22 [u3] = some y3 := by simpa [cells22'] using hf 3 _ rfl
    obtain ⟨v0, e0, _, w0⟩ := DataW.trod_int Try.underlying3 t0
    obtain ⟨v1, e1, _, w1⟩ := DataW.trod_string Try.underlying9 t1
    obtain ⟨v2, e2, _, w2⟩ := DataW.trod_int Try.underlying2 t2
    simp only [List.cons.injEq, and_true] at e0 e1 e2
    subst e0 e1 e2
    obtain ⟨ts, A, c, e3, hc, hC, hw⟩ := row_open t3 (fun m hm => ih m (by omega))
    simp only [List.cons.injEq, and_true] at e3
    subst e3
    refine ⟨⟨v0, v1, v2, ts⟩, A, c, rfl, hC, hc, ?_⟩
    rw [wfT]
    exact ⟨bounds_i64 w2, wfL_of _ hw⟩

set_option maxRecDepth 100000 in
theorem open_term {r : Reach} {b0 : Nat} {v : Value} {d : DataW H} {p : List MemPlace} (hv : Value.okWide Try.prog W r b0 24 v) (h : DataW.Trod enc Try.prog W 0 sp true 24 v d p) :
    ∃ (t : S24) (A : Option Addr) (c : Nat), v = .agg #[.int .i64 t.f0, .string t.f1, .int .i64 t.f2, .slice A t.f3.length c] ∧ Lies W t A c := by
  obtain ⟨cs, rfl, hsz⟩ := okWide_struct Try.underlying24 hv
  obtain ⟨fuel, hf⟩ := h
  obtain ⟨t, A, c, e, hL⟩ := term_cells _ _ _ hf
  refine ⟨t, A, c, ?_, hL⟩
  have : cs.toList = [.int .i64 t.f0, .string t.f1, .int .i64 t.f2, .slice A t.f3.length c] := by simpa [Value.cells] using e
  cases cs
  simp only at this
  rw [this]

set_option maxRecDepth 100000 in
theorem open_terms {a : Option Addr} {len cap : Nat} {d : DataW H} {p : List MemPlace} (h : DataW.Trod enc Try.prog W 0 sp true 22 (.slice a len cap) d p) :
    ∃ ts : List S24, len = ts.length ∧ ts.length ≤ cap ∧ Kd.C k24 W a ts.length ts ∧ ∀ t ∈ ts, wfT t := by
  obtain ⟨fuel, hf⟩ := h
  obtain ⟨ts, A, c, e, h1, h2, h3⟩ := row_open hf (fun n _ => term_cells n)
  simp [Value.cells] at e
  obtain ⟨rfl, rfl, rfl⟩ := e
  exact ⟨ts, rfl, h1, h2, h3⟩

theorem bytes50 : Try.prog.bytesOf 50 = 64 := by kernel_rfl
set_option maxRecDepth 100000 in
theorem open_binds {a : Option Addr} {len cap : Nat} {d : DataW H} {p : List MemPlace} {tys : List TypeId} {ds : List (DataW H)} {j : Nat} (h : DataW.Trod enc Try.prog W 0 sp true 44 (.slice a len cap) d p)
    (hsz : (DataW.weightsEach Try.prog tys ds).all (· ≤ reachBytes) = true) (ht : tys[j]? = some 44) (hd : ds[j]? = some d) :
    ∃ bs : List S50, len = bs.length ∧ bs.length ≤ cap ∧ Kd.C k50 W a bs.length bs ∧ (∀ b ∈ bs, I64 b.f0 ∧ wfT b.f1) ∧ bs.length * 64 ≤ 140737488351232 := by
  obtain ⟨fuel, hf⟩ := h
  rcases DataW.trod_slice Try.underlying44 hf with ⟨e, _⟩ | ⟨a', len', cap', elems, rest, n, rfl, e, hx, _, hl, hm, hlen, hel, _, _⟩
  · simp [Value.cells] at e
    obtain ⟨rfl, rfl, rfl⟩ := e
    exact ⟨[], rfl, Nat.le_refl _, ⟨rfl, by decide, fun h => absurd h (Nat.lt_irrefl _)⟩, (fun b hb => by cases hb), by simp⟩
  · simp [Value.cells] at e
    obtain ⟨rfl, rfl, rfl⟩ := e
    obtain ⟨hx, _⟩ := Prod.mk.inj hx
    subst hx
    have z := sized_slice hsz ht hd Try.underlying44
    rw [bytes50, List.length_map, List.length_map] at z
    unfold maxLen at hm
    have hone : ∀ i, i < len → ∃ o : S50 × Option Addr × Nat, (I64 o.1.f0 ∧ Lies W o.1.f1 o.2.1 o.2.2) ∧ ∀ j u, [Value.int .i64 o.1.f0, .int .i64 o.1.f1.f0, .string o.1.f1.f1, .int .i64 o.1.f1.f2, .slice o.2.1 o.1.f1.f3.length o.2.2][j]? = some u → W.cell? (a'.add (i * 5 + j)) = some u := by
      intro i hi
      have he := hel i hi
      rw [cells50', List.getElem?_eq_getElem (by omega)] at he
      cases hc : W.cells? 0 (a'.add (i * 5)) 5 with
      | none => rw [hc] at he; cases he
      | some cs' =>
        rw [hc] at he
        obtain ⟨xs, n', rfl, _, hl', hlen', hf'⟩ := DataW.trod_struct Try.underlying50 he
        rw [cells50'] at hl'
        obtain ⟨_, hlen2, hcell⟩ := World.cells?_some hc
        match cs', hl', xs, hlen' with
        | [u0, u1, u2, u3, u4], _, [y0, y1], _ =>
          have t0 : DataW.trod enc Try.prog W 0 sp true n' 2 [u0] = some y0 := by simpa [cells2'] using hf' 0 _ rfl
          have t1 : DataW.trod enc Try.prog W 0 sp true n' 24 [u1, u2, u3, u4] = some y1 := by simpa [cells24'] using hf' 1 _ rfl
          obtain ⟨v0, e0, _, w0⟩ := DataW.trod_int Try.underlying2 t0
          simp only [List.cons.injEq, and_true] at e0
          subst e0
          obtain ⟨t, A, c, e1, hL⟩ := term_cells _ _ _ t1
          simp only [List.cons.injEq, and_true] at e1
          obtain ⟨rfl, rfl, rfl, rfl⟩ := e1
          refine ⟨(⟨v0, t⟩, A, c), ⟨bounds_i64 w0, hL⟩, fun j u hj => ?_⟩
          have hjl : j < 5 := by
            have := (List.getElem?_eq_some_iff.1 hj).1
            simpa using this
          have := hcell j (by omega)
          rw [Go.Deep.add_add] at this
          rw [this]
          exact hj
    have hinh : Inhabited (S50 × Option Addr × Nat) := ⟨(z50, none, 0)⟩
    obtain ⟨f, hf⟩ := choose_lt hone
    refine ⟨(List.range len).map fun i => (f i).1, by simp, by simpa using hl, ⟨by simp, by simp; omega, fun _ => ⟨a', rfl, fun j p hj => ?_⟩⟩, fun b hb => ?_, ?_⟩
    · have hj' : j < len := by
        have := (List.getElem?_eq_some_iff.1 hj).1
        simpa using this
      have hp : (f j).1 = p := by simpa [hj'] using hj
      obtain ⟨hL, hc⟩ := hf j hj'
      rw [hp] at hL hc
      exact ⟨_, rfl, k50_mk W p hL.2.le hL.2.C, fun i u hu => hc i u hu⟩
    · obtain ⟨i, hi, rfl⟩ := List.mem_map.1 hb
      exact ⟨(hf i (List.mem_range.1 hi)).1.1, (hf i (List.mem_range.1 hi)).1.2.wf⟩
    · rw [List.length_map, List.length_range, ← hlen]
      exact Nat.le_trans (Nat.mul_le_mul_right _ (by omega)) z
end
end Go.Proofs.Ytpnkaggkedepeaa
