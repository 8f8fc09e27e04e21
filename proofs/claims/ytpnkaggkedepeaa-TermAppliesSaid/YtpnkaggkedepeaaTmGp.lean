/- Terms in plain words. -/
import Derived.Test.YtpnkaggkedepeaaTmGe
import Derived.Test.YtpnkaggkedepeaaPTermTellsr11
import Derived.Lib.SmallJoins
import Derived.Deep.Slices
import Derived.Deep.Strs
import Derived.SizedLaws
import Derived.ChangeShapes
import Derived.OpenShut

/- Terms in plain words: size, depth, shape, what is put in. -/
namespace Go.Proofs.Ytpnkaggkedepeaa
set_option linter.unusedVariables false
open Go.RowKit Go.Maps Go.Proofs.YtpnkaggkedepeaaW.PrintWords Go.Proofs.YtpnkaggkedepeaaW.PrintLast Go.Proofs.YtpnkaggkedepeaaW.PrintMore Go.Proofs.Ytpnkaggkedepeaa.PTermTells Go.Extern

mutual
/-- A term's depth. -/
def dpt : S24 → Int
  | ⟨kd, nm, nt, xs⟩ => if kd = 4 then dptL xs + 1 else 1
def dptL : List S24 → Int
  | [] => 0
  | a :: r => max (dpt a) (dptL r)
end
theorem dptL_nil : dptL [] = 0 := by rw [dptL]
theorem dptL_cons (a : S24) (r : List S24) : dptL (a :: r) = max (dpt a) (dptL r) := by rw [dptL]
mutual
theorem dpt_pos : ∀ t : S24, 1 ≤ dpt t
  | ⟨kd, nm, nt, xs⟩ => by
    rw [dpt]
    split
    · have := dptL_pos xs; omega
    · omega
theorem dptL_pos : ∀ xs : List S24, 0 ≤ dptL xs
  | [] => by rw [dptL_nil]; omega
  | a :: r => by rw [dptL_cons]; have := dpt_pos a; omega
end
mutual
/-- Are a term's kinds, names, numbers and numbers of arguments right? -/
def shT : S24 → Bool
  | ⟨kd, nm, nt, xs⟩ => if kd = 1 then decide (nt ≥ 1) else if kd = 2 then true else if kd = 4 then decide (1 ≤ xs.length ∧ xs.length ≤ 8) && shL xs && decide ((nm.size : Int) ≤ 64) else if kd = 3 then decide ((nm.size : Int) ≤ 64) else false
def shL : List S24 → Bool
  | [] => true
  | a :: r => shT a && shL r
end
theorem shL_nil : shL [] = true := by rw [shL]
theorem shL_cons (a : S24) (r : List S24) : shL (a :: r) = (shT a && shL r) := by rw [shL]

theorem nodes_pos (t : S24) : 1 ≤ nodes t := by cases t; rw [nodes]; omega

mutual
theorem meas_spec : ∀ (t : S24) (deep s : Int), ((meas t deep s).2.1 = true ↔ shT t = true ∧ s + nodes t ≤ 2000 ∧ deep + dpt t ≤ 101) ∧ ((meas t deep s).2.1 = true → (meas t deep s).1 = dpt t)
  | ⟨kd, nm, nt, xs⟩, deep, s => by
    have hn := nodes_pos ⟨kd, nm, nt, xs⟩
    have hd := dpt_pos ⟨kd, nm, nt, xs⟩
    unfold meas
    by_cases h1 : s + 1 > 2000 ∨ deep > 100
    · rw [if_pos h1]
      refine ⟨⟨by simp, fun h => ?_⟩, by simp⟩
      have := h.2.1; have := h.2.2; omega
    rw [if_neg h1]
    unfold shT nodes dpt
    by_cases h2 : kd = 1
    · subst h2; simp; omega
    rw [if_neg h2, if_neg h2]
    by_cases h3 : kd = 2
    · subst h3; simp; omega
    rw [if_neg h3, if_neg h3]
    by_cases h4 : kd = 4
    · subst h4
      simp only [if_true]
      by_cases h5 : xs.length < 1 ∨ xs.length > 8
      · rw [if_pos h5]
        refine ⟨⟨by simp, fun h => ?_⟩, by simp⟩
        have := h.1; simp at this; omega
      rw [if_neg h5]
      have ih := measL_spec xs (deep + 1) 0 (s + 1) (by omega) (by omega) (by omega)
      have hp := dptL_pos xs
      by_cases h6 : (measL xs (deep + 1) 0 (s + 1)).2.1 = true
      · simp only [h6, if_true]
        have h7 := ih.1.1 h6
        have h8 := ih.2 h6
        refine ⟨?_, fun _ => by rw [h8]; omega⟩
        have e1 : decide (1 ≤ xs.length ∧ xs.length ≤ 8) = true := by simp; omega
        rw [e1, h7.1]
        have := h7.2.1; have := h7.2.2
        simp only [Bool.true_and, decide_eq_true_eq]
        push_cast
        constructor
        · intro h; exact ⟨h, by omega, by omega⟩
        · intro h; exact h.1
      · simp only [h6]
        refine ⟨⟨by simp, fun h => ?_⟩, by simp⟩
        exfalso
        apply h6
        rw [ih.1]
        have h9 := h.1
        simp only [Bool.and_eq_true] at h9
        refine ⟨h9.1.2, ?_, ?_⟩
        · have := h.2.1; push_cast at this; omega
        · have := h.2.2; omega
    rw [if_neg h4, if_neg h4]
    by_cases h5 : kd = 3
    · subst h5; simp; omega
    · simp [h5, h4]
theorem measL_spec : ∀ (xs : List S24) (deep d s : Int), s ≤ 2000 → deep ≤ 101 → 0 ≤ d → ((measL xs deep d s).2.1 = true ↔ shL xs = true ∧ s + nodesL xs ≤ 2000 ∧ deep + dptL xs ≤ 101) ∧ ((measL xs deep d s).2.1 = true → (measL xs deep d s).1 = max d (dptL xs))
  | [], deep, d, s, hs, hd, h0 => by
    rw [measL_nil, shL_nil, nodesL_nil, dptL_nil]
    exact ⟨⟨fun _ => ⟨rfl, by simpa using hs, by omega⟩, fun _ => rfl⟩, fun _ => by simp only; omega⟩
  | a :: r, deep, d, s, hs, hd, h0 => by
    have ha := meas_spec a deep s
    rw [measL_cons, shL_cons, nodesL_cons, dptL_cons]
    have hna := nodes_pos a
    have hda := dpt_pos a
    have hpr := dptL_pos r
    by_cases h6 : (meas a deep s).2.1 = true
    · rw [if_pos h6]
      have h7 := ha.1.1 h6
      have h8 := ha.2 h6
      have h9 := meas_nodes a deep s h6
      have ih := measL_spec r deep (max d (meas a deep s).1) (meas a deep s).2.2 (by omega) hd (by omega)
      refine ⟨?_, fun h => by rw [ih.2 h, h8]; omega⟩
      rw [ih.1, h7.1, h9]
      push_cast
      simp only [Bool.true_and]
      constructor
      · rintro ⟨x, y, z⟩; exact ⟨x, by omega, by omega⟩
      · rintro ⟨x, y, z⟩; exact ⟨x, by omega, by omega⟩
    · rw [if_neg h6]
      refine ⟨⟨by simp, fun h => ?_⟩, by simp⟩
      exfalso
      apply h6
      rw [ha.1]
      have h9 := h.1
      simp only [Bool.and_eq_true] at h9
      have := h.2.1; push_cast at this
      exact ⟨h9.1, by omega, by have := h.2.2; omega⟩
end

theorem okT_iff (t : S24) : okT t = true ↔ shT t = true ∧ nodes t ≤ 2000 ∧ dpt t ≤ 100 := by
  unfold okT
  rw [(meas_spec t 1 0).1]
  constructor
  · rintro ⟨a, b, c⟩; exact ⟨a, by omega, by omega⟩
  · rintro ⟨a, b, c⟩; exact ⟨a, by omega, by omega⟩
mutual
/-- A term with what its kinds name alone, and with terms in its variables' places. -/
def subT (f : Int → Option S24) : S24 → S24
  | ⟨kd, nm, nt, xs⟩ => if kd = 1 then (match f nt with | some x => x | none => ⟨1, ⟨#[]⟩, nt, []⟩) else if kd = 4 then ⟨4, nm, 0, subL f xs⟩ else bareT ⟨kd, nm, nt, xs⟩
def subL (f : Int → Option S24) : List S24 → List S24
  | [] => []
  | a :: r => subT f a :: subL f r
end
theorem subL_nil (f : Int → Option S24) : subL f [] = [] := by rw [subL]
theorem subL_cons (f : Int → Option S24) (a : S24) (r : List S24) : subL f (a :: r) = subT f a :: subL f r := by rw [subL]
theorem subL_map (f : Int → Option S24) : ∀ xs, subL f xs = xs.map (subT f)
  | [] => by rw [subL_nil]; rfl
  | a :: r => by rw [subL_cons, subL_map f r]; rfl
/-- A term with what its kinds name alone. -/
def nrm (t : S24) : S24 := subT (fun _ => none) t
theorem bareT_kd (t : S24) : (bareT t).f0 = t.f0 := by unfold bareT; split <;> rfl
theorem nodes_no {t : S24} (h : t.f0 ≠ 4) : nodes t = 1 := by cases t; rw [nodes, if_neg h]
theorem dpt_no {t : S24} (h : t.f0 ≠ 4) : dpt t = 1 := by cases t; rw [dpt, if_neg h]

/-- What a walk through a term answers that counts and gives up: within the bounds it is the term, with the count. -/
structure Cut (deep s : Int) (x : S24) (r : S24 × Bool × Int) : Prop where
  ok : r.2.1 = true ↔ s + nodes x ≤ 2000 ∧ deep + dpt x ≤ 101
  val : r.2.1 = true → r.1 = x ∧ r.2.2 = s + nodes x
  no : r.2.1 = false → r.1 = z24
structure CutL (deep s : Int) (xs : List S24) (r : List S24 × Bool × Int) (acc : List S24) : Prop where
  ok : r.2.1 = true ↔ s + nodesL xs ≤ 2000 ∧ deep + dptL xs ≤ 101
  val : r.2.1 = true → r.1 = acc ++ xs ∧ r.2.2 = s + nodesL xs

theorem cut_leaf {deep s : Int} {x : S24} (h4 : x.f0 ≠ 4) (h1 : ¬(s + 1 > 2000 ∨ deep > 100)) : Cut deep s x (x, true, s + 1) := by
  have hn := nodes_no h4
  have hd := dpt_no h4
  exact ⟨⟨fun _ => ⟨by rw [hn]; omega, by rw [hd]; omega⟩, fun _ => rfl⟩, fun _ => ⟨rfl, by rw [hn]; rfl⟩, fun h => by cases h⟩
theorem cut_deep {deep s : Int} (x : S24) (h1 : s + 1 > 2000 ∨ deep > 100) : Cut deep s x (z24, false, s + 1) := by
  have hn := nodes_pos x
  have hd := dpt_pos x
  exact ⟨⟨(fun h => by cases h), fun h => by omega⟩, (fun h => by cases h), fun _ => rfl⟩
theorem cut_comp {deep s : Int} {nm : ByteArray} {xs : List S24} {r : List S24 × Bool × Int} (h1 : ¬(s + 1 > 2000 ∨ deep > 100)) (h : CutL (deep + 1) (s + 1) xs r []) :
    Cut deep s ⟨4, nm, 0, xs⟩ (if r.2.1 = true then (⟨4, nm, 0, r.1⟩, true, r.2.2) else (z24, false, r.2.2)) := by
  have hn : nodes ⟨4, nm, 0, xs⟩ = 1 + nodesL xs := by rw [nodes, if_pos rfl]
  have hd : dpt ⟨4, nm, 0, xs⟩ = dptL xs + 1 := by rw [dpt, if_pos rfl]
  by_cases h6 : r.2.1 = true
  · rw [if_pos h6]
    have hv := h.val h6
    have ho := h.ok.1 h6
    refine ⟨⟨fun _ => ⟨by rw [hn]; push_cast; omega, by rw [hd]; omega⟩, fun _ => rfl⟩, fun _ => ⟨by simp only; rw [hv.1]; rfl, by simp only; rw [hv.2, hn]; push_cast; omega⟩, fun h => by cases h⟩
  · rw [if_neg h6]
    refine ⟨⟨(fun h => by cases h), fun hh => ?_⟩, (fun h => by cases h), fun _ => rfl⟩
    exfalso; apply h6; rw [h.ok]
    rw [hn, hd] at hh
    have := hh.1; push_cast at this
    exact ⟨by omega, by have := hh.2; omega⟩
theorem cutL_nil {deep s : Int} (hs : s ≤ 2000) (hd : deep ≤ 101) (acc : List S24) : CutL deep s [] (acc, true, s) acc :=
  ⟨⟨fun _ => ⟨by rw [nodesL_nil]; simpa using hs, by rw [dptL_nil]; omega⟩, fun _ => rfl⟩, fun _ => ⟨by simp, by rw [nodesL_nil]; simp⟩⟩
theorem cutL_cons {deep s : Int} {x : S24} {xs : List S24} {q : S24 × Bool × Int} {r : List S24 × Bool × Int} {acc : List S24} (h : Cut deep s x q) (hr : q.2.1 = true → CutL deep q.2.2 xs r (acc ++ [q.1])) :
    CutL deep s (x :: xs) (if q.2.1 = true then r else ([], false, q.2.2)) acc := by
  have hn := nodes_pos x
  have hp := dptL_pos xs
  rw [show CutL deep s (x :: xs) (if q.2.1 = true then r else ([], false, q.2.2)) acc ↔ _ from Iff.rfl]
  by_cases h6 : q.2.1 = true
  · rw [if_pos h6]
    have hv := h.val h6
    have ho := h.ok.1 h6
    have hR := hr h6
    refine ⟨?_, fun hh => ?_⟩
    · rw [hR.ok, hv.2, nodesL_cons, dptL_cons]
      push_cast
      constructor
      · rintro ⟨a, b⟩; exact ⟨by omega, by omega⟩
      · rintro ⟨a, b⟩; exact ⟨by omega, by omega⟩
    · have := hR.val hh
      rw [this.1, this.2, hv.1, hv.2, nodesL_cons]
      exact ⟨by simp, by push_cast; omega⟩
  · rw [if_neg h6]
    refine ⟨⟨(fun h => by cases h), fun hh => ?_⟩, (fun h => by cases h)⟩
    exfalso; apply h6; rw [h.ok]
    rw [nodesL_cons, dptL_cons] at hh
    have := hh.1; push_cast at this
    exact ⟨by omega, by have := hh.2; omega⟩

mutual
theorem cpT_spec : ∀ (t : S24) (deep s : Int), Cut deep s (nrm t) (cpT t deep s)
  | ⟨kd, nm, nt, xs⟩, deep, s => by
    unfold cpT nrm
    by_cases h1 : s + 1 > 2000 ∨ deep > 100
    · rw [if_pos h1]; exact cut_deep _ h1
    rw [if_neg h1]
    by_cases h2 : kd ≠ 4
    · rw [if_pos h2]
      have hb : subT (fun _ => none) ⟨kd, nm, nt, xs⟩ = bareT ⟨kd, nm, nt, xs⟩ := by
        rw [subT]
        by_cases h3 : kd = 1
        · subst h3; rfl
        · rw [if_neg h3, if_neg h2]
      rw [hb]
      exact cut_leaf (by rw [bareT_kd]; exact h2) h1
    · rw [if_neg h2]
      obtain rfl : kd = 4 := by omega
      rw [subT, if_neg (by decide), if_pos rfl]
      exact cut_comp h1 (cpL_spec xs (deep + 1) [] (s + 1) (by omega) (by omega))
theorem cpL_spec : ∀ (xs : List S24) (deep : Int) (acc : List S24) (s : Int), s ≤ 2000 → deep ≤ 101 → CutL deep s (subL (fun _ => none) xs) (cpL xs deep acc s) acc
  | [], deep, acc, s, hs, hd => by rw [cpL_nil, subL_nil]; exact cutL_nil hs hd acc
  | a :: r, deep, acc, s, hs, hd => by
    rw [cpL_cons, subL_cons]
    have ha := cpT_spec a deep s
    exact cutL_cons ha (fun h => by rw [(ha.val h).2]; exact cpL_spec r deep _ _ (ha.ok.1 h).1 hd)
end
mutual
theorem putT_spec (f : Int → Option S24) : ∀ (t : S24) (deep s : Int), Cut deep s (subT (fun v => (f v).map nrm) t) (putT f t deep s)
  | ⟨kd, nm, nt, xs⟩, deep, s => by
    unfold putT
    by_cases h0 : kd = 1
    · subst h0
      rw [if_pos rfl, subT, if_pos rfl]
      cases hf : f nt with
      | some x => exact cpT_spec x deep s
      | none =>
        have := cpT_spec ⟨1, nm, nt, xs⟩ deep s
        unfold nrm at this
        rw [subT, if_pos rfl] at this
        exact this
    rw [if_neg h0]
    by_cases h1 : s + 1 > 2000 ∨ deep > 100
    · rw [if_pos h1]; exact cut_deep _ h1
    rw [if_neg h1]
    by_cases h2 : kd ≠ 4
    · rw [if_pos h2, subT, if_neg h0, if_neg h2]
      exact cut_leaf (by rw [bareT_kd]; exact h2) h1
    · rw [if_neg h2]
      obtain rfl : kd = 4 := by omega
      rw [subT, if_neg (by decide), if_pos rfl]
      exact cut_comp h1 (putL_spec f xs (deep + 1) [] (s + 1) (by omega) (by omega))
theorem putL_spec (f : Int → Option S24) : ∀ (xs : List S24) (deep : Int) (acc : List S24) (s : Int), s ≤ 2000 → deep ≤ 101 → CutL deep s (subL (fun v => (f v).map nrm) xs) (putL f xs deep acc s) acc
  | [], deep, acc, s, hs, hd => by rw [putL_nil, subL_nil]; exact cutL_nil hs hd acc
  | a :: r, deep, acc, s, hs, hd => by
    rw [putL_cons, subL_cons]
    have ha := putT_spec f a deep s
    exact cutL_cons ha (fun h => by rw [(ha.val h).2]; exact putL_spec f r deep _ _ (ha.ok.1 h).1 hd)
end

end Go.Proofs.Ytpnkaggkedepeaa


/- The order of terms in plain words: it is one. -/
namespace Go.Proofs.Ytpnkaggkedepeaa
set_option linter.unusedVariables false
open Go.RowKit Go.Maps Go.Proofs.YtpnkaggkedepeaaW.PrintWords Go.Proofs.YtpnkaggkedepeaaW.PrintLast Go.Proofs.YtpnkaggkedepeaaW.PrintMore Go.Proofs.Ytpnkaggkedepeaa.PTermTells Go.Extern

theorem cmpI_anti (a b : Int) : cmpI a b = -cmpI b a := by unfold cmpI; (repeat' split) <;> omega
theorem cmpI_refl (a : Int) : cmpI a a = 0 := by unfold cmpI; (repeat' split) <;> omega
theorem cmpI_zero {a b : Int} (h : cmpI a b = 0) : a = b := by unfold cmpI at h; repeat' split at h <;> omega
theorem compare_cons (a b : UInt8) (l m : List UInt8) : Lib.compareBytes (a :: l) (b :: m) = if cmpI a.toNat b.toNat ≠ 0 then cmpI a.toNat b.toNat else Lib.compareBytes l m := by
  rw [Lib.compareBytes]
  unfold cmpI
  simp only [UInt8.lt_iff_toNat_lt]
  by_cases h1 : a.toNat < b.toNat
  · rw [if_pos h1, if_pos (by omega : (a.toNat : Int) < b.toNat)]; rfl
  · rw [if_neg h1, if_neg (by omega : ¬(a.toNat : Int) < b.toNat)]
    by_cases h2 : b.toNat < a.toNat
    · rw [if_pos h2, if_pos (by omega : (a.toNat : Int) > b.toNat)]; rfl
    · rw [if_neg h2, if_neg (by omega : ¬(a.toNat : Int) > b.toNat)]; rfl
theorem bytes_anti : ∀ l m : List UInt8, Lib.compareBytes l m = -Lib.compareBytes m l
  | [], [] => by simp [Lib.compareBytes]
  | [], _ :: _ => by simp [Lib.compareBytes]
  | _ :: _, [] => by simp [Lib.compareBytes]
  | a :: l, b :: m => by
    rw [compare_cons, compare_cons, cmpI_anti a.toNat b.toNat, bytes_anti l m]
    by_cases h : cmpI b.toNat a.toNat = 0
    · simp [h]
    · simp [h]
theorem bytes_zero : ∀ l m : List UInt8, Lib.compareBytes l m = 0 → l = m
  | [], [], _ => rfl
  | [], _ :: _, h => by simp [Lib.compareBytes] at h
  | _ :: _, [], h => by simp [Lib.compareBytes] at h
  | a :: l, b :: m, h => by
    rw [compare_cons] at h
    by_cases h0 : cmpI a.toNat b.toNat = 0
    · rw [if_neg (by simpa using h0)] at h
      have h1 := cmpI_zero h0
      rw [bytes_zero l m h, (UInt8.toNat_inj.1 (by omega) : a = b)]
    · rw [if_pos h0] at h; exact absurd h h0
theorem bytes_refl : ∀ l : List UInt8, Lib.compareBytes l l = 0
  | [] => by simp [Lib.compareBytes]
  | a :: l => by rw [compare_cons, cmpI_refl]; exact bytes_refl l
theorem cmpS_anti (a b : ByteArray) : cmpS a b = -cmpS b a := bytes_anti _ _
theorem cmpS_refl (a : ByteArray) : cmpS a a = 0 := bytes_refl _
theorem cmpS_zero {a b : ByteArray} (h : cmpS a b = 0) : a = b := by
  have := bytes_zero _ _ h
  cases a; cases b; simp at this; subst this; rfl

theorem ordT_eq (a b : S24) : ordT a b = if cmpI a.f0 b.f0 ≠ 0 then cmpI a.f0 b.f0 else if a.f0 = 1 ∨ a.f0 = 2 then cmpI a.f2 b.f2 else if a.f0 = 3 then cmpS a.f1 b.f1 else
    if cmpI a.f3.length b.f3.length ≠ 0 then cmpI a.f3.length b.f3.length else if cmpS a.f1 b.f1 ≠ 0 then cmpS a.f1 b.f1 else ordL a.f3 b.f3 := by
  cases a with
  | mk kd nm nt xs =>
    rw [ordT]
    simp only
    by_cases h : kd = b.f0
    · rw [h, cmpI_refl]; simp
    · rw [if_pos h, if_pos]
      intro h0; exact h (cmpI_zero h0)
theorem ordL_ll : ordL [] [] = 0 := by rw [ordL]
theorem ordL_lc (b : S24) (s : List S24) : ordL [] (b :: s) = -1 := by rw [ordL]
theorem ordL_cl (b : S24) (s : List S24) : ordL (b :: s) [] = 1 := by rw [ordL]

mutual
theorem ordT_anti : ∀ a b : S24, ordT a b = -ordT b a
  | ⟨kd, nm, nt, xs⟩, b => by
    rw [ordT_eq, ordT_eq b]
    simp only
    rw [cmpI_anti b.f0 kd, cmpI_anti nt, cmpS_anti nm, cmpI_anti xs.length, ordL_anti xs b.f3]
    by_cases h : cmpI kd b.f0 = 0
    · have e := cmpI_zero h
      rw [h, ← e]
      simp only [Int.neg_zero, ne_eq, not_true_eq_false, if_false]
      by_cases k1 : kd = 1 ∨ kd = 2
      · simp only [if_pos k1]
      · simp only [if_neg k1]
        by_cases k3 : kd = 3
        · simp only [if_pos k3]
        · simp only [if_neg k3]
          by_cases h5 : cmpI b.f3.length xs.length = 0
          · simp only [h5, Int.neg_zero, not_true_eq_false, if_false]
            by_cases h6 : cmpS b.f1 nm = 0
            · simp only [h6, Int.neg_zero, not_true_eq_false, if_false]
            · simp [h6]
          · simp [h5]
    · simp [h]
theorem ordL_anti : ∀ xs ys : List S24, ordL xs ys = -ordL ys xs
  | [], [] => by rw [ordL_ll]; rfl
  | [], _ :: _ => by rw [ordL_lc, ordL_cl]
  | _ :: _, [] => by rw [ordL_lc, ordL_cl]; rfl
  | a :: xs, b :: ys => by
    rw [ordL_cons, ordL_cons, ordT_anti a b, ordL_anti xs ys]
    by_cases h : ordT b a = 0
    · simp [h]
    · simp [h]
end
theorem ordT_refl (a : S24) : ordT a a = 0 := by have := ordT_anti a a; omega
end Go.Proofs.Ytpnkaggkedepeaa


/- Variables and renamings of terms in plain words. -/
namespace Go.Proofs.Ytpnkaggkedepeaa
set_option linter.unusedVariables false
open Go.RowKit Go.Maps Go.Proofs.YtpnkaggkedepeaaW.PrintWords Go.Proofs.YtpnkaggkedepeaaW.PrintLast Go.Proofs.YtpnkaggkedepeaaW.PrintMore Go.Proofs.Ytpnkaggkedepeaa.PTermTells Go.Extern

mutual
/-- Where variables stand in a term, in order. -/
def occT : S24 → List Int
  | ⟨kd, nm, nt, xs⟩ => if kd = 1 then [nt] else if kd = 4 then occL xs else []
def occL : List S24 → List Int
  | [] => []
  | a :: r => occT a ++ occL r
end
theorem occL_nil : occL [] = [] := by rw [occL]
theorem occL_cons (a : S24) (r : List S24) : occL (a :: r) = occT a ++ occL r := by rw [occL]
def addv (out : List Int) (v : Int) : List Int := if v ∈ out then out else out ++ [v]
mutual
theorem varsT_occ : ∀ (t : S24) (out : List Int), varsT t out = (occT t).foldl addv out
  | ⟨kd, nm, nt, xs⟩, out => by
    rw [varsT, occT]
    by_cases h1 : kd = 1
    · rw [if_pos h1, if_pos h1]; rfl
    rw [if_neg h1, if_neg h1]
    by_cases h4 : kd = 4
    · rw [if_pos h4, if_pos h4]; exact varsL_occ xs out
    · rw [if_neg h4, if_neg h4]; rfl
theorem varsL_occ : ∀ (xs : List S24) (out : List Int), varsL xs out = (occL xs).foldl addv out
  | [], out => by rw [varsL_nil, occL_nil]; rfl
  | a :: r, out => by rw [varsL_cons, occL_cons, List.foldl_append, varsT_occ a, varsL_occ r]
end
theorem mem_addv {out : List Int} {v x : Int} : x ∈ addv out v ↔ x ∈ out ∨ x = v := by
  unfold addv
  by_cases h : v ∈ out
  · rw [if_pos h]
    constructor
    · exact .inl
    · rintro (h1 | rfl)
      · exact h1
      · exact h
  · rw [if_neg h]; simp
theorem mem_fold : ∀ (l out : List Int) (x : Int), x ∈ l.foldl addv out ↔ x ∈ out ∨ x ∈ l
  | [], out, x => by simp
  | v :: l, out, x => by
    rw [List.foldl_cons, mem_fold l, mem_addv, List.mem_cons]
    constructor
    · rintro ((h | h) | h)
      · exact .inl h
      · exact .inr (.inl h)
      · exact .inr (.inr h)
    · rintro (h | h | h)
      · exact .inl (.inl h)
      · exact .inl (.inr h)
      · exact .inr h
theorem nodup_fold : ∀ (l out : List Int), out.Nodup → (l.foldl addv out).Nodup
  | [], out, h => h
  | v :: l, out, h => by
    rw [List.foldl_cons]
    apply nodup_fold l
    unfold addv
    by_cases hv : v ∈ out
    · rw [if_pos hv]; exact h
    · rw [if_neg hv, List.nodup_append]
      exact ⟨h, by simp, fun a ha b hb e => hv (by rw [List.mem_singleton.1 hb] at e; exact e ▸ ha)⟩
theorem varsT_nodup (t : S24) : (varsT t []).Nodup := by rw [varsT_occ]; exact nodup_fold _ _ (by simp)
theorem mem_varsT (t : S24) (x : Int) : x ∈ varsT t [] ↔ x ∈ occT t := by rw [varsT_occ, mem_fold]; simp

/-- What a variable of some is called from a number on. -/
def rnm : List Int → Int → Int → Option Int
  | [], _, _ => none
  | u :: r, n, v => if v = u then some n else rnm r (n + 1) v
def mkV (n : Int) : S24 := ⟨1, ⟨#[]⟩, n, []⟩
theorem rnm_none : ∀ (vs : List Int) (n v : Int), v ∉ vs → rnm vs n v = none
  | [], _, _, _ => rfl
  | u :: r, n, v, h => by
    rw [rnm, if_neg (fun e => h (by rw [e]; simp)), rnm_none r _ _ (fun e => h (by simp [e]))]
theorem rnm_some : ∀ (vs : List Int) (n v : Int), v ∈ vs → ∃ k, rnm vs n v = some k ∧ n ≤ k ∧ k < n + vs.length
  | [], _, _, h => by simp at h
  | u :: r, n, v, h => by
    rw [rnm]
    by_cases e : v = u
    · rw [if_pos e]; exact ⟨n, rfl, Int.le_refl _, by simp only [List.length_cons]; push_cast; omega⟩
    · rw [if_neg e]
      obtain ⟨k, h1, h2, h3⟩ := rnm_some r (n + 1) v ((List.mem_cons.1 h).resolve_left e)
      exact ⟨k, h1, by omega, by simp only [List.length_cons]; push_cast; omega⟩
/-- The name of a variable: its own where it has none. -/
def rnf (vs : List Int) (n v : Int) : Int := (rnm vs n v).getD v
/-- A term with its variables renamed. -/
def renS (g : Int → Int) (t : S24) : S24 := subT (fun v => some (mkV (g v))) t
def renL (g : Int → Int) (xs : List S24) : List S24 := subL (fun v => some (mkV (g v))) xs
theorem renS_eq (g : Int → Int) (kd : Int) (nm : ByteArray) (nt : Int) (xs : List S24) : renS g ⟨kd, nm, nt, xs⟩ = if kd = 1 then mkV (g nt) else if kd = 4 then ⟨4, nm, 0, renL g xs⟩ else bareT ⟨kd, nm, nt, xs⟩ := by
  unfold renS renL; rw [subT]
theorem renL_nil (g : Int → Int) : renL g [] = [] := by unfold renL; rw [subL]
theorem renL_cons (g : Int → Int) (a : S24) (r : List S24) : renL g (a :: r) = renS g a :: renL g r := by unfold renL renS; rw [subL]
theorem renL_map (g : Int → Int) (xs : List S24) : renL g xs = xs.map (renS g) := subL_map _ _
theorem renL_len (g : Int → Int) (xs : List S24) : (renL g xs).length = xs.length := by rw [renL_map, List.length_map]
mutual
theorem sub_ren (f : Int → Option S24) (g : Int → Int) : ∀ t : S24, (∀ v ∈ occT t, f v = some (mkV (g v)) ∨ (f v = none ∧ g v = v)) → subT f t = renS g t
  | ⟨kd, nm, nt, xs⟩, h => by
    rw [renS_eq, subT]
    rw [occT] at h
    by_cases h1 : kd = 1
    · rw [if_pos h1, if_pos h1]
      rw [if_pos h1] at h
      rcases h nt (by simp) with e | ⟨e, e2⟩
      · rw [e]
      · rw [e, e2]; rfl
    rw [if_neg h1, if_neg h1]
    rw [if_neg h1] at h
    by_cases h4 : kd = 4
    · rw [if_pos h4, if_pos h4]
      rw [if_pos h4] at h
      rw [subL_ren f g xs h]
    · rw [if_neg h4, if_neg h4]
theorem subL_ren (f : Int → Option S24) (g : Int → Int) : ∀ xs : List S24, (∀ v ∈ occL xs, f v = some (mkV (g v)) ∨ (f v = none ∧ g v = v)) → subL f xs = renL g xs
  | [], _ => by rw [subL_nil, renL_nil]
  | a :: r, h => by
    rw [occL_cons] at h
    rw [subL_cons, renL_cons, sub_ren f g a (fun v hv => h v (List.mem_append_left _ hv)), subL_ren f g r (fun v hv => h v (List.mem_append_right _ hv))]
end
theorem bare_bare (t : S24) : bareT (bareT t) = bareT t := by
  unfold bareT; by_cases h : t.f0 = 1 ∨ t.f0 = 2
  · rw [if_pos h, if_pos h]
  · rw [if_neg h, if_neg h]
mutual
theorem renS_renS (g h : Int → Int) : ∀ t : S24, renS h (renS g t) = renS (fun v => h (g v)) t
  | ⟨kd, nm, nt, xs⟩ => by
    rw [renS_eq, renS_eq]
    by_cases h1 : kd = 1
    · rw [if_pos h1, if_pos h1]; unfold mkV; rw [renS_eq]; rfl
    rw [if_neg h1, if_neg h1]
    by_cases h4 : kd = 4
    · rw [if_pos h4, if_pos h4, renS_eq, if_neg (by decide), if_pos rfl, renL_renL g h xs]
    · rw [if_neg h4, if_neg h4]
      have hb := bareT_kd ⟨kd, nm, nt, xs⟩
      have hbb := bare_bare ⟨kd, nm, nt, xs⟩
      generalize bareT ⟨kd, nm, nt, xs⟩ = b at hb hbb
      obtain ⟨k, m, i, l⟩ := b
      simp only at hb
      rw [renS_eq, if_neg (by omega), if_neg (by omega)]; exact hbb
theorem renL_renL (g h : Int → Int) : ∀ xs : List S24, renL h (renL g xs) = renL (fun v => h (g v)) xs
  | [] => by rw [renL_nil, renL_nil, renL_nil]
  | a :: r => by rw [renL_cons, renL_cons, renL_cons, renS_renS g h a, renL_renL g h r]
end
theorem bare_kind {kd : Int} {nm : ByteArray} {nt : Int} {xs : List S24} : bareT ⟨kd, nm, nt, xs⟩ = if kd = 1 ∨ kd = 2 then ⟨kd, ⟨#[]⟩, nt, []⟩ else ⟨kd, nm, 0, []⟩ := rfl
mutual
theorem nodes_renS (g : Int → Int) : ∀ t : S24, nodes (renS g t) = nodes t ∧ dpt (renS g t) = dpt t
  | ⟨kd, nm, nt, xs⟩ => by
    rw [renS_eq]
    by_cases h1 : kd = 1
    · rw [if_pos h1]; subst h1; exact ⟨rfl, rfl⟩
    rw [if_neg h1]
    by_cases h4 : kd = 4
    · have := nodes_renL g xs
      subst h4
      simp only [if_true]
      rw [nodes, nodes, dpt, dpt]
      simp only [if_true]
      rw [this.1, this.2]; exact ⟨rfl, rfl⟩
    · rw [if_neg h4]
      have hb : (bareT ⟨kd, nm, nt, xs⟩).f0 ≠ 4 := by rw [bareT_kd]; exact h4
      rw [nodes_no hb, dpt_no hb, nodes_no (t := ⟨kd, nm, nt, xs⟩) h4, dpt_no (t := ⟨kd, nm, nt, xs⟩) h4]; exact ⟨rfl, rfl⟩
theorem nodes_renL (g : Int → Int) : ∀ xs : List S24, nodesL (renL g xs) = nodesL xs ∧ dptL (renL g xs) = dptL xs
  | [] => by rw [renL_nil]; exact ⟨rfl, rfl⟩
  | a :: r => by
    rw [renL_cons, nodesL_cons, nodesL_cons, dptL_cons, dptL_cons, (nodes_renS g a).1, (nodes_renS g a).2, (nodes_renL g r).1, (nodes_renL g r).2]; exact ⟨rfl, rfl⟩
end
mutual
theorem sh_renS (g : Int → Int) : ∀ t : S24, shT t = true → (∀ v ∈ occT t, 1 ≤ g v) → shT (renS g t) = true
  | ⟨kd, nm, nt, xs⟩, h, hg => by
    rw [renS_eq]
    rw [occT] at hg
    rw [shT] at h
    by_cases h1 : kd = 1
    · rw [if_pos h1]; rw [if_pos h1] at hg
      unfold mkV; rw [shT, if_pos rfl]
      have := hg nt (by simp); simpa using this
    rw [if_neg h1]; rw [if_neg h1] at hg h
    by_cases h4 : kd = 4
    · subst h4
      simp only [if_true]
      rw [if_pos rfl] at hg
      rw [if_neg (by decide), if_pos rfl] at h
      simp only [Bool.and_eq_true] at h
      rw [shT, if_neg (by decide), if_neg (by decide), if_pos rfl, sh_renL g xs h.1.2 hg, renL_len, h.1.1, h.2]; rfl
    · rw [if_neg h4, bare_kind]
      by_cases h2 : kd = 2
      · rw [if_pos (.inr h2)]; subst h2; rw [shT]; rfl
      · rw [if_neg (by omega), shT, if_neg h1, if_neg h2, if_neg h4]
        rw [if_neg h2, if_neg h4] at h; exact h
theorem sh_renL (g : Int → Int) : ∀ xs : List S24, shL xs = true → (∀ v ∈ occL xs, 1 ≤ g v) → shL (renL g xs) = true
  | [], _, _ => by rw [renL_nil, shL]
  | a :: r, h, hg => by
    rw [shL_cons, Bool.and_eq_true] at h
    rw [occL_cons] at hg
    rw [renL_cons, shL_cons, sh_renS g a h.1 (fun v hv => hg v (List.mem_append_left _ hv)), sh_renL g r h.2 (fun v hv => hg v (List.mem_append_right _ hv))]; rfl
end
theorem ok_renS (g : Int → Int) {t : S24} (h : okT t = true) (hg : ∀ v ∈ occT t, 1 ≤ g v) : okT (renS g t) = true := by
  rw [okT_iff] at h ⊢
  rw [(nodes_renS g t).1, (nodes_renS g t).2]
  exact ⟨sh_renS g t h.1 hg, h.2⟩

theorem fnT_renM : ∀ (vs : List Int) (n : Int) (L : Tm) (v : Int), vs.Nodup → msorted L → fnT (renM vs n L) v = match rnm vs n v with | some k => some (mkV k) | none => fnT L v
  | [], n, L, v, _, _ => rfl
  | u :: r, n, L, v, h, hL => by
    obtain ⟨h1, h2⟩ := List.nodup_cons.1 h
    rw [renM, fnT_renM r (n + 1) _ v h2 (msorted_mput hL), rnm]
    by_cases e : v = u
    · subst e
      rw [if_pos rfl, rnm_none r _ _ h1]
      simp only
      unfold fnT; rw [mget_mput_same hL]; rfl
    · rw [if_neg e]
      cases hr : rnm r (n + 1) v with
      | some k => rfl
      | none => simp only; unfold fnT; rw [mget_mput_other e]

theorem renT_ok {t : S24} (h : okT t = true) {n : Int} (h1 : 1 ≤ n) (h2 : n ≤ 4611686018427387904) : renT t n = (renS (rnf (varsT t []) n) t, n + (varsT t []).length, 0) := by
  unfold renT
  rw [h, if_neg (by decide), if_neg (by omega)]
  have hs := putT_spec (fnT (renM (varsT t []) n [])) t 1 0
  have e : subT (fun v => (fnT (renM (varsT t []) n []) v).map nrm) t = renS (rnf (varsT t []) n) t := by
    apply sub_ren
    intro v hv
    rw [fnT_renM _ _ _ _ (varsT_nodup t) List.Pairwise.nil]
    unfold rnf
    cases hr : rnm (varsT t []) n v with
    | some k => exact .inl rfl
    | none => exact .inr ⟨rfl, rfl⟩
  rw [e] at hs
  have hok := (okT_iff t).1 h
  have : (putT (fnT (renM (varsT t []) n [])) t 1 0).2.1 = true := by
    rw [hs.ok, (nodes_renS _ t).1, (nodes_renS _ t).2]
    exact ⟨by omega, by omega⟩
  rw [(hs.val this).1]

theorem rnf_bounds {t : S24} {n : Int} : ∀ x ∈ occT t, n ≤ rnf (varsT t []) n x ∧ rnf (varsT t []) n x < n + (varsT t []).length := by
  intro x hx
  obtain ⟨k, h1, h2, h3⟩ := rnm_some (varsT t []) n x ((mem_varsT t x).2 hx)
  unfold rnf; rw [h1]; exact ⟨h2, h3⟩
mutual
theorem ord_nrm : ∀ a : S24, shT a = true → ordT (nrm a) a = 0
  | ⟨kd, nm, nt, xs⟩, h => by
    rw [ordT_eq]
    unfold nrm
    rw [subT]
    rw [shT] at h
    by_cases k1 : kd = 1
    · subst k1; simp [cmpI_refl]
    rw [if_neg k1]; rw [if_neg k1] at h
    by_cases k4 : kd = 4
    · subst k4
      simp only [if_true, cmpI_refl]
      simp at h
      rw [subL_map, List.length_map, ← subL_map, cmpI_refl, cmpS_refl, ordL_nrm' xs h.1.2]
      simp
    · rw [if_neg k4, bare_kind]
      by_cases k2 : kd = 2
      · subst k2; simp [cmpI_refl]
      · by_cases k3 : kd = 3
        · subst k3; simp [cmpI_refl, cmpS_refl]
        · simp [k2, k3, k4] at h
theorem ordL_nrm' : ∀ xs : List S24, shL xs = true → ordL (subL (fun _ => none) xs) xs = 0
  | [], _ => by rw [subL_nil, ordL_ll]
  | a :: r, h => by
    rw [shL_cons, Bool.and_eq_true] at h
    have := ord_nrm a h.1
    unfold nrm at this
    rw [subL_cons, ordL_cons, this, ordL_nrm' r h.2]; simp
end
/-- A term's own variables: as it is, but for what its kinds don't name. -/
theorem ren_id (a : S24) : renS id a = nrm a := by
  unfold nrm
  exact (sub_ren (fun _ => none) id a (fun v _ => .inr ⟨rfl, rfl⟩)).symm
end Go.Proofs.Ytpnkaggkedepeaa


/- Numbers of terms fit; contracts from a world on in which the terms lie. -/
namespace Go.Proofs.Ytpnkaggkedepeaa
set_option linter.unusedVariables false
open Go.RowKit Go.Maps Go.Proofs.YtpnkaggkedepeaaW.PrintWords Go.Proofs.YtpnkaggkedepeaaW.PrintLast Go.Proofs.YtpnkaggkedepeaaW.PrintMore Go.Proofs.Ytpnkaggkedepeaa.PTermTells Go.Extern

theorem I64_zero : I64 0 := by unfold I64; decide
theorem wfT_z24 : wfT z24 := by unfold z24; rw [wfT, wfL]; exact ⟨I64_zero, trivial⟩
theorem wfT_bare {t : S24} (h : wfT t) : wfT (bareT t) := by
  unfold bareT; split
  · rw [wfT, wfL]; exact ⟨wfT_int h, trivial⟩
  · rw [wfT, wfL]; exact ⟨I64_zero, trivial⟩
mutual
theorem wfT_sub (f : Int → Option S24) (hf : ∀ v x, f v = some x → wfT x) : ∀ t : S24, wfT t → wfT (subT f t)
  | ⟨kd, nm, nt, xs⟩, h => by
    have hb := wfT_bare h
    rw [wfT] at h
    rw [subT]
    by_cases h1 : kd = 1
    · rw [if_pos h1]
      cases e : f nt with
      | some x => exact hf _ _ e
      | none => simp only; rw [wfT, wfL]; exact ⟨h.1, trivial⟩
    rw [if_neg h1]
    by_cases h4 : kd = 4
    · rw [if_pos h4, wfT]; exact ⟨I64_zero, wfL_sub f hf xs h.2⟩
    · rw [if_neg h4]; exact hb
theorem wfL_sub (f : Int → Option S24) (hf : ∀ v x, f v = some x → wfT x) : ∀ xs : List S24, wfL xs → wfL (subL f xs)
  | [], _ => by rw [subL_nil, wfL]; trivial
  | a :: r, h => by rw [wfL_cons] at h; rw [subL_cons, wfL_cons]; exact ⟨wfT_sub f hf a h.1, wfL_sub f hf r h.2⟩
end
theorem wfT_nrm {t : S24} (h : wfT t) : wfT (nrm t) := wfT_sub _ (fun _ _ e => by cases e) t h
theorem wfT_put {f : Int → Option S24} (hf : ∀ v x, f v = some x → wfT x) {t : S24} (h : wfT t) (deep s : Int) : wfT (putT f t deep s).1 := by
  have hs := putT_spec f t deep s
  by_cases hk : (putT f t deep s).2.1 = true
  · rw [(hs.val hk).1]
    refine wfT_sub _ (fun v x e => ?_) t h
    cases hv : f v with
    | none => rw [hv] at e; cases e
    | some y => rw [hv] at e; cases e; exact wfT_nrm (hf v y hv)
  · rw [hs.no (by simpa using hk)]; exact wfT_z24
theorem wfT_ren {t : S24} (h : wfT t) {n : Int} (hn : I64 n) : wfT (renT t n).1 := by
  unfold renT
  split
  · exact wfT_z24
  · split
    · exact wfT_z24
    · rename_i hok hr
      have hok : okT t = true := by simpa using hok
      refine wfT_put (fun v x e => ?_) h 1 0
      have hm := renM_vars (varsT t []) n [] (fun k tv hk => by cases hk) (by omega) (by
        have h1 := varsT_len t []
        have h2 := nodes_ok hok
        simp only [List.length_nil] at h1
        omega)
      unfold fnT at e
      cases hg : mget (renM (varsT t []) n []) v with
      | none => rw [hg] at e; cases e
      | some tv => rw [hg] at e; cases e; exact (hm v tv hg).2.2

theorem Lies.at {w0 W : World} {t : S24} {A : Option Addr} {c : Nat} (h : Lies w0 t A c) (hB : Below w0.heap.size w0 W) : Lies W t A c := ⟨Kd.C_below h.C hB, h.le, h.wf⟩

section
variable {w0 W : World} {t u : S24} {A A' : Option Addr} {c c' : Nat}

theorem rename_at (h : Lies w0 t A c) {n : Int} (hn : I64 n) (hB : Below w0.heap.size w0 W) :
    Calls Try.prog 28 #[.agg #[.int .i64 t.f0, .string t.f1, .int .i64 t.f2, .slice A t.f3.length c], .int .i64 n] W fun e w' => ∃ A' c',
      e = .returned (.tuple #[.agg #[.int .i64 (renT t n).1.f0, .string (renT t n).1.f1, .int .i64 (renT t n).1.f2, .slice A' (renT t n).1.f3.length c'], .int .i64 (renT t n).2.1, .int .i64 (renT t n).2.2]) ∧ Lies w' (renT t n).1 A' c' ∧ Below w0.heap.size w0 w' :=
  (rename_any t n W A c (h.at hB).C h.le h.wf hn).mono fun e w' ⟨v, a, r, b⟩ => by
    obtain ⟨A', c', rfl, h1, h2⟩ := Kd.R_reads r
    exact ⟨A', c', a, ⟨h2, h1, wfT_ren h.wf hn⟩, below_step hB b⟩
end

end Go.Proofs.Ytpnkaggkedepeaa


/- Lists of terms in plain words; contracts of List and Items from a world on. -/
namespace Go.Proofs.Ytpnkaggkedepeaa
set_option linter.unusedVariables false
open Go.RowKit Go.Maps Go.Proofs.YtpnkaggkedepeaaW.PrintWords Go.Proofs.YtpnkaggkedepeaaW.PrintLast Go.Proofs.YtpnkaggkedepeaaW.PrintMore Go.Proofs.Ytpnkaggkedepeaa.PTermTells Go.Extern

theorem nrm_ok {t : S24} (h : okT t = true) : okT (nrm t) = true := by
  rw [← ren_id]
  refine ok_renS id h (fun v hv => ?_)
  have hs := ((okT_iff t).1 h).1
  clear h
  have key : ∀ n : Nat, (∀ t : S24, SizeOf.sizeOf t < n → shT t = true → ∀ v ∈ occT t, 1 ≤ v) ∧ (∀ xs : List S24, SizeOf.sizeOf xs < n → shL xs = true → ∀ v ∈ occL xs, 1 ≤ v) := by
    intro n
    induction n with
    | zero => exact ⟨(fun _ h => absurd h (Nat.not_lt_zero _)), (fun _ h => absurd h (Nat.not_lt_zero _))⟩
    | succ n ih =>
      constructor
      · intro t hn hs v hv
        obtain ⟨kd, nm, nt, xs⟩ := t
        rw [shT] at hs
        rw [occT] at hv
        by_cases h1 : kd = 1
        · rw [if_pos h1] at hs hv
          rw [List.mem_singleton] at hv
          have := of_decide_eq_true hs
          omega
        rw [if_neg h1] at hs hv
        by_cases h4 : kd = 4
        · subst h4
          rw [if_pos rfl] at hv
          rw [if_neg (by decide), if_pos rfl] at hs
          simp only [Bool.and_eq_true] at hs
          simp only [S24.mk.sizeOf_spec] at hn
          exact ih.2 xs (by omega) hs.1.2 v hv
        · rw [if_neg h4] at hv; cases hv
      · intro xs hn hs v hv
        match xs with
        | [] => rw [occL_nil] at hv; cases hv
        | a :: r =>
          rw [occL_cons] at hv
          rw [shL_cons, Bool.and_eq_true] at hs
          simp only [List.cons.sizeOf_spec] at hn
          rcases List.mem_append.1 hv with h | h
          · exact ih.1 a (by omega) hs.1 v h
          · exact ih.2 r (by omega) hs.2 v h
  exact (key _).1 t (Nat.lt_succ_self _) hs v hv
theorem nrm_nrm (t : S24) : nrm (nrm t) = nrm t := by rw [← ren_id, ← ren_id, renS_renS]; rfl
theorem nrm_same {t : S24} (h : okT t = true) : ordT (nrm t) t = 0 := ord_nrm t ((okT_iff t).1 h).1
theorem nrm_same' {t : S24} (h : okT t = true) : ordT t (nrm t) = 0 := by have := nrm_same h; have := ordT_anti t (nrm t); omega
theorem nrm_nodes (t : S24) : nodes (nrm t) = nodes t ∧ dpt (nrm t) = dpt t := by rw [← ren_id]; exact nodes_renS id t
theorem cp_ok {t : S24} (h : okT t = true) : (cpT t 1 0).1 = nrm t ∧ (cpT t 1 0).2.1 = true := by
  have hs := cpT_spec t 1 0
  have h1 := (okT_iff t).1 h
  have : (cpT t 1 0).2.1 = true := by
    rw [hs.ok, (nrm_nodes t).1, (nrm_nodes t).2]
    exact ⟨by omega, by omega⟩
  exact ⟨(hs.val this).1, this⟩
theorem nodesL_mem {a : S24} : ∀ {xs : List S24}, a ∈ xs → nodes a ≤ nodesL xs ∧ dpt a ≤ dptL xs
  | b :: r, h => by
    rw [nodesL_cons, dptL_cons]
    rcases List.mem_cons.1 h with rfl | h
    · exact ⟨by omega, by omega⟩
    · have := nodesL_mem h; exact ⟨by omega, by omega⟩
theorem shL_mem {a : S24} : ∀ {xs : List S24}, shL xs = true → a ∈ xs → shT a = true
  | b :: r, hs, h => by
    rw [shL_cons, Bool.and_eq_true] at hs
    rcases List.mem_cons.1 h with rfl | h
    · exact hs.1
    · exact shL_mem hs.2 h
theorem ok_arg {t a : S24} (h : okT t = true) (h4 : t.f0 = 4) (ha : a ∈ t.f3) : okT a = true := by
  rw [okT_iff] at h ⊢
  obtain ⟨kd, nm, nt, xs⟩ := t
  simp only at h4 ha
  subst h4
  rw [shT, nodes, dpt] at h
  simp only [if_true] at h
  have h0 := h.1
  rw [if_neg (by decide), if_neg (by decide)] at h0
  simp only [Bool.and_eq_true] at h0
  have := nodesL_mem ha
  exact ⟨shL_mem h0.1.2 ha, by omega, by omega⟩

theorem itemsT_ok {t : S24} (h : okT t = true) : itemsT t = itemsL (nrm t) := by unfold itemsT; rw [if_pos h, (cp_ok h).1]
theorem items_ok : ∀ t : S24, okT t = true → (∀ y ∈ (itemsL t).1, okT y = true) ∧ okT (itemsL t).2 = true
  | ⟨kd, nm, nt, xs⟩, h => by
    by_cases hk : kd = 4 ∧ nm.toList = [46] ∧ xs.length = 2
    · obtain ⟨rfl, hd, hl⟩ := hk
      match xs, hl with
      | [a, b], _ =>
        rw [itemsL_cons hd]
        have h1 := ok_arg (a := a) h rfl (by simp)
        have h2 := ok_arg (a := b) h rfl (by simp)
        have h3 := items_ok b h2
        exact ⟨fun y hy => (List.mem_cons.1 hy).elim (fun e => by rw [e]; exact h1) (h3.1 y), h3.2⟩
    · rw [itemsL_end (t := ⟨kd, nm, nt, xs⟩) hk]
      exact ⟨(fun y hy => by simp at hy), h⟩
theorem items_wf : ∀ t : S24, wfT t → (∀ y ∈ (itemsL t).1, wfT y) ∧ wfT (itemsL t).2
  | ⟨kd, nm, nt, xs⟩, h => by
    by_cases hk : kd = 4 ∧ nm.toList = [46] ∧ xs.length = 2
    · obtain ⟨rfl, hd, hl⟩ := hk
      match xs, hl with
      | [a, b], _ =>
        rw [itemsL_cons hd]
        have h1 := wfT_mem (a := a) h (by simp)
        have h2 := wfT_mem (a := b) h (by simp)
        have h3 := items_wf b h2
        exact ⟨fun y hy => (List.mem_cons.1 hy).elim (fun e => by rw [e]; exact h1) (h3.1 y), h3.2⟩
    · rw [itemsL_end (t := ⟨kd, nm, nt, xs⟩) hk]
      exact ⟨(fun y hy => by simp at hy), h⟩
theorem wf_cp {t : S24} (h : wfT t) (deep s : Int) : wfT (cpT t deep s).1 := by
  have hs := cpT_spec t deep s
  by_cases hk : (cpT t deep s).2.1 = true
  · rw [(hs.val hk).1]; exact wfT_nrm h
  · rw [hs.no (by simpa using hk)]; exact wfT_z24
theorem wf_items {t : S24} (h : wfT t) : (∀ y ∈ (itemsT t).1, wfT y) ∧ wfT (itemsT t).2 := by
  unfold itemsT
  split
  · exact items_wf _ (wf_cp h 1 0)
  · exact ⟨(fun y hy => by cases hy), wfT_z24⟩
theorem wf_listA {ts : List S24} {tail : S24} (hs : ∀ t ∈ ts, wfT t) (h : wfT tail) : wfT (listA ts tail).1 := by
  unfold listA
  split
  · exact wfT_z24
  · split
    · exact wfT_z24
    · exact wf_cp (wfT_list ts tail hs h) 1 0

section
variable {w0 W : World} {t u : S24} {A A' : Option Addr} {c c' : Nat}
theorem list_at (ts : List S24) {cap : Nat} (hC : Kd.C k24 w0 A ts.length ts) (hwf : ∀ t ∈ ts, wfT t) (k : Lies w0 u A' c') (hB : Below w0.heap.size w0 W) :
    Calls Try.prog 29 #[.slice A ts.length cap, .agg #[.int .i64 u.f0, .string u.f1, .int .i64 u.f2, .slice A' u.f3.length c']] W fun e w' => ∃ A1 c1,
      e = .returned (.tuple #[.agg #[.int .i64 (listA ts u).1.f0, .string (listA ts u).1.f1, .int .i64 (listA ts u).1.f2, .slice A1 (listA ts u).1.f3.length c1], .int .i64 (listA ts u).2]) ∧ Lies w' (listA ts u).1 A1 c1 ∧ Below w0.heap.size w0 w' :=
  (list_any ts u W A cap (Kd.C_below hC hB) hwf A' c' (k.at hB)).mono fun e w' ⟨v, a, r, b⟩ => by
    obtain ⟨A1, c1, rfl, h1, h2⟩ := Kd.R_reads r
    exact ⟨A1, c1, a, ⟨h2, h1, wf_listA hwf k.wf⟩, below_step hB b⟩
theorem items_at (h : Lies w0 t A c) (hB : Below w0.heap.size w0 W) :
    Calls Try.prog 30 #[.agg #[.int .i64 t.f0, .string t.f1, .int .i64 t.f2, .slice A t.f3.length c]] W fun e w' => ∃ A1 c1 A2 c2,
      e = .returned (.tuple #[.slice A1 (itemsT t).1.length c1, .agg #[.int .i64 (itemsT t).2.f0, .string (itemsT t).2.f1, .int .i64 (itemsT t).2.f2, .slice A2 (itemsT t).2.f3.length c2]]) ∧
      (itemsT t).1.length ≤ c1 ∧ Kd.C k24 w' A1 (itemsT t).1.length (itemsT t).1 ∧ Lies w' (itemsT t).2 A2 c2 ∧ Below w0.heap.size w0 w' :=
  (items_any t W A c (h.at hB).C h.le h.wf).mono fun e w' ⟨v, u, a, r1, r2, b⟩ => by
    obtain ⟨A1, c1, rfl, h1, h2⟩ := Kd.R_reads r1
    obtain ⟨A2, c2, rfl, h3, h4⟩ := Kd.R_reads r2
    exact ⟨A1, c1, A2, c2, a, h1, h2, ⟨h4, h3, (wf_items h.wf).2⟩, below_step hB b⟩
end
end Go.Proofs.Ytpnkaggkedepeaa


/- Two renamings of a term apart from each other are made the same: Solve in plain words. -/
namespace Go.Proofs.Ytpnkaggkedepeaa
set_option linter.unusedVariables false
open Go.RowKit Go.Maps Go.Proofs.YtpnkaggkedepeaaW.PrintWords Go.Proofs.YtpnkaggkedepeaaW.PrintLast Go.Proofs.YtpnkaggkedepeaaW.PrintMore Go.Proofs.Ytpnkaggkedepeaa.PTermTells Go.Extern

/-- A map that binds the variables D in one renaming to their names in another. -/
structure SR (g h : Int → Int) (D : List Int) (S : Sm) : Prop where
  sorted : msorted S
  here : ∀ v ∈ D, mget S (g v) = some (mkV (h v))
  only : ∀ p ∈ S, ∃ v ∈ D, p = (g v, mkV (h v))

theorem SR.nil (g h : Int → Int) : SR g h [] [] := ⟨List.Pairwise.nil, (fun v hv => by cases hv), fun p hp => by cases hp⟩
section
variable {g h : Int → Int} {V D : List Int} {S : Sm}
theorem SR.none_h (s : SR g h D S) (hD : ∀ v ∈ D, v ∈ V) (hlt : ∀ u ∈ V, ∀ v ∈ V, h u < g v) {v : Int} (hv : v ∈ V) : mget S (h v) = none :=
  mget_of_not fun p hp => by
    obtain ⟨u, hu, rfl⟩ := s.only p hp
    have := hlt v hv u (hD u hu)
    simp only; omega
theorem walk_var {S : Sm} {W : Nat} {x l : Int} (hx : mget S x = none) : walkS S (W + 1) (mkV x) l = some (mkV x, x) := by
  rw [walkS]; unfold mkV; rw [if_pos rfl]; simp only; rw [hx]
theorem SR.put (s : SR g h D S) (hD : ∀ v ∈ D, v ∈ V) (hinj : ∀ u ∈ V, ∀ v ∈ V, g u = g v → u = v) {v : Int} (hv : v ∈ V) : SR g h (v :: D) (mput (g v) (mkV (h v)) S) := by
  refine ⟨msorted_mput s.sorted, fun u hu => ?_, fun p hp => ?_⟩
  · by_cases e : g u = g v
    · rw [e, mget_mput_same s.sorted]
      rcases List.mem_cons.1 hu with rfl | hu
      · rfl
      · rw [hinj u (hD u hu) v hv e]
    · rw [mget_mput_other e]
      rcases List.mem_cons.1 hu with rfl | hu
      · exact absurd rfl e
      · exact s.here u hu
  · rcases mem_mput.1 hp with rfl | ⟨hp, _⟩
    · exact ⟨v, by simp, rfl⟩
    · obtain ⟨u, hu, e⟩ := s.only p hp
      exact ⟨u, by simp [hu], e⟩

theorem SR.loops (s : SR g h D S) (hD : ∀ v ∈ D, v ∈ V) (hlt : ∀ u ∈ V, ∀ v ∈ V, h u < g v) :
    ∀ (ord : List Int) (m : Seen), (∀ x ∈ ord, x ∈ S.map (·.1)) → (∀ x, seenV m x = 0 ∨ seenV m x = 2) → msorted m → m.length + 2 * ord.length < 90000 → ∃ m', anyP (loopsP S 2) (ord.map varT) m = some (false, m')
  | [], m, _, _, _, _ => ⟨m, rfl⟩
  | x :: r, m, ho, hm, hms, hl => by
    simp only [List.length_cons] at hl
    rw [List.map_cons, anyP_cons]
    obtain ⟨p, hp, e⟩ := List.mem_map.1 (ho x (by simp))
    obtain ⟨v, hv, rfl⟩ := s.only p hp
    simp only at e
    subst e
    have hg := s.here v hv
    have hh := s.none_h hD hlt (hD v hv)
    have e : ∃ m2, loopsP S 2 (varT (g v)) m = some (false, m2) ∧ (∀ x, seenV m2 x = 0 ∨ seenV m2 x = 2) ∧ msorted m2 ∧ m2.length ≤ m.length + 2 := by
      rw [loopsP]
      unfold varT
      rw [if_neg (by simp)]
      simp only
      rw [hg]
      simp only
      rcases hm (g v) with h0 | h2
      · rw [if_neg (by rw [h0]; simp), if_neg (by rw [h0]; decide), if_neg (by omega)]
        have l1 := length_mput_le (g v) (1 : Int) m
        have l2 := length_mput_le (g v) (2 : Int) (mput (g v) 1 m)
        rw [loopsP]
        unfold mkV
        rw [if_neg (by simp)]
        simp only
        rw [hh]
        simp only [Bool.false_eq_true, if_false]
        rw [if_neg (by omega)]
        refine ⟨_, rfl, fun x => ?_, msorted_mput (msorted_mput hms), by omega⟩
        unfold seenV
        by_cases ex : x = g v
        · rw [ex, mget_mput_same (msorted_mput hms)]; exact .inr rfl
        · rw [mget_mput_other ex, mget_mput_other ex]; exact hm x
      · rw [if_pos (.inr h2)]
        exact ⟨m, rfl, hm, hms, by omega⟩
    obtain ⟨m2, e1, e2, e3, e4⟩ := e
    rw [e1]
    simp only [Bool.false_eq_true, if_false]
    exact s.loops hD hlt r m2 (fun y hy => ho y (by simp [hy])) e2 e3 (by omega)

theorem SR.binds {S' : Sm} (hh : ∀ p ∈ S, ∃ y, p.2 = mkV y ∧ mget S' y = none) (W F : Nat) : ∀ acc : List S50, ∃ bs, bindsS S' (W + 1) (F + 1) S acc = some (some bs) ∧ bs.length = acc.length + S.length := by
  induction S with
  | nil => exact fun acc => ⟨acc, rfl, rfl⟩
  | cons p r ih =>
    intro acc
    obtain ⟨y, e, hy⟩ := hh p (by simp)
    rw [bindsS, e, fullS, walk_var (l := 0) hy]
    simp only
    have : genTo (fullS S' (W + 1) F) (mkV y) 1 0 = some (bareT (mkV y), true, 1) := by
      unfold genTo; rw [if_neg (by decide), if_pos (by unfold mkV; simp)]; rfl
    rw [this]
    simp only [if_true]
    obtain ⟨bs, e2, e3⟩ := ih (fun q hq => hh q (by simp [hq])) (acc ++ [⟨p.1, bareT (mkV y)⟩])
    exact ⟨bs, e2, by rw [e3]; simp; omega⟩

end
end Go.Proofs.Ytpnkaggkedepeaa


/- Terms without variables are made the same just if they are the same; the document's HasLong and SameLongs. -/
namespace Go.Proofs.Ytpnkaggkedepeaa
set_option linter.unusedVariables false
open Go.RowKit Go.Maps Go.Proofs.YtpnkaggkedepeaaW.PrintWords Go.Proofs.YtpnkaggkedepeaaW.PrintLast Go.Proofs.YtpnkaggkedepeaaW.PrintMore Go.Proofs.Ytpnkaggkedepeaa.PTermTells Go.Extern

theorem rd_nat {l : List Int} {i : Nat} (h : i < l.length) : rd l (i : Int) = l[i] := by
  unfold rd; simp [List.getD_eq_getElem?_getD, List.getElem?_eq_getElem h]
theorem has_l0 (l : List Int) (a : Int) (hl : l.length < 1000000) : ∀ (d k i : Nat), i + d = l.length → d < k → pythiaref01_HasLong.l0 k l a (i : Int) = some (decide (a ∈ l.drop i)) := by
  intro d
  induction d with
  | zero =>
    intro k i hi hk
    obtain ⟨k, rfl⟩ : ∃ m, k = m + 1 := ⟨k - 1, by omega⟩
    rw [pythiaref01_HasLong.l0, if_neg (by omega), List.drop_of_length_le (by omega)]
    simp
  | succ d ih =>
    intro k i hi hk
    obtain ⟨k, rfl⟩ : ∃ m, k = m + 1 := ⟨k - 1, by omega⟩
    have hlt : i < l.length := by omega
    rw [pythiaref01_HasLong.l0, if_pos (by omega), if_pos (by omega), rd_nat hlt, List.drop_eq_getElem_cons hlt]
    by_cases h : l[i] = a
    · rw [if_pos h]
      congr 1
      symm
      rw [decide_eq_true_iff, List.mem_cons]
      exact .inl h.symm
    · rw [if_neg h, show wrap64 ((i : Int) + 1) = ((i + 1 : Nat) : Int) by unfold wrap64; omega, ih k (i + 1) (by omega) (by omega)]
      congr 1
      rw [decide_eq_decide, List.mem_cons]
      exact ⟨.inr, fun e => e.resolve_left (fun e2 => h e2.symm)⟩
theorem has_pure (l : List Int) (a : Int) (hl : l.length < 1000000) : pythiaref01_HasLong.f (l.length + 1) l a = some (decide (a ∈ l)) := by
  have := has_l0 l a hl l.length (l.length + 1) 0 (by omega) (by omega)
  simpa [pythiaref01_HasLong.f] using this
end Go.Proofs.Ytpnkaggkedepeaa


/- Apply from a world on; rows of bindings that were collected; HasLong from a world on. -/
namespace Go.Proofs.Ytpnkaggkedepeaa
set_option linter.unusedVariables false
open Go.RowKit Go.Maps Go.Proofs.YtpnkaggkedepeaaW.PrintWords Go.Proofs.YtpnkaggkedepeaaW.PrintLast Go.Proofs.YtpnkaggkedepeaaW.PrintMore Go.Proofs.Ytpnkaggkedepeaa.PTermTells Go.Extern

theorem drawn_below {w w' : World} (h : Drawn0 w w') : Below w.heap.size w w' := by
  obtain ⟨n, rfl⟩ := h
  exact below_drewN (Below.refl _ _) n
theorem apL_wf (mine : List Int) : ∀ (bs : List S50) (L L' : List (Int × S24)), (∀ b ∈ bs, wfT b.f1) → (∀ p ∈ L, wfT p.2) → apL mine bs L = some L' → ∀ p ∈ L', wfT p.2
  | [], L, L', _, hL, h => by rw [apL] at h; cases h; exact hL
  | b :: r, L, L', hb, hL, h => by
    rw [apL] at h
    have hr : ∀ x ∈ r, wfT x.f1 := fun x hx => hb x (by simp [hx])
    split at h
    · exact apL_wf mine r L L' hr hL h
    · split at h
      · cases h
      · refine apL_wf mine r _ L' hr (fun p hp => ?_) h
        rcases mem_mput.1 hp with rfl | ⟨h1, _⟩
        · exact hb b (by simp)
        · exact hL p h1
theorem wf_apply {t : S24} {bs : List S50} (ht : wfT t) (hb : ∀ b ∈ bs, wfT b.f1) : wfT (applyT t bs).1 := by
  unfold applyT
  split
  · exact wfT_z24
  · cases h : apL (varsT t []) bs [] with
    | none => exact wfT_z24
    | some L =>
      have hw := apL_wf _ bs [] L hb (fun p hp => by cases hp) h
      simp only
      split
      · exact wfT_put (fun v x e => hw (v, x) (mget_mem e)) ht 1 0
      · exact wfT_z24

section
variable {w0 W : World} {t u : S24} {A A' B : Option Addr} {c c' : Nat}
theorem apply_at (h : Lies w0 t A c) (bs : List S50) {cb : Nat} (hC : Kd.C k50 W B bs.length bs) (hw : ∀ b ∈ bs, I64 b.f0 ∧ wfT b.f1) (hB : Below w0.heap.size w0 W) :
    Calls Try.prog 33 #[.agg #[.int .i64 t.f0, .string t.f1, .int .i64 t.f2, .slice A t.f3.length c], .slice B bs.length cb] W fun e w' => ∃ A1 c1,
      e = .returned (.tuple #[.agg #[.int .i64 (applyT t bs).1.f0, .string (applyT t bs).1.f1, .int .i64 (applyT t bs).1.f2, .slice A1 (applyT t bs).1.f3.length c1], .int .i64 (applyT t bs).2]) ∧ Lies w' (applyT t bs).1 A1 c1 ∧ Below w0.heap.size w0 w' :=
  (apply_any t bs W A B c cb (h.at hB).C h.le h.wf hC hw).mono fun e w' ⟨v, a, r, b⟩ => by
    obtain ⟨A1, c1, rfl, h1, h2⟩ := Kd.R_reads r
    exact ⟨A1, c1, a, ⟨h2, h1, wf_apply h.wf (fun b hb => (hw b hb).2)⟩, below_step hB b⟩
end

end Go.Proofs.Ytpnkaggkedepeaa


/- Sizes, depths and variables of a compound term out of its parts'; one variable put in. -/
namespace Go.Proofs.Ytpnkaggkedepeaa
set_option linter.unusedVariables false
open Go.RowKit Go.Maps Go.Proofs.YtpnkaggkedepeaaW.PrintWords Go.Proofs.YtpnkaggkedepeaaW.PrintLast Go.Proofs.YtpnkaggkedepeaaW.PrintMore Go.Proofs.Ytpnkaggkedepeaa.PTermTells Go.Extern

mutual
theorem sh_sub (f : Int → Option S24) (hf : ∀ v x, f v = some x → shT x = true) : ∀ t : S24, shT t = true → shT (subT f t) = true
  | ⟨kd, nm, nt, xs⟩, h => by
    rw [subT]
    rw [shT] at h
    by_cases h1 : kd = 1
    · rw [if_pos h1]; rw [if_pos h1] at h
      cases e : f nt with
      | some x => exact hf nt x e
      | none => simp only; rw [shT, if_pos rfl]; exact h
    rw [if_neg h1]; rw [if_neg h1] at h
    by_cases h4 : kd = 4
    · subst h4
      rw [if_pos rfl]
      rw [if_neg (by decide), if_pos rfl] at h
      simp only [Bool.and_eq_true] at h
      have hl : (subL f xs).length = xs.length := by rw [subL_map, List.length_map]
      rw [shT, if_neg (by decide), if_neg (by decide), if_pos rfl, shL_sub f hf xs h.1.2, hl, h.1.1, h.2]; rfl
    · rw [if_neg h4, bare_kind]
      by_cases h2 : kd = 2
      · rw [if_pos (.inr h2)]; subst h2; rw [shT]; rfl
      · rw [if_neg (by omega), shT, if_neg h1, if_neg h2, if_neg h4]
        rw [if_neg h2, if_neg h4] at h; exact h
theorem shL_sub (f : Int → Option S24) (hf : ∀ v x, f v = some x → shT x = true) : ∀ xs : List S24, shL xs = true → shL (subL f xs) = true
  | [], _ => by rw [subL_nil, shL]
  | a :: r, h => by
    rw [shL_cons, Bool.and_eq_true] at h
    rw [subL_cons, shL_cons, sh_sub f hf a h.1, shL_sub f hf r h.2]; rfl
end
end Go.Proofs.Ytpnkaggkedepeaa


/- What the laws ask of the example; Solve from a world on. -/
namespace Go.Proofs.Ytpnkaggkedepeaa
set_option linter.unusedVariables false
open Go.RowKit Go.Maps Go.Proofs.YtpnkaggkedepeaaW.PrintWords Go.Proofs.YtpnkaggkedepeaaW.PrintLast Go.Proofs.YtpnkaggkedepeaaW.PrintMore Go.Proofs.Ytpnkaggkedepeaa.PTermTells Go.Extern

/-- What the example of the layer is asked for. -/
def Alive : Prop := ∀ w : World, Calls Try.prog 13 #[] w fun e w' => e = .returned (.bool true) ∧ Below w.heap.size w w'

end Go.Proofs.Ytpnkaggkedepeaa


/- Terms that came in, as they lie in memory. -/
namespace Go.Proofs.Ytpnkaggkedepeaa
set_option linter.unusedVariables false
open Go.RowKit Go.Maps Go.Deep Go.ChangeShapes Go.WideShapes Go.Proofs.YtpnkaggkedepeaaW.PrintWords Go.Proofs.YtpnkaggkedepeaaW.PrintLast Go.Proofs.YtpnkaggkedepeaaW.PrintMore Go.Proofs.Ytpnkaggkedepeaa.PTermTells

theorem cells24' : Try.prog.cellsOf 24 = 4 := by kernel_rfl
theorem cells50' : Try.prog.cellsOf 50 = 5 := by kernel_rfl
theorem cells2' : Try.prog.cellsOf 2 = 1 := by kernel_rfl
theorem cells3' : Try.prog.cellsOf 3 = 1 := by kernel_rfl
theorem cells9' : Try.prog.cellsOf 9 = 1 := by kernel_rfl
theorem cells22' : Try.prog.cellsOf 22 = 1 := by kernel_rfl

theorem wfL_of : ∀ ts : List S24, (∀ t ∈ ts, wfT t) → wfL ts
  | [], _ => by rw [wfL]; trivial
  | a :: r, h => by rw [wfL_cons]; exact ⟨h a (by simp), wfL_of r (fun t ht => h t (by simp [ht]))⟩

section
variable {H : Type} {enc : TypeId × Value → H} {W : World} {sp : Nat → Bool}

set_option maxRecDepth 100000 in
theorem row_open {fuel : Nat} {cs : List Value} {x : DataW H × List MemPlace} (h : DataW.trod enc Try.prog W 0 sp true fuel 22 cs = some x)
    (ih : ∀ n, n < fuel → ∀ cs x, DataW.trod enc Try.prog W 0 sp true n 24 cs = some x → ∃ (t : S24) (A : Option Addr) (c : Nat), cs = [.int .i64 t.f0, .string t.f1, .int .i64 t.f2, .slice A t.f3.length c] ∧ Lies W t A c) :
    ∃ (ts : List S24) (A : Option Addr) (c : Nat), cs = [.slice A ts.length c] ∧ ts.length ≤ c ∧ Kd.C k24 W A ts.length ts ∧ ∀ t ∈ ts, wfT t := by
  rcases DataW.trod_slice Try.underlying22 h with ⟨rfl, _⟩ | ⟨a, len, cap, elems, rest, n, rfl, rfl, _, _, hl, hm, hlen, hel, _, _⟩
  · exact ⟨[], none, 0, rfl, Nat.le_refl _, Kd.C_nil _ _, fun t ht => by cases ht⟩
  · unfold maxLen at hm
    have hone : ∀ i, i < len → ∃ o : S24 × Option Addr × Nat, Lies W o.1 o.2.1 o.2.2 ∧ ∀ j u, [Value.int .i64 o.1.f0, .string o.1.f1, .int .i64 o.1.f2, .slice o.2.1 o.1.f3.length o.2.2][j]? = some u → W.cell? (a.add (i * 4 + j)) = some u := by
      intro i hi
      have he := hel i hi
      rw [cells24', List.getElem?_eq_getElem (by omega)] at he
      cases hc : W.cells? 0 (a.add (i * 4)) 4 with
      | none => rw [hc] at he; cases he
      | some cs' =>
        rw [hc] at he
        obtain ⟨t, A, c, rfl, hL⟩ := ih n (Nat.lt_succ_self _) cs' _ he
        obtain ⟨_, hlen', hcell⟩ := World.cells?_some hc
        refine ⟨(t, A, c), hL, fun j u hj => ?_⟩
        have hjl : j < 4 := by
          have := (List.getElem?_eq_some_iff.1 hj).1
          simpa using this
        have := hcell j (by omega)
        rw [Go.Deep.add_add] at this
        rw [this]
        exact hj
    have hinh : Inhabited (S24 × Option Addr × Nat) := ⟨zeroTv⟩
    obtain ⟨f, hf⟩ := choose_lt hone
    refine ⟨(List.range len).map fun i => (f i).1, some a, cap, by simp, by simpa using hl, ⟨by simp, by simp; omega, fun _ => ⟨a, rfl, fun j p hj => ?_⟩⟩, fun t ht => ?_⟩
    · have hj' : j < len := by
        have := (List.getElem?_eq_some_iff.1 hj).1
        simpa using this
      have hp : (f j).1 = p := by simpa [hj'] using hj
      obtain ⟨hL, hc⟩ := hf j hj'
      rw [hp] at hL hc
      exact ⟨_, rfl, k24_mk W p hL.le hL.C, fun i u hu => hc i u hu⟩
    · obtain ⟨i, hi, rfl⟩ := List.mem_map.1 ht
      exact (hf i (List.mem_range.1 hi)).1.wf

set_option maxRecDepth 100000 in
theorem term_cells : ∀ (fuel : Nat) (cs : List Value) (x : DataW H × List MemPlace), DataW.trod enc Try.prog W 0 sp true fuel 24 cs = some x →
    ∃ (t : S24) (A : Option Addr) (c : Nat), cs = [.int .i64 t.f0, .string t.f1, .int .i64 t.f2, .slice A t.f3.length c] ∧ Lies W t A c := by
  intro fuel
  induction fuel using Nat.strongRecOn with
  | _ fuel ih =>
  intro cs x h
  obtain ⟨xs, n, rfl, _, hl, hlen, hf⟩ := DataW.trod_struct Try.underlying24 h
  rw [cells24'] at hl
  match cs, hl, xs, hlen with
  | [u0, u1, u2, u3], _, [y0, y1, y2, y3], _ =>
    have t0 : DataW.trod enc Try.prog W 0 sp true n 3 [u0] = some y0 := by simpa [cells3'] using hf 0 _ rfl
    have t1 : DataW.trod enc Try.prog W 0 sp true n 9 [u1] = some y1 := by simpa [cells9'] using hf 1 _ rfl
    have t2 : DataW.trod enc Try.prog W 0 sp true n 2 [u2] = some y2 := by simpa [cells2'] using hf 2 _ rfl
    have t3 : DataW.trod enc Try.prog W 0 sp true n 22 [u3] = some y3 := by simpa [cells22'] using hf 3 _ rfl
    obtain ⟨v0, e0, _, w0⟩ := DataW.trod_int Try.underlying3 t0
    obtain ⟨v1, e1, _, w1⟩ := DataW.trod_string Try.underlying9 t1
    obtain ⟨v2, e2, _, w2⟩ := DataW.trod_int Try.underlying2 t2
    simp only [List.cons.injEq, and_true] at e0 e1 e2
    subst e0 e1 e2
    obtain ⟨ts, A, c, e3, hc, hC, hw⟩ := row_open t3 (fun m hm => ih m (by omega))
    simp only [List.cons.injEq, and_true] at e3
    subst e3
    refine ⟨⟨v0, v1, v2, ts⟩, A, c, rfl, hC, hc, ?_⟩
    rw [wfT]
    exact ⟨bounds_i64 w2, wfL_of _ hw⟩

set_option maxRecDepth 100000 in
theorem open_term {r : Reach} {b0 : Nat} {v : Value} {d : DataW H} {p : List MemPlace} (hv : Value.okWide Try.prog W r b0 24 v) (h : DataW.Trod enc Try.prog W 0 sp true 24 v d p) :
    ∃ (t : S24) (A : Option Addr) (c : Nat), v = .agg #[.int .i64 t.f0, .string t.f1, .int .i64 t.f2, .slice A t.f3.length c] ∧ Lies W t A c := by
  obtain ⟨cs, rfl, hsz⟩ := okWide_struct Try.underlying24 hv
  obtain ⟨fuel, hf⟩ := h
  obtain ⟨t, A, c, e, hL⟩ := term_cells _ _ _ hf
  refine ⟨t, A, c, ?_, hL⟩
  have : cs.toList = [.int .i64 t.f0, .string t.f1, .int .i64 t.f2, .slice A t.f3.length c] := by simpa [Value.cells] using e
  cases cs
  simp only at this
  rw [this]

set_option maxRecDepth 100000 in
theorem open_terms {a : Option Addr} {len cap : Nat} {d : DataW H} {p : List MemPlace} (h : DataW.Trod enc Try.prog W 0 sp true 22 (.slice a len cap) d p) :
    ∃ ts : List S24, len = ts.length ∧ ts.length ≤ cap ∧ Kd.C k24 W a ts.length ts ∧ ∀ t ∈ ts, wfT t := by
  obtain ⟨fuel, hf⟩ := h
  obtain ⟨ts, A, c, e, h1, h2, h3⟩ := row_open hf (fun n _ => term_cells n)
  simp [Value.cells] at e
  obtain ⟨rfl, rfl, rfl⟩ := e
  exact ⟨ts, rfl, h1, h2, h3⟩

theorem bytes50 : Try.prog.bytesOf 50 = 64 := by kernel_rfl
set_option maxRecDepth 100000 in
theorem open_binds {a : Option Addr} {len cap : Nat} {d : DataW H} {p : List MemPlace} {tys : List TypeId} {ds : List (DataW H)} {j : Nat} (h : DataW.Trod enc Try.prog W 0 sp true 44 (.slice a len cap) d p)
    (hsz : (DataW.weightsEach Try.prog tys ds).all (· ≤ reachBytes) = true) (ht : tys[j]? = some 44) (hd : ds[j]? = some d) :
    ∃ bs : List S50, len = bs.length ∧ bs.length ≤ cap ∧ Kd.C k50 W a bs.length bs ∧ (∀ b ∈ bs, I64 b.f0 ∧ wfT b.f1) ∧ bs.length * 64 ≤ 140737488351232 := by
  obtain ⟨fuel, hf⟩ := h
  rcases DataW.trod_slice Try.underlying44 hf with ⟨e, _⟩ | ⟨a', len', cap', elems, rest, n, rfl, e, hx, _, hl, hm, hlen, hel, _, _⟩
  · simp [Value.cells] at e
    obtain ⟨rfl, rfl, rfl⟩ := e
    exact ⟨[], rfl, Nat.le_refl _, ⟨rfl, by decide, fun h => absurd h (Nat.lt_irrefl _)⟩, (fun b hb => by cases hb), by simp⟩
  · simp [Value.cells] at e
    obtain ⟨rfl, rfl, rfl⟩ := e
    obtain ⟨hx, _⟩ := Prod.mk.inj hx
    subst hx
    have z := sized_slice hsz ht hd Try.underlying44
    rw [bytes50, List.length_map, List.length_map] at z
    unfold maxLen at hm
    have hone : ∀ i, i < len → ∃ o : S50 × Option Addr × Nat, (I64 o.1.f0 ∧ Lies W o.1.f1 o.2.1 o.2.2) ∧ ∀ j u, [Value.int .i64 o.1.f0, .int .i64 o.1.f1.f0, .string o.1.f1.f1, .int .i64 o.1.f1.f2, .slice o.2.1 o.1.f1.f3.length o.2.2][j]? = some u → W.cell? (a'.add (i * 5 + j)) = some u := by
      intro i hi
      have he := hel i hi
      rw [cells50', List.getElem?_eq_getElem (by omega)] at he
      cases hc : W.cells? 0 (a'.add (i * 5)) 5 with
      | none => rw [hc] at he; cases he
      | some cs' =>
        rw [hc] at he
        obtain ⟨xs, n', rfl, _, hl', hlen', hf'⟩ := DataW.trod_struct Try.underlying50 he
        rw [cells50'] at hl'
        obtain ⟨_, hlen2, hcell⟩ := World.cells?_some hc
        match cs', hl', xs, hlen' with
        | [u0, u1, u2, u3, u4], _, [y0, y1], _ =>
          have t0 : DataW.trod enc Try.prog W 0 sp true n' 2 [u0] = some y0 := by simpa [cells2'] using hf' 0 _ rfl
          have t1 : DataW.trod enc Try.prog W 0 sp true n' 24 [u1, u2, u3, u4] = some y1 := by simpa [cells24'] using hf' 1 _ rfl
          obtain ⟨v0, e0, _, w0⟩ := DataW.trod_int Try.underlying2 t0
          simp only [List.cons.injEq, and_true] at e0
          subst e0
          obtain ⟨t, A, c, e1, hL⟩ := term_cells _ _ _ t1
          simp only [List.cons.injEq, and_true] at e1
          obtain ⟨rfl, rfl, rfl, rfl⟩ := e1
          refine ⟨(⟨v0, t⟩, A, c), ⟨bounds_i64 w0, hL⟩, fun j u hj => ?_⟩
          have hjl : j < 5 := by
            have := (List.getElem?_eq_some_iff.1 hj).1
            simpa using this
          have := hcell j (by omega)
          rw [Go.Deep.add_add] at this
          rw [this]
          exact hj
    have hinh : Inhabited (S50 × Option Addr × Nat) := ⟨(z50, none, 0)⟩
    obtain ⟨f, hf⟩ := choose_lt hone
    refine ⟨(List.range len).map fun i => (f i).1, by simp, by simpa using hl, ⟨by simp, by simp; omega, fun _ => ⟨a', rfl, fun j p hj => ?_⟩⟩, fun b hb => ?_, ?_⟩
    · have hj' : j < len := by
        have := (List.getElem?_eq_some_iff.1 hj).1
        simpa using this
      have hp : (f j).1 = p := by simpa [hj'] using hj
      obtain ⟨hL, hc⟩ := hf j hj'
      rw [hp] at hL hc
      exact ⟨_, rfl, k50_mk W p hL.2.le hL.2.C, fun i u hu => hc i u hu⟩
    · obtain ⟨i, hi, rfl⟩ := List.mem_map.1 hb
      exact ⟨(hf i (List.mem_range.1 hi)).1.1, (hf i (List.mem_range.1 hi)).1.2.wf⟩
    · rw [List.length_map, List.length_range, ← hlen]
      exact Nat.le_trans (Nat.mul_le_mul_right _ (by omega)) z
end
end Go.Proofs.Ytpnkaggkedepeaa
