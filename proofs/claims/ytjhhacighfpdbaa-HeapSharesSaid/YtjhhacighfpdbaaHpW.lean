/- The document's small functions, out of the texts of the term package. -/
import Derived.Test.YtjhhacighfpdbaaHpKv
import Derived.Test.YtjhhacighfpdbaaPHeapSharesr4
namespace Go.Proofs.Ytjhhacighfpdbaa
set_option linter.unusedVariables false
open Go.RowKit Go.Maps Go.Proofs.YtjhhacighfpdbaaW.PrintWords Go.Proofs.YtjhhacighfpdbaaW.PrintLast Go.Proofs.YtjhhacighfpdbaaW.PrintMore Go.Proofs.Ytjhhacighfpdbaa.PHeapShares Go.Extern

/-! From TmA. -/

/-! From TmB. -/

/-! From TmC. -/

/-! From TmD. -/
/-- strings.Compare. -/
def cmpS (a b : ByteArray) : Int := Lib.compareBytes a.data.toList b.data.toList
/-- cmp.Compare of numbers. -/
def cmpI (a b : Int) : Int := if a < b then -1 else if a > b then 1 else 0

mutual
/-- The order of right terms. -/
def ordT : S28 → S28 → Int
  | ⟨kd, nm, nt, xs⟩, u =>
    if kd ≠ u.f0 then cmpI kd u.f0
    else if kd = 1 ∨ kd = 2 then cmpI nt u.f2
    else if kd = 3 then cmpS nm u.f1
    else if cmpI xs.length u.f3.length ≠ 0 then cmpI xs.length u.f3.length
    else if cmpS nm u.f1 ≠ 0 then cmpS nm u.f1
    else ordL xs u.f3
def ordL : List S28 → List S28 → Int
  | [], [] => 0
  | [], _ :: _ => -1
  | _ :: _, [] => 1
  | a :: r, b :: s => if ordT a b ≠ 0 then ordT a b else ordL r s
end
theorem ordL_cons (a b : S28) (r s : List S28) : ordL (a :: r) (b :: s) = if ordT a b ≠ 0 then ordT a b else ordL r s := by rw [ordL]


/-! From TmM. -/

/-! From TmG. -/

/-! From TmP. -/

/-! From TmPa. -/

/-! From TmPb. -/
theorem cmpI_anti (a b : Int) : cmpI a b = -cmpI b a := by unfold cmpI; (repeat' split) <;> omega
theorem cmpI_refl (a : Int) : cmpI a a = 0 := by unfold cmpI; (repeat' split) <;> omega
theorem cmpI_zero {a b : Int} (h : cmpI a b = 0) : a = b := by unfold cmpI at h; repeat' split at h <;> omega
theorem compare_cons (a b : UInt8) (l m : List UInt8) : Lib.compareBytes (a :: l) (b :: m) = if cmpI a.toNat b.toNat ≠ 0 then cmpI a.toNat b.toNat else Lib.compareBytes l m := by
  rw [Lib.compareBytes]
  unfold cmpI
  simp only [UInt8.lt_iff_toNat_lt]
  by_cases h1 : a.toNat < b.toNat
  · rw [if_pos h1, if_pos (by omega : (a.toNat : Int) < b.toNat)]; rfl
  · rw [if_neg h1, if_neg (by omega : ¬(a.toNat : Int) < b.toNat)]
    by_cases h2 : b.toNat < a.toNat
    · rw [if_pos h2, if_pos (by omega : (a.toNat : Int) > b.toNat)]; rfl
    · rw [if_neg h2, if_neg (by omega : ¬(a.toNat : Int) > b.toNat)]; rfl
theorem bytes_anti : ∀ l m : List UInt8, Lib.compareBytes l m = -Lib.compareBytes m l
  | [], [] => by simp [Lib.compareBytes]
  | [], _ :: _ => by simp [Lib.compareBytes]
  | _ :: _, [] => by simp [Lib.compareBytes]
  | a :: l, b :: m => by
    rw [compare_cons, compare_cons, cmpI_anti a.toNat b.toNat, bytes_anti l m]
    by_cases h : cmpI b.toNat a.toNat = 0
    · simp [h]
    · simp [h]
theorem bytes_zero : ∀ l m : List UInt8, Lib.compareBytes l m = 0 → l = m
  | [], [], _ => rfl
  | [], _ :: _, h => by simp [Lib.compareBytes] at h
  | _ :: _, [], h => by simp [Lib.compareBytes] at h
  | a :: l, b :: m, h => by
    rw [compare_cons] at h
    by_cases h0 : cmpI a.toNat b.toNat = 0
    · rw [if_neg (by simpa using h0)] at h
      have h1 := cmpI_zero h0
      rw [bytes_zero l m h, (UInt8.toNat_inj.1 (by omega) : a = b)]
    · rw [if_pos h0] at h; exact absurd h h0
theorem bytes_refl : ∀ l : List UInt8, Lib.compareBytes l l = 0
  | [] => by simp [Lib.compareBytes]
  | a :: l => by rw [compare_cons, cmpI_refl]; exact bytes_refl l
theorem cmpS_anti (a b : ByteArray) : cmpS a b = -cmpS b a := bytes_anti _ _
theorem cmpS_refl (a : ByteArray) : cmpS a a = 0 := bytes_refl _
theorem cmpS_zero {a b : ByteArray} (h : cmpS a b = 0) : a = b := by
  have := bytes_zero _ _ h
  cases a; cases b; simp at this; subst this; rfl

theorem ordT_eq (a b : S28) : ordT a b = if cmpI a.f0 b.f0 ≠ 0 then cmpI a.f0 b.f0 else if a.f0 = 1 ∨ a.f0 = 2 then cmpI a.f2 b.f2 else if a.f0 = 3 then cmpS a.f1 b.f1 else
    if cmpI a.f3.length b.f3.length ≠ 0 then cmpI a.f3.length b.f3.length else if cmpS a.f1 b.f1 ≠ 0 then cmpS a.f1 b.f1 else ordL a.f3 b.f3 := by
  cases a with
  | mk kd nm nt xs =>
    rw [ordT]
    simp only
    by_cases h : kd = b.f0
    · rw [h, cmpI_refl]; simp
    · rw [if_pos h, if_pos]
      intro h0; exact h (cmpI_zero h0)
theorem ordL_ll : ordL [] [] = 0 := by rw [ordL]
theorem ordL_lc (b : S28) (s : List S28) : ordL [] (b :: s) = -1 := by rw [ordL]
theorem ordL_cl (b : S28) (s : List S28) : ordL (b :: s) [] = 1 := by rw [ordL]

mutual
theorem ordT_anti : ∀ a b : S28, ordT a b = -ordT b a
  | ⟨kd, nm, nt, xs⟩, b => by
    rw [ordT_eq, ordT_eq b]
    simp only
    rw [cmpI_anti b.f0 kd, cmpI_anti nt, cmpS_anti nm, cmpI_anti xs.length, ordL_anti xs b.f3]
    by_cases h : cmpI kd b.f0 = 0
    · have e := cmpI_zero h
      rw [h, ← e]
      simp only [Int.neg_zero, ne_eq, not_true_eq_false, if_false]
      by_cases k1 : kd = 1 ∨ kd = 2
      · simp only [if_pos k1]
      · simp only [if_neg k1]
        by_cases k3 : kd = 3
        · simp only [if_pos k3]
        · simp only [if_neg k3]
          by_cases h5 : cmpI b.f3.length xs.length = 0
          · simp only [h5, Int.neg_zero, not_true_eq_false, if_false]
            by_cases h6 : cmpS b.f1 nm = 0
            · simp only [h6, Int.neg_zero, not_true_eq_false, if_false]
            · simp [h6]
          · simp [h5]
    · simp [h]
theorem ordL_anti : ∀ xs ys : List S28, ordL xs ys = -ordL ys xs
  | [], [] => by rw [ordL_ll]; rfl
  | [], _ :: _ => by rw [ordL_lc, ordL_cl]
  | _ :: _, [] => by rw [ordL_lc, ordL_cl]; rfl
  | a :: xs, b :: ys => by
    rw [ordL_cons, ordL_cons, ordT_anti a b, ordL_anti xs ys]
    by_cases h : ordT b a = 0
    · simp [h]
    · simp [h]
end
theorem ordT_refl (a : S28) : ordT a a = 0 := by have := ordT_anti a a; omega
mutual
/-- Terms of a right shape that are the same are one, but for what their kinds don't name. -/
theorem ordT_zero : ∀ a b : S28, shT a = true → ordT a b = 0 → nrm a = nrm b
  | ⟨kd, nm, nt, xs⟩, ⟨kb, mb, tb, ys⟩, hs, h => by
    rw [ordT_eq] at h
    simp only at h
    by_cases h0 : cmpI kd kb = 0
    rotate_left
    · rw [if_pos h0] at h; exact absurd h h0
    rw [if_neg (by simpa using h0)] at h
    obtain rfl := cmpI_zero h0
    unfold nrm
    rw [subT, subT]
    by_cases k1 : kd = 1
    · subst k1
      simp only [true_or, if_true] at h
      rw [cmpI_zero h]; rfl
    rw [if_neg k1, if_neg k1]
    by_cases k2 : kd = 2
    · subst k2
      simp only [or_true, if_true] at h
      rw [cmpI_zero h]; rfl
    rw [if_neg (by omega)] at h
    by_cases k3 : kd = 3
    · subst k3
      simp only [if_true] at h
      rw [cmpS_zero h]; rfl
    rw [if_neg k3] at h
    by_cases k4 : kd = 4
    · subst k4
      simp only [if_true]
      by_cases h5 : cmpI xs.length ys.length = 0
      rotate_left
      · rw [if_pos h5] at h; exact absurd h h5
      rw [if_neg (by simpa using h5)] at h
      by_cases h6 : cmpS nm mb = 0
      rotate_left
      · rw [if_pos h6] at h; exact absurd h h6
      rw [if_neg (by simpa using h6)] at h
      rw [cmpS_zero h6, ordL_zero xs ys (by
        rw [shT] at hs
        simp at hs
        exact hs.1.2) h]
    · rw [shT] at hs; simp [k1, k2, k3, k4] at hs
theorem ordL_zero : ∀ xs ys : List S28, shL xs = true → ordL xs ys = 0 → subL (fun _ => none) xs = subL (fun _ => none) ys
  | [], [], _, _ => rfl
  | [], _ :: _, _, h => by rw [ordL_lc] at h; cases h
  | _ :: _, [], _, h => by rw [ordL_cl] at h; cases h
  | a :: xs, b :: ys, hs, h => by
    rw [shL_cons, Bool.and_eq_true] at hs
    rw [ordL_cons] at h
    by_cases h0 : ordT a b = 0
    · rw [if_neg (by simpa using h0)] at h
      rw [subL_cons, subL_cons, ordL_zero xs ys hs.2 h]
      have := ordT_zero a b hs.1 h0
      unfold nrm at this
      rw [this]
    · rw [if_pos h0] at h; exact absurd h h0
end
mutual
theorem ordT_nrm : ∀ a b : S28, shT a = true → shT b = true → ordT (nrm a) (nrm b) = ordT a b
  | ⟨kd, nm, nt, xs⟩, ⟨kb, mb, tb, ys⟩, ha, hb => by
    rw [ordT_eq, ordT_eq ⟨kd, nm, nt, xs⟩]
    unfold nrm
    rw [subT, subT]
    have e : ∀ (kd : Int) (nm : ByteArray) (nt : Int) (xs : List S28), (if kd = 1 then (match (none : Option S28) with | some x => x | none => ⟨1, ⟨#[]⟩, nt, []⟩) else if kd = 4 then ⟨4, nm, 0, subL (fun _ => none) xs⟩ else bareT ⟨kd, nm, nt, xs⟩).f0 = kd := by
      intro kd nm nt xs
      by_cases k1 : kd = 1
      · simp [k1]
      · rw [if_neg k1]
        by_cases k4 : kd = 4
        · simp [k4]
        · rw [if_neg k4, bareT_kd]
    rw [e, e]
    by_cases h0 : cmpI kd kb = 0
    rotate_left
    · simp only [ne_eq, h0, not_false_eq_true, if_true]
    obtain rfl := cmpI_zero h0
    simp only [h0, ne_eq, not_true_eq_false, if_false]
    by_cases k1 : kd = 1
    · subst k1; simp
    by_cases k2 : kd = 2
    · subst k2; simp [bareT]
    by_cases k3 : kd = 3
    · subst k3; simp [bareT]
    by_cases k4 : kd = 4
    · subst k4
      simp only [k1, k2, k3, or_self, if_false, if_true]
      rw [subL_map, subL_map, List.length_map, List.length_map, ← subL_map, ← subL_map, ordL_nrm xs ys (by rw [shT] at ha; simp at ha; exact ha.1.2) (by rw [shT] at hb; simp at hb; exact hb.1.2)]
    · rw [shT] at ha; simp [k1, k2, k3, k4] at ha
theorem ordL_nrm : ∀ xs ys : List S28, shL xs = true → shL ys = true → ordL (subL (fun _ => none) xs) (subL (fun _ => none) ys) = ordL xs ys
  | [], [], _, _ => rfl
  | [], _ :: _, _, _ => by rw [subL_nil, subL_cons, ordL_lc, ordL_lc]
  | _ :: _, [], _, _ => by rw [subL_nil, subL_cons, ordL_cl, ordL_cl]
  | a :: xs, b :: ys, ha, hb => by
    rw [shL_cons, Bool.and_eq_true] at ha hb
    rw [subL_cons, subL_cons, ordL_cons, ordL_cons, ordL_nrm xs ys ha.2 hb.2]
    have := ordT_nrm a b ha.1 hb.1
    unfold nrm at this
    rw [this]
end

/-! From TmPd. -/
section
variable {w0 W : World} {t u : S28} {A A' : Option Addr} {c c' : Nat}
end

/-! From TmPe. -/
section
variable {w0 W : World} {t u : S28} {A A' : Option Addr} {c c' : Nat}
end

/-! From TmPg. -/
theorem rd_nat {l : List Int} {i : Nat} (h : i < l.length) : rd l (i : Int) = l[i] := by
  unfold rd; simp [List.getD_eq_getElem?_getD, List.getElem?_eq_getElem h]
theorem has_l0 (l : List Int) (a : Int) (hl : l.length < 1000000) : ∀ (d k i : Nat), i + d = l.length → d < k → pythiaref01_HasLong.l0 k l a (i : Int) = some (decide (a ∈ l.drop i)) := by
  intro d
  induction d with
  | zero =>
    intro k i hi hk
    obtain ⟨k, rfl⟩ : ∃ m, k = m + 1 := ⟨k - 1, by omega⟩
    rw [pythiaref01_HasLong.l0, if_neg (by omega), List.drop_of_length_le (by omega)]
    simp
  | succ d ih =>
    intro k i hi hk
    obtain ⟨k, rfl⟩ : ∃ m, k = m + 1 := ⟨k - 1, by omega⟩
    have hlt : i < l.length := by omega
    rw [pythiaref01_HasLong.l0, if_pos (by omega), if_pos (by omega), rd_nat hlt, List.drop_eq_getElem_cons hlt]
    by_cases h : l[i] = a
    · rw [if_pos h]
      congr 1
      symm
      rw [decide_eq_true_iff, List.mem_cons]
      exact .inl h.symm
    · rw [if_neg h, show wrap64 ((i : Int) + 1) = ((i + 1 : Nat) : Int) by unfold wrap64; omega, ih k (i + 1) (by omega) (by omega)]
      congr 1
      rw [decide_eq_decide, List.mem_cons]
      exact ⟨.inr, fun e => e.resolve_left (fun e2 => h e2.symm)⟩
theorem has_pure (l : List Int) (a : Int) (hl : l.length < 1000000) : pythiaref01_HasLong.f (l.length + 1) l a = some (decide (a ∈ l)) := by
  have := has_l0 l a hl l.length (l.length + 1) 0 (by omega) (by omega)
  simpa [pythiaref01_HasLong.f] using this

/-! From TmPh. -/
theorem drawn_below {w w' : World} (h : Drawn0 w w') : Below w.heap.size w w' := by
  obtain ⟨n, rfl⟩ := h
  exact below_drewN (Below.refl _ _) n
section
variable {w0 W : World} {t u : S28} {A A' B : Option Addr} {c c' : Nat}
end

/-! From TmPo. -/
theorem ownsRow_belowB {B : Nat} {e : TypeId} {k : Nat} {v : Value} {n : Nat} {xs : List Value} {w w' : World} (h : w.ownsRow B e k v n xs) (hb : Below w.heap.size w w') : w'.ownsRow B e k v n xs :=
  World.ownsRow.kept h ⟨hb.os, hb.tape, hb.output, hb.size, fun i hi _ => hb.block i hi⟩ (Classical.em _)

/-! From TmQa. -/
theorem rd28_nat {l : List S28} {i : Nat} (h : i < l.length) : rd_T28 l (i : Int) = l[i] := by
  unfold rd_T28; simp [List.getD_eq_getElem?_getD, List.getElem?_eq_getElem h]
theorem sz_arg {kd : Int} {nm : ByteArray} {nt : Int} {xs : List S28} {m i : Nat} (h : i < xs.length) (hm : SizeOf.sizeOf (⟨kd, nm, nt, xs⟩ : S28) < m + 1) : SizeOf.sizeOf xs[i] < m := by
  have := sz_mem (t := ⟨kd, nm, nt, xs⟩) (List.getElem_mem h)
  omega
theorem nodesL_drop {xs : List S28} {i : Nat} (h : i < xs.length) : nodesL (xs.drop i) = nodes xs[i] + nodesL (xs.drop (i + 1)) := by rw [List.drop_eq_getElem_cons h, nodesL_cons]
theorem dptL_drop {xs : List S28} {i : Nat} (h : i < xs.length) : dptL (xs.drop i) = max (dpt xs[i]) (dptL (xs.drop (i + 1))) := by rw [List.drop_eq_getElem_cons h, dptL_cons]
theorem shL_drop {xs : List S28} {i : Nat} (h : i < xs.length) : shL (xs.drop i) = (shT xs[i] && shL (xs.drop (i + 1))) := by rw [List.drop_eq_getElem_cons h, shL_cons]

/-- Size gives up right behind the bound. -/
theorem size_pure : ∀ (m : Nat) (t : S28), SizeOf.sizeOf t < m → ∀ (k : Nat) (most : Int), 0 ≤ most → most ≤ 1000000 → 2 * nodes t ≤ k → pythiaref07_Size.f k t.f0 t.f1 t.f2 t.f3 most = some (min (nodes t : Int) (most + 1))
  | 0, _, h, _, _, _, _, _ => absurd h (Nat.not_lt_zero _)
  | m + 1, ⟨kd, nm, nt, xs⟩, hm, k, most, h0, h1, hk => by
    have hp := nodes_pos ⟨kd, nm, nt, xs⟩
    obtain ⟨k, rfl⟩ : ∃ q, k = q + 1 := ⟨k - 1, by omega⟩
    simp only
    rw [pythiaref07_Size.f]
    by_cases h4 : kd = 4
    · subst h4
      rw [if_pos rfl]
      have hgo : ∀ (d i : Nat) (n : Int) (k : Nat), i + d = xs.length → (i : Int) + 1 ≤ n → n ≤ most + 1 → 2 * nodesL (xs.drop i) + 1 ≤ k → pythiaref07_Size.l0 k most n (i : Int) 4 nm nt xs = some (min (n + nodesL (xs.drop i)) (most + 1)) := by
        intro d
        induction d with
        | zero =>
          intro i n k hi hn1 hn2 hk
          obtain ⟨k, rfl⟩ : ∃ q, k = q + 1 := ⟨k - 1, by omega⟩
          rw [pythiaref07_Size.l0, if_neg (by omega), List.drop_of_length_le (by omega), nodesL_nil]
          congr 1; omega
        | succ d ih =>
          intro i n k hi hn1 hn2 hk
          have hlt : i < xs.length := by omega
          obtain ⟨k, rfl⟩ : ∃ q, k = q + 1 := ⟨k - 1, by omega⟩
          rw [nodesL_drop hlt] at hk ⊢
          have hpa := nodes_pos xs[i]
          rw [pythiaref07_Size.l0, if_pos (by omega)]
          by_cases hc : n ≤ most
          · rw [if_pos hc, if_pos (by omega), rd28_nat hlt, show wrap64 (most - n) = most - n by unfold wrap64; omega,
              size_pure m xs[i] (sz_arg hlt hm) k (most - n) (by omega) (by omega) (by omega)]
            simp only [Option.bind_some]
            rw [show wrap64 ((i : Int) + 1) = ((i + 1 : Nat) : Int) by unfold wrap64; omega, show wrap64 (n + min (nodes xs[i] : Int) (most - n + 1)) = n + min (nodes xs[i] : Int) (most - n + 1) by unfold wrap64; omega,
              ih (i + 1) _ k (by omega) (by push_cast; omega) (by omega) (by omega)]
            congr 1; (try push_cast); all_goals omega
          · rw [if_neg hc]
            congr 1; (try push_cast); all_goals omega
      rw [show (0 : Int) = ((0 : Nat) : Int) from rfl, hgo xs.length 0 1 k (by omega) (by omega) (by omega) (by rw [List.drop_zero]; rw [nodes, if_pos rfl] at hk; omega)]
      rw [List.drop_zero, nodes, if_pos rfl]
      congr 1; (try push_cast); all_goals omega
    · rw [if_neg h4, nodes_no (t := ⟨kd, nm, nt, xs⟩) h4]
      congr 1; omega

/-- Depth, of a term of bounded size. -/
theorem depth_pure : ∀ (m : Nat) (t : S28), SizeOf.sizeOf t < m → ∀ (k : Nat) (left : Int), 0 ≤ left → left ≤ 1000000 → nodes t ≤ 1000000 → 3 * nodes t ≤ k → pythiaref07_Depth.f k t.f0 t.f1 t.f2 t.f3 left = some (min (dpt t) (left + 1))
  | 0, _, h, _, _, _, _, _, _ => absurd h (Nat.not_lt_zero _)
  | m + 1, ⟨kd, nm, nt, xs⟩, hm, k, left, h0, h1, hsz, hk => by
    have hp := nodes_pos ⟨kd, nm, nt, xs⟩
    have hd := dpt_pos ⟨kd, nm, nt, xs⟩
    obtain ⟨k, rfl⟩ : ∃ q, k = q + 2 := ⟨k - 2, by omega⟩
    simp only
    rw [pythiaref07_Depth.f]
    by_cases hl : left ≤ 0
    · rw [if_pos hl, pythiaref07_Depth.j0, if_pos rfl]
      congr 1; omega
    rw [if_neg hl]
    by_cases h4 : kd = 4
    · subst h4
      rw [show ((4 : Int) != 4) = false from rfl, pythiaref07_Depth.j0, if_neg (by decide)]
      have hgo : ∀ (d i : Nat) (n : Int) (k : Nat), i + d = xs.length → 0 ≤ n → n ≤ left → 3 * nodesL (xs.drop i) + 1 ≤ k → nodesL (xs.drop i) + i ≤ 1000000 → pythiaref07_Depth.l0 k left n (i : Int) 4 nm nt xs = some (max n (min (dptL (xs.drop i)) left) + 1) := by
        intro d
        induction d with
        | zero =>
          intro i n k hi hn1 hn2 hk hb
          obtain ⟨k, rfl⟩ : ∃ q, k = q + 1 := ⟨k - 1, by omega⟩
          rw [pythiaref07_Depth.l0, if_neg (by omega), List.drop_of_length_le (by omega), dptL_nil]
          congr 1; unfold wrap64; omega
        | succ d ih =>
          intro i n k hi hn1 hn2 hk hb
          have hlt : i < xs.length := by omega
          obtain ⟨k, rfl⟩ : ∃ q, k = q + 1 := ⟨k - 1, by omega⟩
          rw [nodesL_drop hlt] at hk hb
          rw [dptL_drop hlt]
          have hpa := nodes_pos xs[i]
          have hda := dpt_pos xs[i]
          have hdr := dptL_pos (xs.drop (i + 1))
          rw [pythiaref07_Depth.l0, if_pos (by omega), if_pos (by omega), rd28_nat hlt, show wrap64 (left - 1) = left - 1 by unfold wrap64; omega,
            depth_pure m xs[i] (sz_arg hlt hm) k (left - 1) (by omega) (by omega) (by omega) (by omega)]
          simp only [Option.bind_some]
          rw [show wrap64 ((i : Int) + 1) = ((i + 1 : Nat) : Int) by unfold wrap64; omega]
          by_cases hc : min (dpt xs[i]) (left - 1 + 1) > n
          · rw [if_pos hc, ih (i + 1) _ k (by omega) (by omega) (by omega) (by omega) (by omega)]
            congr 1; omega
          · rw [if_neg hc, ih (i + 1) _ k (by omega) (by omega) (by omega) (by omega) (by omega)]
            congr 1; omega
      rw [nodes, if_pos rfl] at hk hsz
      rw [show pythiaref07_Depth.l0 k left 0 0 4 nm nt xs = pythiaref07_Depth.l0 k left 0 ((0 : Nat) : Int) 4 nm nt xs from rfl, hgo xs.length 0 0 k (by omega) (by omega) (by omega) (by rw [List.drop_zero]; omega) (by rw [List.drop_zero]; omega)]
      have := dptL_pos xs
      rw [List.drop_zero, dpt, if_pos rfl]
      congr 1; omega
    · rw [show (kd != 4) = true by simpa using h4, pythiaref07_Depth.j0, if_pos rfl, dpt_no (t := ⟨kd, nm, nt, xs⟩) h4]
      congr 1; omega

theorem plain_pure : ∀ (m : Nat) (t : S28), SizeOf.sizeOf t < m → ∀ (k : Nat) (left : Int), 0 ≤ left → left ≤ 1000000 → nodes t ≤ 1000000 → 3 * nodes t ≤ k → pythiaref07_plain.f k t.f0 t.f1 t.f2 t.f3 left = some (shT t && decide (dpt t ≤ left))
  | 0, _, h, _, _, _, _, _, _ => absurd h (Nat.not_lt_zero _)
  | m + 1, ⟨kd, nm, nt, xs⟩, hm, k, left, h0, h1, hsz, hk => by
    have hp := nodes_pos ⟨kd, nm, nt, xs⟩
    have hd := dpt_pos ⟨kd, nm, nt, xs⟩
    obtain ⟨k, rfl⟩ : ∃ q, k = q + 2 := ⟨k - 2, by omega⟩
    simp only
    rw [pythiaref07_plain.f]
    by_cases hl : left ≤ 0
    · rw [if_pos hl, decide_eq_false (by omega), Bool.and_false]
    rw [if_neg hl, shT]
    by_cases k1 : kd = 1
    · rw [if_pos k1, if_pos k1, dpt_no (t := ⟨kd, nm, nt, xs⟩) (by simp only; omega), decide_eq_true (show (1 : Int) ≤ left by omega), Bool.and_true]
    rw [if_neg k1, if_neg k1]
    by_cases k2 : kd = 2
    · rw [if_pos k2, if_pos k2, dpt_no (t := ⟨kd, nm, nt, xs⟩) (by simp only; omega), decide_eq_true (show (1 : Int) ≤ left by omega), Bool.and_true]
    rw [if_neg k2, if_neg k2]
    by_cases k3 : kd = 3
    · rw [if_pos k3, if_neg (show ¬kd = 4 by omega), if_pos k3, dpt_no (t := ⟨kd, nm, nt, xs⟩) (by simp only; omega), decide_eq_true (show (1 : Int) ≤ left by omega), Bool.and_true]
    rw [if_neg k3]
    by_cases k4 : kd = 4
    rotate_left
    · rw [if_neg k4, if_neg k4, if_neg k3, Bool.false_and]
    subst k4
    rw [if_pos rfl, if_pos rfl]
    by_cases c1 : (nm.size : Int) > 64
    · rw [if_pos c1, pythiaref07_plain.j0, if_pos rfl, decide_eq_false (show ¬(nm.size : Int) ≤ 64 by omega)]
      simp
    rw [if_neg c1]
    by_cases c2 : (xs.length : Int) < 1
    · rw [if_pos c2, pythiaref07_plain.j0, if_pos rfl, decide_eq_false (show ¬(1 ≤ xs.length ∧ xs.length ≤ 8) by omega)]
      simp
    rw [if_neg c2, pythiaref07_plain.j0]
    by_cases c3 : (xs.length : Int) > 8
    · rw [decide_eq_true c3, if_pos rfl, decide_eq_false (show ¬(1 ≤ xs.length ∧ xs.length ≤ 8) by omega)]
      simp
    rw [decide_eq_false c3, if_neg (by decide)]
    have hgo : ∀ (d i : Nat) (k : Nat), i + d = xs.length → 3 * nodesL (xs.drop i) + 1 ≤ k → nodesL (xs.drop i) ≤ 1000000 → pythiaref07_plain.l0 k left (i : Int) 4 nm nt xs = some (shL (xs.drop i) && decide (dptL (xs.drop i) ≤ left - 1)) := by
      intro d
      induction d with
      | zero =>
        intro i k hi hk hb
        obtain ⟨k, rfl⟩ : ∃ q, k = q + 1 := ⟨k - 1, by omega⟩
        rw [pythiaref07_plain.l0, if_neg (by omega), List.drop_of_length_le (by omega), dptL_nil, shL_nil, decide_eq_true (by omega)]; rfl
      | succ d ih =>
        intro i k hi hk hb
        have hlt : i < xs.length := by omega
        obtain ⟨k, rfl⟩ : ∃ q, k = q + 1 := ⟨k - 1, by omega⟩
        rw [nodesL_drop hlt] at hk hb
        rw [dptL_drop hlt, shL_drop hlt]
        have hpa := nodes_pos xs[i]
        rw [pythiaref07_plain.l0, if_pos (by omega), if_pos (by omega), rd28_nat hlt, show wrap64 (left - 1) = left - 1 by unfold wrap64; omega,
          plain_pure m xs[i] (sz_arg hlt hm) k (left - 1) (by omega) (by omega) (by omega) (by omega)]
        simp only [Option.bind_some]
        rw [show wrap64 ((i : Int) + 1) = ((i + 1 : Nat) : Int) by unfold wrap64; omega]
        by_cases hc : (shT xs[i] && decide (dpt xs[i] ≤ left - 1)) = true
        · rw [if_pos hc, ih (i + 1) k (by omega) (by omega) (by omega)]
          simp only [Bool.and_eq_true, decide_eq_true_eq] at hc
          rw [hc.1, Bool.true_and]
          congr 2
          rw [decide_eq_decide]; omega
        · rw [if_neg hc]
          congr 1
          symm
          cases hs : shT xs[i] with
          | false => rfl
          | true =>
            rw [hs, Bool.true_and, decide_eq_true_eq] at hc
            rw [decide_eq_false (show ¬max (dpt xs[i]) (dptL (xs.drop (i + 1))) ≤ left - 1 by omega), Bool.and_false]
    rw [nodes, if_pos rfl] at hk hsz
    rw [show pythiaref07_plain.l0 k left 0 4 nm nt xs = pythiaref07_plain.l0 k left ((0 : Nat) : Int) 4 nm nt xs from rfl, hgo xs.length 0 k (by omega) (by rw [List.drop_zero]; omega) (by rw [List.drop_zero]; omega)]
    rw [List.drop_zero, dpt, if_pos rfl, decide_eq_true (show 1 ≤ xs.length ∧ xs.length ≤ 8 by omega), decide_eq_true (show (nm.size : Int) ≤ 64 by omega), Bool.true_and, Bool.and_true]
    congr 2
    rw [decide_eq_decide]; omega

/-- The document's right terms are the program's. -/
theorem right_pure (t : S28) : ∃ k, pythiaref07_Right.f k t.f0 t.f1 t.f2 t.f3 = some (okT t) := by
  refine ⟨3 * nodes t + 10, ?_⟩
  have hd := dpt_pos t
  unfold pythiaref07_Right.f
  rw [size_pure _ t (Nat.lt_succ_self _) _ 2000 (by decide) (by decide) (by omega)]
  simp only [Option.bind_some]
  have hok := okT_iff t
  have hno : okT t ≠ true → okT t = false := fun h => by simpa using h
  by_cases c1 : nodes t ≤ 2000
  · rw [if_pos (by omega), depth_pure _ t (Nat.lt_succ_self _) _ 101 (by decide) (by decide) (by omega) (by omega)]
    simp only [Option.bind_some]
    by_cases c2 : dpt t ≤ 100
    · rw [if_pos (by omega), plain_pure _ t (Nat.lt_succ_self _) _ 100 (by decide) (by decide) (by omega) (by omega)]
      simp only [Option.bind_some]
      congr 1
      rw [Bool.eq_iff_iff, hok, Bool.and_eq_true, decide_eq_true_eq]
      exact ⟨fun h => ⟨h.1, c1, h.2⟩, fun h => ⟨h.1, h.2.2⟩⟩
    · rw [if_neg (by omega), hno (fun h => c2 (hok.1 h).2.2)]
  · rw [if_neg (by omega), hno (fun h => c1 (hok.1 h).2.1)]

theorem bs_data (s : ByteArray) : s.toList = s.data.toList := ByteArray.toList_eq s
theorem sh_kind' {t : S28} (h : shT t = true) : t.f0 = 1 ∨ t.f0 = 2 ∨ t.f0 = 3 ∨ t.f0 = 4 := by
  obtain ⟨kd, nm, nt, xs⟩ := t
  rw [shT] at h
  simp only
  by_cases h1 : kd = 1
  · exact .inl h1
  rw [if_neg h1] at h
  by_cases h2 : kd = 2
  · exact .inr (.inl h2)
  rw [if_neg h2] at h
  by_cases h4 : kd = 4
  · exact .inr (.inr (.inr h4))
  rw [if_neg h4] at h
  by_cases h3 : kd = 3
  · exact .inr (.inr (.inl h3))
  rw [if_neg h3] at h
  cases h
theorem bytes_less : ∀ l m : List UInt8, l ≠ m → (if Op.bytesLess l m = true then (-1 : Int) else 1) = Lib.compareBytes l m
  | [], [], h => absurd rfl h
  | [], b :: m, _ => by rw [Lib.compareBytes]; simp [Op.bytesLess]
  | a :: l, [], _ => by rw [Lib.compareBytes]; simp [Op.bytesLess]
  | a :: l, b :: m, h => by
    rw [Lib.compareBytes]
    have ih := bytes_less l m
    rw [Op.bytesLess]
    by_cases h1 : a < b
    · simp [h1]
    · by_cases h2 : b < a
      · have h3 : a ≠ b := fun e => by rw [e] at h2; exact absurd h2 (UInt8.lt_irrefl b)
        simp [h1, h2, h3]
      · have h3 : a = b := by
          rw [← UInt8.toNat_inj]
          rw [UInt8.lt_iff_toNat_lt] at h1 h2
          omega
        subst h3
        have h4 : l ≠ m := fun e => h (by rw [e])
        rw [if_neg h1, if_neg h1, ← ih h4]
        simp
theorem sign_less (a b : Int) : pythiaref07_sign.f (decide (a < b)) (decide (a > b)) = some (cmpI a b) := by
  unfold pythiaref07_sign.f cmpI
  by_cases h1 : a < b
  · simp [h1]
  · by_cases h2 : a > b <;> simp [h1, h2]
theorem sign_ne {a b : Int} (h : a ≠ b) : pythiaref07_sign.f (decide (a < b)) true = some (cmpI a b) := by
  unfold pythiaref07_sign.f cmpI
  by_cases h1 : a < b
  · simp [h1]
  · simp [h1, show a > b by omega]

/-- The document's order of right terms is the program's. -/
theorem order_pure : ∀ (m : Nat) (a b : S28), SizeOf.sizeOf a < m → shT a = true → shT b = true → ∀ k : Nat, 3 * nodes a ≤ k → pythiaref07_Order.f k a.f0 a.f1 a.f2 a.f3 b.f0 b.f1 b.f2 b.f3 = some (ordT a b)
  | 0, _, _, h, _, _, _, _ => absurd h (Nat.not_lt_zero _)
  | m + 1, ⟨kd, nm, nt, xs⟩, ⟨kb, mb, tb, ys⟩, hm, ha, hb, k, hk => by
    have hp := nodes_pos ⟨kd, nm, nt, xs⟩
    obtain ⟨k, rfl⟩ : ∃ q, k = q + 2 := ⟨k - 2, by omega⟩
    have hka := sh_kind' ha
    simp only at hka ⊢
    rw [pythiaref07_Order.f, ordT_eq]
    simp only
    by_cases e : kd = kb
    rotate_left
    · rw [if_neg e, sign_ne e, if_pos (fun h => e (cmpI_zero h))]; rfl
    subst e
    rw [if_pos rfl, cmpI_refl, if_neg (show ¬((0 : Int) ≠ 0) by decide)]
    by_cases k2 : kd ≤ 2
    · rw [if_pos k2, if_pos (show kd = 1 ∨ kd = 2 by omega), sign_less]; rfl
    rw [if_neg k2, if_neg (show ¬(kd = 1 ∨ kd = 2) by omega)]
    by_cases k4 : kd = 4
    rotate_left
    · obtain rfl : kd = 3 := by omega
      rw [if_neg (show ¬((3 : Int) = 4) by decide), pythiaref07_Order.j0, if_neg (show ¬(false = true) by decide), if_pos rfl]
      by_cases en : nm.toList = mb.toList
      · rw [if_pos en, if_neg (show ¬((3 : Int) = 4) by decide)]
        have : nm = mb := by
          rw [bs_data, bs_data] at en
          exact ByteArray.ext (by cases nm; cases mb; simpa using en)
        rw [this, cmpS_refl]
      · rw [if_neg en]
        have hb := bytes_less nm.toList mb.toList en
        unfold pythiaref07_sign.f cmpS
        rw [bs_data, bs_data] at hb ⊢
        rw [← hb]
        cases Op.bytesLess nm.data.toList mb.data.toList <;> rfl
    subst k4
    rw [if_pos rfl, if_neg (show ¬((4 : Int) = 3) by decide), pythiaref07_Order.j0]
    by_cases el : xs.length = ys.length
    rotate_left
    · rw [show ((xs.length : Int) != (ys.length : Int)) = true by simpa using (show (xs.length : Int) ≠ ys.length by omega), if_pos rfl, sign_ne (by omega), if_pos (fun h => el (by have := cmpI_zero h; omega))]; rfl
    rw [show ((xs.length : Int) != (ys.length : Int)) = false by simp [el], if_neg (by decide), show cmpI (xs.length : Int) (ys.length : Int) = 0 by rw [el]; exact cmpI_refl _, if_neg (show ¬((0 : Int) ≠ 0) by decide)]
    by_cases en : nm.toList = mb.toList
    rotate_left
    · rw [if_neg en]
      have hb := bytes_less nm.toList mb.toList en
      have hz : cmpS nm mb ≠ 0 := fun h => en (by rw [cmpS_zero h])
      rw [if_pos hz]
      unfold pythiaref07_sign.f cmpS
      rw [bs_data, bs_data] at hb ⊢
      rw [← hb]
      cases Op.bytesLess nm.data.toList mb.data.toList <;> rfl
    have enm : nm = mb := by
      rw [bs_data, bs_data] at en
      exact ByteArray.ext (by cases nm; cases mb; simpa using en)
    subst enm
    rw [if_pos rfl, if_pos rfl, cmpS_refl, if_neg (show ¬((0 : Int) ≠ 0) by decide)]
    rw [shT, if_neg (by decide), if_neg (by decide), if_pos rfl] at ha hb
    simp only [Bool.and_eq_true, decide_eq_true_eq] at ha hb
    have hgo : ∀ (d i : Nat) (k : Nat), i + d = xs.length → 3 * nodesL (xs.drop i) + 1 ≤ k → pythiaref07_Order.l0 k (i : Int) 4 nm nt xs 4 nm tb ys = some (ordL (xs.drop i) (ys.drop i)) := by
      intro d
      induction d with
      | zero =>
        intro i k hi hk
        obtain ⟨k, rfl⟩ : ∃ q, k = q + 1 := ⟨k - 1, by omega⟩
        rw [pythiaref07_Order.l0, if_neg (by omega), List.drop_of_length_le (by omega), List.drop_of_length_le (by omega), ordL_ll]
      | succ d ih =>
        intro i k hi hk
        have hlt : i < xs.length := by omega
        have hlt2 : i < ys.length := by omega
        obtain ⟨k, rfl⟩ : ∃ q, k = q + 1 := ⟨k - 1, by omega⟩
        rw [nodesL_drop hlt] at hk
        have hpa := nodes_pos xs[i]
        rw [pythiaref07_Order.l0, if_pos (by omega), if_pos (by omega), if_pos (by omega), rd28_nat hlt, rd28_nat hlt2,
          order_pure m xs[i] ys[i] (sz_arg hlt hm) (shL_mem ha.1.2 (List.getElem_mem hlt)) (shL_mem hb.1.2 (List.getElem_mem hlt2)) k (by omega)]
        simp only [Option.bind_some]
        rw [show wrap64 ((i : Int) + 1) = ((i + 1 : Nat) : Int) by unfold wrap64; omega, ih (i + 1) k (by omega) (by omega), List.drop_eq_getElem_cons hlt, List.drop_eq_getElem_cons hlt2, ordL_cons]
        by_cases hc : ordT xs[i] ys[i] = 0
        · rw [if_pos hc, if_neg (by simpa using hc)]
        · rw [if_neg hc, if_pos hc]
    rw [nodes, if_pos rfl] at hk
    rw [show pythiaref07_Order.l0 k 0 4 nm nt xs 4 nm tb ys = pythiaref07_Order.l0 k ((0 : Nat) : Int) 4 nm nt xs 4 nm tb ys from rfl, hgo xs.length 0 k (by omega) (by rw [List.drop_zero]; omega)]
    rw [List.drop_zero, List.drop_zero]

/-! From TmQb. -/
/-- The world has grown, and its row v alone has been written: it is v' now. -/
structure GV (w : World) (v : Value) (w' : World) (v' : Value) : Prop where
  g : w.grownBy w' v.ownBlock
  at_ : v'.ownBlock = v.ownBlock ∨ ∃ b, v'.ownBlock = some b ∧ w.heap.size ≤ b
theorem GV.refl (w : World) (v : Value) : GV w v w v := ⟨World.grownBy.refl w _, .inl rfl⟩
theorem GV.trans {w w1 w2 : World} {v v1 v2 : Value} (h : GV w v w1 v1) (k : GV w1 v1 w2 v2) : GV w v w2 v2 := by
  refine ⟨⟨k.g.os.trans h.g.os, k.g.tape.trans h.g.tape, k.g.output.trans h.g.output, Nat.le_trans h.g.size k.g.size, fun i hi hne => ?_⟩, ?_⟩
  · refine (k.g.block i (by have := h.g.size; omega) (fun e => ?_)).trans (h.g.block i hi hne)
    rcases h.at_ with e2 | ⟨b, e2, hb⟩
    · exact hne (e.trans e2)
    · rw [e2] at e; have := Option.some.inj e; omega
  · rcases k.at_ with e | ⟨b, e, hb⟩
    · rcases h.at_ with e2 | ⟨b, e2, hb⟩
      · exact .inl (e.trans e2)
      · exact .inr ⟨b, e.trans e2, hb⟩
    · exact .inr ⟨b, e, Nat.le_trans h.g.size hb⟩
theorem GV.alloc {w w' : World} {v v' : Value} (h : GV w v w' v') (o : Obj) : GV w v (w'.alloc o) v' := h.trans ⟨World.grownBy_alloc w' o _, .inl rfl⟩
theorem GV.of_below {w w' : World} (v : Value) (h : Below w.heap.size w w') : GV w v w' v := ⟨⟨h.os, h.tape, h.output, h.size, fun i hi _ => h.block i hi⟩, .inl rfl⟩
theorem GV.below {B : Nat} {w0 w w' : World} {v v' : Value} (h : GV w v w' v') (hB : Below B w0 w) (hv : ∀ q, v.ownBlock = some q → B ≤ q) (hs : B ≤ w0.heap.size) : Below B w0 w' := below_grown hB h.g hv hs
theorem GV.blk {w w' : World} {v v' : Value} {g : Nat} {o : Obj} (h : GV w v w' v') (hb : w.heap[g]? = some o) (hne : v.ownBlock ≠ some g) : w'.heap[g]? = some o := blk_grown hb h.g (fun e => hne e.symm)

set_option maxHeartbeats 4000000 in
set_option maxRecDepth 100000 in
theorem rvars_any : ∀ (n : Nat) (t : S28), SizeOf.sizeOf t = n → ∀ (w0 w : World) (c : Nat) (A : Option Addr) (v : Value) (out : List Int), Kd.C k28 w0 A t.f3.length t.f3 → t.f3.length ≤ c → Below w0.heap.size w0 w → OutAt w w0.heap.size v out → out.length + nodes t < 100000 →
    Calls Try.prog 40 #[.agg #[.int .i64 t.f0, .string t.f1, .int .i64 t.f2, .slice A t.f3.length c], v] w fun e w' => ∃ v', e = .returned v' ∧ OutAt w' w0.heap.size v' (varsT t out) ∧ GV w v w' v' := by
  intro n
  induction n using Nat.strongRecOn with
  | _ n ih =>
  intro t hn w0 w c A v out hC hc hB ho hl
  obtain ⟨kd, nm, nt, xs⟩ := t
  simp only at hC hc ⊢
  have hsz := hB.size
  have hvl : ∀ q, v.ownBlock = some q → w0.heap.size ≤ q ∧ q < w.heap.size := World.ownsRow.lt ho
  have hGa : GV w v (w.alloc (.cells #[.int .i64 kd, .string nm, .int .i64 nt, .slice A xs.length c] 28)) v := (GV.refl w v).alloc _
  have hBa := below_alloc hB (.cells #[.int .i64 kd, .string nm, .int .i64 nt, .slice A xs.length c] 28)
  have kT := blk_new w (.cells #[.int .i64 kd, .string nm, .int .i64 nt, .slice A xs.length c] 28)
  have hoa : OutAt (w.alloc (.cells #[.int .i64 kd, .string nm, .int .i64 nt, .slice A xs.length c] 28)) w0.heap.size v out := ho.alloc _
  have hnb : v.ownBlock ≠ some w.heap.size := fun e => by have := (hvl _ e).2; omega
  clear ho
  unfold varsT
  by_cases k1 : kd = 1
  · subst k1
    simp only [if_true]
    obtain ⟨A1, c1, rfl, hc1, C1⟩ := hoa.reads
    have hcall := pythiaref01_HasLong.calls _ A1 c1 out nt _ _ C1 hc1 (has_pure out nt (by omega))
    clear ih
    by_cases hm : nt ∈ out
    · rw [decide_eq_true hm] at hcall
      rw [if_pos hm]
      go_enter Try.func40, Try.ntmps40
      go_wp2_with fail
      refine hcall.mono ?_
      rintro e w1 ⟨rfl, hD⟩
      have hb1 := drawn_below hD
      have kT1 := blk_below kT hb1
      have x0 := blk_cell kT1 0
      have ho1 := ownsRow_belowB hoa hb1
      clear hD hcall
      go_wp2
      go_ret
      exact ⟨_, rfl, ho1, hGa.trans (GV.of_below _ hb1)⟩
    · rw [decide_eq_false hm] at hcall
      rw [if_neg hm]
      have hlt : out.length < 100000 := by omega
      go_enter Try.func40, Try.ntmps40
      go_wp2_with fail
      refine hcall.mono ?_
      rintro e W ⟨rfl, hD⟩
      have hb1 := drawn_below hD
      have kW := blk_below kT hb1
      have x0 := blk_cell kW 0
      have x2 := blk_cell kW 2
      have hoW := ownsRow_belowB hoa hb1
      have hBW := below_step hBa hb1
      have hGW := hGa.trans (GV.of_below _ hb1)
      have hsW := hBW.size
      clear hD hcall hoa hBa hGa kT C1 hc1 hb1
      go_wp2_with (at_builtin; refine print_append_num (w0 := w0) w0.heap.size rfl (.tmp 16) (.tmp 19) 43 2 .i64 8 rfl Try.underlying43 info2 (by decide) (.slice A1 out.length c1) out nt rfl rfl hoW hBW hsW (by omega) ?_; intro v' w6 hown6 hB6 hg6 hat6; have k6 := blk_grown kW hg6 (fun e => hnb e.symm); have z0 := blk_cell k6 0)
      go_ret
      exact ⟨_, rfl, hown6, hGW.trans ⟨hg6, hat6⟩⟩
  simp only [if_neg k1]
  have k1' : (kd == 1) = false := by simpa using k1
  by_cases k4 : kd = 4
  · subst k4
    simp only [if_true]
    have hn4 : nodes ⟨4, nm, nt, xs⟩ = 1 + nodesL xs := by rw [nodes, if_pos rfl]
    rw [hn4] at hl
    have hz : ∀ a ∈ xs, SizeOf.sizeOf a < n := fun a ha => by rw [← hn]; exact sz_mem (t := ⟨4, nm, nt, xs⟩) ha
    clear hn hn4
    have hmx := hC.2.1
    go_enter Try.func40, Try.ntmps40
    go_upto_region 5 with (fail)
    generalize w.alloc (.cells #[.int .i64 4, .string nm, .int .i64 nt, .slice A xs.length c] 28) = w1 at hGa hBa kT hoa ⊢
    go_loopw [1, 5] (fun u i wr => ∃ (k : Nat) (o : List Int), k ≤ xs.length ∧ i = .int .i64 k ∧ varsL xs out = varsL (xs.drop k) o ∧ OutAt wr w0.heap.size u o ∧ o.length + nodesL (xs.drop k) < 100000 ∧ GV w1 v wr u)
      (fun _ i _ => xs.length - (intOf i).toNat)
    case atStart => exact ⟨0, out, Nat.zero_le _, rfl, rfl, hoa, by rw [List.drop_zero]; omega, GV.refl _ _⟩
    case round =>
      obtain ⟨k, o, hk, rfl, hv, how, hnl, hg⟩ := hrel
      have hbr := hg.below hBa (fun q hq => (hvl q hq).1) (Nat.le_refl _)
      have kR := hg.blk kT hnb
      have x3 := blk_cell kR 3
      clear kR
      by_cases hlt : k < xs.length
      · obtain ⟨ad, A3, c3, rfl, y0, y1, y2, y3, l3, g3⟩ := C_rd hC k hlt rfl
        replace y0 := (hbr.cell (World.block_lt_of_cell? w0 _ y0)).trans y0
        replace y1 := (hbr.cell (World.block_lt_of_cell? w0 _ y1)).trans y1
        replace y2 := (hbr.cell (World.block_lt_of_cell? w0 _ y2)).trans y2
        replace y3 := (hbr.cell (World.block_lt_of_cell? w0 _ y3)).trans y3
        rw [List.drop_eq_getElem_cons hlt, varsL_cons] at hv
        rw [List.drop_eq_getElem_cons hlt, nodesL_cons] at hnl
        have hza := hz _ (List.getElem_mem hlt)
        generalize xs[k] = a at y0 y1 y2 y3 l3 g3 hv hnl hza
        have hcall := ih _ hza a rfl w0 wr c3 A3 _ o g3 l3 hbr how (by omega)
        have hvl2 := varsT_len a o
        clear ih
        go_wp2_with fail
        refine hcall.mono ?_
        rintro e w5 ⟨v5, rfl, ho5, hg5⟩
        clear hcall
        go_wp2
        go_roundw
        case rel => exact ⟨k + 1, _, by omega, by go_num, hv, ho5, by omega, hg.trans hg5⟩
        case measure => simp [intOf]; omega
      · obtain rfl : k = xs.length := by omega
        rw [List.drop_of_length_le (Nat.le_refl _), varsL_nil] at hv
        go_wp2
        go_ret
        exact ⟨u1, rfl, by rw [hv]; exact how, hGa.trans hg⟩
  · simp only [if_neg k4]
    have k4' : (kd == 4) = false := by simpa using k4
    clear ih
    go_enter Try.func40, Try.ntmps40
    go_wp2
    go_ret
    exact ⟨_, rfl, hoa, hGa⟩

set_option maxHeartbeats 4000000 in
set_option maxRecDepth 100000 in
theorem rVars_at {w0 W : World} {t : S28} {A : Option Addr} {c : Nat} (h : Lies w0 t A c) (hB : Below w0.heap.size w0 W) (hn : nodes t < 90000) :
    Calls Try.prog 18 #[.agg #[.int .i64 t.f0, .string t.f1, .int .i64 t.f2, .slice A t.f3.length c]] W fun e w' => ∃ A' c', e = .returned (.slice A' (varsT t []).length c') ∧ (varsT t []).length ≤ c' ∧ OutAt w' W.heap.size (.slice A' (varsT t []).length c') (varsT t []) ∧ Below W.heap.size W w' := by
  have hB2 := below_alloc (below_alloc (Below.refl W.heap.size W) (.cells #[.int .i64 t.f0, .string t.f1, .int .i64 t.f2, .slice A t.f3.length c] 28)) (.cells #[] 2)
  have hO : OutAt ((W.alloc (.cells #[.int .i64 t.f0, .string t.f1, .int .i64 t.f2, .slice A t.f3.length c] 28)).alloc (.cells #[] 2)) W.heap.size (.slice (some ⟨W.heap.size + 1, 0, none⟩) 0 0) [] := by
    have := World.ownsRow_made (base := W.heap.size) (e := 2) (size := 1) (W.alloc (.cells #[.int .i64 t.f0, .string t.f1, .int .i64 t.f2, .slice A t.f3.length c] 28)) #[] 0 (by simp) (by decide) (by simp)
    rw [World.size_alloc] at this
    exact this
  have hcall := rvars_any _ t rfl W _ c A _ [] (h.at hB).C h.le hB2 hO (by simp; omega)
  go_enter Try.func18, Try.ntmps18
  go_wp2_with fail
  refine hcall.mono ?_
  rintro e w1 ⟨v, rfl, ho, hg⟩
  have hb := hg.below hB2 (fun q hq => by simp [Value.ownBlock] at hq; omega) (Nat.le_refl _)
  obtain ⟨A', c', rfl, h1, h2⟩ := ho.reads
  go_wp2
  go_ret
  exact ⟨A', c', rfl, h1, ho, hb⟩

/-! From TmQe. -/
section
variable {w0 W : World} {t u : S28} {A A' : Option Addr} {c c' : Nat}
theorem rright_at (h : Lies w0 t A c) (hB : Below w0.heap.size w0 W) :
    Calls Try.prog 26 #[.agg #[.int .i64 t.f0, .string t.f1, .int .i64 t.f2, .slice A t.f3.length c]] W fun e w' => e = .returned (.bool (okT t)) ∧ Below w0.heap.size w0 w' := by
  obtain ⟨k, hk⟩ := right_pure t
  exact (pythiaref07_Right.calls k _ _ _ A c _ _ W (h.at hB).C h.le hk).mono fun e w' ⟨a, b⟩ => ⟨a, below_step hB b⟩
theorem rsize_at (h : Lies w0 t A c) (hB : Below w0.heap.size w0 W) {most : Int} (h0 : 0 ≤ most) (h1 : most ≤ 1000000) :
    Calls Try.prog 25 #[.agg #[.int .i64 t.f0, .string t.f1, .int .i64 t.f2, .slice A t.f3.length c], .int .i64 most] W fun e w' => e = .returned (.int .i64 (min (nodes t : Int) (most + 1))) ∧ Below w0.heap.size w0 w' :=
  (pythiaref07_Size.calls (2 * nodes t) _ _ _ A c _ _ _ W (h.at hB).C h.le (size_pure _ t (Nat.lt_succ_self _) _ most h0 h1 (Nat.le_refl _))).mono fun e w' ⟨a, b⟩ => ⟨a, below_step hB b⟩
theorem rdepth_at (h : Lies w0 t A c) (hB : Below w0.heap.size w0 W) {left : Int} (h0 : 0 ≤ left) (h1 : left ≤ 1000000) (hn : nodes t ≤ 1000000) :
    Calls Try.prog 27 #[.agg #[.int .i64 t.f0, .string t.f1, .int .i64 t.f2, .slice A t.f3.length c], .int .i64 left] W fun e w' => e = .returned (.int .i64 (min (dpt t) (left + 1))) ∧ Below w0.heap.size w0 w' :=
  (pythiaref07_Depth.calls (3 * nodes t) _ _ _ A c _ _ _ W (h.at hB).C h.le (depth_pure _ t (Nat.lt_succ_self _) _ left h0 h1 hn (Nat.le_refl _))).mono fun e w' ⟨a, b⟩ => ⟨a, below_step hB b⟩
theorem rsame_at (h : Lies w0 t A c) (k : Lies w0 u A' c') (hB : Below w0.heap.size w0 W) (ht : shT t = true) (hu : shT u = true) :
    Calls Try.prog 16 #[.agg #[.int .i64 t.f0, .string t.f1, .int .i64 t.f2, .slice A t.f3.length c], .agg #[.int .i64 u.f0, .string u.f1, .int .i64 u.f2, .slice A' u.f3.length c']] W fun e w' => e = .returned (.bool (decide (ordT t u = 0))) ∧ Below w0.heap.size w0 w' :=
  (pythiaref07_Same.calls (3 * nodes t) _ _ _ A c _ _ _ _ A' c' _ _ W (h.at hB).C h.le (k.at hB).C k.le (by
    unfold pythiaref07_Same.f
    rw [order_pure _ t u (Nat.lt_succ_self _) ht hu _ (Nat.le_refl _)]
    simp only [Option.bind_some]
    congr 1)).mono fun e w' ⟨a, b⟩ => ⟨a, below_step hB b⟩
end

end Go.Proofs.Ytjhhacighfpdbaa
