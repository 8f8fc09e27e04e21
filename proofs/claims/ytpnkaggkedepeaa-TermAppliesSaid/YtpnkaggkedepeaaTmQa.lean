/- The document's Size, Depth, Right and Order in plain words. -/
import Derived.Test.YtpnkaggkedepeaaTmGp
import Derived.Test.YtpnkaggkedepeaaPTermTellsr20
namespace Go.Proofs.Ytpnkaggkedepeaa
set_option linter.unusedVariables false
open Go.RowKit Go.Maps Go.Proofs.YtpnkaggkedepeaaW.PrintWords Go.Proofs.YtpnkaggkedepeaaW.PrintLast Go.Proofs.YtpnkaggkedepeaaW.PrintMore Go.Proofs.Ytpnkaggkedepeaa.PTermTells Go.Extern

theorem rd24_nat {l : List S24} {i : Nat} (h : i < l.length) : rd_T24 l (i : Int) = l[i] := by
  unfold rd_T24; simp [List.getD_eq_getElem?_getD, List.getElem?_eq_getElem h]
theorem sz_arg {kd : Int} {nm : ByteArray} {nt : Int} {xs : List S24} {m i : Nat} (h : i < xs.length) (hm : SizeOf.sizeOf (⟨kd, nm, nt, xs⟩ : S24) < m + 1) : SizeOf.sizeOf xs[i] < m := by
  have := sz_mem (t := ⟨kd, nm, nt, xs⟩) (List.getElem_mem h)
  omega
theorem nodesL_drop {xs : List S24} {i : Nat} (h : i < xs.length) : nodesL (xs.drop i) = nodes xs[i] + nodesL (xs.drop (i + 1)) := by rw [List.drop_eq_getElem_cons h, nodesL_cons]
theorem dptL_drop {xs : List S24} {i : Nat} (h : i < xs.length) : dptL (xs.drop i) = max (dpt xs[i]) (dptL (xs.drop (i + 1))) := by rw [List.drop_eq_getElem_cons h, dptL_cons]
theorem shL_drop {xs : List S24} {i : Nat} (h : i < xs.length) : shL (xs.drop i) = (shT xs[i] && shL (xs.drop (i + 1))) := by rw [List.drop_eq_getElem_cons h, shL_cons]

/-- Size gives up right behind the bound. -/
theorem size_pure : ∀ (m : Nat) (t : S24), SizeOf.sizeOf t < m → ∀ (k : Nat) (most : Int), 0 ≤ most → most ≤ 1000000 → 2 * nodes t ≤ k → pythiaref07_Size.f k t.f0 t.f1 t.f2 t.f3 most = some (min (nodes t : Int) (most + 1))
  | 0, _, h, _, _, _, _, _ => absurd h (Nat.not_lt_zero _)
  | m + 1, ⟨kd, nm, nt, xs⟩, hm, k, most, h0, h1, hk => by
    have hp := nodes_pos ⟨kd, nm, nt, xs⟩
    obtain ⟨k, rfl⟩ : ∃ q, k = q + 1 := ⟨k - 1, by omega⟩
    simp only
    rw [pythiaref07_Size.f]
    by_cases h4 : kd = 4
    · subst h4
      rw [if_pos rfl]
      have hgo : ∀ (d i : Nat) (n : Int) (k : Nat), i + d = xs.length → (i : Int) + 1 ≤ n → n ≤ most + 1 → 2 * nodesL (xs.drop i) + 1 ≤ k → pythiaref07_Size.l0 k most n (i : Int) 4 nm nt xs = some (min (n + nodesL (xs.drop i)) (most + 1)) := by
        intro d
        induction d with
        | zero =>
          intro i n k hi hn1 hn2 hk
          obtain ⟨k, rfl⟩ : ∃ q, k = q + 1 := ⟨k - 1, by omega⟩
          rw [pythiaref07_Size.l0, if_neg (by omega), List.drop_of_length_le (by omega), nodesL_nil]
          congr 1; omega
        | succ d ih =>
          intro i n k hi hn1 hn2 hk
          have hlt : i < xs.length := by omega
          obtain ⟨k, rfl⟩ : ∃ q, k = q + 1 := ⟨k - 1, by omega⟩
          rw [nodesL_drop hlt] at hk ⊢
          have hpa := nodes_pos xs[i]
          rw [pythiaref07_Size.l0, if_pos (by omega)]
          by_cases hc : n ≤ most
          · rw [if_pos hc, if_pos (by omega), rd24_nat hlt, show wrap64 (most - n) = most - n by unfold wrap64; omega,
              size_pure m xs[i] (sz_arg hlt hm) k (most - n) (by omega) (by omega) (by omega)]
            simp only [Option.bind_some]
            rw [show wrap64 ((i : Int) + 1) = ((i + 1 : Nat) : Int) by unfold wrap64; omega, show wrap64 (n + min (nodes xs[i] : Int) (most - n + 1)) = n + min (nodes xs[i] : Int) (most - n + 1) by unfold wrap64; omega,
              ih (i + 1) _ k (by omega) (by push_cast; omega) (by omega) (by omega)]
            congr 1; (try push_cast); all_goals omega
          · rw [if_neg hc]
            congr 1; (try push_cast); all_goals omega
      rw [show (0 : Int) = ((0 : Nat) : Int) from rfl, hgo xs.length 0 1 k (by omega) (by omega) (by omega) (by rw [List.drop_zero]; rw [nodes, if_pos rfl] at hk; omega)]
      rw [List.drop_zero, nodes, if_pos rfl]
      congr 1; (try push_cast); all_goals omega
    · rw [if_neg h4, nodes_no (t := ⟨kd, nm, nt, xs⟩) h4]
      congr 1; omega

/-- Depth, of a term of bounded size. -/
theorem depth_pure : ∀ (m : Nat) (t : S24), SizeOf.sizeOf t < m → ∀ (k : Nat) (left : Int), 0 ≤ left → left ≤ 1000000 → nodes t ≤ 1000000 → 3 * nodes t ≤ k → pythiaref07_Depth.f k t.f0 t.f1 t.f2 t.f3 left = some (min (dpt t) (left + 1))
  | 0, _, h, _, _, _, _, _, _ => absurd h (Nat.not_lt_zero _)
  | m + 1, ⟨kd, nm, nt, xs⟩, hm, k, left, h0, h1, hsz, hk => by
    have hp := nodes_pos ⟨kd, nm, nt, xs⟩
    have hd := dpt_pos ⟨kd, nm, nt, xs⟩
    obtain ⟨k, rfl⟩ : ∃ q, k = q + 2 := ⟨k - 2, by omega⟩
    simp only
    rw [pythiaref07_Depth.f]
    by_cases hl : left ≤ 0
    · rw [if_pos hl, pythiaref07_Depth.j0, if_pos rfl]
      congr 1; omega
    rw [if_neg hl]
    by_cases h4 : kd = 4
    · subst h4
      rw [show ((4 : Int) != 4) = false from rfl, pythiaref07_Depth.j0, if_neg (by decide)]
      have hgo : ∀ (d i : Nat) (n : Int) (k : Nat), i + d = xs.length → 0 ≤ n → n ≤ left → 3 * nodesL (xs.drop i) + 1 ≤ k → nodesL (xs.drop i) + i ≤ 1000000 → pythiaref07_Depth.l0 k left n (i : Int) 4 nm nt xs = some (max n (min (dptL (xs.drop i)) left) + 1) := by
        intro d
        induction d with
        | zero =>
          intro i n k hi hn1 hn2 hk hb
          obtain ⟨k, rfl⟩ : ∃ q, k = q + 1 := ⟨k - 1, by omega⟩
          rw [pythiaref07_Depth.l0, if_neg (by omega), List.drop_of_length_le (by omega), dptL_nil]
          congr 1; unfold wrap64; omega
        | succ d ih =>
          intro i n k hi hn1 hn2 hk hb
          have hlt : i < xs.length := by omega
          obtain ⟨k, rfl⟩ : ∃ q, k = q + 1 := ⟨k - 1, by omega⟩
          rw [nodesL_drop hlt] at hk hb
          rw [dptL_drop hlt]
          have hpa := nodes_pos xs[i]
          have hda := dpt_pos xs[i]
          have hdr := dptL_pos (xs.drop (i + 1))
          rw [pythiaref07_Depth.l0, if_pos (by omega), if_pos (by omega), rd24_nat hlt, show wrap64 (left - 1) = left - 1 by unfold wrap64; omega,
            depth_pure m xs[i] (sz_arg hlt hm) k (left - 1) (by omega) (by omega) (by omega) (by omega)]
          simp only [Option.bind_some]
          rw [show wrap64 ((i : Int) + 1) = ((i + 1 : Nat) : Int) by unfold wrap64; omega]
          by_cases hc : min (dpt xs[i]) (left - 1 + 1) > n
          · rw [if_pos hc, ih (i + 1) _ k (by omega) (by omega) (by omega) (by omega) (by omega)]
            congr 1; omega
          · rw [if_neg hc, ih (i + 1) _ k (by omega) (by omega) (by omega) (by omega) (by omega)]
            congr 1; omega
      rw [nodes, if_pos rfl] at hk hsz
      rw [show pythiaref07_Depth.l0 k left 0 0 4 nm nt xs = pythiaref07_Depth.l0 k left 0 ((0 : Nat) : Int) 4 nm nt xs from rfl, hgo xs.length 0 0 k (by omega) (by omega) (by omega) (by rw [List.drop_zero]; omega) (by rw [List.drop_zero]; omega)]
      have := dptL_pos xs
      rw [List.drop_zero, dpt, if_pos rfl]
      congr 1; omega
    · rw [show (kd != 4) = true by simpa using h4, pythiaref07_Depth.j0, if_pos rfl, dpt_no (t := ⟨kd, nm, nt, xs⟩) h4]
      congr 1; omega

theorem plain_pure : ∀ (m : Nat) (t : S24), SizeOf.sizeOf t < m → ∀ (k : Nat) (left : Int), 0 ≤ left → left ≤ 1000000 → nodes t ≤ 1000000 → 3 * nodes t ≤ k → pythiaref07_plain.f k t.f0 t.f1 t.f2 t.f3 left = some (shT t && decide (dpt t ≤ left))
  | 0, _, h, _, _, _, _, _, _ => absurd h (Nat.not_lt_zero _)
  | m + 1, ⟨kd, nm, nt, xs⟩, hm, k, left, h0, h1, hsz, hk => by
    have hp := nodes_pos ⟨kd, nm, nt, xs⟩
    have hd := dpt_pos ⟨kd, nm, nt, xs⟩
    obtain ⟨k, rfl⟩ : ∃ q, k = q + 2 := ⟨k - 2, by omega⟩
    simp only
    rw [pythiaref07_plain.f]
    by_cases hl : left ≤ 0
    · rw [if_pos hl, decide_eq_false (by omega), Bool.and_false]
    rw [if_neg hl, shT]
    by_cases k1 : kd = 1
    · rw [if_pos k1, if_pos k1, dpt_no (t := ⟨kd, nm, nt, xs⟩) (by simp only; omega), decide_eq_true (show (1 : Int) ≤ left by omega), Bool.and_true]
    rw [if_neg k1, if_neg k1]
    by_cases k2 : kd = 2
    · rw [if_pos k2, if_pos k2, dpt_no (t := ⟨kd, nm, nt, xs⟩) (by simp only; omega), decide_eq_true (show (1 : Int) ≤ left by omega), Bool.and_true]
    rw [if_neg k2, if_neg k2]
    by_cases k3 : kd = 3
    · rw [if_pos k3, if_neg (show ¬kd = 4 by omega), if_pos k3, dpt_no (t := ⟨kd, nm, nt, xs⟩) (by simp only; omega), decide_eq_true (show (1 : Int) ≤ left by omega), Bool.and_true]
    rw [if_neg k3]
    by_cases k4 : kd = 4
    rotate_left
    · rw [if_neg k4, if_neg k4, if_neg k3, Bool.false_and]
    subst k4
    rw [if_pos rfl, if_pos rfl]
    by_cases c1 : (nm.size : Int) > 64
    · rw [if_pos c1, pythiaref07_plain.j0, if_pos rfl, decide_eq_false (show ¬(nm.size : Int) ≤ 64 by omega)]
      simp
    rw [if_neg c1]
    by_cases c2 : (xs.length : Int) < 1
    · rw [if_pos c2, pythiaref07_plain.j0, if_pos rfl, decide_eq_false (show ¬(1 ≤ xs.length ∧ xs.length ≤ 8) by omega)]
      simp
    rw [if_neg c2, pythiaref07_plain.j0]
    by_cases c3 : (xs.length : Int) > 8
    · rw [decide_eq_true c3, if_pos rfl, decide_eq_false (show ¬(1 ≤ xs.length ∧ xs.length ≤ 8) by omega)]
      simp
    rw [decide_eq_false c3, if_neg (by decide)]
    have hgo : ∀ (d i : Nat) (k : Nat), i + d = xs.length → 3 * nodesL (xs.drop i) + 1 ≤ k → nodesL (xs.drop i) ≤ 1000000 → pythiaref07_plain.l0 k left (i : Int) 4 nm nt xs = some (shL (xs.drop i) && decide (dptL (xs.drop i) ≤ left - 1)) := by
      intro d
      induction d with
      | zero =>
        intro i k hi hk hb
        obtain ⟨k, rfl⟩ : ∃ q, k = q + 1 := ⟨k - 1, by omega⟩
        rw [pythiaref07_plain.l0, if_neg (by omega), List.drop_of_length_le (by omega), dptL_nil, shL_nil, decide_eq_true (by omega)]; rfl
      | succ d ih =>
        intro i k hi hk hb
        have hlt : i < xs.length := by omega
        obtain ⟨k, rfl⟩ : ∃ q, k = q + 1 := ⟨k - 1, by omega⟩
        rw [nodesL_drop hlt] at hk hb
        rw [dptL_drop hlt, shL_drop hlt]
        have hpa := nodes_pos xs[i]
        rw [pythiaref07_plain.l0, if_pos (by omega), if_pos (by omega), rd24_nat hlt, show wrap64 (left - 1) = left - 1 by unfold wrap64; omega,
          plain_pure m xs[i] (sz_arg hlt hm) k (left - 1) (by omega) (by omega) (by omega) (by omega)]
        simp only [Option.bind_some]
        rw [show wrap64 ((i : Int) + 1) = ((i + 1 : Nat) : Int) by unfold wrap64; omega]
        by_cases hc : (shT xs[i] && decide (dpt xs[i] ≤ left - 1)) = true
        · rw [if_pos hc, ih (i + 1) k (by omega) (by omega) (by omega)]
          simp only [Bool.and_eq_true, decide_eq_true_eq] at hc
          rw [hc.1, Bool.true_and]
          congr 2
          rw [decide_eq_decide]; omega
        · rw [if_neg hc]
          congr 1
          symm
          cases hs : shT xs[i] with
          | false => rfl
          | true =>
            rw [hs, Bool.true_and, decide_eq_true_eq] at hc
            rw [decide_eq_false (show ¬max (dpt xs[i]) (dptL (xs.drop (i + 1))) ≤ left - 1 by omega), Bool.and_false]
    rw [nodes, if_pos rfl] at hk hsz
    rw [show pythiaref07_plain.l0 k left 0 4 nm nt xs = pythiaref07_plain.l0 k left ((0 : Nat) : Int) 4 nm nt xs from rfl, hgo xs.length 0 k (by omega) (by rw [List.drop_zero]; omega) (by rw [List.drop_zero]; omega)]
    rw [List.drop_zero, dpt, if_pos rfl, decide_eq_true (show 1 ≤ xs.length ∧ xs.length ≤ 8 by omega), decide_eq_true (show (nm.size : Int) ≤ 64 by omega), Bool.true_and, Bool.and_true]
    congr 2
    rw [decide_eq_decide]; omega

/-- The document's right terms are the program's. -/
theorem right_pure (t : S24) : ∃ k, pythiaref07_Right.f k t.f0 t.f1 t.f2 t.f3 = some (okT t) := by
  refine ⟨3 * nodes t + 10, ?_⟩
  have hd := dpt_pos t
  unfold pythiaref07_Right.f
  rw [size_pure _ t (Nat.lt_succ_self _) _ 2000 (by decide) (by decide) (by omega)]
  simp only [Option.bind_some]
  have hok := okT_iff t
  have hno : okT t ≠ true → okT t = false := fun h => by simpa using h
  by_cases c1 : nodes t ≤ 2000
  · rw [if_pos (by omega), depth_pure _ t (Nat.lt_succ_self _) _ 101 (by decide) (by decide) (by omega) (by omega)]
    simp only [Option.bind_some]
    by_cases c2 : dpt t ≤ 100
    · rw [if_pos (by omega), plain_pure _ t (Nat.lt_succ_self _) _ 100 (by decide) (by decide) (by omega) (by omega)]
      simp only [Option.bind_some]
      congr 1
      rw [Bool.eq_iff_iff, hok, Bool.and_eq_true, decide_eq_true_eq]
      exact ⟨fun h => ⟨h.1, c1, h.2⟩, fun h => ⟨h.1, h.2.2⟩⟩
    · rw [if_neg (by omega), hno (fun h => c2 (hok.1 h).2.2)]
  · rw [if_neg (by omega), hno (fun h => c1 (hok.1 h).2.1)]

theorem bs_data (s : ByteArray) : s.toList = s.data.toList := ByteArray.toList_eq s
theorem sh_kind' {t : S24} (h : shT t = true) : t.f0 = 1 ∨ t.f0 = 2 ∨ t.f0 = 3 ∨ t.f0 = 4 := by
  obtain ⟨kd, nm, nt, xs⟩ := t
  rw [shT] at h
  simp only
  by_cases h1 : kd = 1
  · exact .inl h1
  rw [if_neg h1] at h
  by_cases h2 : kd = 2
  · exact .inr (.inl h2)
  rw [if_neg h2] at h
  by_cases h4 : kd = 4
  · exact .inr (.inr (.inr h4))
  rw [if_neg h4] at h
  by_cases h3 : kd = 3
  · exact .inr (.inr (.inl h3))
  rw [if_neg h3] at h
  cases h
theorem bytes_less : ∀ l m : List UInt8, l ≠ m → (if Op.bytesLess l m = true then (-1 : Int) else 1) = Lib.compareBytes l m
  | [], [], h => absurd rfl h
  | [], b :: m, _ => by rw [Lib.compareBytes]; simp [Op.bytesLess]
  | a :: l, [], _ => by rw [Lib.compareBytes]; simp [Op.bytesLess]
  | a :: l, b :: m, h => by
    rw [Lib.compareBytes]
    have ih := bytes_less l m
    rw [Op.bytesLess]
    by_cases h1 : a < b
    · simp [h1]
    · by_cases h2 : b < a
      · have h3 : a ≠ b := fun e => by rw [e] at h2; exact absurd h2 (UInt8.lt_irrefl b)
        simp [h1, h2, h3]
      · have h3 : a = b := by
          rw [← UInt8.toNat_inj]
          rw [UInt8.lt_iff_toNat_lt] at h1 h2
          omega
        subst h3
        have h4 : l ≠ m := fun e => h (by rw [e])
        rw [if_neg h1, if_neg h1, ← ih h4]
        simp
theorem sign_less (a b : Int) : pythiaref07_sign.f (decide (a < b)) (decide (a > b)) = some (cmpI a b) := by
  unfold pythiaref07_sign.f cmpI
  by_cases h1 : a < b
  · simp [h1]
  · by_cases h2 : a > b <;> simp [h1, h2]
theorem sign_ne {a b : Int} (h : a ≠ b) : pythiaref07_sign.f (decide (a < b)) true = some (cmpI a b) := by
  unfold pythiaref07_sign.f cmpI
  by_cases h1 : a < b
  · simp [h1]
  · simp [h1, show a > b by omega]

/-- The document's order of right terms is the program's. -/
theorem order_pure : ∀ (m : Nat) (a b : S24), SizeOf.sizeOf a < m → shT a = true → shT b = true → ∀ k : Nat, 3 * nodes a ≤ k → pythiaref07_Order.f k a.f0 a.f1 a.f2 a.f3 b.f0 b.f1 b.f2 b.f3 = some (ordT a b)
  | 0, _, _, h, _, _, _, _ => absurd h (Nat.not_lt_zero _)
  | m + 1, ⟨kd, nm, nt, xs⟩, ⟨kb, mb, tb, ys⟩, hm, ha, hb, k, hk => by
    have hp := nodes_pos ⟨kd, nm, nt, xs⟩
    obtain ⟨k, rfl⟩ : ∃ q, k = q + 2 := ⟨k - 2, by omega⟩
    have hka := sh_kind' ha
    simp only at hka ⊢
    rw [pythiaref07_Order.f, ordT_eq]
    simp only
    by_cases e : kd = kb
    rotate_left
    · rw [if_neg e, sign_ne e, if_pos (fun h => e (cmpI_zero h))]; rfl
    subst e
    rw [if_pos rfl, cmpI_refl, if_neg (show ¬((0 : Int) ≠ 0) by decide)]
    by_cases k2 : kd ≤ 2
    · rw [if_pos k2, if_pos (show kd = 1 ∨ kd = 2 by omega), sign_less]; rfl
    rw [if_neg k2, if_neg (show ¬(kd = 1 ∨ kd = 2) by omega)]
    by_cases k4 : kd = 4
    rotate_left
    · obtain rfl : kd = 3 := by omega
      rw [if_neg (show ¬((3 : Int) = 4) by decide), pythiaref07_Order.j0, if_neg (show ¬(false = true) by decide), if_pos rfl]
      by_cases en : nm.toList = mb.toList
      · rw [if_pos en, if_neg (show ¬((3 : Int) = 4) by decide)]
        have : nm = mb := by
          rw [bs_data, bs_data] at en
          exact ByteArray.ext (by cases nm; cases mb; simpa using en)
        rw [this, cmpS_refl]
      · rw [if_neg en]
        have hb := bytes_less nm.toList mb.toList en
        unfold pythiaref07_sign.f cmpS
        rw [bs_data, bs_data] at hb ⊢
        rw [← hb]
        cases Op.bytesLess nm.data.toList mb.data.toList <;> rfl
    subst k4
    rw [if_pos rfl, if_neg (show ¬((4 : Int) = 3) by decide), pythiaref07_Order.j0]
    by_cases el : xs.length = ys.length
    rotate_left
    · rw [show ((xs.length : Int) != (ys.length : Int)) = true by simpa using (show (xs.length : Int) ≠ ys.length by omega), if_pos rfl, sign_ne (by omega), if_pos (fun h => el (by have := cmpI_zero h; omega))]; rfl
    rw [show ((xs.length : Int) != (ys.length : Int)) = false by simp [el], if_neg (by decide), show cmpI (xs.length : Int) (ys.length : Int) = 0 by rw [el]; exact cmpI_refl _, if_neg (show ¬((0 : Int) ≠ 0) by decide)]
    by_cases en : nm.toList = mb.toList
    rotate_left
    · rw [if_neg en]
      have hb := bytes_less nm.toList mb.toList en
      have hz : cmpS nm mb ≠ 0 := fun h => en (by rw [cmpS_zero h])
      rw [if_pos hz]
      unfold pythiaref07_sign.f cmpS
      rw [bs_data, bs_data] at hb ⊢
      rw [← hb]
      cases Op.bytesLess nm.data.toList mb.data.toList <;> rfl
    have enm : nm = mb := by
      rw [bs_data, bs_data] at en
      exact ByteArray.ext (by cases nm; cases mb; simpa using en)
    subst enm
    rw [if_pos rfl, if_pos rfl, cmpS_refl, if_neg (show ¬((0 : Int) ≠ 0) by decide)]
    rw [shT, if_neg (by decide), if_neg (by decide), if_pos rfl] at ha hb
    simp only [Bool.and_eq_true, decide_eq_true_eq] at ha hb
    have hgo : ∀ (d i : Nat) (k : Nat), i + d = xs.length → 3 * nodesL (xs.drop i) + 1 ≤ k → pythiaref07_Order.l0 k (i : Int) 4 nm nt xs 4 nm tb ys = some (ordL (xs.drop i) (ys.drop i)) := by
      intro d
      induction d with
      | zero =>
        intro i k hi hk
        obtain ⟨k, rfl⟩ : ∃ q, k = q + 1 := ⟨k - 1, by omega⟩
        rw [pythiaref07_Order.l0, if_neg (by omega), List.drop_of_length_le (by omega), List.drop_of_length_le (by omega), ordL_ll]
      | succ d ih =>
        intro i k hi hk
        have hlt : i < xs.length := by omega
        have hlt2 : i < ys.length := by omega
        obtain ⟨k, rfl⟩ : ∃ q, k = q + 1 := ⟨k - 1, by omega⟩
        rw [nodesL_drop hlt] at hk
        have hpa := nodes_pos xs[i]
        rw [pythiaref07_Order.l0, if_pos (by omega), if_pos (by omega), if_pos (by omega), rd24_nat hlt, rd24_nat hlt2,
          order_pure m xs[i] ys[i] (sz_arg hlt hm) (shL_mem ha.1.2 (List.getElem_mem hlt)) (shL_mem hb.1.2 (List.getElem_mem hlt2)) k (by omega)]
        simp only [Option.bind_some]
        rw [show wrap64 ((i : Int) + 1) = ((i + 1 : Nat) : Int) by unfold wrap64; omega, ih (i + 1) k (by omega) (by omega), List.drop_eq_getElem_cons hlt, List.drop_eq_getElem_cons hlt2, ordL_cons]
        by_cases hc : ordT xs[i] ys[i] = 0
        · rw [if_pos hc, if_neg (by simpa using hc)]
        · rw [if_neg hc, if_pos hc]
    rw [nodes, if_pos rfl] at hk
    rw [show pythiaref07_Order.l0 k 0 4 nm nt xs 4 nm tb ys = pythiaref07_Order.l0 k ((0 : Nat) : Int) 4 nm nt xs 4 nm tb ys from rfl, hgo xs.length 0 k (by omega) (by rw [List.drop_zero]; omega)]
    rw [List.drop_zero, List.drop_zero]
end Go.Proofs.Ytpnkaggkedepeaa
