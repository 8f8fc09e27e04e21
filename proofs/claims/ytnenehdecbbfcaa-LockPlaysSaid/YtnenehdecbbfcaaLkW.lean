/- The document's locks as a list, and what its functions make of it, in plain words. -/
import Derived.Test.YtnenehdecbbfcaaLkR
namespace Go.Proofs.Ytnenehdecbbfcaa
set_option linter.unusedVariables false
open Go.RowKit Go.Maps Go.Proofs.YtnenehdecbbfcaaW.PrintWords Go.Proofs.YtnenehdecbbfcaaW.PrintLast Go.Proofs.YtnenehdecbbfcaaW.PrintMore Go.Proofs.Ytnenehdecbbfcaa.PLockAlone

/-- A place of the document's list. -/
def cellOf : Option (Int × Int) → S35
  | some p => ⟨true, p.1, p.2⟩
  | none => ⟨false, 0, 0⟩
/-- The document's list. -/
def Mof (made : Int) (L : Mx) : List S35 := (List.range made.toNat).map fun (i : Nat) => cellOf (mget L ((i : Int) + 1))

theorem Mof_len (made : Int) (L : Mx) : (Mof made L).length = made.toNat := by simp [Mof]
theorem Mof_get (made : Int) (L : Mx) (i : Nat) (h : i < (Mof made L).length) : (Mof made L)[i] = cellOf (mget L ((i : Int) + 1)) := by simp [Mof]
theorem Mof_rd (made : Int) (L : Mx) (i : Int) (h0 : 0 ≤ i) (h1 : i < made) : rd_T35 (Mof made L) i = cellOf (mget L (i + 1)) := by
  have hl := Mof_len made L
  have hi : i.toNat < (Mof made L).length := by omega
  unfold rd_T35
  rw [List.getD_eq_getElem?_getD, List.getElem?_eq_getElem hi, Option.getD_some, Mof_get]
  congr 2
  omega
theorem Mof_zero (L : Mx) : Mof 0 L = [] := by simp [Mof]

theorem Mof_ext {made : Int} {L : Mx} {xs : List S35} (hl : xs.length = made.toNat) (h : ∀ i (hi : i < xs.length), xs[i] = cellOf (mget L ((i : Int) + 1))) : xs = Mof made L := by
  apply List.ext_getElem
  · rw [hl, Mof_len]
  · intro i h1 h2
    rw [h i h1, Mof_get]

/-- A place set. -/
def setFrom (j : Int) (x : S35) : Nat → List S35 → List S35
  | _, [] => []
  | i, y :: r => (if (i : Int) = j then x else y) :: setFrom j x (i + 1) r
theorem setFrom_len (j : Int) (x : S35) : ∀ (l : List S35) (i : Nat), (setFrom j x i l).length = l.length
  | [], _ => rfl
  | _ :: r, i => by simp [setFrom, setFrom_len j x r]
theorem setFrom_get (j : Int) (x : S35) : ∀ (l : List S35) (i q : Nat) (h : q < (setFrom j x i l).length) (h' : q < l.length), (setFrom j x i l)[q] = if ((i + q : Nat) : Int) = j then x else l[q]
  | [], _, q, h, _ => by simp [setFrom] at h
  | y :: r, i, 0, h, _ => by simp [setFrom]
  | y :: r, i, q + 1, h, h' => by
    have := setFrom_get j x r (i + 1) q (by simpa [setFrom] using h) (by simpa using h')
    simp only [setFrom, List.getElem_cons_succ]
    rw [this]
    congr 2
    omega

theorem set_Mof {made : Int} {L L' : Mx} {m : Int} {x : S35} (h : ∀ i : Int, 1 ≤ i → i ≤ made → cellOf (mget L' i) = if i = m then x else cellOf (mget L i)) : setFrom (m - 1) x 0 (Mof made L) = Mof made L' := by
  apply Mof_ext
  · rw [setFrom_len, Mof_len]
  · intro i hi
    have hl := hi
    rw [setFrom_len] at hl
    have hm := Mof_len made L
    rw [setFrom_get _ _ _ _ _ hi hl, Mof_get, h _ (by omega) (by omega)]
    by_cases e : (i : Int) + 1 = m
    · rw [if_pos (by omega), if_pos e]
    · rw [if_neg (by omega), if_neg e]

theorem wrap_in {x : Int} (h : -9223372036854775808 ≤ x ∧ x ≤ 9223372036854775807) : wrap64 x = x := by unfold wrap64; omega

theorem get_pure {N : Nat} {made : Int} {L : Mx} (g : Good N made L) (hN : N < 4611686018427387903) (m : Int) (hm : I64 m) :
    pythiaref15_Get.f (Mof made L) m = some (match mget L m with | some p => (true, p.1, p.2, true) | none => (false, 0, 0, false)) := by
  have hl := Mof_len made L
  have hmd := g.made
  unfold pythiaref15_Get.f
  by_cases h1 : m < 1
  · rw [if_pos h1, mget_of_not fun p hp => by have := g.key p hp; omega]
  · rw [if_neg h1]
    by_cases h2 : m > made
    · rw [if_pos (by rw [hl]; omega), mget_of_not fun p hp => by have := g.key p hp; omega]
    · have hw : wrap64 (m - 1) = m - 1 := wrap_in ⟨by omega, by omega⟩
      rw [if_neg (by rw [hl]; omega), hw, if_pos (by omega), if_pos (by rw [hl]; omega), Mof_rd _ _ _ (by omega) (by omega), show m - 1 + 1 = m by omega]
      cases mget L m with
      | none => simp [cellOf]
      | some p => simp [cellOf]

theorem put_l0 (M : List S35) (m : Int) (a : Bool) (b c : Int) (hM : M.length < 5864062014805) : ∀ (d k i : Nat) (acc : List S35), i + d = M.length → d < k → acc.length = i →
    pythiaref15_put.l0 k M m acc (i : Int) a b c = some (acc ++ setFrom (wrap64 (m - 1)) ⟨a, b, c⟩ i (M.drop i)) := by
  intro d
  induction d with
  | zero =>
    intro k i acc hi hk ha
    obtain ⟨k, rfl⟩ : ∃ q, k = q + 1 := ⟨k - 1, by omega⟩
    simp only [pythiaref15_put.l0]
    rw [if_neg (by omega), List.drop_of_length_le (by omega)]
    simp [setFrom]
  | succ d ih =>
    intro k i acc hi hk ha
    obtain ⟨k, rfl⟩ : ∃ q, k = q + 1 := ⟨k - 1, by omega⟩
    have hw : wrap64 ((i : Int) + 1) = ((i + 1 : Nat) : Int) := by unfold wrap64; omega
    have hr : rd_T35 M (i : Int) = M[i]'(by omega) := by
      unfold rd_T35
      rw [List.getD_eq_getElem?_getD, List.getElem?_eq_getElem (by simp; omega), Option.getD_some]
      simp
    simp only [pythiaref15_put.l0]
    rw [if_pos (by omega), hw, List.drop_eq_getElem_cons (show i < M.length by omega)]
    simp only [setFrom]
    by_cases he : (i : Int) = wrap64 (m - 1)
    · rw [if_pos he, if_pos (by omega), ih k (i + 1) _ (by omega) (by omega) (by simp [ha]), if_pos he]
      simp
    · rw [if_neg he, if_pos (by omega), if_pos (by omega), ih k (i + 1) _ (by omega) (by omega) (by simp [ha]), if_neg he, hr]
      simp

theorem put_pure (M : List S35) (m : Int) (a : Bool) (b c : Int) (hM : M.length < 5864062014805) (hm : I64 m) (h1 : 1 ≤ m) (k : Nat) (hk : M.length < k) : pythiaref15_put.f k M m a b c = some (setFrom (m - 1) ⟨a, b, c⟩ 0 M) := by
  have := put_l0 M m a b c hM M.length k 0 [] (by omega) hk rfl
  rw [wrap_in (x := m - 1) (by unfold I64 at hm; omega)] at this
  simpa [pythiaref15_put.f] using this

theorem cell_put {L : Mx} (hs : msorted L) {m : Int} {p : Int × Int} (i : Int) : cellOf (mget (mput m p L) i) = if i = m then ⟨true, p.1, p.2⟩ else cellOf (mget L i) := by
  by_cases e : i = m
  · subst e; rw [mget_mput_same hs, if_pos rfl]; rfl
  · rw [mget_mput_other e, if_neg e]
theorem cell_rem {L : Mx} {m : Int} (i : Int) : cellOf (mget (mrem m L) i) = if i = m then ⟨false, 0, 0⟩ else cellOf (mget L i) := by
  by_cases e : i = m
  · subst e; rw [mget_mrem_same, if_pos rfl]; rfl
  · rw [mget_mrem_other e, if_neg e]

theorem key_of {L : Mx} {m : Int} {p : Int × Int} (h : mget L m = some p) : (m, p) ∈ L := mget_mem h

theorem drop_pure {N : Nat} {made : Int} {L : Mx} (g : Good N made L) (hN : N < 5864062014805) (m : Int) (hm : I64 m) (k : Nat) (hk : N < k) :
    pythiaref15_Drop.f k (Mof made L) m = some (Mof made (dropL L m), dropE L m) := by
  have hmd := g.made
  unfold pythiaref15_Drop.f dropL dropE
  rw [get_pure g (by omega) m hm]
  cases hg : mget L m with
  | none => simp
  | some p =>
    have ho : own L m = p := by simp [own, hg]
    have hk1 := g.key _ (key_of hg)
    simp only [Option.bind_some, if_true, Option.isSome_some, ho]
    by_cases hc : p.2 > 0
    · rw [if_pos hc, if_pos hc, if_neg (by omega)]
    · rw [if_neg hc, if_neg hc, if_pos rfl, put_pure _ _ _ _ _ (by rw [Mof_len]; omega) hm (by omega) k (by rw [Mof_len]; omega), Option.bind_some, set_Mof (L' := mrem m L) (fun i _ _ => cell_rem i)]

theorem take_pure {N : Nat} {made : Int} {L : Mx} (g : Good N made L) (hN : N < 5864062014805) (m t : Int) (hm : I64 m) (k : Nat) (hk : N < k) :
    pythiaref15_Take.f k (Mof made L) m t = some (Mof made (takeL L m t), takeE L m t) := by
  have hmd := g.made
  unfold pythiaref15_Take.f takeL takeE findE
  rw [get_pure g (by omega) m hm]
  cases hg : mget L m with
  | none => simp
  | some p =>
    have ho : own L m = p := by simp [own, hg]
    have hk1 := g.key _ (key_of hg)
    have hc1 := g.cnt _ (key_of hg)
    simp only at hk1 hc1
    have hw : wrap64 (p.2 + 1) = p.2 + 1 := wrap_in ⟨by omega, by omega⟩
    have hput : pythiaref15_put.f k (Mof made L) m true t (p.2 + 1) = some (Mof made (mput m (t, p.2 + 1) L)) := by
      rw [put_pure _ _ _ _ _ (by rw [Mof_len]; omega) hm (by omega) k (by rw [Mof_len]; omega), set_Mof (L' := mput m (t, p.2 + 1) L) (fun i _ _ => cell_put g.sorted i)]
    simp only [Option.bind_some, if_true, Option.isSome_some, ho, hw, hput]
    by_cases ht : t < 1
    · simp [ht]
    · simp only [ht, if_false]
      by_cases hc : p.2 > 0
      · by_cases he : p.1 = t
        · simp [hc, he]
        · simp [hc, he]
      · simp [hc]

theorem give_pure {N : Nat} {made : Int} {L : Mx} (g : Good N made L) (hN : N < 5864062014805) (m t : Int) (hm : I64 m) (k : Nat) (hk : N + 1 < k) :
    pythiaref15_Give.f k (Mof made L) m t = some (Mof made (giveL L m t), giveE L m t) := by
  have hmd := g.made
  obtain ⟨k, rfl⟩ : ∃ q, k = q + 1 := ⟨k - 1, by omega⟩
  unfold pythiaref15_Give.f giveL giveE findE
  rw [get_pure g (by omega) m hm]
  cases hg : mget L m with
  | none => simp
  | some p =>
    have ho : own L m = p := by simp [own, hg]
    have hk1 := g.key _ (key_of hg)
    have hc1 := g.cnt _ (key_of hg)
    have hw1 := g.who _ (key_of hg)
    simp only at hk1 hc1 hw1
    have hw : wrap64 (p.2 - 1) = p.2 - 1 := wrap_in ⟨by omega, by omega⟩
    have hput : ∀ q : Int × Int, pythiaref15_put.f k (Mof made L) m true q.1 q.2 = some (Mof made (mput m q L)) := by
      intro q
      rw [put_pure _ _ _ _ _ (by rw [Mof_len]; omega) hm (by omega) k (by rw [Mof_len]; omega), set_Mof (L' := mput m q L) (fun i _ _ => cell_put g.sorted i)]
    have hp0 := hput (0, 0)
    have hp1 := hput (t, p.2 - 1)
    simp only at hp0 hp1
    simp only [Option.bind_some, if_true, Option.isSome_some, ho, pythiaref15_Give.j0, hw, hp0, hp1]
    by_cases ht : t < 1
    · simp [ht]
    · simp only [ht, if_false]
      by_cases hc : p.2 = 0
      · have he : p.1 ≠ t := by rcases hw1 with h | h <;> omega
        simp [hc, he]
      · by_cases he : p.1 = t
        · by_cases h1 : p.2 = 1
          · simp [he, h1]
          · simp [hc, he, h1]
        · simp [hc, he]

end Go.Proofs.Ytnenehdecbbfcaa
