/- OpsMany: what a table of two hundred operators holds. -/
import Derived.Test.YtlphglmjfklndaaDoorOpLl
import Derived.Test.YtlphglmjfklndaaDoorOpDc
namespace Go.Proofs.YtlphglmjfklndaaDoor
set_option linter.unusedVariables false
open Go.RowKit Go.Shelf Go.Maps Go.Proofs.YtlphglmjfklndaaDoorW.PrintWords Go.Proofs.YtlphglmjfklndaaDoorW.PrintLast Go.Proofs.YtlphglmjfklndaaDoorW.PrintMore Go.Proofs.YtlphglmjfklndaaDoor.POpsApart Go.Extern

def valL (l : List UInt8) : Nat := l.foldl (fun a c => a * 10 + (c.toNat - 48)) 0
theorem val_dec : ∀ i, i < 300 → valL (decL 20 i) = i := by decide +kernel
/-- The name of operator j. -/
def nmN (j : Nat) : List UInt8 := 110 :: decL 20 j
theorem nmN_len (j : Nat) : (nmN j).length ≤ 21 := by have := decL_len 20 j; simp [nmN]; omega
theorem nmN_inj {i j : Nat} (hi : i < 300) (hj : j < 300) (h : nmN i = nmN j) : i = j := by
  have := (List.cons.inj h).2
  rw [← val_dec i hi, ← val_dec j hj, this]
def opN (kind prec : Int) (j : Nat) : S27 := ⟨ba (nmN j), kind, prec⟩
def more : List UInt8 := [109, 111, 114, 101]
theorem ba_inj {a b : List UInt8} (h : ba a = ba b) : a = b := by
  have := congrArg (fun x => x.data.toList) h
  simpa [ba] using this
theorem key_ne {o q : S27} (ho : o.f0.size ≤ 1000) (hq : q.f0.size ≤ 1000000) (h : o.f0 ≠ q.f0) : keyO q ≠ keyO o := fun e => h (kc_inj (by unfold maxLen; omega) (by unfold maxLen; omega) e).1.symm

theorem L0_names : ∀ q ∈ L0, q.f0.data.toList.head? ≠ some 110 ∧ q.f0.data.toList ≠ more ∧ q.f0.data.toList ≠ [122, 122] := by
  have h : (L0.all fun q => decide (q.f0.data.toList.head? ≠ some 110 ∧ q.f0.data.toList ≠ more ∧ q.f0.data.toList ≠ [122, 122])) = true := by kernel_rfl
  intro q hq
  simpa using List.all_eq_true.1 h q hq
/-- The table behind k rounds. -/
def LM (kind prec : Int) : Nat → List S27
  | 0 => L0
  | k + 1 => opN kind prec (39 + k) :: LM kind prec k
theorem LM_len (kind prec : Int) : ∀ k, (LM kind prec k).length = 39 + k
  | 0 => L0_len
  | k + 1 => by rw [LM, List.length_cons, LM_len kind prec k]; omega
theorem LM_mem (kind prec : Int) : ∀ k q, q ∈ LM kind prec k → q ∈ L0 ∨ ∃ j, j < k ∧ q = opN kind prec (39 + j)
  | 0, q, h => .inl h
  | k + 1, q, h => by
    rcases List.mem_cons.1 h with rfl | h
    · exact .inr ⟨k, by omega, rfl⟩
    · rcases LM_mem kind prec k q h with h | ⟨j, hj, e⟩
      · exact .inl h
      · exact .inr ⟨j, by omega, e⟩
theorem mem_LM (kind prec : Int) : ∀ k j, j < k → opN kind prec (39 + j) ∈ LM kind prec k
  | 0, j, h => absurd h (Nat.not_lt_zero _)
  | k + 1, j, h => by
    by_cases e : j = k
    · subst e; exact List.mem_cons_self
    · exact List.mem_cons_of_mem _ (mem_LM kind prec k j (by omega))
/-- A name that is none of the table's. -/
theorem LM_none {kind prec : Int} {k : Nat} (hk : k ≤ 200) (hT : Tab (LM kind prec k)) {o : S27} (ho : o.f0.size ≤ 1000) (h0 : ∀ q ∈ L0, o.f0 ≠ q.f0) (hn : ∀ j, j < k → o.f0 ≠ ba (nmN (39 + j))) : getO (keyO o) (LM kind prec k) = none := by
  refine getO_none.2 fun q hq => key_ne ho (hT.nms q hq) ?_
  rcases LM_mem kind prec k q hq with h | ⟨j, hj, rfl⟩
  · exact h0 q h
  · exact hn j hj
theorem ok_of {nm : List UInt8} {kind prec : Int} (hk : 1 ≤ kind ∧ kind ≤ 7) (hp : 0 ≤ prec ∧ prec ≤ 1200) (h1 : nm.length ≤ 64) (h2 : ∃ a b r, nm = a :: b :: r ∧ a ≠ 91 ∧ a ≠ 123) : okO ⟨ba nm, kind, prec⟩ := by
  obtain ⟨a, b, r, rfl, ha, hb⟩ := h2
  have e : (ba (a :: b :: r)).toList = a :: b :: r := ByteArray.toList_mk _
  refine ⟨by show ¬ (kind < 1 ∨ 7 < kind ∨ prec < 0 ∨ 1200 < prec); omega, ?_, ?_⟩
  · show ¬ ((ba (a :: b :: r)).toList.isEmpty = true ∨ 64 < (ba (a :: b :: r)).size)
    rw [e, ba_size]
    simp at h1 ⊢
    omega
  · show badN (ba (a :: b :: r)) = false
    unfold badN
    rw [e]
    simp [ha, hb]
theorem addT_new {o : S27} {L : List S27} (hok : okO o) (hz : o.f2 ≠ 0) (hg : getO (keyO o) L = none) : addT o L = if 200 ≤ L.length then (3, L) else (0, o :: L) := by
  obtain ⟨h1, h2, h3⟩ := hok
  unfold addT
  rw [if_neg h1, if_neg h2, if_neg (by rw [h3]; decide), hg]
  simp only [if_neg hz]
  rw [rem_none hg]
theorem dec_cons (j : Nat) : ∃ c r, decL 20 j = c :: r := by
  unfold decL
  split
  · exact ⟨_, _, rfl⟩
  · cases decL 19 (j / 10) with
    | nil => exact ⟨_, _, rfl⟩
    | cons a t => exact ⟨_, _, rfl⟩
theorem opN_ok {kind prec : Int} (hk : 1 ≤ kind ∧ kind ≤ 7) (hp : 0 ≤ prec ∧ prec ≤ 1200) (j : Nat) : okO (opN kind prec j) := by
  obtain ⟨c, r, e⟩ := dec_cons j
  exact ok_of hk hp (by have := nmN_len j; omega) ⟨110, c, r, by unfold nmN; rw [e], by decide, by decide⟩
theorem more_ok {kind prec : Int} (hk : 1 ≤ kind ∧ kind ≤ 7) (hp : 0 ≤ prec ∧ prec ≤ 1200) : okO ⟨ba more, kind, prec⟩ := ok_of hk hp (by decide) ⟨109, 111, _, rfl, by decide, by decide⟩
theorem data_ba (l : List UInt8) : (ba l).data.toList = l := by simp [ba]
theorem nm_L0 (j : Nat) : ∀ q ∈ L0, ba (nmN j) ≠ q.f0 := fun q hq e => (L0_names q hq).1 (by rw [← e, data_ba]; rfl)
theorem more_L0 : ∀ q ∈ L0, ba more ≠ q.f0 := fun q hq e => (L0_names q hq).2.1 (by rw [← e, data_ba])
theorem zz_L0 : ∀ q ∈ L0, ba [122, 122] ≠ q.f0 := fun q hq e => (L0_names q hq).2.2 (by rw [← e, data_ba])
theorem more_nm (j : Nat) : ba more ≠ ba (nmN j) := fun e => by have := ba_inj e; unfold more nmN at this; cases this

/-- A round of the loop. -/
theorem add_round {kind prec : Int} (hk : 1 ≤ kind ∧ kind ≤ 7) (hp : 1 ≤ prec ∧ prec ≤ 1200) {k : Nat} (hlt : k < 161) (hT : Tab (LM kind prec k)) : addT (opN kind prec (39 + k)) (LM kind prec k) = (0, LM kind prec (k + 1)) := by
  rw [addT_new (opN_ok hk ⟨by omega, hp.2⟩ _) (by show prec ≠ 0; omega) (LM_none (by omega) hT (by show (nmN (39 + k)).length ≤ 1000; have := nmN_len (39 + k); omega) (nm_L0 _) (fun j hj e => by have := nmN_inj (by omega) (by omega) (ba_inj e); omega))]
  rw [if_neg (by rw [LM_len]; omega)]
  rfl
theorem more_none {kind prec p2 : Int} {k : Nat} (hk : k ≤ 200) (hT : Tab (LM kind prec k)) : getO (keyO ⟨ba more, kind, p2⟩) (LM kind prec k) = none :=
  LM_none hk hT (by show more.length ≤ 1000; decide) more_L0 (fun j hj => more_nm _)
theorem add_more {kind prec : Int} (hk : 1 ≤ kind ∧ kind ≤ 7) (hp : 1 ≤ prec ∧ prec ≤ 1200) (hT : Tab (LM kind prec 161)) : addT ⟨ba more, kind, prec⟩ (LM kind prec 161) = (3, LM kind prec 161) := by
  rw [addT_new (more_ok hk ⟨by omega, hp.2⟩) (by show prec ≠ 0; omega) (more_none (by omega) hT), if_pos (by rw [LM_len]; omega)]
/-- One of them anew. -/
theorem add_over {kind prec : Int} (hk : 1 ≤ kind ∧ kind ≤ 7) (hp : 1 ≤ prec ∧ prec ≤ 1200) {d : Nat} (hd : d < 161) (hT : Tab (LM kind prec 161)) :
    addT (opN kind 1 (39 + d)) (LM kind prec 161) = (0, opN kind 1 (39 + d) :: remO (keyO (opN kind 1 (39 + d))) (LM kind prec 161)) ∧ (remO (keyO (opN kind 1 (39 + d))) (LM kind prec 161)).length = 199 := by
  have hg : getO (keyO (opN kind prec (39 + d))) (LM kind prec 161) = some (opN kind prec (39 + d)) := getO_of hT (mem_LM kind prec 161 d hd)
  have ek : keyO (opN kind 1 (39 + d)) = keyO (opN kind prec (39 + d)) := rfl
  have hl := len_rem hT hg
  rw [LM_len] at hl
  refine ⟨?_, by rw [ek]; omega⟩
  obtain ⟨h1, h2, h3⟩ := opN_ok (kind := kind) (prec := 1) hk ⟨by omega, by omega⟩ (39 + d)
  unfold addT
  rw [if_neg h1, if_neg h2, if_neg (by rw [h3]; decide), ek, hg]
  simp only [opN, ne_eq, not_true_eq_false, if_false]
  exact if_neg (by decide)
theorem add_more2 {kind prec : Int} (hk : 1 ≤ kind ∧ kind ≤ 7) (hp : 1 ≤ prec ∧ prec ≤ 1200) {key : List UInt8} (hT : Tab (LM kind prec 161)) (hl : (remO key (LM kind prec 161)).length = 199) :
    addT ⟨ba more, kind, prec⟩ (remO key (LM kind prec 161)) = (0, ⟨ba more, kind, prec⟩ :: remO key (LM kind prec 161)) := by
  have hn := more_none (p2 := prec) (by omega) hT
  rw [addT_new (more_ok hk ⟨by omega, hp.2⟩) (by show prec ≠ 0; omega) (getO_none.2 fun q hq => getO_none.1 hn q (mem_remO.1 hq).1), if_neg (by rw [hl]; omega)]
/-- What cannot be an operator. -/
theorem add_zz (kind prec : Int) (h : kind < 1 ∨ 7 < kind ∨ prec < 1 ∨ 1200 < prec) : ((addT ⟨⟨#[122, 122]⟩, kind, prec⟩ L0).1 != 0) = true ∨ prec = 0 := by
  by_cases hz : prec = 0
  · exact .inr hz
  · refine .inl ?_
    unfold addT
    rw [if_pos (by show kind < 1 ∨ 7 < kind ∨ prec < 0 ∨ 1200 < prec; omega)]
    rfl

end Go.Proofs.YtlphglmjfklndaaDoor
