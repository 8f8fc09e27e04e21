/- Put as the laws ask for it; what Undo brings back, in plain words. -/
import Derived.Test.YtjhhacighfpdbaaHpR
import Derived.Test.YtjhhacighfpdbaaHpT
import Derived.Test.YtjhhacighfpdbaaHpJ
namespace Go.Proofs.Ytjhhacighfpdbaa
set_option linter.unusedVariables false
open Go.RowKit Go.Maps Go.Proofs.YtjhhacighfpdbaaW.PrintWords Go.Proofs.YtjhhacighfpdbaaW.PrintLast Go.Proofs.YtjhhacighfpdbaaW.PrintMore Go.Proofs.Ytjhhacighfpdbaa.PHeapShares Go.Extern

/-- What Put does, in plain words. -/
def PutL (t : S28) (E : List Int) (w : World) (hb : Nat) (S : Nat → Prop) (H : Hp) (e : Ending) (w' : World) : Prop :=
  ∃ v S' C2 E2 σ, e = .returned (.tuple #[.int .i64 H.C.length, v, .int .i64 0]) ∧ HpAt w' hb S' { H with C := C2 } ∧ Fs S w w' ∧ (∀ k, S' k → S k ∨ w.heap.size ≤ k) ∧
    EnvRow w' v E2 ∧ (∀ k, v.ownBlock = some k → ¬ S' k ∧ w.heap.size ≤ k) ∧ Laid t H.C (env0 E (topL 0 (varsOf t))) C2 E2 σ

theorem env0_len (E : List Int) (top : Int) : (env0 E top).length = max E.length top.toNat := by unfold env0; simp; omega

theorem env0_at (E : List Int) (top v : Int) : envAt (env0 E top) v = max (envAt E v) (-1) := by
  unfold envAt env0
  generalize (v - 1).toNat = j
  rw [List.getD_eq_getElem?_getD, List.getD_eq_getElem?_getD]
  by_cases h : j < E.length
  · rw [List.getElem?_append_left (by simpa using h)]
    simp [List.getElem?_eq_getElem h]
  · rw [List.getElem?_append_right (by simp; omega), List.getElem?_eq_none (by omega : E.length ≤ j)]
    simp only [List.length_map, List.getElem?_replicate]
    split <;> simp

theorem put_gen (t : S28) (E : List Int) (T : Nat → Prop) (w : World) (hb : Nat) (S : Nat → Prop) (H : Hp) (A : Option Addr) (c : Nat) (ev : Value) (hp : HpAt w hb S H) (hI : HI H.C) (hE : EnvRow w ev E) (hvS : ∀ k, ev.ownBlock = some k → ¬ S k) (hS : ∀ k, S k → ¬ T k) (hTl : ∀ k, T k → k < w.heap.size) (hL : LF T w t A c) (hok : okT t = true)
    (hel : E.length ≤ 2000) (hv : ∀ v ∈ occT t, v ≤ 2000) (hin : ∀ v ∈ occT t, envAt E v < H.C.length) (hroom : H.C.length + nodes t ≤ H.most) :
    Calls Try.prog 9 #[.pointer (some ⟨hb, 0, none⟩), .agg #[.int .i64 t.f0, .string t.f1, .int .i64 t.f2, .slice A t.f3.length c], ev] w (PutL t E w hb S H) := by
  have hsh := ((okT_iff t).1 hok).1
  have hvo : ∀ v, v ∈ varsOf t ↔ v ∈ occT t := fun v => by unfold varsOf; rw [if_pos hok]; exact mem_varsT t v
  have htop : ∀ (l : List Int) (m : Int), (∀ v ∈ l, v ≤ 2000) → m ≤ 2000 → topL m l ≤ 2000 := by
    intro l
    induction l with
    | nil => intro m _ h; exact h
    | cons a r ih => intro m h h0; exact ih _ (fun v hv => h v (List.mem_cons_of_mem _ hv)) (by have := h a (by simp); omega)
  have hle : ∀ (l : List Int) (m : Int), m ≤ topL m l ∧ ∀ v ∈ l, v ≤ topL m l := by
    intro l
    induction l with
    | nil => intro m; exact ⟨Int.le_refl _, fun v hv => by cases hv⟩
    | cons a r ih =>
      intro m
      obtain ⟨h1, h2⟩ := ih (max m a)
      refine ⟨by show m ≤ topL (max m a) r; omega, fun v hv => ?_⟩
      rcases List.mem_cons.1 hv with rfl | hv
      · show v ≤ topL (max m v) r; omega
      · exact h2 v hv
  have hpos : ∀ v ∈ occT t, 1 ≤ v := fun v hv => occ_pos hok v hv
  have h := Put_any t E T w hb S H A c ev hp hE hvS hS hTl hL hok hel (htop _ _ (fun v hv' => hv v ((hvo v).1 hv')) (by decide)) (fun v hv' => ⟨hpos v ((hvo v).1 hv'), (hle _ _).2 v hv', hin v ((hvo v).1 hv')⟩) hroom
  refine h.mono fun e w' ⟨v, S', he, h1, h2, h3, h4, h5⟩ => ?_
  obtain ⟨σ, hσ⟩ := put_laid t H.C (env0 E (topL 0 (varsOf t))) hI hsh hL.wf (fun v hv' => ⟨hpos v hv', by
    have := (hle (varsOf t) 0).2 v ((hvo v).2 hv')
    rw [env0_len]
    omega⟩) (fun v hv' => by
    rw [env0_at]
    have := hin v hv'
    omega)
  exact ⟨v, S', _, _, σ, he, h1, h2, h3, h4, h5, hσ⟩

theorem take_ok (w : World) (hb : Nat) (S : Nat → Prop) (H : Hp) (a : Nat) (t : S28) (hp : HpAt w hb S H) (hr : Rep H.C a t) (hok : okT t = true) :
    Calls Try.prog 11 #[.pointer (some ⟨hb, 0, none⟩), .int .i64 a] w fun e w' => ∃ v,
      e = .returned (.tuple #[.agg #[.int .i64 t.f0, .string t.f1, .int .i64 t.f2, v], .int .i64 0]) ∧ Kd.R k28 28 w' w.heap.size (fun _ => True) v t.f3 ∧ Below w.heap.size w w' := by
  have h := Take_any w hb S H a t hp hr
  unfold TakenPost at h
  rw [show takT t = t from by unfold takT; rw [if_pos hok]] at h
  simp only [hok, if_true] at h
  exact h

/-! ### What Undo brings back -/
theorem backC_get {i : Nat} : ∀ (N : List Nt) (C D : List Cl), i < C.length → i < D.length → C[i]? = D[i]? → (backC C N)[i]? = (backC D N)[i]?
  | [], C, D, _, _, h => h
  | n :: r, C, D, hc, hd, h => by
    have ih := backC_get r C D hc hd h
    unfold backC at ih ⊢
    rw [List.foldr_cons, List.foldr_cons]
    have l1 := backC_len C r
    have l2 := backC_len D r
    unfold backC at l1 l2
    by_cases e : n.1 = i
    · subst e
      rw [List.getElem?_set_self (by rw [l1]; exact hc), List.getElem?_set_self (by rw [l2]; exact hd)]
    · rw [List.getElem?_set_ne e, List.getElem?_set_ne e]
      exact ih

/-- What was there at a mark, and what has been done since. -/
structure Since (C0 : List Cl) (N0 : List Nt) (C : List Cl) (N : List Nt) : Prop where
  ex : ∃ M, N = N0 ++ M ∧ (∀ i, i < C0.length → (backC C M)[i]? = C0[i]?) ∧ ∀ n ∈ M, n.1 < C.length
  len : C0.length ≤ C.length

theorem Since.refl (C : List Cl) (N : List Nt) : Since C N C N := ⟨⟨[], by simp, fun i _ => rfl, by simp⟩, Nat.le_refl _⟩
theorem Since.noted {C0 C C' : List Cl} {N0 N N' : List Nt} (h : Since C0 N0 C N) (k : Noted C N C' N') : Since C0 N0 C' N' := by
  obtain ⟨M, e, hM, hl⟩ := h.ex
  obtain ⟨M1, e1, hM1, hl1⟩ := k.ex
  refine ⟨⟨M ++ M1, by rw [e1, e, List.append_assoc], fun i hi => by rw [backC_append, hM1]; exact hM i hi, fun n hn => ?_⟩, by rw [k.len]; exact h.len⟩
  rw [k.len]
  rcases List.mem_append.1 hn with h1 | h1
  · exact hl n h1
  · exact hl1 n h1
theorem Since.laid {C0 C C' : List Cl} {N0 N : List Nt} (h : Since C0 N0 C N) (hl : C.length ≤ C'.length) (ho : ∀ (i : Nat) (c : Cl), C[i]? = some c → C'[i]? = some c) : Since C0 N0 C' N := by
  obtain ⟨M, e, hM, hm⟩ := h.ex
  have h0 := h.len
  refine ⟨⟨M, e, fun i hi => ?_, fun n hn => Nat.lt_of_lt_of_le (hm n hn) hl⟩, Nat.le_trans h.len hl⟩
  rw [← hM i hi]
  refine backC_get M C' C (by omega) (by omega) ?_
  rw [ho i _ (List.getElem?_eq_getElem (by omega)), List.getElem?_eq_getElem (by omega)]
theorem Since.back {C0 C : List Cl} {N0 N : List Nt} (h : Since C0 N0 C N) : (backC C (N.drop N0.length)).take C0.length = C0 ∧ N.take N0.length = N0 ∧ N0.length ≤ N.length ∧ ∀ p ∈ N.drop N0.length, p.1 < C.length := by
  obtain ⟨M, e, hM, hm⟩ := h.ex
  have h0 := h.len
  subst e
  rw [List.drop_left, List.take_left]
  refine ⟨List.ext_getElem? fun i => ?_, rfl, by simp, hm⟩
  by_cases hi : i < C0.length
  · rw [List.getElem?_take_of_lt hi, hM i hi]
  · rw [List.getElem?_eq_none (by simp; omega), List.getElem?_eq_none (by omega)]

end Go.Proofs.Ytjhhacighfpdbaa
