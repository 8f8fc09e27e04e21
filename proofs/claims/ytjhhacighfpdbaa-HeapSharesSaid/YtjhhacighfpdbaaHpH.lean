/- The walks of bad, Unify, Used, Mark, Undo, Keep, New. -/
import Derived.Test.YtjhhacighfpdbaaHpD
import Derived.Test.YtjhhacighfpdbaaHpF
namespace Go.Proofs.Ytjhhacighfpdbaa
set_option linter.unusedVariables false
open Go.RowKit Go.Maps Go.Proofs.YtjhhacighfpdbaaW.PrintWords Go.Proofs.YtjhhacighfpdbaaW.PrintLast Go.Proofs.YtjhhacighfpdbaaW.PrintMore Go.Proofs.Ytjhhacighfpdbaa.PHeapShares Go.Extern

/-- Addresses that there are. -/
def InR (H : Hp) (xs : List Int) : Prop := ∀ a ∈ xs, 0 ≤ a ∧ a < H.C.length

theorem clos_ok (w : World) (hb bx : Nat) (S : Nat → Prop) (H : Hp) (a : Int) (hp : HpAt w hb S H) (hbx : w.heap[bx]? = some (.cells #[.pointer (some ⟨hb, 0, none⟩)] 25 (0, 0))) (ha : 0 ≤ a ∧ a < H.C.length) :
    Calls Try.prog 52 #[.int .i64 a, .pointer (some ⟨bx, 0, none⟩)] w fun e w' => e = .returned (.bool false) ∧ w = w' := by
  obtain ⟨vc, vn, vm, hv⟩ := hp
  obtain ⟨A, c, rfl⟩ : ∃ A c, vc = .slice A H.C.length c := own_slice hv.rc
  have c2 := hv.c2
  have xb := blk_cell hbx 0
  have e1 : decide (a < 0) = false := decide_eq_false (by omega)
  have e2 : decide ((H.C.length : Int) ≤ a) = false := decide_eq_false (by omega)
  go_enter Try.func52, Try.ntmps52
  go_wp2
  go_ret
  exact ⟨rfl, rfl⟩

set_option maxHeartbeats 1000000 in
theorem indexf_ok (w : World) (hb bx g c : Nat) (S : Nat → Prop) (H : Hp) (xs : List Int) (hp : HpAt w hb S H) (hbx : w.heap[bx]? = some (.cells #[.pointer (some ⟨hb, 0, none⟩)] 25 (0, 0))) (hx : InR H xs) (hl : xs.length ≤ 1000000)
    (hc : ∀ j (hj : j < xs.length), w.cell? ⟨g, j, none⟩ = some (.int .i64 xs[j])) :
    Calls Try.prog 68 #[.slice (some ⟨g, 0, none⟩) xs.length c, .func (.func 52) #[] #[.pointer (some ⟨bx, 0, none⟩)]] w fun e w' => e = .returned (.int .i64 (-1)) ∧ w = w' := by
  go_enter Try.func68, Try.ntmps68
  go_wp2
  go_loop [8] (fun i => ∃ j : Nat, j ≤ xs.length ∧ i = .int .i64 j) (fun i => xs.length - (intOf i).toNat)
  case atStart => exact ⟨0, Nat.zero_le _, rfl⟩
  case round =>
    obtain ⟨j, hj, rfl⟩ := hrel
    by_cases hlt : j < xs.length
    · have y0 := hc j hlt
      have hcall := clos_ok w hb bx S H xs[j] hp hbx (hx _ (List.getElem_mem hlt))
      generalize xs[j] = a at y0 hcall
      clear hc
      go_wp2_with fail
      refine hcall.mono ?_
      rintro e w' ⟨rfl, rfl⟩
      go_wp2
      go_round
      case rel => exact ⟨j + 1, by omega, by go_num⟩
      case measure => simp [intOf]; omega
    · obtain rfl : j = xs.length := by omega
      go_wp2
      go_ret
      exact ⟨rfl, rfl⟩

theorem bad_ok (w : World) (hb g c : Nat) (S : Nat → Prop) (H : Hp) (xs : List Int) (hp : HpAt w hb S H) (hx : InR H xs) (hl : xs.length ≤ 1000000) (hg : g < w.heap.size)
    (hc : ∀ j (hj : j < xs.length), w.cell? ⟨g, j, none⟩ = some (.int .i64 xs[j])) :
    Calls Try.prog 31 #[.pointer (some ⟨hb, 0, none⟩), .slice (some ⟨g, 0, none⟩) xs.length c] w fun e w' => e = .returned (.bool false) ∧ Below w.heap.size w w' := by
  have hi := indexf_ok (w.alloc (.cells #[.pointer (some ⟨hb, 0, none⟩)] 25)) hb w.heap.size g c S H xs (hp.alloc _) (blk_new w _) hx hl (fun j hj => by rw [World.cell?_alloc_past _ _ _ hg]; exact hc j hj)
  have hcf : Calls Try.prog 51 #[.slice (some ⟨g, 0, none⟩) xs.length c, .func (.func 52) #[] #[.pointer (some ⟨w.heap.size, 0, none⟩)]] (w.alloc (.cells #[.pointer (some ⟨hb, 0, none⟩)] 25)) fun e w' => e = .returned (.bool false) ∧ (w.alloc (.cells #[.pointer (some ⟨hb, 0, none⟩)] 25)) = w' := by
    clear hc
    go_enter Try.func51, Try.ntmps51
    go_wp2_with fail
    refine hi.mono ?_
    rintro e w' ⟨rfl, rfl⟩
    go_wp2
    go_ret
    exact ⟨rfl, rfl⟩
  clear hi hc
  go_enter Try.func31, Try.ntmps31
  go_wp2_with fail
  refine hcf.mono ?_
  rintro e w' ⟨rfl, rfl⟩
  go_wp2
  go_ret
  exact ⟨rfl, below_alloc (Below.refl _ _) _⟩

/-- Two terms are made the same, or nothing has changed. -/
def UnifyPost (V : Int → Prop) (w : World) (hb : Nat) (S : Nat → Prop) (H : Hp) (a b : Nat) (e : Ending) (w' : World) : Prop :=
  (∃ C' N' σ, e = .returned (.tuple #[.bool true, .int .i64 0]) ∧ HpTo w hb S { H with C := C', N := N' } w' ∧ Noted H.C H.N C' N' ∧ Uni V H.C C' a b σ) ∨
  (e = .returned (.tuple #[.bool false, .int .i64 0]) ∧ HpTo w hb S H w' ∧ ∀ θ s t, Rep H.C a s → Rep H.C b t → sg θ s ≠ sg θ t) ∨
  (e = .returned (.tuple #[.bool false, .int .i64 131]) ∧ HpTo w hb S H w' ∧ H.trail ≤ H.N.length + H.C.length)

theorem Hp.eta (H : Hp) {C N} (h1 : C = H.C) (h2 : N = H.N) : ({ H with C := C, N := N } : Hp) = H := by subst h1 h2; rfl

set_option maxHeartbeats 1000000 in
theorem Unify_any (V : Int → Prop) (w : World) (hb : Nat) (S : Nat → Prop) (H : Hp) (a b : Nat) (s t : S28) (hp : HpAt w hb S H) (hI : HI H.C) (hs : Rep H.C a s) (ht : Rep H.C b t) (hVs : ∀ v ∈ occT s, V v) (hVt : ∀ v ∈ occT t, V v) :
    Calls Try.prog 10 #[.pointer (some ⟨hb, 0, none⟩), .int .i64 a, .int .i64 b] w (UnifyPost V w hb S H a b) := by
  have hla := hs.lt
  have hlb := ht.lt
  have hp0 := hp
  obtain ⟨vc, vn, vm, hv⟩ := hp
  obtain ⟨A, c, rfl⟩ : ∃ A c, vn = .slice A H.N.length c := own_slice hv.rn
  have hbad := bad_ok (w.alloc (.cells #[.int .i64 a, .int .i64 b] 3)) hb w.heap.size 2 S H [(a : Int), (b : Int)] (hp0.alloc _) (fun x hx => by
    simp at hx
    rcases hx with rfl | rfl <;> constructor <;> omega) (by simp) (by simp) (fun j hj => by
      rw [blk_cell (blk_new w _)]
      have : j = 0 ∨ j = 1 := by simp at hj; omega
      rcases this with rfl | rfl <;> rfl)
  go_enter Try.func10, Try.ntmps10
  go_wp2_with fail
  refine hbad.mono ?_
  rintro e w1 ⟨rfl, hB1⟩
  have hB1' : Below w.heap.size w w1 := (below_alloc (Below.refl _ _) _).trans (hB1.mono (by simp))
  have hv1 := hv.below hB1'
  have hp1 := hp0.below hB1'
  have hf1 : Fs S w w1 := Fs.of_below hB1'
  have c3 := hv1.c3
  have hun := unify_any hb V _ _ w1 S H a b s t rfl rfl hp1 hI hs ht hVs hVt
  clear hbad
  go_wp2_with fail
  refine hun.mono ?_
  rintro e w2 ⟨ok, er, C', N', rfl, hto, hn, hyes, hno⟩
  clear hun
  cases ok with
  | true =>
    obtain ⟨rfl, σ, hu⟩ := hyes rfl
    have hfin : UnifyPost V w hb S H a b (.returned (.tuple #[.bool true, .int .i64 0])) w2 := .inl ⟨C', N', σ, rfl, hto.after hf1 fun k h => .inl h, hn, hu⟩
    clear hyes hno
    go_wp2
    go_ret2
    exact hfin
  | false =>
    obtain ⟨S2, hp2, hf2, hS2⟩ := hto
    obtain ⟨M, hM, hback, hMl⟩ := hn.ex
    have hlen := hn.len
    have hbk := back_any w2 hb S2 _ H.N.length hp2 (by show H.N.length ≤ N'.length; rw [hM]; simp) (fun p hp => by
      have hp' : p ∈ M := by
        have h : p ∈ N'.drop H.N.length := hp
        rw [hM] at h
        simpa using h
      show p.1 < C'.length
      rw [hlen]; exact hMl p hp')
    have hnoo := hno rfl
    clear hno
    have hroom := hn.room
    have hnr := nrefN_le H.C
    clear hyes
    go_wp2_with fail
    refine hbk.mono ?_
    rintro e w3 ⟨rfl, hto3⟩
    have heq : ({ ({ H with C := C', N := N' } : Hp) with C := backC C' (N'.drop H.N.length), N := N'.take H.N.length } : Hp) = H := by
      rw [hM]
      simp [hback]
    have hto4 : HpTo w2 hb S2 H w3 := by
      have h : HpTo w2 hb S2 ({ ({ H with C := C', N := N' } : Hp) with C := backC C' (N'.drop H.N.length), N := N'.take H.N.length } : Hp) w3 := hto3
      rw [heq] at h
      exact h
    have hto5 := (hto4.after hf2 hS2).after hf1 fun k h => .inl h
    have hfin : UnifyPost V w hb S H a b (.returned (.tuple #[.bool false, .int .i64 er])) w3 := by
      rcases hnoo with ⟨rfl, h⟩ | ⟨rfl, h⟩
      · exact .inr (.inl ⟨rfl, hto5, h⟩)
      · exact .inr (.inr ⟨rfl, hto5, by omega⟩)
    clear hnoo hbk heq hto3
    go_wp2
    go_ret2
    exact hfin

end Go.Proofs.Ytjhhacighfpdbaa
