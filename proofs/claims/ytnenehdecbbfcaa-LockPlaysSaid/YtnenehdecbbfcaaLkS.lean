/- The calls of the locks as the laws use them; the list of what a call is handed; Has in plain words. -/
import Derived.Test.YtnenehdecbbfcaaLkR
namespace Go.Proofs.Ytnenehdecbbfcaa
set_option linter.unusedVariables false
open Go.RowKit Go.Maps Go.Proofs.YtnenehdecbbfcaaW.PrintWords Go.Proofs.YtnenehdecbbfcaaW.PrintLast Go.Proofs.YtnenehdecbbfcaaW.PrintMore Go.Proofs.Ytnenehdecbbfcaa.PLockAlone

section
variable {w0 w : World} {lb mb N : Nat} {made m x : Int} {L : Mx}
theorem take_st (h : St w0 w lb mb made L) (g : Good N made L) (hN : N < 4611686018427387903) (hm : I64 m) :
    Calls Try.prog 16 #[.pointer (some ⟨lb, 0, none⟩), .int .i64 m, .int .i64 x] w fun e w' => e = .returned (.int .i64 (takeE L m x)) ∧ St w0 w' lb mb made (takeL L m x) :=
  (take_any w lb mb made m x L h.K hm (by have := g.own m; omega) (by have := g.len; omega)).mono fun e w' ⟨he, l, f⟩ => ⟨he, h.fr l f⟩
theorem give_st (h : St w0 w lb mb made L) (g : Good N made L) (hN : N < 4611686018427387903) (hm : I64 m) :
    Calls Try.prog 17 #[.pointer (some ⟨lb, 0, none⟩), .int .i64 m, .int .i64 x] w fun e w' => e = .returned (.int .i64 (giveE L m x)) ∧ St w0 w' lb mb made (giveL L m x) :=
  (give_any w lb mb made m x L h.K hm (by have := g.own m; omega) (by have := g.len; omega)).mono fun e w' ⟨he, l, f⟩ => ⟨he, h.fr l f⟩
theorem owner_st (h : St w0 w lb mb made L) (hm : I64 m) :
    Calls Try.prog 10 #[.pointer (some ⟨lb, 0, none⟩), .int .i64 m] w fun e w' => e = .returned (.tuple #[.int .i64 (own L m).1, .int .i64 (own L m).2]) ∧ St w0 w' lb mb made L :=
  (owner_any w lb mb made m L h.K hm).mono fun e w' ⟨he, n, hw⟩ => by
    subst hw
    exact ⟨he, ⟨⟨h.B.os, h.B.tape, h.B.output, h.B.size, h.B.block⟩, ⟨h.K.blk, h.K.map.alike rfl⟩, h.hl, h.hm⟩⟩
theorem all_st (h : St w0 w lb mb made L) (g : Good N made L) :
    Calls Try.prog 12 #[.pointer (some ⟨lb, 0, none⟩)] w fun e w' => ∃ A c, e = .returned (.slice A L.length c) ∧ (L.map (·.1)).length ≤ c ∧ Kd.C (Kd.int .i64) w' A (L.map (·.1)).length (L.map (·.1)) ∧ St w0 w' lb mb made L :=
  (all_any w lb mb made L h.K g.sorted (by have := g.len; omega)).mono fun e w' ⟨v, he, hr, hb⟩ => by
    have hr' : w'.ownsRow w.heap.size 3 1 v (L.map (·.1)).length ((L.map (·.1)).map (Value.int .i64)) := by rw [List.length_map]; exact hr
    have R2 : Kd.R (Kd.int .i64) 3 w' w.heap.size (fun _ => True) v (L.map (·.1)) := Kd.R_of_own hr' (fun _ _ => trivial)
    obtain ⟨A2, c2, rfl, hc2, C2⟩ := Kd.R_reads R2
    refine ⟨A2, c2, ?_, hc2, C2, h.below hb⟩
    rw [he, List.length_map]
end

theorem findE_some {L : Mx} {m x : Int} (hm : (mget L m).isSome) (hx : 1 ≤ x) : findE L m x = 0 := by
  unfold findE
  rw [if_pos hm, if_neg (by omega)]
theorem takeE_some {L : Mx} {m x : Int} (hm : (mget L m).isSome) (hx : 1 ≤ x) : takeE L m x = if (own L m).2 > 0 ∧ (own L m).1 ≠ x then 141 else 0 := by
  unfold takeE
  rw [findE_some hm hx]
  simp
theorem giveE_some {L : Mx} {m x : Int} (hm : (mget L m).isSome) (hx : 1 ≤ x) : giveE L m x = if (own L m).1 ≠ x then 150 else 0 := by
  unfold giveE
  rw [findE_some hm hx]
  simp
theorem own_put {L : Mx} (hs : msorted L) {m : Int} {p : Int × Int} : own (mput m p L) m = p := by
  unfold own
  rw [mget_mput_same hs]
  rfl
theorem isSome_put {L : Mx} (hs : msorted L) {m : Int} {p : Int × Int} : (mget (mput m p L) m).isSome := by
  rw [mget_mput_same hs]
  rfl

theorem has_l0 (xs : List Int) (m : Int) (hl : xs.length < 1000000) : ∀ (d k i : Nat), i + d = xs.length → d < k → pythiaref01_Has.l0 k xs m (i : Int) = some (decide (m ∈ xs.drop i)) := by
  intro d
  induction d with
  | zero =>
    intro k i hi hk
    obtain ⟨k, rfl⟩ : ∃ q, k = q + 1 := ⟨k - 1, by omega⟩
    simp only [pythiaref01_Has.l0]
    rw [if_neg (by omega), List.drop_of_length_le (by omega)]
    simp
  | succ d ih =>
    intro k i hi hk
    obtain ⟨k, rfl⟩ : ∃ q, k = q + 1 := ⟨k - 1, by omega⟩
    have hw : wrap64 ((i : Int) + 1) = ((i + 1 : Nat) : Int) := by unfold wrap64; omega
    have hr : rd xs (i : Int) = xs[i]'(by omega) := by simp [rd, List.getElem?_eq_getElem (show i < xs.length by omega)]
    simp only [pythiaref01_Has.l0]
    rw [if_pos (by omega), if_pos (by omega), hr, hw, ih k (i + 1) (by omega) (by omega), List.drop_eq_getElem_cons (show i < xs.length by omega)]
    by_cases he : xs[i]'(by omega) = m
    · rw [if_pos he]; simp [he]
    · rw [if_neg he]
      have : m ≠ xs[i]'(by omega) := fun e => he e.symm
      simp only [List.mem_cons, this, false_or]

theorem has_pure (xs : List Int) (m : Int) (hl : xs.length < 1000000) : pythiaref01_Has.f (xs.length + 1) xs m = some (decide (m ∈ xs)) := by
  have := has_l0 xs m hl xs.length (xs.length + 1) 0 (by omega) (by omega)
  simpa [pythiaref01_Has.f] using this

/-- What the calls of a script are, in memory. -/
def OpsAt (w : World) (A : Option Addr) (n : Nat) (ops : List (Int × Int × Int)) : Prop :=
  ops.length = n ∧ n * 24 ≤ 140737488351232 ∧ (∀ p ∈ ops, I64 p.1 ∧ I64 p.2.1 ∧ I64 p.2.2) ∧
  (0 < n → ∃ b off, A = some ⟨b, off, none⟩ ∧ b < w.heap.size ∧ ∀ j (h : j < ops.length), w.cell? ⟨b, off + j * 3, none⟩ = some (.int .i64 ops[j].1) ∧ w.cell? ⟨b, off + j * 3 + 1, none⟩ = some (.int .i64 ops[j].2.1) ∧ w.cell? ⟨b, off + j * 3 + 2, none⟩ = some (.int .i64 ops[j].2.2))

end Go.Proofs.Ytnenehdecbbfcaa
