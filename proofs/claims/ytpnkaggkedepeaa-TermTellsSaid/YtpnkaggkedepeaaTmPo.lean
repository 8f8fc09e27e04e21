/- Rows of one's own that stay. -/
import Derived.Test.YtpnkaggkedepeaaTmGp
namespace Go.Proofs.Ytpnkaggkedepeaa
set_option linter.unusedVariables false
open Go.RowKit Go.Maps Go.Proofs.YtpnkaggkedepeaaW.PrintWords Go.Proofs.YtpnkaggkedepeaaW.PrintLast Go.Proofs.YtpnkaggkedepeaaW.PrintMore Go.Proofs.Ytpnkaggkedepeaa.PTermTells Go.Extern
theorem ownsRow_belowB {B : Nat} {e : TypeId} {k : Nat} {v : Value} {n : Nat} {xs : List Value} {w w' : World} (h : w.ownsRow B e k v n xs) (hb : Below w.heap.size w w') : w'.ownsRow B e k v n xs :=
  World.ownsRow.kept h ⟨hb.os, hb.tape, hb.output, hb.size, fun i hi _ => hb.block i hi⟩ (Classical.em _)
theorem outAt_belowB {B : Nat} {v : Value} {xs : List Int} {w w' : World} (h : OutAt w B v xs) (hb : Below w.heap.size w w') : OutAt w' B v xs := ownsRow_belowB h hb
theorem outAt_readsInt {W : World} {base c n : Nat} {A : Option Addr} {xs : List Int} (h : OutAt W base (.slice A n c) xs) (hn : xs.length = n) : ReadsInt W .i64 A n xs := by
  subst hn
  exact own_reads' (base := base) (e := 2) (c := c) h
theorem varsO_at {w0 W : World} {t : S24} {A : Option Addr} {c : Nat} (h : Lies w0 t A c) (hB : Below w0.heap.size w0 W) :
    Calls Try.prog 18 #[.agg #[.int .i64 t.f0, .string t.f1, .int .i64 t.f2, .slice A t.f3.length c]] W fun e w' => ∃ A' c', e = .returned (.slice A' (varsOf t).length c') ∧ OutAt w' w0.heap.size (.slice A' (varsOf t).length c') (varsOf t) ∧ Below W.heap.size W w' ∧ Below w0.heap.size w0 w' :=
  (vars_of t W A c (h.at hB).C h.le).mono fun e w' ⟨v, a, o, b⟩ => by
    obtain ⟨A', c', rfl, h1, h2⟩ := o.reads
    exact ⟨A', c', a, own_weaken o hB.size, b, below_step hB b⟩
theorem varsOf_len (t : S24) : (varsOf t).length ≤ 2000 := by
  unfold varsOf
  split
  · rename_i h
    have h1 := varsT_len t []
    have h2 := nodes_ok h
    simp only [List.length_nil] at h1
    omega
  · simp
end Go.Proofs.Ytpnkaggkedepeaa
