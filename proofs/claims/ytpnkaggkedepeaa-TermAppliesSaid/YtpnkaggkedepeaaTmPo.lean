/- Rows of one's own that stay. -/
import Derived.Test.YtpnkaggkedepeaaTmGp
namespace Go.Proofs.Ytpnkaggkedepeaa
set_option linter.unusedVariables false
open Go.RowKit Go.Maps Go.Proofs.YtpnkaggkedepeaaW.PrintWords Go.Proofs.YtpnkaggkedepeaaW.PrintLast Go.Proofs.YtpnkaggkedepeaaW.PrintMore Go.Proofs.Ytpnkaggkedepeaa.PTermTells Go.Extern
theorem ownsRow_belowB {B : Nat} {e : TypeId} {k : Nat} {v : Value} {n : Nat} {xs : List Value} {w w' : World} (h : w.ownsRow B e k v n xs) (hb : Below w.heap.size w w') : w'.ownsRow B e k v n xs :=
  World.ownsRow.kept h ⟨hb.os, hb.tape, hb.output, hb.size, fun i hi _ => hb.block i hi⟩ (Classical.em _)
theorem outAt_belowB {B : Nat} {v : Value} {xs : List Int} {w w' : World} (h : OutAt w B v xs) (hb : Below w.heap.size w w') : OutAt w' B v xs := ownsRow_belowB h hb
end Go.Proofs.Ytpnkaggkedepeaa
