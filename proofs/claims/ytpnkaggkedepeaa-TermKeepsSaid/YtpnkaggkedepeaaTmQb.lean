/- The document's vars and Vars, walked. -/
import Derived.Test.YtpnkaggkedepeaaTmQa
import Derived.Test.YtpnkaggkedepeaaTmPo
namespace Go.Proofs.Ytpnkaggkedepeaa
set_option linter.unusedVariables false
open Go.RowKit Go.Maps Go.Proofs.YtpnkaggkedepeaaW.PrintWords Go.Proofs.YtpnkaggkedepeaaW.PrintLast Go.Proofs.YtpnkaggkedepeaaW.PrintMore Go.Proofs.Ytpnkaggkedepeaa.PTermTells Go.Extern

/-- The world has grown, and its row v alone has been written: it is v' now. -/
structure GV (w : World) (v : Value) (w' : World) (v' : Value) : Prop where
  g : w.grownBy w' v.ownBlock
  at_ : v'.ownBlock = v.ownBlock ∨ ∃ b, v'.ownBlock = some b ∧ w.heap.size ≤ b
theorem GV.refl (w : World) (v : Value) : GV w v w v := ⟨World.grownBy.refl w _, .inl rfl⟩
theorem GV.trans {w w1 w2 : World} {v v1 v2 : Value} (h : GV w v w1 v1) (k : GV w1 v1 w2 v2) : GV w v w2 v2 := by
  refine ⟨⟨k.g.os.trans h.g.os, k.g.tape.trans h.g.tape, k.g.output.trans h.g.output, Nat.le_trans h.g.size k.g.size, fun i hi hne => ?_⟩, ?_⟩
  · refine (k.g.block i (by have := h.g.size; omega) (fun e => ?_)).trans (h.g.block i hi hne)
    rcases h.at_ with e2 | ⟨b, e2, hb⟩
    · exact hne (e.trans e2)
    · rw [e2] at e; have := Option.some.inj e; omega
  · rcases k.at_ with e | ⟨b, e, hb⟩
    · rcases h.at_ with e2 | ⟨b, e2, hb⟩
      · exact .inl (e.trans e2)
      · exact .inr ⟨b, e.trans e2, hb⟩
    · exact .inr ⟨b, e, Nat.le_trans h.g.size hb⟩
theorem GV.alloc {w w' : World} {v v' : Value} (h : GV w v w' v') (o : Obj) : GV w v (w'.alloc o) v' := h.trans ⟨World.grownBy_alloc w' o _, .inl rfl⟩
theorem GV.of_below {w w' : World} (v : Value) (h : Below w.heap.size w w') : GV w v w' v := ⟨⟨h.os, h.tape, h.output, h.size, fun i hi _ => h.block i hi⟩, .inl rfl⟩
theorem GV.below {B : Nat} {w0 w w' : World} {v v' : Value} (h : GV w v w' v') (hB : Below B w0 w) (hv : ∀ q, v.ownBlock = some q → B ≤ q) (hs : B ≤ w0.heap.size) : Below B w0 w' := below_grown hB h.g hv hs
theorem GV.blk {w w' : World} {v v' : Value} {g : Nat} {o : Obj} (h : GV w v w' v') (hb : w.heap[g]? = some o) (hne : v.ownBlock ≠ some g) : w'.heap[g]? = some o := blk_grown hb h.g (fun e => hne e.symm)

end Go.Proofs.Ytpnkaggkedepeaa
