/- Terms that can be made the same: nothing stands within itself, and what is bound, put in. The plain law of TermLeast. -/
import Derived.Test.YtpnkaggkedepeaaTmPk
namespace Go.Proofs.Ytpnkaggkedepeaa
set_option linter.unusedVariables false
open Go.RowKit Go.Maps Go.Proofs.YtpnkaggkedepeaaW.PrintWords Go.Proofs.YtpnkaggkedepeaaW.PrintLast Go.Proofs.YtpnkaggkedepeaaW.PrintMore Go.Proofs.Ytpnkaggkedepeaa.PTermTells Go.Extern

/-- What has been seen so far, of what is bound. -/
structure SeenOK (S : Sm) (s : Seen) : Prop where
  sorted : msorted s
  keys : ∀ p ∈ s, (mget S p.1).isSome = true
theorem SeenOK.len {S : Sm} {s : Seen} (h : SeenOK S s) : s.length ≤ S.length := by
  have := nodup_len (s.map (·.1)) (S.map (·.1)) (msorted_nodup h.sorted) (fun x hx => by
    obtain ⟨p, hp, rfl⟩ := List.mem_map.1 hx
    obtain ⟨t, ht⟩ := Option.isSome_iff_exists.1 (h.keys p hp)
    exact List.mem_map.2 ⟨_, mget_mem ht, rfl⟩)
  simpa using this
theorem SeenOK.put {S : Sm} {s : Seen} (h : SeenOK S s) {v : Int} (k : Int) (hv : (mget S v).isSome = true) : SeenOK S (mput v k s) :=
  ⟨msorted_mput h.sorted, fun p hp => by
    rcases mem_mput.1 hp with rfl | ⟨hp, _⟩
    · exact hv
    · exact h.keys p hp⟩
section
variable {σ : Int → S24} {S : Sm} {n : Nat}
end

/-- The first one of bindings that binds a variable. -/
def firstB (bs : List S50) (v : Int) : Option S24 := (bs.find? fun b => decide (b.f0 = v)).map (·.f1)
/-- What bindings put in a variable's places. -/
def bS (bs : List S50) (v : Int) : S24 := ((firstB bs v).map nrm).getD (mkV v)
theorem firstB_cons (b : S50) (bs : List S50) (v : Int) : firstB (b :: bs) v = if b.f0 = v then some b.f1 else firstB bs v := by
  unfold firstB
  rw [List.find?_cons]
  by_cases h : b.f0 = v
  · rw [if_pos h, decide_eq_true h]; rfl
  · rw [if_neg h, decide_eq_false h]
end Go.Proofs.Ytpnkaggkedepeaa
