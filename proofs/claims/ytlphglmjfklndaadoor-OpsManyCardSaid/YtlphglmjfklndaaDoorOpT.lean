/- A region inside a round of a range over a function, walked as outside of it. -/
import Derived.Test.YtlphglmjfklndaaDoorOpS
import Derived.RegionIn
import Derived.Test.YtlphglmjfklndaaDoorOpQ
namespace Go.Proofs.YtlphglmjfklndaaDoor
set_option linter.unusedVariables false
open Go.RowKit Go.Shelf

def noDefer : Op → Bool
  | .defer _ => false
  | _ => true
theorem op_round {P : Program} {l n : Nat} {o : Oper} {a : Act} {w : World} {K K' : Act → World → Prop} {Q : Exit → Act → World → Prop} (hd : noDefer o.op = true) (hK : ∀ a w, K a w → K' a w) (h : o.wp P a w K Q) : o.wpIn (Fence.wide.inRound l) n P a w K' Q := by
  refine ⟨fun f hf => trivial, ?_⟩
  rw [Oper.semAt_eq _ _ _ (fun c e => by rw [e] at hd; cases hd)]
  unfold Oper.wp at h
  generalize (execOp a.eval o).run P w = r at h ⊢
  cases r with
  | halt x w' => cases x <;> first | exact h | exact h.elim
  | ok v w' =>
    cases v with
    | value v => exact hK _ _ h
    | skip => exact hK _ _ h
    | defer d => exact hK _ _ h
    | enter f args =>
      refine ⟨fun e => (by cases e), CallsIn.inRound l (callsIn_wide.2 (Calls.mono h ?_))⟩
      intro e w'' he
      cases e with
      | returned v => exact hK _ _ he
      | panicked c => exact he
      | outgrown => exact he
    | row row args =>
      refine ⟨fun e => (by cases e), fun c cs _ => ?_⟩
      obtain ⟨v, w'', r, s⟩ := h c cs
      exact ⟨v, w'', hK _ _ r, stepsIn_wide.2 s⟩
    | _ => exact h.elim

theorem any_round {P : Program} {l n : Nat} {md : Region.Mode} {ops : Array Oper} {Q : Exit → Act → World → Prop} (hlo : ¬ LetsOut Q) (hd : ∀ (i : Nat) (o : Oper), ops[i]? = some o → noDefer o.op = true) : ∀ (fuel : Nat) (listed : Array Bool) (a : Act) (w : World), wpAny P md ops Q fuel listed a w → wpAnyIn (Fence.wide.inRound l) n P md ops Q fuel listed a w
  | 0, _, _, _, h => h
  | fuel + 1, listed, a, w, h => by
    refine ⟨h.1, fun i hi => ?_⟩
    have h2 := h.2 i hi
    unfold wpOp at h2
    unfold wpOpIn
    cases ho : ops[i]? with
    | none => rw [ho] at h2; exact any_round hlo hd fuel _ _ _ h2
    | some o =>
      rw [ho] at h2
      simp only at h2 ⊢
      have hdo := hd i o ho
      by_cases hw : Region.wanted o (yielded ops a.tmps) = true
      · rw [if_pos hw] at h2 ⊢
        rcases h2 with h2 | ⟨_, h2⟩
        · skip
          exact op_round hdo (fun a w => any_round hlo hd fuel _ a w) h2
        · exact absurd h2 hlo
      · rw [if_neg hw] at h2 ⊢
        exact ⟨fun f hf => trivial, any_round hlo hd fuel _ _ _ h2⟩

/-- A region inside a round: its first n operations keep the world in C, the others are walked one behind the other. -/
theorem round_quiet_tail {P : Program} {C : World → Prop} {r k id : Nat} {Q : Exit → Act → World → Prop} {a : Act} {w : World} {l : List Oper} (n : Nat) (hm : P.follows .mixedOrders = true) (hlo : ¬ LetsOut Q) (hd : (l.all fun o => noDefer o.op) = true) (hB : Region.lexTailB .any l.toArray n = true) (hC : C { w with drawn := w.drawn + 1 })
    (h : wpQuiet P l.toArray C (fun a' => ∀ w', C w' → wpList P l.toArray Q (l.drop n) a' w') (l.take n) a) : (Code.region id l.toArray true).wpIn (Fence.wide.inRound r) k P Q a w := by
  have hd' : ∀ (i : Nat) (o : Oper), l.toArray[i]? = some o → noDefer o.op = true := fun i o ho => List.all_eq_true.1 hd o (List.mem_of_getElem? (by simpa using ho))
  refine wpIn_region_any hm (any_round hlo hd' _ _ _ _ ?_)
  simp only [Region.lexTailB, Bool.and_eq_true, decide_eq_true_eq] at hB
  obtain ⟨⟨⟨⟨hsel, hn⟩, hs⟩, hc⟩, hlex⟩ := hB
  have hn' : n < l.length := by simpa using hn
  have htl : (l.take n).length = n := by simp; omega
  have hdl : (l.drop n).length = l.toArray.size - n := by simp
  have inv0 : HeadInv .any l.toArray n (Array.replicate l.toArray.size false) :=
    ⟨by simp, fun j oj _ hl => (by rw [getD_replicate_false] at hl; cases hl), fun t _ ht => getD_in (by simpa using ht) (getD_replicate_false _ _)⟩
  have H := headQ_lex (md := .any) (g := l.toArray.size - n) hsel hs hc hn (l.take n) 0 _ a (fun j hj => by
    have hj' : j < n := by rw [htl] at hj; exact hj
    simp [hj']) (by simpa using htl) inv0 (by rw [htl]; exact hlex) h
  have := any_of_headQ (Q' := Q) (g := l.toArray.size - n) (fun listed a' w' hC' hL => by
    have := wpAny_of_seq (md := .any) (Q' := Q) (l.drop n) n listed a' w' (fun j => by simp [List.getElem?_drop]) (by rw [hdl]; exact hL.1) (hL.2 w' hC')
    rwa [hdl] at this) _ _ _ _ hC H
  rw [htl, show n + (l.toArray.size - n) = l.toArray.size by omega] at this
  exact this

end Go.Proofs.YtlphglmjfklndaaDoor
