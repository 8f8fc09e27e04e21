/- Several tables in memory, told apart; what Add does twice; rows of operators that are the same. -/
import Derived.Test.YtlphglmjfklndaaDoorOpOp
namespace Go.Proofs.YtlphglmjfklndaaDoor
set_option linter.unusedVariables false
open Go.RowKit Go.Shelf Go.Maps Go.Proofs.YtlphglmjfklndaaDoorW.PrintWords Go.Proofs.YtlphglmjfklndaaDoorW.PrintLast Go.Proofs.YtlphglmjfklndaaDoorW.PrintMore Go.Proofs.YtlphglmjfklndaaDoor.POpsApart Go.Extern

theorem remO_rem (k : List UInt8) (L : List S27) : remO k (remO k L) = remO k L := by unfold remO; simp
theorem remO_put (o : S27) (L : List S27) : remO (keyO o) (o :: remO (keyO o) L) = remO (keyO o) L := by
  have := remO_rem (keyO o) L
  unfold remO at this ⊢
  rw [List.filter_cons_of_neg (by simp)]
  exact this
/-- An operator that is not refused for itself. -/
def okO (o : S27) : Prop := ¬(o.f1 < 1 ∨ 7 < o.f1 ∨ o.f2 < 0 ∨ 1200 < o.f2) ∧ ¬(o.f0.toList.isEmpty = true ∨ 64 < o.f0.size) ∧ badN o.f0 = false
/-- The ways of Add: refused; put in; taken out. -/
theorem addT_cases (o : S27) (L : List S27) : ((addT o L).2 = L ∧ (addT o L).1 ≠ 0) ∨ (addT o L = (0, o :: remO (keyO o) L) ∧ o.f2 ≠ 0 ∧ okO o) ∨ (addT o L = (0, remO (keyO o) L) ∧ o.f2 = 0 ∧ okO o) := by
  by_cases h1 : o.f1 < 1 ∨ 7 < o.f1 ∨ o.f2 < 0 ∨ 1200 < o.f2
  · unfold addT; rw [if_pos h1]; exact .inl ⟨rfl, by simp⟩
  by_cases h2 : o.f0.toList.isEmpty = true ∨ 64 < o.f0.size
  · unfold addT; rw [if_neg h1, if_pos h2]; exact .inl ⟨rfl, by simp⟩
  by_cases h3 : badN o.f0 = true
  · unfold addT; rw [if_neg h1, if_neg h2, if_pos h3]; exact .inl ⟨rfl, by simp⟩
  have hok : okO o := ⟨h1, h2, by simpa using h3⟩
  unfold addT
  rw [if_neg h1, if_neg h2, if_neg h3]
  cases hg : getO (keyO o) L with
  | some q =>
    simp only
    by_cases hq : postT q.f1 ≠ postT o.f1
    · rw [if_pos hq]; exact .inl ⟨rfl, by simp⟩
    rw [if_neg hq]
    by_cases hz : o.f2 = 0
    · rw [if_pos hz]; exact .inr (.inr ⟨rfl, hz, hok⟩)
    · rw [if_neg hz]; exact .inr (.inl ⟨rfl, hz, hok⟩)
  | none =>
    simp only
    by_cases hz : o.f2 = 0
    · rw [if_pos hz]; exact .inr (.inr ⟨rfl, hz, hok⟩)
    rw [if_neg hz]
    by_cases hl : 200 ≤ L.length
    · rw [if_pos hl]; exact .inl ⟨rfl, by simp⟩
    · rw [if_neg hl]; exact .inr (.inl ⟨rfl, hz, hok⟩)
theorem addT_refused (o : S27) (L : List S27) (h : (addT o L).1 ≠ 0) : (addT o L).2 = L := by
  rcases addT_cases o L with h1 | ⟨h1, _⟩ | ⟨h1, _⟩
  · exact h1.1
  · rw [h1] at h; exact absurd rfl h
  · rw [h1] at h; exact absurd rfl h
theorem addT_again (o : S27) (L : List S27) (h : (addT o L).1 = 0) : addT o (addT o L).2 = (0, (addT o L).2) := by
  rcases addT_cases o L with h1 | ⟨e, hz, h1, h2, h3⟩ | ⟨e, hz, h1, h2, h3⟩
  · exact absurd h h1.2
  · rw [e]
    have hg : getO (keyO o) (o :: remO (keyO o) L) = some o := by rw [getO_cons, if_pos rfl]
    unfold addT
    rw [if_neg h1, if_neg h2, if_neg (by rw [h3]; decide), hg]
    simp only [ne_eq, not_true_eq_false, if_false, if_neg hz]
    rw [remO_put]
  · rw [e]
    unfold addT
    rw [if_neg h1, if_neg h2, if_neg (by rw [h3]; decide), getO_rem_same]
    simp only [if_pos hz]
    rw [remO_rem]

/-- An operator that can never be taken away. -/
def HasC (L : List S27) : Prop := ∃ c ∈ L, badN c.f0 = true
theorem HasC.ne {L : List S27} (h : HasC L) : L ≠ [] := by obtain ⟨c, hc, _⟩ := h; intro e; rw [e] at hc; cases hc
theorem L0_hasC : HasC L0 := by
  have h : (L0.any fun c => badN c.f0) = true := by kernel_rfl
  obtain ⟨c, hc, hb⟩ := List.any_eq_true.1 h
  exact ⟨c, hc, hb⟩
theorem HasC.rem {L : List S27} (hT : Tab L) (h : HasC L) {o : S27} (ho : o.f0.size ≤ 1000000) (hb : badN o.f0 = false) : HasC (remO (keyO o) L) := by
  obtain ⟨c, hc, hcb⟩ := h
  refine ⟨c, mem_remO.2 ⟨hc, fun e => ?_⟩, hcb⟩
  have := (kc_inj (by have := hT.nms c hc; unfold maxLen; omega) (by unfold maxLen; omega) e).1
  rw [this, hb] at hcb
  cases hcb
theorem HasC.add {L : List S27} (hT : Tab L) (h : HasC L) (o : S27) : HasC (addT o L).2 := by
  rcases addT_cases o L with h1 | ⟨e, hz, h1, h2, h3⟩ | ⟨e, hz, h1, h2, h3⟩
  · rw [h1.1]; exact h
  · rw [e]
    obtain ⟨c, hc, hb⟩ := HasC.rem hT h (o := o) (by omega) h3
    exact ⟨c, List.mem_cons_of_mem _ hc, hb⟩
  · rw [e]
    exact HasC.rem hT h (by omega) h3

/-- Tables: where each lies, where its map lies, its operators. -/
structure Tabs (w0 W : World) (ts : List (Nat × Nat × List S27)) : Prop where
  tab : ∀ x ∈ ts, TabV W x.1 x.2.1 x.2.2
  low : ∀ x ∈ ts, w0.heap.size ≤ x.2.1
  hasC : ∀ x ∈ ts, HasC x.2.2
  ne : ts.Pairwise fun x y => x.2.1 ≠ y.2.1 ∧ x.1 ≠ y.2.1 ∧ y.1 ≠ x.2.1
  below : Below w0.heap.size w0 W

section
variable {w0 W W' : World} {ts : List (Nat × Nat × List S27)}
theorem Tabs.nil (w : World) : Tabs w w [] := ⟨fun x h => (by cases h), fun x h => (by cases h), fun x h => (by cases h), List.Pairwise.nil, Below.refl _ _⟩
theorem Tabs.mono (h : Tabs w0 W ts) (hb : Below W.heap.size W W') : Tabs w0 W' ts :=
  ⟨fun x hx => (h.tab x hx).below hb, h.low, h.hasC, h.ne, h.below.trans (hb.mono h.below.size)⟩
theorem Tabs.alloc (h : Tabs w0 W ts) (o : Obj) : Tabs w0 (W.alloc o) ts := h.mono (below_alloc (Below.refl _ _) o)
theorem Tabs.drew (h : Tabs w0 W ts) : Tabs w0 W.drew ts := h.mono (Below.drew (Below.refl _ _))
/-- One table more, which was made since. -/
theorem Tabs.cons {p m : Nat} {L : List S27} (h : Tabs w0 W ts) (hb : Below W.heap.size W W') (hT : TabV W' p m L) (hc : HasC L) (hp : W.heap.size ≤ p) (hm : W.heap.size ≤ m) : Tabs w0 W' ((p, m, L) :: ts) := by
  have h2 := h.mono hb
  refine ⟨fun x hx => ?_, fun x hx => ?_, fun x hx => ?_, List.pairwise_cons.2 ⟨fun y hy => ?_, h.ne⟩, h2.below⟩
  · rcases List.mem_cons.1 hx with rfl | hx
    · exact hT
    · exact h2.tab x hx
  · rcases List.mem_cons.1 hx with rfl | hx
    · exact Nat.le_trans h.below.size hm
    · exact h.low x hx
  · rcases List.mem_cons.1 hx with rfl | hx
    · exact hc
    · exact h.hasC x hx
  · have a := (h.tab y hy).mlt
    have b := (h.tab y hy).plt
    refine ⟨?_, ?_, ?_⟩ <;> simp only <;> omega

/-- One table's map was written. -/
theorem Tabs.set {p m : Nat} {L L' : List S27} (pre post : List (Nat × Nat × List S27)) (h : Tabs w0 W (pre ++ (p, m, L) :: post)) (hT : TabV W' p m L') (hc : HasC L') (hg : W.grownBy W' (some m)) : Tabs w0 W' (pre ++ (p, m, L') :: post) := by
  have hne := h.ne
  rw [List.pairwise_append, List.pairwise_cons] at hne
  obtain ⟨n1, ⟨n2, n3⟩, n4⟩ := hne
  have hx0 : (p, m, L) ∈ pre ++ (p, m, L) :: post := List.mem_append_right _ List.mem_cons_self
  have hkeep : ∀ x ∈ pre ++ (p, m, L) :: post, x.2.1 ≠ m → x.1 ≠ m → TabV W' x.1 x.2.1 x.2.2 := fun x hx h1 h2 =>
    (h.tab x hx).step (hg.block _ (h.tab x hx).plt (fun e => h2 (Option.some.inj e))) (hg.block _ (h.tab x hx).mlt (fun e => h1 (Option.some.inj e)))
  refine ⟨fun x hx => ?_, fun x hx => ?_, fun x hx => ?_, ?_, h.below.grown hg h.below.size (fun k e => by cases e; exact h.low (p, m, L) hx0)⟩
  · rcases List.mem_append.1 hx with hx | hx
    · exact hkeep x (List.mem_append_left _ hx) (n4 x hx _ List.mem_cons_self).1 (n4 x hx _ List.mem_cons_self).2.1
    · rcases List.mem_cons.1 hx with rfl | hx
      · exact hT
      · exact hkeep x (List.mem_append_right _ (List.mem_cons_of_mem _ hx)) (fun e => (n2 x hx).1 e.symm) (n2 x hx).2.2
  · rcases List.mem_append.1 hx with hx | hx
    · exact h.low x (List.mem_append_left _ hx)
    · rcases List.mem_cons.1 hx with rfl | hx
      · exact h.low (p, m, L) hx0
      · exact h.low x (List.mem_append_right _ (List.mem_cons_of_mem _ hx))
  · rcases List.mem_append.1 hx with hx | hx
    · exact h.hasC x (List.mem_append_left _ hx)
    · rcases List.mem_cons.1 hx with rfl | hx
      · exact hc
      · exact h.hasC x (List.mem_append_right _ (List.mem_cons_of_mem _ hx))
  · rw [List.pairwise_append, List.pairwise_cons]
    refine ⟨n1, ⟨fun y hy => n2 y hy, n3⟩, fun x hx y hy => ?_⟩
    rcases List.mem_cons.1 hy with rfl | hy
    · exact n4 x hx (p, m, L) List.mem_cons_self
    · exact n4 x hx y (List.mem_cons_of_mem _ hy)
end

/-! ### Calls over tables -/
theorem new_at (w0 W : World) (ts : List (Nat × Nat × List S27)) (h : Tabs w0 W ts) : Calls Tryd.prog 7 #[] W fun e w' => e = .returned (.pointer (some ⟨W.heap.size + 1, 0, none⟩)) ∧ Tabs w0 w' ((W.heap.size + 1, W.heap.size, L0) :: ts) ∧ Below W.heap.size W w' :=
  (New_any W).mono fun e w' ⟨he, hT, hb⟩ => ⟨he, h.cons hb hT L0_hasC (by omega) (Nat.le_refl _), hb⟩
theorem clone_at (w0 W : World) (ts : List (Nat × Nat × List S27)) (h : Tabs w0 W ts) (p m : Nat) (L : List S27) (hx : (p, m, L) ∈ ts) : Calls Tryd.prog 11 #[.pointer (some ⟨p, 0, none⟩)] W fun e w' => e = .returned (.pointer (some ⟨W.heap.size + 1, 0, none⟩)) ∧ Tabs w0 w' ((W.heap.size + 1, W.heap.size, L) :: ts) ∧ Below W.heap.size W w' :=
  (Clone_any W p m L (h.tab _ hx)).mono fun e w' ⟨he, hT, hb⟩ => ⟨he, h.cons hb hT (h.hasC _ hx) (by omega) (Nat.le_refl _), hb⟩
theorem add_at (w0 W : World) (pre post : List (Nat × Nat × List S27)) (p m : Nat) (L : List S27) (h : Tabs w0 W (pre ++ (p, m, L) :: post)) (o : S27) (hn : o.f0.size ≤ maxLen) :
    Calls Tryd.prog 10 #[.pointer (some ⟨p, 0, none⟩), .agg #[.string o.f0, .int .i64 o.f1, .int .i64 o.f2]] W fun e w' => e = .returned (.int .i64 (addT o L).1) ∧ Tabs w0 w' (pre ++ (p, m, (addT o L).2) :: post) ∧ W.grownBy w' (some m) := by
  have hx : (p, m, L) ∈ pre ++ (p, m, L) :: post := List.mem_append_right _ List.mem_cons_self
  exact (Add_any W p m L o (h.tab _ hx) hn).mono fun e w' ⟨he, hT, hg⟩ => ⟨he, h.set pre post hT (HasC.add (h.tab _ hx).tab (h.hasC _ hx) o) hg, hg⟩

theorem row_C {W : World} {base n : Nat} {v : Value} {ys : List S27} (h : W.ownsRow base 27 3 v n (ys.flatMap opc)) (hn : n = ys.length) : ∃ A cap, v = .slice A ys.length cap ∧ ys.length ≤ cap ∧ Kd.C k27 W A ys.length ys := by
  subst hn
  rcases h.2 with ⟨hv, h0⟩ | ⟨g, cap, cur, hv, _, hb, hl, hm, hs, ht⟩
  · obtain rfl := List.eq_nil_of_length_eq_zero h0
    exact ⟨none, 0, by rw [hv]; rfl, Nat.le_refl _, Kd.C_nil _ _⟩
  · refine ⟨_, cap, hv, hl, rfl, by unfold maxLen at hm; omega, fun _ => ⟨_, rfl, fun j p hj => ⟨_, rfl, k27_mk W p, fun i u hu => ?_⟩⟩⟩
    have hjl : j < ys.length := (List.getElem?_eq_some_iff.1 hj).1
    have hi : i < 3 := by
      have := (List.getElem?_eq_some_iff.1 hu).1
      simpa using this
    have hlen : (ys.flatMap opc).length = ys.length * 3 := h.1
    have hfg := flat_get opc 3 (fun _ => rfl) ys j i hjl hi
    rw [(List.getElem?_eq_some_iff.1 hj).2] at hfg
    have hcell := blk_cell hb (j * 3 + i)
    have e1 : (⟨g, 0, none⟩ : Addr).add (j * k27.sz + i) = ⟨g, j * 3 + i, none⟩ := by
      rw [show k27.sz = 3 from rfl]
      simp [Addr.add]
      omega
    rw [e1, hcell]
    rw [← ht, List.getElem?_take_of_lt (by omega)] at hfg
    rw [← Array.getElem?_toList, hfg]
    exact hu

theorem all_at (w0 W : World) (ts : List (Nat × Nat × List S27)) (h : Tabs w0 W ts) (p m : Nat) (L : List S27) (hx : (p, m, L) ∈ ts) : Calls Tryd.prog 9 #[.pointer (some ⟨p, 0, none⟩)] W fun e w' =>
    ∃ A cap ys, e = .returned (.slice A L.length cap) ∧ ys.length = L.length ∧ L.length ≤ cap ∧ ys.Perm L ∧ Ord ys ∧ Kd.C k27 w' A ys.length ys ∧ Tabs w0 w' ts ∧ Below W.heap.size W w' :=
  (All_any W p m L (h.tab _ hx) (h.hasC _ hx).ne).mono fun e w' ⟨v, ys, he, hp, ho, hr, hb⟩ => by
    obtain ⟨A, cap, hv, hc, hC⟩ := row_C hr hp.length_eq.symm
    exact ⟨A, cap, ys, by rw [he, hv, hp.length_eq], hp.length_eq, by rw [← hp.length_eq]; exact hc, hp, ho, hC, h.mono hb, hb⟩

theorem same_l0 (xs : List S27) : ∀ (k i : Nat), xs.length < 2000 → i ≤ xs.length → xs.length - i < k → pythiaref09_Same.l0 k xs xs i = some true
  | 0, i, _, _, h => absurd h (Nat.not_lt_zero _)
  | k + 1, i, hl, hi, h => by
    unfold pythiaref09_Same.l0
    by_cases hlt : i < xs.length
    · rw [if_pos (by omega), if_pos (by omega), if_pos (by omega), if_neg (by simp)]
      have e : wrap64 ((i : Int) + 1) = ((i + 1 : Nat) : Int) := by unfold wrap64; omega
      rw [e]
      exact same_l0 xs k (i + 1) hl (by omega) (by omega)
    · rw [if_neg (by omega)]
theorem same_f (xs : List S27) (h : xs.length < 2000) : pythiaref09_Same.f (xs.length + 1) xs xs = some true := by
  unfold pythiaref09_Same.f
  rw [if_pos rfl]
  exact same_l0 xs _ 0 h (Nat.zero_le _) (by omega)
theorem same_at (W : World) (A0 A1 : Option Addr) (c0 c1 n : Nat) (xs : List S27) (hn : n = xs.length) (h : xs.length < 2000) (h0 : Kd.C k27 W A0 xs.length xs) (l0 : n ≤ c0) (h1 : Kd.C k27 W A1 xs.length xs) (l1 : n ≤ c1) :
    Calls Tryd.prog 12 #[.slice A0 n c0, .slice A1 n c1] W fun e w' => e = .returned (.bool true) ∧ Below W.heap.size W w' := by
  subst hn
  exact (pythiaref09_Same.calls _ A0 c0 xs A1 c1 xs true W h0 l0 h1 l1 (same_f xs h)).mono fun e w' ⟨he, nd, hw⟩ => ⟨he, by rw [hw]; exact pw_below_drewN (Below.refl _ _) nd⟩

/-- What Adds do, one behind the other. -/
def addL (L : List S27) (os : List S27) : List S27 := os.foldl (fun L o => (addT o L).2) L
theorem addL_snoc (L : List S27) (os : List S27) (k : Nat) (hk : k < os.length) : addL L (os.take (k + 1)) = (addT (rd_T27 os k) (addL L (os.take k))).2 := by
  unfold addL
  rw [List.take_add_one, List.foldl_append, List.getElem?_eq_getElem hk]
  have : rd_T27 os k = os[k] := by unfold rd_T27; simp [hk]
  rw [this]
  rfl
theorem rd_mem {os : List S27} {k : Nat} (hk : k < os.length) : rd_T27 os k ∈ os := by
  have : rd_T27 os k = os[k] := by unfold rd_T27; simp [hk]
  rw [this]
  exact List.getElem_mem _

end Go.Proofs.YtlphglmjfklndaaDoor
