/- Terms that can be made the same: Solve comes to an end, and finds it. -/
import Derived.Test.YtpnkaggkedepeaaTmGp
namespace Go.Proofs.Ytpnkaggkedepeaa
set_option linter.unusedVariables false
open Go.RowKit Go.Maps Go.Proofs.YtpnkaggkedepeaaW.PrintWords Go.Proofs.YtpnkaggkedepeaaW.PrintLast Go.Proofs.YtpnkaggkedepeaaW.PrintMore Go.Proofs.Ytpnkaggkedepeaa.PTermTells Go.Extern

/-- A term with terms in its variables' places. -/
def sg (σ : Int → S24) (t : S24) : S24 := subT (fun v => some (σ v)) t
def sgL (σ : Int → S24) (xs : List S24) : List S24 := subL (fun v => some (σ v)) xs
theorem sg_eq (σ : Int → S24) (kd : Int) (nm : ByteArray) (nt : Int) (xs : List S24) : sg σ ⟨kd, nm, nt, xs⟩ = if kd = 1 then σ nt else if kd = 4 then ⟨4, nm, 0, sgL σ xs⟩ else bareT ⟨kd, nm, nt, xs⟩ := by
  unfold sg sgL; rw [subT]
theorem sgL_map (σ : Int → S24) (xs : List S24) : sgL σ xs = xs.map (sg σ) := subL_map _ _
theorem sg_var (σ : Int → S24) (v : Int) : sg σ (mkV v) = σ v := by unfold mkV; rw [sg_eq, if_pos rfl]
theorem sg_var' {t : S24} (σ : Int → S24) (h : t.f0 = 1) : sg σ t = σ t.f2 := by
  obtain ⟨kd, nm, nt, xs⟩ := t
  simp only at h
  rw [sg_eq, if_pos h]
theorem sg_bare {t : S24} (σ : Int → S24) : sg σ (bareT t) = if t.f0 = 4 then ⟨4, t.f1, 0, []⟩ else sg σ t := by
  obtain ⟨kd, nm, nt, xs⟩ := t
  rw [sg_eq, bare_kind]
  by_cases h1 : kd = 1
  · subst h1; rw [if_pos (.inl rfl), sg_eq, if_pos rfl]; rfl
  · by_cases h4 : kd = 4
    · subst h4; rw [if_neg (by decide), sg_eq]; simp [sgL, subL_nil]
    · simp only [if_neg h1, if_neg h4]
      by_cases h2 : kd = 2
      · subst h2; rw [if_pos (.inr rfl), sg_eq]; rfl
      · rw [if_neg (by omega), sg_eq, if_neg h1, if_neg h4, bare_kind, if_neg (by omega)]

mutual
theorem sub_congr (f g : Int → Option S24) : ∀ t : S24, (∀ v ∈ occT t, (f v).getD (mkV v) = (g v).getD (mkV v)) → subT f t = subT g t
  | ⟨kd, nm, nt, xs⟩, h => by
    rw [subT, subT]
    rw [occT] at h
    by_cases h1 : kd = 1
    · rw [if_pos h1, if_pos h1]
      rw [if_pos h1] at h
      have := h nt (by simp)
      cases hf : f nt <;> cases hg : g nt <;> simp only [hf, hg, Option.getD_none, Option.getD_some] at this ⊢ <;> first | exact this | rfl
    rw [if_neg h1, if_neg h1]
    rw [if_neg h1] at h
    by_cases h4 : kd = 4
    · rw [if_pos h4, if_pos h4]
      rw [if_pos h4] at h
      rw [subL_congr f g xs h]
    · rw [if_neg h4, if_neg h4]
theorem subL_congr (f g : Int → Option S24) : ∀ xs : List S24, (∀ v ∈ occL xs, (f v).getD (mkV v) = (g v).getD (mkV v)) → subL f xs = subL g xs
  | [], _ => by rw [subL_nil, subL_nil]
  | a :: r, h => by
    rw [occL_cons] at h
    rw [subL_cons, subL_cons, sub_congr f g a (fun v hv => h v (List.mem_append_left _ hv)), subL_congr f g r (fun v hv => h v (List.mem_append_right _ hv))]
end
theorem sg_congr (σ τ : Int → S24) (t : S24) (h : ∀ v ∈ occT t, σ v = τ v) : sg σ t = sg τ t := sub_congr _ _ t (fun v hv => h v hv)
theorem sg_id (t : S24) : sg mkV t = nrm t := sub_congr _ _ t (fun v hv => rfl)

/-- What is bound is so in a solution; all is right. -/
structure Fit (σ : Int → S24) (S : Sm) : Prop where
  sorted : msorted S
  fit : ∀ v t, mget S v = some t → sg σ t = σ v ∧ shT t = true ∧ wfT t ∧ 1 ≤ v ∧ I64 v

theorem var_pos {t : S24} (hs : shT t = true) (h : t.f0 = 1) : 1 ≤ t.f2 := by
  obtain ⟨kd, nm, nt, xs⟩ := t
  simp only at h
  rw [shT, if_pos h] at hs
  have := of_decide_eq_true hs
  exact this
theorem sh_mkV {v : Int} (h : 1 ≤ v) : shT (mkV v) = true := by unfold mkV; rw [shT, if_pos rfl]; exact decide_eq_true h
theorem wf_mkV {v : Int} (h : I64 v) : wfT (mkV v) := by unfold mkV; rw [wfT, wfL]; exact ⟨h, trivial⟩

theorem walk_fit {σ : Int → S24} {S : Sm} (hS : Fit σ S) : ∀ (n : Nat) (t : S24) (l : Int) (x : S24) (v : Int), walkS S n t l = some (x, v) → shT t = true → wfT t →
    sg σ x = sg σ t ∧ shT x = true ∧ wfT x ∧ (x.f0 = 1 → v = x.f2 ∧ mget S v = none) ∧ (x.f0 ≠ 1 → (v = l ∧ t = x) ∨ mget S v = some x)
  | 0, _, _, _, _, h, _, _ => by cases h
  | n + 1, t, l, x, v, h, hs, hw => by
    rw [walkS] at h
    by_cases h1 : t.f0 = 1
    · rw [if_pos h1] at h
      cases hg : mget S t.f2 with
      | none =>
        rw [hg] at h
        simp only [Option.some.injEq, Prod.mk.injEq] at h
        obtain ⟨rfl, rfl⟩ := h
        exact ⟨rfl, hs, hw, fun _ => ⟨rfl, hg⟩, fun h => absurd h1 h⟩
      | some y =>
        rw [hg] at h
        simp only at h
        obtain ⟨f1, f2, f3, f4, f5⟩ := hS.fit _ _ hg
        obtain ⟨e1, e2, e3, e4, e5⟩ := walk_fit hS n y _ x v h f2 f3
        refine ⟨by rw [e1, f1, sg_var' σ h1], e2, e3, e4, fun hx => ?_⟩
        rcases e5 hx with ⟨rfl, rfl⟩ | h
        · exact .inr hg
        · exact .inr h
    · rw [if_neg h1] at h
      simp only [Option.some.injEq, Prod.mk.injEq] at h
      obtain ⟨rfl, rfl⟩ := h
      exact ⟨rfl, hs, hw, fun h => absurd h h1, fun _ => .inl ⟨rfl, rfl⟩⟩

/-- Every way through variables ends within so many steps. -/
def Ends (S : Sm) (n : Nat) : Prop := ∀ t l, (walkS S n t l).isSome = true
theorem walk_more {S : Sm} : ∀ (n : Nat) (t : S24) (l : Int) (r : S24 × Int), walkS S n t l = some r → walkS S (n + 1) t l = some r
  | 0, _, _, _, h => by cases h
  | n + 1, t, l, r, h => by
    rw [walkS] at h ⊢
    by_cases h1 : t.f0 = 1
    · rw [if_pos h1] at h ⊢
      cases hg : mget S t.f2 with
      | none => rw [hg] at h; exact h
      | some y => rw [hg] at h; exact walk_more n y _ r h
    · rw [if_neg h1] at h ⊢; exact h
theorem walk_le {S : Sm} {n m : Nat} (hle : n ≤ m) {t : S24} {l : Int} {r : S24 × Int} (h : walkS S n t l = some r) : walkS S m t l = some r := by
  induction hle with
  | refl => exact h
  | step _ ih => exact walk_more _ _ _ _ ih
theorem Ends.at {S : Sm} {n m : Nat} (h : Ends S n) (hle : n ≤ m) (t : S24) (l : Int) : ∃ x v, walkS S m t l = some (x, v) := by
  obtain ⟨r, hr⟩ := Option.isSome_iff_exists.1 (h t l)
  exact ⟨r.1, r.2, walk_le hle hr⟩
theorem walk_put {S : Sm} (hs : msorted S) {j : Int} {u : S24}
    (hj : (mget S j = none ∧ (u.f0 = 1 → mget S u.f2 = none ∧ u.f2 ≠ j)) ∨ (∃ y z, mget S j = some y ∧ u.f0 = 1 ∧ u.f2 ≠ j ∧ mget S u.f2 = some z ∧ z.f0 ≠ 1)) :
    ∀ (m : Nat) (t : S24) (l : Int), (walkS S m t l).isSome = true → (walkS (mput j u S) (m + 1) t l).isSome = true
  | 0, _, _, h => by cases h
  | m + 1, t, l, h => by
    rw [walkS] at h ⊢
    by_cases h1 : t.f0 = 1
    · rw [if_pos h1] at h ⊢
      by_cases e : t.f2 = j
      · rw [e, mget_mput_same hs]
        simp only
        rw [e] at h
        rcases hj with ⟨hn, hu⟩ | ⟨y, z, hy, hu, hne, hz, hz1⟩
        · rw [walkS]
          by_cases hv : u.f0 = 1
          · obtain ⟨g1, g2⟩ := hu hv
            rw [if_pos hv, mget_mput_other g2, g1]; rfl
          · rw [if_neg hv]; rfl
        · rw [hy] at h
          simp only at h
          cases m with
          | zero => cases h
          | succ m =>
            rw [walkS, if_pos hu, mget_mput_other hne, hz]
            simp only
            rw [walkS, if_neg hz1]; rfl
      · rw [mget_mput_other e]
        cases hg : mget S t.f2 with
        | none => rfl
        | some y => rw [hg] at h; exact walk_put hs hj m y _ h
    · rw [if_neg h1]; rfl
theorem Ends.put {S : Sm} {n : Nat} (h : Ends S n) (hs : msorted S) {j : Int} {u : S24}
    (hj : (mget S j = none ∧ (u.f0 = 1 → mget S u.f2 = none ∧ u.f2 ≠ j)) ∨ (∃ y z, mget S j = some y ∧ u.f0 = 1 ∧ u.f2 ≠ j ∧ mget S u.f2 = some z ∧ z.f0 ≠ 1)) : Ends (mput j u S) (n + 1) :=
  fun t l => walk_put hs hj n t l (h t l)
theorem Fit.put {σ : Int → S24} {S : Sm} (h : Fit σ S) {j : Int} {u : S24} (h1 : sg σ u = σ j) (h2 : shT u = true) (h3 : wfT u) (h4 : 1 ≤ j) (h5 : I64 j) : Fit σ (mput j u S) := by
  refine ⟨msorted_mput h.sorted, fun v t hv => ?_⟩
  by_cases e : v = j
  · subst e
    rw [mget_mput_same h.sorted] at hv
    cases hv
    exact ⟨h1, h2, h3, h4, h5⟩
  · rw [mget_mput_other e] at hv
    exact h.fit v t hv

theorem zip_same {α β : Type} {f : α → β} : ∀ {xs ys : List α}, xs.map f = ys.map f → ∀ p ∈ xs.zip ys, f p.1 = f p.2
  | [], _, _, p, hp => by simp at hp
  | _ :: _, [], h, p, hp => by simp at hp
  | a :: xs, b :: ys, h, p, hp => by
    simp only [List.map_cons, List.cons.injEq] at h
    rw [List.zip_cons_cons] at hp
    rcases List.mem_cons.1 hp with rfl | hp
    · exact h.1
    · exact zip_same h.2 p hp
theorem zip_nodes (σ : Int → S24) : ∀ xs ys : List S24, xs.length = ys.length → ((xs.zip ys).map fun p => nodes (sg σ p.1)).sum = nodesL (sgL σ xs)
  | [], ys, _ => by rw [sgL_map]; simp [nodesL_nil]
  | _ :: _, [], h => by simp at h
  | a :: xs, b :: ys, h => by
    have := zip_nodes σ xs ys (by simpa using h)
    rw [sgL_map] at this ⊢
    rw [List.zip_cons_cons, List.map_cons, List.map_cons, nodesL_cons, List.sum_cons, this]
theorem sum_rev (l : List Nat) : l.reverse.sum = l.sum := by
  induction l with
  | nil => rfl
  | cons a l ih => rw [List.reverse_cons, List.sum_append, ih]; simp; omega
theorem sh_kind {t : S24} (h : shT t = true) : t.f0 = 1 ∨ t.f0 = 2 ∨ t.f0 = 3 ∨ t.f0 = 4 := by
  obtain ⟨kd, nm, nt, xs⟩ := t
  rw [shT] at h
  by_cases h1 : kd = 1
  · exact .inl h1
  rw [if_neg h1] at h
  by_cases h2 : kd = 2
  · exact .inr (.inl h2)
  rw [if_neg h2] at h
  by_cases h4 : kd = 4
  · exact .inr (.inr (.inr h4))
  rw [if_neg h4] at h
  by_cases h3 : kd = 3
  · exact .inr (.inr (.inl h3))
  rw [if_neg h3] at h
  cases h
theorem sg_kd (σ : Int → S24) {t : S24} (h : t.f0 ≠ 1) : (sg σ t).f0 = t.f0 := by
  obtain ⟨kd, nm, nt, xs⟩ := t
  simp only at h
  rw [sg_eq, if_neg h]
  split
  · simp only; omega
  · exact bareT_kd _
theorem no_clash {σ : Int → S24} {x y : S24} (hx : shT x = true) (h1 : x.f0 ≠ 1) (h2 : y.f0 ≠ 1) (h : sg σ x = sg σ y) : clashT x y = false ∧ (x.f0 = 4 → x.f3.map (sg σ) = y.f3.map (sg σ)) := by
  have hk : x.f0 = y.f0 := by rw [← sg_kd σ h1, ← sg_kd σ h2, h]
  have hkx := sh_kind hx
  obtain ⟨kd, nm, nt, xs⟩ := x
  obtain ⟨kb, mb, tb, ys⟩ := y
  simp only at h1 h2 hk hkx
  subst hk
  rw [sg_eq, sg_eq, if_neg h1, if_neg h1] at h
  unfold clashT
  simp only [if_true]
  by_cases h4 : kd = 4
  · subst h4
    simp only [if_true] at h ⊢
    rw [sgL_map, sgL_map] at h
    simp only [S24.mk.injEq, true_and] at h
    obtain ⟨rfl, he⟩ := h
    have hl : xs.length = ys.length := by have := congrArg List.length he; simpa using this
    rw [if_neg (by decide)]
    simp [hl, he]
  · rw [if_neg h4, if_neg h4, bare_kind, bare_kind] at h
    refine ⟨?_, fun e => absurd e h4⟩
    by_cases h2' : kd = 2
    · subst h2'
      simp only [or_true, if_true, S24.mk.injEq, true_and, and_true] at h
      simp [h]
    · rw [if_neg (by omega), if_neg (by omega)] at h
      simp only [S24.mk.injEq, true_and, and_true] at h
      rw [if_neg h2', if_neg h4]
      simp [h]

theorem solve_fit {σ : Int → S24} (W : Nat) : ∀ (k n : Nat) (S : Sm) (todo : List (S24 × S24)), ((todo.map fun p => nodes (sg σ p.1)).sum < k) → n + k ≤ W + 1 → Ends S n → Fit σ S →
    (∀ p ∈ todo, sg σ p.1 = sg σ p.2 ∧ (shT p.1 = true ∧ wfT p.1) ∧ shT p.2 = true ∧ wfT p.2) →
    ∃ S' n', solveS W k S todo = some (S', true) ∧ n' ≤ W ∧ Ends S' n' ∧ Fit σ S'
  | 0, _, _, _, hk, _, _, _, _ => absurd hk (Nat.not_lt_zero _)
  | k + 1, n, S, [], _, hW, hE, hS, _ => ⟨S, n, by rw [solveS], by omega, hE, hS⟩
  | k + 1, n, S, (a, b) :: r, hk, hW, hE, hS, hp => by
    obtain ⟨hab, ⟨sa, wa⟩, sb, wb⟩ := hp (a, b) (by simp)
    simp only at hab sa wa sb wb
    have hr : ∀ p ∈ r, sg σ p.1 = sg σ p.2 ∧ (shT p.1 = true ∧ wfT p.1) ∧ shT p.2 = true ∧ wfT p.2 := fun p h => hp p (by simp [h])
    rw [List.map_cons, List.sum_cons] at hk
    simp only at hk
    have hn := nodes_pos (sg σ a)
    obtain ⟨x, v, ex⟩ := hE.at (m := W) (by omega) a 0
    obtain ⟨y, w, ey⟩ := hE.at (m := W) (by omega) b 0
    obtain ⟨x1, x2, x3, x4, x5⟩ := walk_fit hS W a 0 x v ex sa wa
    obtain ⟨y1, y2, y3, y4, y5⟩ := walk_fit hS W b 0 y w ey sb wb
    have hxy : sg σ x = sg σ y := by rw [x1, y1, hab]
    rw [solveS]
    simp only
    rw [ex, ey]
    simp only
    by_cases c1 : 0 < v ∧ v = w
    · rw [if_pos c1]
      exact solve_fit W k n S r (by omega) (by omega) hE hS hr
    rw [if_neg c1]
    by_cases c2 : x.f0 = 1 ∧ y.f0 = 1
    · rw [if_pos c2]
      obtain ⟨ev, nv⟩ := x4 c2.1
      obtain ⟨ew, nw⟩ := y4 c2.2
      have pv := var_pos x2 c2.1
      have pw := var_pos y2 c2.2
      have iv := wfT_int x3
      have iw := wfT_int y3
      rw [sg_var' σ c2.1, sg_var' σ c2.2, ← ev, ← ew] at hxy
      rw [← ev] at pv iv
      rw [← ew] at pw iw
      have hne : v ≠ w := fun e => c1 ⟨by omega, e⟩
      by_cases hlt : v < w
      · rw [show max v w = w by omega, show min v w = v by omega]
        exact solve_fit W k (n + 1) _ r (by omega) (by omega) (hE.put hS.sorted (.inl ⟨nw, fun _ => ⟨nv, hne⟩⟩)) (hS.put (by rw [show (⟨1, ⟨#[]⟩, v, []⟩ : S24) = mkV v from rfl, sg_var, hxy]) (sh_mkV pv) (wf_mkV iv) pw iw) hr
      · rw [show max v w = v by omega, show min v w = w by omega]
        exact solve_fit W k (n + 1) _ r (by omega) (by omega) (hE.put hS.sorted (.inl ⟨nv, fun _ => ⟨nw, hne.symm⟩⟩)) (hS.put (by rw [show (⟨1, ⟨#[]⟩, w, []⟩ : S24) = mkV w from rfl, sg_var, hxy]) (sh_mkV pw) (wf_mkV iw) pv iv) hr
    rw [if_neg c2]
    by_cases c3 : x.f0 = 1
    · rw [if_pos c3]
      obtain ⟨ev, nv⟩ := x4 c3
      have pv := var_pos x2 c3
      have iv := wfT_int x3
      rw [sg_var' σ c3, ← ev] at hxy
      rw [← ev] at pv iv
      exact solve_fit W k (n + 1) _ r (by omega) (by omega) (hE.put hS.sorted (.inl ⟨nv, fun h => absurd ⟨c3, h⟩ c2⟩)) (hS.put hxy.symm y2 y3 pv iv) hr
    rw [if_neg c3]
    by_cases c4 : y.f0 = 1
    · rw [if_pos c4]
      obtain ⟨ew, nw⟩ := y4 c4
      have pw := var_pos y2 c4
      have iw := wfT_int y3
      rw [sg_var' σ c4, ← ew] at hxy
      rw [← ew] at pw iw
      exact solve_fit W k (n + 1) _ r (by omega) (by omega) (hE.put hS.sorted (.inl ⟨nw, fun h => absurd h c3⟩)) (hS.put hxy x2 x3 pw iw) hr
    rw [if_neg c4]
    obtain ⟨hc, hm⟩ := no_clash x2 c3 c4 hxy
    rw [hc, if_neg (by decide)]
    by_cases c6 : x.f0 = 4
    · have hy6 : y.f0 = 4 := by rw [← sg_kd σ c4, ← hxy, sg_kd σ c3, c6]
      have hma := hm c6
      have hlen : x.f3.length = y.f3.length := by have := congrArg List.length hma; simpa using this
      have hsx : shL x.f3 = true ∧ x.f3.length ≤ 8 := by
        obtain ⟨kd, nm, nt, xs⟩ := x
        simp only at c6
        subst c6
        rw [shT, if_neg (by decide), if_neg (by decide), if_pos rfl] at x2
        simp only [Bool.and_eq_true, decide_eq_true_eq] at x2
        exact ⟨x2.1.2, x2.1.1.2⟩
      have hsy : shL y.f3 = true := by
        obtain ⟨kd, nm, nt, xs⟩ := y
        simp only at hy6
        subst hy6
        rw [shT, if_neg (by decide), if_neg (by decide), if_pos rfl] at y2
        simp only [Bool.and_eq_true, decide_eq_true_eq] at y2
        exact y2.1.2
      have hwx : ∀ t ∈ x.f3, wfT t := by
        obtain ⟨kd, nm, nt, xs⟩ := x
        rw [wfT] at x3
        exact fun t ht => wfL_mem x3.2 ht
      have hwy : ∀ t ∈ y.f3, wfT t := by
        obtain ⟨kd, nm, nt, xs⟩ := y
        rw [wfT] at y3
        exact fun t ht => wfL_mem y3.2 ht
      have hnx : nodes (sg σ a) = 1 + nodesL (sgL σ x.f3) := by
        rw [← x1]
        obtain ⟨kd, nm, nt, xs⟩ := x
        simp only at c6
        subst c6
        rw [sg_eq, if_neg (by decide), if_pos rfl, nodes, if_pos rfl]
      have hpairs : ∀ p ∈ (x.f3.zip y.f3).reverse ++ r, sg σ p.1 = sg σ p.2 ∧ (shT p.1 = true ∧ wfT p.1) ∧ shT p.2 = true ∧ wfT p.2 := by
        intro p h
        rcases List.mem_append.1 h with h | h
        · have h := List.mem_reverse.1 h
          have h1 := (List.of_mem_zip (a := p.1) (b := p.2) h).1
          have h2 := (List.of_mem_zip (a := p.1) (b := p.2) h).2
          exact ⟨zip_same hma p h, ⟨shL_mem hsx.1 h1, hwx _ h1⟩, shL_mem hsy h2, hwy _ h2⟩
        · exact hr p h
      have hsum : (((x.f3.zip y.f3).reverse ++ r).map fun p => nodes (sg σ p.1)).sum < k := by
        rw [List.map_append, List.sum_append, List.map_reverse, sum_rev, zip_nodes σ _ _ hlen]
        omega
      rw [if_pos c6, if_neg (by omega)]
      by_cases c8 : 0 < v ∧ 0 < w
      · rw [if_pos c8]
        have gv : mget S v = some x := by
          rcases x5 c3 with ⟨e, _⟩ | h
          · omega
          · exact h
        have gw : mget S w = some y := by
          rcases y5 c4 with ⟨e, _⟩ | h
          · omega
          · exact h
        have hne : v ≠ w := fun e => c1 ⟨by omega, e⟩
        obtain ⟨f1, _, _, f4, f5⟩ := hS.fit _ _ gv
        obtain ⟨g1, _, _, g4, g5⟩ := hS.fit _ _ gw
        exact solve_fit W k (n + 1) _ _ hsum (by omega) (hE.put hS.sorted (.inr ⟨y, x, gw, rfl, hne, gv, c3⟩)) (hS.put (by rw [show (⟨1, ⟨#[]⟩, v, []⟩ : S24) = mkV v from rfl, sg_var, ← f1, ← g1, hxy]) (sh_mkV f4) (wf_mkV f5) g4 g5) hpairs
      · rw [if_neg c8]
        exact solve_fit W k n S _ hsum (by omega) hE hS hpairs
    · rw [if_neg c6]
      exact solve_fit W k n S r (by omega) (by omega) hE hS hr

end Go.Proofs.Ytpnkaggkedepeaa
