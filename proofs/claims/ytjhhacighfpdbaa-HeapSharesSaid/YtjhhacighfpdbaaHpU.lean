/- What Unify does to cells, in plain words: a solution is put in everywhere. -/
import Derived.Test.YtjhhacighfpdbaaHpP
namespace Go.Proofs.Ytjhhacighfpdbaa
set_option linter.unusedVariables false
open Go.RowKit Go.Maps Go.Proofs.YtjhhacighfpdbaaW.PrintWords Go.Proofs.YtjhhacighfpdbaaW.PrintLast Go.Proofs.YtjhhacighfpdbaaW.PrintMore Go.Proofs.Ytjhhacighfpdbaa.PHeapShares Go.Extern

theorem sg_sg (σ τ : Int → S28) (t : S28) : sg τ (sg σ t) = sg (fun v => sg τ (σ v)) t := by
  have := sg_sub τ (fun v => some (σ v)) t
  simpa [sg] using this

/-- So far: a solution σ is put in; only variables of V are touched. -/
structure Sol (V : Int → Prop) (C C' : List Cl) (σ : Int → S28) : Prop where
  len : C'.length = C.length
  rep : ∀ x s, Rep C x s → Rep C' x (sg σ s)
  fewer : freeN C' < freeN C ∨ (freeN C' = freeN C ∧ σ = mkV)
  dom : ∀ v, σ v ≠ mkV v → V v
  rng : ∀ v, V v → ∀ u ∈ occT (σ v), V u

theorem Sol.refl (V : Int → Prop) {C : List Cl} : Sol V C C mkV := ⟨rfl, fun x s h => by rw [h.sgV]; exact h, .inr ⟨rfl, rfl⟩, fun v h => absurd rfl h, fun v hv u hu => by rw [occ_mkV] at hu; simp at hu; rw [hu]; exact hv⟩

theorem occ_sg (σ : Int → S28) (V : Int → Prop) {C : List Cl} {x : Nat} {t : S28} (h : Rep C x t) (hV : ∀ v ∈ occT t, V v) (hr : ∀ v, V v → ∀ u ∈ occT (σ v), V u) : ∀ u ∈ occT (sg σ t), V u := by
  induction h with
  | free x c h hk => rw [sg_var]; exact hr _ (hV _ (by rw [occ_mkV]; simp))
  | ref x b c t h hk ha hr' ih => exact ih hV
  | num x c h hk hr' hi hz => rw [sg_num]; intro u hu; rw [occT] at hu; simp at hu
  | atom x c h hk hr' hn hz => rw [sg_atom]; intro u hu; rw [occT] at hu; simp at hu
  | comp x f c ts h hk ha hr' h1 h8 hn hz hs ih =>
    rw [sg_eq4]
    intro u hu
    rw [occ_eq4, occL_mem] at hu
    obtain ⟨a, ha', hu⟩ := hu
    obtain ⟨b, hb, rfl⟩ := List.mem_map.1 ha'
    obtain ⟨i, hi, rfl⟩ := List.getElem_of_mem hb
    exact ih i hi (fun v hv => hV v (by rw [occ_eq4, occL_mem]; exact ⟨_, hb, hv⟩)) u hu

theorem occ_sg_any (τ : Int → S28) : ∀ t : S28, ∀ u ∈ occT (sg τ t), ∃ v ∈ occT t, u ∈ occT (τ v) := by
  intro t
  induction hn : nodes t using Nat.strongRecOn generalizing t with
  | _ n ih =>
  obtain ⟨kd, nm, nt, xs⟩ := t
  intro u hu
  rw [sg_eq] at hu
  by_cases h1 : kd = 1
  · rw [if_pos h1] at hu
    exact ⟨nt, by rw [occT, if_pos h1]; simp, hu⟩
  rw [if_neg h1] at hu
  by_cases h4 : kd = 4
  · subst h4
    rw [if_pos rfl, occ_eq4, sgL_map, occL_mem] at hu
    obtain ⟨a, ha, hu⟩ := hu
    obtain ⟨b, hb, rfl⟩ := List.mem_map.1 ha
    have hlt : nodes b < n := by rw [← hn, nodes_eq4]; have := nodesL_mem hb; omega
    obtain ⟨v, hv, hu⟩ := ih _ hlt b rfl u hu
    exact ⟨v, by rw [occ_eq4, occL_mem]; exact ⟨b, hb, hv⟩, hu⟩
  · rw [if_neg h4, bare_kind] at hu
    split at hu <;> (rw [occT] at hu; simp [h1, h4] at hu)

theorem Sol.then_ {V : Int → Prop} {C C1 C2 : List Cl} {σ τ : Int → S28} (h : Sol V C C1 σ) (k : Sol V C1 C2 τ) (hs : ∀ v, sg mkV (σ v) = σ v) : Sol V C C2 (fun v => sg τ (σ v)) := by
  refine ⟨k.len.trans h.len, fun x s hx => by rw [← sg_sg]; exact k.rep _ _ (h.rep _ _ hx), ?_, fun v hv => ?_, fun v hv u hu => ?_⟩
  · rcases h.fewer with h1 | ⟨h1, rfl⟩
    · rcases k.fewer with h2 | ⟨h2, _⟩
      · exact .inl (by omega)
      · exact .inl (by omega)
    · rcases k.fewer with h2 | ⟨h2, rfl⟩
      · exact .inl (by omega)
      · exact .inr ⟨by omega, by funext v; rw [sg_var]⟩
  · by_cases e : σ v = mkV v
    · rw [e, sg_var] at hv
      exact k.dom v hv
    · exact h.dom v e
  · obtain ⟨x, hx, hu⟩ := occ_sg_any τ _ u hu
    exact k.rng x (h.rng v hv x hx) u hu

/-- Two addresses' terms are made the same. -/
structure Uni (V : Int → Prop) (C C' : List Cl) (a b : Nat) (σ : Int → S28) : Prop where
  sol : Sol V C C' σ
  mgu : ∀ θ, (∀ s t, Rep C a s → Rep C b t → sg θ s = sg θ t) → ∀ v, sg θ (σ v) = θ v
  nrm : ∀ v, sg mkV (σ v) = σ v
  same : ∃ t, Rep C' a t ∧ Rep C' b t
  chg : ∀ x c, C[x]? = some c → C'[x]? = some c ∨ c.kd = 0 ∨ ∀ s t, Rep C' x s → Rep C' a t → Sub s t

/-- So many arguments are made the same. -/
structure Arg (V : Int → Prop) (C C' : List Cl) (a b k : Nat) (σ : Int → S28) : Prop where
  sol : Sol V C C' σ
  mgu : ∀ θ, (∀ i, i < k → ∀ s t, Rep C (a + i) s → Rep C (b + i) t → sg θ s = sg θ t) → ∀ v, sg θ (σ v) = θ v
  nrm : ∀ v, sg mkV (σ v) = σ v
  same : ∀ i, i < k → ∃ t, Rep C' (a + i) t ∧ Rep C' (b + i) t
  chg : ∀ x c, C[x]? = some c → C'[x]? = some c ∨ c.kd = 0 ∨ ∃ i, i < k ∧ ∀ s t, Rep C' x s → Rep C' (a + i) t → Sub s t

theorem nrm_mkV : ∀ v, sg mkV (mkV v) = mkV v := fun v => sg_var _ _
theorem Arg.zero (V : Int → Prop) (C : List Cl) (a b : Nat) : Arg V C C a b 0 mkV := ⟨Sol.refl V, fun θ _ v => sg_var θ v, nrm_mkV, fun i h => absurd h (Nat.not_lt_zero _), fun x c h => .inl h⟩

theorem Sol.HI {V : Int → Prop} {C C' : List Cl} {σ : Int → S28} (h : Sol V C C' σ) (hC : HI C) : HI C' := fun x hx => by
  obtain ⟨t, ht⟩ := hC x (by rw [← h.len]; exact hx)
  exact ⟨_, h.rep _ _ ht⟩

theorem nrm_sg (τ : Int → S28) (hτ : ∀ v, sg mkV (τ v) = τ v) (t : S28) : sg mkV (sg τ t) = sg τ t := by
  rw [sg_sg]
  exact sg_congr _ _ t fun v _ => hτ v

theorem Arg.step {V : Int → Prop} {C C1 C2 : List Cl} {a b k : Nat} {σ τ : Int → S28} (hC : HI C) (h : Arg V C C1 a b k σ) (u : Uni V C1 C2 (a + k) (b + k) τ) : Arg V C C2 a b (k + 1) (fun v => sg τ (σ v)) := by
  refine ⟨h.sol.then_ u.sol h.nrm, fun θ hθ v => ?_, fun v => nrm_sg τ u.nrm _, fun i hi => ?_, fun x c hx => ?_⟩
  · have h1 := h.mgu θ fun i hi => hθ i (by omega)
    have h2 := u.mgu θ fun s t hs ht => by
      obtain ⟨s0, hs0⟩ := hC (a + k) (by rw [← h.sol.len]; exact hs.lt)
      obtain ⟨t0, ht0⟩ := hC (b + k) (by rw [← h.sol.len]; exact ht.lt)
      rw [hs.det (h.sol.rep _ _ hs0), ht.det (h.sol.rep _ _ ht0), sg_sg, sg_sg, sg_congr _ θ s0 (fun v _ => h1 v), sg_congr _ θ t0 (fun v _ => h1 v)]
      exact hθ k (by omega) _ _ hs0 ht0
    rw [sg_sg, sg_congr _ θ (σ v) (fun v _ => h2 v)]
    exact h1 v
  · by_cases e : i = k
    · subst e; exact u.same
    · obtain ⟨t, h1, h2⟩ := h.same i (by omega)
      exact ⟨_, u.sol.rep _ _ h1, u.sol.rep _ _ h2⟩
  · have hxl := (List.getElem?_eq_some_iff.1 hx).1
    rcases h.chg x c hx with h1 | h1 | ⟨i, hi, h1⟩
    · rcases u.chg x c h1 with h2 | h2 | h2
      · exact .inl h2
      · exact .inr (.inl h2)
      · exact .inr (.inr ⟨k, by omega, h2⟩)
    · exact .inr (.inl h1)
    · refine .inr (.inr ⟨i, by omega, fun s t hs ht => ?_⟩)
      obtain ⟨s0, hs0⟩ := hC x hxl
      obtain ⟨t0, ht0, _⟩ := h.same i hi
      have e1 := (u.sol.rep _ _ (h.sol.rep _ _ hs0)).det hs
      have e2 := (u.sol.rep _ _ ht0).det ht
      rw [← e1, ← e2]
      exact (h1 _ _ (h.sol.rep _ _ hs0) ht0).sg τ

/-- The address that an address stands for: behind all ways on. -/
inductive Walk (C : List Cl) : Nat → Nat → Prop
  | here (x : Nat) (c : Cl) (h : C[x]? = some c) (hk : c.kd ≠ 1) : Walk C x x
  | on (x b y : Nat) (c : Cl) (h : C[x]? = some c) (hk : c.kd = 1) (ha : c.a = b) (hw : Walk C b y) : Walk C x y
theorem Walk.rep {C : List Cl} {x y : Nat} (h : Walk C x y) : ∀ {t}, Rep C x t → Rep C y t := by
  induction h with
  | here x c h hk => intro t ht; exact ht
  | on x b y c h hk ha hw ih =>
    intro t ht
    cases ht with
    | free _ c' h2 hk2 => rw [h] at h2; cases h2; omega
    | ref _ b' c' _ h2 hk2 ha2 hr2 =>
      rw [h] at h2; cases h2
      have : b = b' := by omega
      subst this
      exact ih hr2
    | num _ c' h2 hk2 => rw [h] at h2; cases h2; omega
    | atom _ c' h2 hk2 => rw [h] at h2; cases h2; omega
    | comp _ f c' ts h2 hk2 => rw [h] at h2; cases h2; omega
theorem Walk.end_ {C : List Cl} {x y : Nat} (h : Walk C x y) : ∃ c, C[y]? = some c ∧ c.kd ≠ 1 := by
  induction h with
  | here x c h hk => exact ⟨c, h, hk⟩
  | on x b y c h hk ha hw ih => exact ih

/-- What was made of walked addresses holds of those they were walked from. -/
theorem Uni.walked {V : Int → Prop} {C C' : List Cl} {a b a' b' : Nat} {σ : Int → S28} (hC : HI C) (ha : Walk C a a') (hb : Walk C b b') (hal : a < C.length) (hbl : b < C.length) (u : Uni V C C' a' b' σ) : Uni V C C' a b σ := by
  obtain ⟨ta, hta⟩ := hC a hal
  obtain ⟨tb, htb⟩ := hC b hbl
  obtain ⟨t, h1, h2⟩ := u.same
  have e1 := h1.det (u.sol.rep _ _ (ha.rep hta))
  have e2 := h2.det (u.sol.rep _ _ (hb.rep htb))
  refine ⟨u.sol, fun θ hθ => u.mgu θ fun s t hs ht => hθ s t (by rw [hs.det (ha.rep hta)]; exact hta) (by rw [ht.det (hb.rep htb)]; exact htb), u.nrm, ⟨t, by rw [e1]; exact u.sol.rep _ _ hta, by rw [e2]; exact u.sol.rep _ _ htb⟩, fun x c hx => ?_⟩
  rcases u.chg x c hx with h | h | h
  · exact .inl h
  · exact .inr (.inl h)
  · refine .inr (.inr fun s r hs hr => ?_)
    have := hr.det (u.sol.rep _ _ hta)
    exact h s r hs (by rw [this, ← e1]; exact h1)

/-- The same terms already. -/
theorem Uni.refl (V : Int → Prop) {C : List Cl} {a b : Nat} {t : S28} (ha : Rep C a t) (hb : Rep C b t) : Uni V C C a b mkV := ⟨Sol.refl V, fun θ _ v => sg_var θ v, nrm_mkV, ⟨t, ha, hb⟩, fun x c h => .inl h⟩

/-- A variable is bound. -/
theorem Uni.bind {V : Int → Prop} {C : List Cl} {v b : Nat} {t : S28} {cv : Cl} (hv : C[v]? = some cv) (hk : cv.kd = 0) (hb : Rep C b t) (ho : (v : Int) + 1 ∉ occT t) (hVv : V ((v : Int) + 1)) (hVt : ∀ u ∈ occT t, V u) :
    Uni V C (C.set v (refC b)) v b (bindS v t) := by
  have hx := freeN_set (d := refC b) hv
  rw [if_pos hk, if_neg (by show ¬((1 : Int) = 0); decide)] at hx
  have hbn : sg (bindS v t) t = t := by
    rw [← hb.sgV]
    rw [sg_sg]
    refine sg_congr _ _ t fun u hu => ?_
    rw [sg_var]
    unfold bindS
    exact if_neg fun (e : u = (v : Int) + 1) => ho (by rw [← e]; exact hu)
  refine ⟨⟨by simp, fun x s h => Rep.bind cv hv hk hb ho h, .inl (by omega), fun u hu => ?_, fun u hu y hy => ?_⟩, fun θ hθ u => ?_, fun u => ?_, ?_, fun x c h => ?_⟩
  · unfold bindS at hu
    by_cases e : u = (v : Int) + 1
    · rw [e]; exact hVv
    · rw [if_neg e] at hu; exact absurd rfl hu
  · unfold bindS at hy
    by_cases e : u = (v : Int) + 1
    · rw [if_pos e] at hy; exact hVt y hy
    · rw [if_neg e, occ_mkV] at hy; simp at hy; rw [hy]; exact hu
  · have := hθ _ _ (.free v cv hv hk) hb
    rw [sg_var] at this
    unfold bindS
    split
    · rename_i e; rw [e]; exact this.symm
    · exact sg_var θ u
  · unfold bindS
    split
    · exact hb.sgV
    · exact nrm_mkV u
  · refine ⟨t, ?_, ?_⟩
    · have := Rep.bind cv hv hk hb ho (.free v cv hv hk)
      rw [sg_var] at this
      unfold bindS at this
      rwa [if_pos rfl] at this
    · have := Rep.bind cv hv hk hb ho hb
      rwa [hbn] at this
  · by_cases e : x = v
    · subst e; rw [hv] at h; cases h; exact .inr (.inl hk)
    · exact .inl (by rw [List.getElem?_set_ne (fun e' => e e'.symm)]; exact h)
theorem Uni.symm {V : Int → Prop} {C C' : List Cl} {a b : Nat} {σ : Int → S28} (u : Uni V C C' a b σ) : Uni V C C' b a σ := by
  obtain ⟨t, h1, h2⟩ := u.same
  refine ⟨u.sol, fun θ hθ => u.mgu θ fun s t hs ht => (hθ t s ht hs).symm, u.nrm, ⟨t, h2, h1⟩, fun x c hx => ?_⟩
  rcases u.chg x c hx with h | h | h
  · exact .inl h
  · exact .inr (.inl h)
  · exact .inr (.inr fun s r hs hr => h s r hs (by rw [hr.det h2]; exact h1))

/-- Compound terms whose arguments are the same are made one; p is the greater, q the lesser of a and b. -/
theorem Arg.done {V : Int → Prop} {C C' : List Cl} {a b fa fb n : Nat} {σ : Int → S28} {ca cb : Cl} (hC : HI C) (h : Arg V C C' fa fb n σ) (hab : a ≠ b)
    (ha : C[a]? = some ca) (hb : C[b]? = some cb) (ha4 : ca.kd = 4) (hb4 : cb.kd = 4) (hfa : ca.a = fa) (hfb : cb.a = fb) (hna : ca.ar = n) (hnb : cb.ar = n) (hnm : ca.nm = cb.nm) :
    C'[a]? = some ca ∧ C'[b]? = some cb ∧ ∀ p q, (p = a ∧ q = b ∨ p = b ∧ q = a) → Uni V C (C'.set p (refC q)) a b σ := by
  obtain ⟨ta, hta⟩ := hC a (List.getElem?_eq_some_iff.1 ha).1
  obtain ⟨tb, htb⟩ := hC b (List.getElem?_eq_some_iff.1 hb).1
  have key : ∀ (x f : Nat) (c : Cl) (t : S28), C[x]? = some c → c.kd = 4 → c.a = f → c.ar = n → Rep C x t → ∃ ts : List S28, t = ⟨4, c.nm, 0, ts⟩ ∧ ts.length = n ∧ ∀ i (hi : i < ts.length), Rep C (f + i) ts[i] := by
    intro x f c t hx h4 hf hn ht
    obtain ⟨f', ts, ha2, hr2, _, _, _, e2, hs, _⟩ := ht.inv4 hx h4
    have : f = f' := by omega
    subst this
    exact ⟨ts, e2, by omega, hs⟩
  obtain ⟨as_, rfl, hla, hsa⟩ := key a fa ca ta ha ha4 hfa hna hta
  obtain ⟨bs, rfl, hlb, hsb⟩ := key b fb cb tb hb hb4 hfb hnb htb
  have hRa := h.sol.rep _ _ hta
  have hRb := h.sol.rep _ _ htb
  rw [sg_eq4] at hRa hRb
  have heq : ∀ i (hi : i < n), sg σ (as_[i]'(by omega)) = sg σ (bs[i]'(by omega)) := fun i hi => by
    obtain ⟨t, h1, h2⟩ := h.same i hi
    rw [← h1.det (h.sol.rep _ _ (hsa i (by omega))), ← h2.det (h.sol.rep _ _ (hsb i (by omega)))]
  have hlist : as_.map (sg σ) = bs.map (sg σ) := List.ext_getElem (by simp [hla, hlb]) fun i h1 h2 => by
    simp only [List.getElem_map]
    exact heq i (by simpa [hla] using h1)
  have hsmall : ∀ i, i < n → ∀ t, Rep C' (fa + i) t → nodes t < nodes ⟨4, ca.nm, 0, as_.map (sg σ)⟩ := fun i hi t ht => by
    rw [ht.det (h.sol.rep _ _ (hsa i (by omega))), nodes_eq4]
    have : sg σ (as_[i]'(by omega)) ∈ as_.map (sg σ) := List.mem_map_of_mem (List.getElem_mem _)
    have := nodesL_mem this
    omega
  have hex : ∀ i, i < n → ∃ t, Rep C' (fa + i) t := fun i hi => ⟨_, h.sol.rep _ _ (hsa i (by omega))⟩
  have ka : C'[a]? = some ca := by
    rcases h.chg a ca ha with h1 | h1 | ⟨i, hi, h1⟩
    · exact h1
    · omega
    · obtain ⟨t, ht⟩ := hex i hi
      have := (h1 _ _ hRa ht).nodes
      have := hsmall i hi t ht
      omega
  have kb : C'[b]? = some cb := by
    rcases h.chg b cb hb with h1 | h1 | ⟨i, hi, h1⟩
    · exact h1
    · omega
    · obtain ⟨t, ht⟩ := hex i hi
      have h2 := (h1 _ _ hRb ht).nodes
      have h3 := hsmall i hi t ht
      rw [← hlist, ← hnm] at h2
      omega
  refine ⟨ka, kb, fun p q hpq => ?_⟩
  have hRb' : Rep C' b ⟨4, ca.nm, 0, as_.map (sg σ)⟩ := by rw [hlist, hnm]; exact hRb
  have hm : ∀ x s, Rep C' x s → Rep (C'.set p (refC q)) x s := fun x s hs => by
    rcases hpq with ⟨rfl, rfl⟩ | ⟨rfl, rfl⟩
    · exact Rep.merge ka ha4 kb hb4 hab hRa hRb' _ x s (Nat.le_refl _) hs
    · exact Rep.merge kb hb4 ka ha4 (fun e => hab e.symm) hRb' hRa _ x s (Nat.le_refl _) hs
  have hfr : freeN (C'.set p (refC q)) = freeN C' := by
    rcases hpq with ⟨rfl, rfl⟩ | ⟨rfl, rfl⟩
    · have := freeN_set (d := refC q) ka
      rw [if_neg (by omega), if_neg (by show ¬((1 : Int) = 0); decide)] at this
      omega
    · have := freeN_set (d := refC q) kb
      rw [if_neg (by omega), if_neg (by show ¬((1 : Int) = 0); decide)] at this
      omega
  have hback : ∀ x s, x < C.length → Rep (C'.set p (refC q)) x s → Rep C' x s := fun x s hx hs => by
    obtain ⟨s0, hs0⟩ := hC x hx
    have h1 := h.sol.rep _ _ hs0
    rw [hs.det (hm _ _ h1)]
    exact h1
  have hal := (List.getElem?_eq_some_iff.1 ha).1
  refine ⟨⟨by simpa using h.sol.len, fun x s hs => hm _ _ (h.sol.rep _ _ hs), by rw [hfr]; exact h.sol.fewer, h.sol.dom, h.sol.rng⟩, fun θ hθ => h.mgu θ fun i hi s t hs ht => ?_, h.nrm, ⟨_, hm _ _ hRa, hm _ _ hRb'⟩, fun x c hx => ?_⟩
  · have h1 := hθ _ _ hta htb
    rw [sg_eq4, sg_eq4] at h1
    simp only [S28.mk.injEq, true_and] at h1
    have h2 := congrArg (fun l => l[i]?) h1.2
    simp only [List.getElem?_map, List.getElem?_eq_getElem (show i < as_.length by omega), List.getElem?_eq_getElem (show i < bs.length by omega), Option.map_some, Option.some.injEq] at h2
    rw [hs.det (hsa i (by omega)), ht.det (hsb i (by omega))]
    exact h2
  have hxl := (List.getElem?_eq_some_iff.1 hx).1
  by_cases exp : x = p
  · refine .inr (.inr fun s t hs ht => ?_)
    have h1 := hback _ _ hxl hs
    have h2 := hback _ _ hal ht
    rw [← hRa.det h2]
    rcases hpq with ⟨rfl, rfl⟩ | ⟨rfl, rfl⟩
    · subst exp; rw [← hRa.det h1]; exact .refl
    · subst exp; rw [← hRb'.det h1]; exact .refl
  · rcases h.chg x c hx with h1 | h1 | ⟨i, hi, h1⟩
    · exact .inl (by rw [List.getElem?_set_ne (fun e => exp e.symm)]; exact h1)
    · exact .inr (.inl h1)
    · refine .inr (.inr fun s t hs ht => ?_)
      obtain ⟨r, hr⟩ := hex i hi
      have h3 := h1 _ _ (hback _ _ hxl hs) hr
      rw [← hRa.det (hback _ _ hal ht)]
      refine h3.trans ?_
      rw [hr.det (h.sol.rep _ _ (hsa i (by omega)))]
      exact .arg _ _ _ (List.mem_map_of_mem (List.getElem_mem _)) .refl

/-- A note: a cell, and what it was. -/
abbrev Nt := Nat × Cl
/-- Changes taken back, the last one first. -/
def backC (C : List Cl) (N : List Nt) : List Cl := N.foldr (fun n C => C.set n.1 n.2) C
theorem backC_len (C : List Cl) (N : List Nt) : (backC C N).length = C.length := by
  induction N with
  | nil => rfl
  | cons a r ih => unfold backC at ih ⊢; simp only [List.foldr_cons, List.length_set, ih]
theorem backC_append (C : List Cl) (N M : List Nt) : backC C (N ++ M) = backC (backC C M) N := by unfold backC; rw [List.foldr_append]
theorem backC_snoc (C : List Cl) (N : List Nt) (n : Nt) : backC C (N ++ [n]) = backC (C.set n.1 n.2) N := by rw [backC_append]; rfl

/-- How many cells stand for no other cell. -/
def nrefN (C : List Cl) : Nat := C.countP fun c => !(c.kd == 1)
theorem nrefN_le (C : List Cl) : nrefN C ≤ C.length := List.countP_le_length
theorem nrefN_set {C : List Cl} {i : Nat} {c d : Cl} (h : C[i]? = some c) : nrefN (C.set i d) + (if c.kd = 1 then 0 else 1) = nrefN C + (if d.kd = 1 then 0 else 1) := by
  unfold nrefN
  obtain ⟨hi, rfl⟩ := List.getElem?_eq_some_iff.1 h
  rw [List.countP_set hi]
  have hpos : (!(C[i].kd == 1)) = true → 0 < C.countP fun c => !(c.kd == 1) := fun h => List.countP_pos_iff.2 ⟨_, List.getElem_mem hi, h⟩
  generalize C.countP (fun c => !(c.kd == 1)) = m at hpos ⊢
  by_cases h1 : C[i].kd = 1
  · by_cases h2 : d.kd = 1
    · simp [h1, h2]
    · simp [h1, h2]
  · have := hpos (by simp [h1])
    by_cases h2 : d.kd = 1
    · simp [h1, h2]; omega
    · simp [h1, h2]; omega

/-- From C, N on just such changes were made as the notes tell. -/
structure Noted (C : List Cl) (N : List Nt) (C' : List Cl) (N' : List Nt) : Prop where
  len : C'.length = C.length
  ex : ∃ M, N' = N ++ M ∧ backC C' M = C ∧ ∀ n ∈ M, n.1 < C.length
  room : nrefN C' + N'.length ≤ nrefN C + N.length
theorem Noted.refl (C : List Cl) (N : List Nt) : Noted C N C N := ⟨rfl, ⟨[], by simp, rfl, by simp⟩, Nat.le_refl _⟩
theorem Noted.trans {C C1 C2 : List Cl} {N N1 N2 : List Nt} (h : Noted C N C1 N1) (k : Noted C1 N1 C2 N2) : Noted C N C2 N2 := by
  obtain ⟨M, e, hM, hl⟩ := h.ex
  obtain ⟨M1, e1, hM1, hl1⟩ := k.ex
  refine ⟨k.len.trans h.len, ⟨M ++ M1, by rw [e1, e, List.append_assoc], by rw [backC_append, hM1, hM], fun n hn => ?_⟩, Nat.le_trans k.room h.room⟩
  rcases List.mem_append.1 hn with h1 | h1
  · exact hl n h1
  · rw [← h.len]; exact hl1 n h1
theorem Noted.set {C : List Cl} {N : List Nt} {x : Nat} {c d : Cl} (h : C[x]? = some c) (hc : c.kd ≠ 1) (hd : d.kd = 1) : Noted C N (C.set x d) (N ++ [(x, c)]) := by
  have hr := nrefN_set (d := d) h
  rw [if_neg hc, if_pos hd] at hr
  obtain ⟨hx, rfl⟩ := List.getElem?_eq_some_iff.1 h
  refine ⟨by simp, ⟨[(x, C[x])], rfl, ?_, ?_⟩, by rw [List.length_append]; simp only [List.length_cons, List.length_nil]; omega⟩
  · show (C.set x d).set x C[x] = C
    rw [List.set_set, List.set_getElem_self]
  · intro n hn
    rw [List.mem_singleton.1 hn]
    exact hx

end Go.Proofs.Ytjhhacighfpdbaa
