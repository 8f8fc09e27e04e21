/- Terms that can be made the same: nothing stands within itself, and what is bound, put in. The plain law of TermLeast. -/
import Derived.Test.YtpnkaggkedepeaaTmPk
namespace Go.Proofs.Ytpnkaggkedepeaa
set_option linter.unusedVariables false
open Go.RowKit Go.Maps Go.Proofs.YtpnkaggkedepeaaW.PrintWords Go.Proofs.YtpnkaggkedepeaaW.PrintLast Go.Proofs.YtpnkaggkedepeaaW.PrintMore Go.Proofs.Ytpnkaggkedepeaa.PTermTells Go.Extern

/-- How many variables there are on the way from a term. -/
def chn (S : Sm) : Nat → S24 → Nat
  | 0, _ => 0
  | n + 1, t => if t.f0 = 1 then (match mget S t.f2 with | none => 0 | some x => 1 + chn S n x) else 0
theorem chn_le (S : Sm) : ∀ (n : Nat) (t : S24), chn S n t ≤ n
  | 0, _ => Nat.le_refl _
  | n + 1, t => by
    rw [chn]
    split
    · split
      · omega
      · have := chn_le S n ‹_›; omega
    · omega
theorem chn_more {S : Sm} : ∀ (n : Nat) (t : S24) (l : Int), (walkS S n t l).isSome = true → chn S (n + 1) t = chn S n t
  | 0, _, _, h => by cases h
  | n + 1, t, l, h => by
    rw [walkS] at h
    rw [chn, chn]
    by_cases h1 : t.f0 = 1
    · rw [if_pos h1] at h
      rw [if_pos h1, if_pos h1]
      cases hg : mget S t.f2 with
      | none => rfl
      | some y =>
        rw [hg] at h
        simp only
        rw [chn_more n y _ h]
    · rw [if_neg h1, if_neg h1]
theorem chn_bound {S : Sm} {n : Nat} (h : Ends S n) {t x : S24} (h1 : t.f0 = 1) (hg : mget S t.f2 = some x) : chn S n t = 1 + chn S n x := by
  rw [← chn_more n t 0 (h t 0), chn, if_pos h1, hg]
theorem chn_var (S : Sm) (n : Nat) {t : S24} (h1 : t.f0 = 1) : chn S n t = chn S n (mkV t.f2) := by
  cases n with
  | zero => rfl
  | succ n => rw [chn, chn, if_pos h1, if_pos (by rfl)]; rfl

/-- A term's measure: what it becomes, then the way. -/
def msr (σ : Int → S24) (S : Sm) (n : Nat) (t : S24) : Nat := nodes (sg σ t) * (n + 2) + chn S n t
theorem msr_var (σ : Int → S24) (S : Sm) (n : Nat) {t : S24} (h1 : t.f0 = 1) : msr σ S n t = msr σ S n (mkV t.f2) := by
  unfold msr
  rw [sg_var' σ h1, sg_var, chn_var S n h1]
theorem msr_arg (σ : Int → S24) (S : Sm) (n : Nat) {t a : S24} (h4 : t.f0 = 4) (ha : a ∈ t.f3) : msr σ S n a < msr σ S n t := by
  obtain ⟨kd, nm, nt, xs⟩ := t
  simp only at h4 ha
  subst h4
  unfold msr
  rw [sg_eq, if_neg (by decide), if_pos rfl, nodes, if_pos rfl]
  have h1 := (nodesL_mem (a := sg σ a) (xs := sgL σ xs) (by rw [sgL_map]; exact List.mem_map_of_mem ha)).1
  have h2 := chn_le S n a
  have h3 : nodes (sg σ a) * (n + 2) ≤ nodesL (sgL σ xs) * (n + 2) := Nat.mul_le_mul_right _ h1
  rw [Nat.add_mul]
  omega
theorem msr_bound {σ : Int → S24} {S : Sm} {n : Nat} (hS : Fit σ S) (hE : Ends S n) {t x : S24} (h1 : t.f0 = 1) (hg : mget S t.f2 = some x) : msr σ S n x < msr σ S n t := by
  unfold msr
  rw [(hS.fit _ _ hg).1, sg_var' σ h1, chn_bound hE h1 hg]
  omega

/-- What has been seen so far, of what is bound. -/
structure SeenOK (S : Sm) (s : Seen) : Prop where
  sorted : msorted s
  keys : ∀ p ∈ s, (mget S p.1).isSome = true
theorem SeenOK.len {S : Sm} {s : Seen} (h : SeenOK S s) : s.length ≤ S.length := by
  have := nodup_len (s.map (·.1)) (S.map (·.1)) (msorted_nodup h.sorted) (fun x hx => by
    obtain ⟨p, hp, rfl⟩ := List.mem_map.1 hx
    obtain ⟨t, ht⟩ := Option.isSome_iff_exists.1 (h.keys p hp)
    exact List.mem_map.2 ⟨_, mget_mem ht, rfl⟩)
  simpa using this
theorem SeenOK.put {S : Sm} {s : Seen} (h : SeenOK S s) {v : Int} (k : Int) (hv : (mget S v).isSome = true) : SeenOK S (mput v k s) :=
  ⟨msorted_mput h.sorted, fun p hp => by
    rcases mem_mput.1 hp with rfl | ⟨hp, _⟩
    · exact hv
    · exact h.keys p hp⟩
theorem seen_put {s : Seen} (hs : msorted s) (v k u : Int) : seenV (mput v k s) u = if u = v then k else seenV s u := by
  unfold seenV
  by_cases e : u = v
  · rw [if_pos e, e, mget_mput_same hs]; rfl
  · rw [if_neg e, mget_mput_other e]

section
variable {σ : Int → S24} {S : Sm} {n : Nat}
theorem loops_fit (hS : Fit σ S) (hE : Ends S n) (hl : S.length < 100000) : ∀ (k : Nat) (t : S24) (s : Seen), msr σ S n t < k → SeenOK S s → (∀ v, seenV s v = 1 → msr σ S n t < msr σ S n (mkV v)) →
    ∃ s', loopsP S k t s = some (false, s') ∧ SeenOK S s' ∧ ∀ v, seenV s' v = 1 ↔ seenV s v = 1
  | 0, _, _, hk, _, _ => absurd hk (Nat.not_lt_zero _)
  | k + 1, t, s, hk, hs, h1 => by
    rw [loopsP]
    by_cases h4 : t.f0 = 4
    · rw [if_pos h4]
      have hgo : ∀ (xs : List S24) (s : Seen), (∀ a ∈ xs, a ∈ t.f3) → SeenOK S s → (∀ v, seenV s v = 1 → msr σ S n t < msr σ S n (mkV v)) →
          ∃ s', anyP (loopsP S k) xs s = some (false, s') ∧ SeenOK S s' ∧ ∀ v, seenV s' v = 1 ↔ seenV s v = 1 := by
        intro xs
        induction xs with
        | nil => exact fun s _ hs _ => ⟨s, rfl, hs, fun v => Iff.rfl⟩
        | cons a r ih =>
          intro s hm hs h1
          have hlt := msr_arg σ S n h4 (hm a (by simp))
          obtain ⟨s1, e1, o1, i1⟩ := loops_fit hS hE hl k a s (by omega) hs (fun v hv => by have := h1 v hv; omega)
          obtain ⟨s2, e2, o2, i2⟩ := ih s1 (fun b hb => hm b (by simp [hb])) o1 (fun v hv => h1 v ((i1 v).1 hv))
          refine ⟨s2, ?_, o2, fun v => (i2 v).trans (i1 v)⟩
          rw [anyP_cons, e1]
          simp only [Bool.false_eq_true, if_false]
          exact e2
      exact hgo t.f3 s (fun a h => h) hs h1
    rw [if_neg h4]
    cases hg : mget S t.f2 with
    | none => exact ⟨s, rfl, hs, fun v => Iff.rfl⟩
    | some x =>
      simp only
      by_cases c1 : t.f0 ≠ 1 ∨ seenV s t.f2 = 2
      · rw [if_pos c1]; exact ⟨s, rfl, hs, fun v => Iff.rfl⟩
      rw [if_neg c1]
      have hv1 : t.f0 = 1 := by
        by_cases e : t.f0 = 1
        · exact e
        · exact absurd (.inl e) c1
      have c2 : seenV s t.f2 ≠ 1 := fun e => by
        have := h1 _ e
        rw [msr_var σ S n hv1] at this
        omega
      have hlen := hs.len
      rw [if_neg c2, if_neg (by omega)]
      have hlt := msr_bound hS hE hv1 hg
      have hsm : (mget S t.f2).isSome = true := by rw [hg]; rfl
      obtain ⟨s1, e1, o1, i1⟩ := loops_fit hS hE hl k x (mput t.f2 1 s) (by omega) (hs.put 1 hsm) (fun v hv => by
        rw [seen_put hs.sorted] at hv
        by_cases e : v = t.f2
        · rw [e, ← msr_var σ S n hv1]; exact hlt
        · rw [if_neg e] at hv
          have := h1 v hv
          omega)
      have hlen1 := o1.len
      rw [e1]
      simp only [Bool.false_eq_true, if_false]
      rw [if_neg (by omega)]
      refine ⟨_, rfl, o1.put 2 hsm, fun v => ?_⟩
      rw [seen_put o1.sorted]
      by_cases e : v = t.f2
      · rw [if_pos e, e]
        exact ⟨(fun h => absurd h (by decide)), fun h => absurd h c2⟩
      · rw [if_neg e, i1 v, seen_put hs.sorted, if_neg e]

theorem some_bound : ∀ (l : List (Int × S24)), ∃ k, ∀ p ∈ l, msr σ S n (mkV p.1) < k ∧ nodes (sg σ p.2) < k
  | [] => ⟨0, fun p hp => by cases hp⟩
  | q :: l => by
    obtain ⟨k, hk⟩ := some_bound l
    refine ⟨k + msr σ S n (mkV q.1) + nodes (sg σ q.2) + 1, fun p hp => ?_⟩
    rcases List.mem_cons.1 hp with rfl | hp
    · omega
    · have := hk p hp; omega

theorem round_fit (hS : Fit σ S) (hE : Ends S n) (hl : S.length < 100000) {k : Nat} (hk : ∀ p ∈ S, msr σ S n (mkV p.1) < k) : RoundS S k false := by
  intro ord hno hmem
  have hgo : ∀ (l : List Int) (s : Seen), (∀ v ∈ l, v ∈ S.map (·.1)) → SeenOK S s → (∀ v, seenV s v ≠ 1) → ∃ s', anyP (loopsP S k) (l.map varT) s = some (false, s') := by
    intro l
    induction l with
    | nil => exact fun s _ _ _ => ⟨s, rfl⟩
    | cons v r ih =>
      intro s hm hs h1
      obtain ⟨p, hp, e⟩ := List.mem_map.1 (hm v (by simp))
      have hlt := hk p hp
      rw [e] at hlt
      obtain ⟨s1, e1, o1, i1⟩ := loops_fit hS hE hl k (varT v) s hlt hs (fun u hu => absurd hu (h1 u))
      obtain ⟨s2, e2⟩ := ih s1 (fun u hu => hm u (by simp [hu])) o1 (fun u hu => h1 u ((i1 u).1 hu))
      refine ⟨s2, ?_⟩
      rw [List.map_cons, anyP_cons, e1]
      simp only [Bool.false_eq_true, if_false]
      exact e2
  exact hgo ord [] (fun v hv => (hmem v).1 hv) ⟨List.Pairwise.nil, fun p hp => by cases hp⟩ (fun v hv => by cases hv)

theorem sh_bare {x : S24} (h : shT x = true) (h4 : x.f0 ≠ 4) : shT (bareT x) = true := by
  obtain ⟨kd, nm, nt, xs⟩ := x
  simp only at h4
  rw [bare_kind]
  rw [shT] at h
  by_cases h1 : kd = 1
  · rw [if_pos (.inl h1), shT, if_pos h1]; rw [if_pos h1] at h; exact h
  rw [if_neg h1] at h
  by_cases h2 : kd = 2
  · rw [if_pos (.inr h2), shT, if_neg h1, if_pos h2]
  rw [if_neg h2, if_neg h4] at h
  rw [if_neg (by omega), shT, if_neg h1, if_neg h2, if_neg h4]; exact h

theorem full_fit (hS : Fit σ S) {W : Nat} (hE : Ends S n) (hn : n ≤ W) : ∀ (F : Nat) (t : S24) (deep s : Int), nodes (sg σ t) < F → shT t = true → wfT t →
    ∃ q, fullS S W F t deep s = some q ∧ (q.2.1 = true → sg σ q.1 = sg σ t ∧ shT q.1 = true ∧ wfT q.1 ∧ q.2.2 = s + nodes q.1 ∧ q.2.2 ≤ 2000 ∧ deep + dpt q.1 ≤ 101)
  | 0, _, _, _, hk, _, _ => absurd hk (Nat.not_lt_zero _)
  | F + 1, t, deep, s, hk, ht, hw => by
    obtain ⟨x, v, ex⟩ := hE.at hn t 0
    obtain ⟨x1, x2, x3, -, -⟩ := walk_fit hS W t 0 x v ex ht hw
    rw [← x1] at hk ⊢
    rw [fullS, ex]
    simp only
    unfold genTo
    by_cases c1 : s + 1 > 2000 ∨ deep > 100
    · rw [if_pos c1]; exact ⟨_, rfl, fun h => by cases h⟩
    rw [if_neg c1]
    by_cases c4 : x.f0 ≠ 4
    · rw [if_pos c4]
      refine ⟨_, rfl, fun _ => ⟨by rw [sg_bare, if_neg c4], sh_bare x2 c4, wfT_bare x3, ?_, by simp only; omega, ?_⟩⟩
      · simp only; rw [nodes_no (by rw [bareT_kd]; exact c4)]; rfl
      · simp only; rw [dpt_no (by rw [bareT_kd]; exact c4)]; omega
    · rw [if_neg c4]
      obtain ⟨kd, nm, nt, xs⟩ := x
      obtain rfl : kd = 4 := by simp only at c4; omega
      rw [sg_eq, if_neg (by decide), if_pos rfl, nodes, if_pos rfl] at hk
      rw [shT, if_neg (by decide), if_neg (by decide), if_pos rfl] at x2
      simp only [Bool.and_eq_true, decide_eq_true_eq] at x2
      rw [wfT] at x3
      have hgo : ∀ (ys : List S24) (acc : List S24) (s : Int), (∀ a ∈ ys, a ∈ xs) → s ≤ 2000 →
          ∃ q, genLo (fullS S W F) ys (deep + 1) acc s = some q ∧ (q.2.1 = true → ∃ zs, q.1 = acc ++ zs ∧ zs.length = ys.length ∧ sgL σ zs = sgL σ ys ∧ shL zs = true ∧ wfL zs ∧ q.2.2 = s + nodesL zs ∧ q.2.2 ≤ 2000 ∧ deep + 1 + dptL zs ≤ 101) := by
        intro ys
        induction ys with
        | nil =>
          intro acc s _ hs
          refine ⟨_, genLo_nil _ _ _ _, fun _ => ⟨[], by simp, rfl, rfl, shL_nil, by rw [wfL]; trivial, ?_, hs, ?_⟩⟩
          · simp only [nodesL_nil]; omega
          · rw [dptL_nil]; omega
        | cons a r ih =>
          intro acc s hm hs
          have ha := hm a (by simp)
          have hna := (nodesL_mem (a := sg σ a) (xs := sgL σ xs) (by rw [sgL_map]; exact List.mem_map_of_mem ha)).1
          obtain ⟨q, e1, g1⟩ := full_fit hS hE hn F a (deep + 1) s (by omega) (shL_mem x2.1.2 ha) (wfL_mem x3.2 ha)
          rw [genLo_cons, e1]
          simp only
          by_cases hq : q.2.1 = true
          · rw [if_pos hq]
            obtain ⟨h1, h2, h3, h4, h5, h6⟩ := g1 hq
            obtain ⟨q2, e2, g2⟩ := ih (acc ++ [q.1]) q.2.2 (fun b hb => hm b (by simp [hb])) h5
            refine ⟨q2, e2, fun hq2 => ?_⟩
            obtain ⟨zs, z1, z2, z3, z4, z5, z6, z7, z8⟩ := g2 hq2
            refine ⟨q.1 :: zs, by rw [z1]; simp, by simp [z2], ?_, ?_, ?_, ?_, z7, ?_⟩
            · rw [sgL_map] at z3 ⊢
              rw [sgL_map] at z3 ⊢
              rw [List.map_cons, List.map_cons, h1, z3]
            · rw [shL_cons, h2, z4]; rfl
            · rw [wfL_cons]; exact ⟨h3, z5⟩
            · rw [z6, h4, nodesL_cons]; push_cast; omega
            · rw [dptL_cons]; omega
          · rw [if_neg hq]
            exact ⟨_, rfl, fun h => by cases h⟩
      obtain ⟨q, e1, g1⟩ := hgo xs [] (s + 1) (fun a h => h) (by omega)
      simp only
      rw [e1]
      simp only
      by_cases hq : q.2.1 = true
      · rw [if_pos hq]
        obtain ⟨zs, z1, z2, z3, z4, z5, z6, z7, z8⟩ := g1 hq
        rw [List.nil_append] at z1
        refine ⟨_, rfl, fun _ => ⟨?_, ?_, ?_, ?_, z7, ?_⟩⟩
        · simp only
          rw [z1, sg_eq, sg_eq, if_neg (by decide), if_pos rfl, if_neg (by decide), if_pos rfl, z3]
        · simp only
          rw [z1, shT, if_neg (by decide), if_neg (by decide), if_pos rfl, z4, z2]
          simp only [Bool.and_eq_true, decide_eq_true_eq]
          exact ⟨⟨x2.1.1, trivial⟩, x2.2⟩
        · simp only
          rw [z1, wfT]
          exact ⟨I64_zero, z5⟩
        · simp only
          rw [z1, nodes, if_pos rfl, z6]; push_cast; omega
        · simp only
          rw [z1, dpt, if_pos rfl]; omega
      · rw [if_neg hq]
        exact ⟨_, rfl, fun h => by cases h⟩

theorem binds_fit (hS : Fit σ S) {W F : Nat} (hE : Ends S n) (hn : n ≤ W) (hF : ∀ p ∈ S, nodes (sg σ p.2) < F) : ∀ (l : List (Int × S24)) (acc : List S50), (∀ p ∈ l, p ∈ S) →
    (∀ x ∈ acc, okT x.f1 = true ∧ wfT x.f1 ∧ I64 x.f0 ∧ sg σ x.f1 = σ x.f0) →
    ∃ o, bindsS S W F l acc = some o ∧ ∀ bs, o = some bs → ∀ x ∈ bs, okT x.f1 = true ∧ wfT x.f1 ∧ I64 x.f0 ∧ sg σ x.f1 = σ x.f0
  | [], acc, _, ha => ⟨_, rfl, fun bs e => by cases e; exact ha⟩
  | p :: r, acc, hm, ha => by
    have hp := hm p (by simp)
    obtain ⟨f1, f2, f3, f4, f5⟩ := hS.fit p.1 p.2 (mget_of_mem hS.sorted hp)
    obtain ⟨q, e1, g1⟩ := full_fit hS hE hn F p.2 1 0 (hF p hp) f2 f3
    rw [bindsS, e1]
    simp only
    by_cases hq : q.2.1 = true
    · rw [if_pos hq]
      obtain ⟨h1, h2, h3, h4, h5, h6⟩ := g1 hq
      refine binds_fit hS hE hn hF r _ (fun b hb => hm b (by simp [hb])) (fun x hx => ?_)
      rcases List.mem_append.1 hx with hx | hx
      · exact ha x hx
      · rw [List.mem_singleton.1 hx]
        have hnq : nodes q.1 ≤ 2000 := by omega
        have hdq : dpt q.1 ≤ 100 := by omega
        exact ⟨(okT_iff _).2 ⟨h2, hnq, hdq⟩, h3, f5, by simp only; rw [h1, f1]⟩
    · rw [if_neg hq]
      exact ⟨_, rfl, fun bs e => by cases e⟩
end

def resOf (o : Option (List S50)) : List S50 × Bool × Int := match o with | none => ([], false, 2) | some bs => (bs, true, 0)
/-- Right terms that some terms in the variables' places make the same are solved, and these are the solution's, further bound. -/
theorem solve_unifier {a b : S24} (ha : okT a = true) (hb : okT b = true) (wa : wfT a) (wb : wfT b) (σ : Int → S24) (he : sg σ a = sg σ b) (hn : nodes (sg σ a) ≤ 2000) :
    ∃ W k F res, SolveOK W 2002 k F a b res ∧ (res = ([], false, 2) ∨ ∃ bs, res = (bs, true, 0) ∧ ∀ x ∈ bs, okT x.f1 = true ∧ wfT x.f1 ∧ I64 x.f0 ∧ sg σ x.f1 = σ x.f0) := by
  obtain ⟨S, n, e, hnW, hE, hS⟩ := solve_fit (σ := σ) 2002 2002 1 [] [(a, b)] (by simp; omega) (by omega)
    (fun t l => by rw [walkS]; split <;> rfl) ⟨List.Pairwise.nil, fun v t h => by cases h⟩
    (fun p hp => by rw [List.mem_singleton.1 hp]; exact ⟨he, ⟨((okT_iff a).1 ha).1, wa⟩, ((okT_iff b).1 hb).1, wb⟩)
  have hl := (solveS_keeps 2002 2002 _ _ _ _ e List.Pairwise.nil).2
  simp only [List.length_nil] at hl
  obtain ⟨k, hk⟩ := some_bound (σ := σ) (S := S) (n := n) S
  obtain ⟨o, e2, g2⟩ := binds_fit hS hE hnW (F := k) (fun p hp => (hk p hp).2) S [] (fun p h => h) (fun x hx => by cases hx)
  refine ⟨2002, k, k, resOf o, ?_, ?_⟩
  · unfold SolveOK
    rw [ha, hb, if_neg (by decide)]
    refine ⟨S, true, e, ?_⟩
    rw [if_neg (by decide)]
    refine ⟨false, round_fit hS hE (by omega) (fun p hp => (hk p hp).1), ?_⟩
    rw [if_neg (by decide)]
    refine ⟨o, e2, ?_⟩
    cases o <;> rfl
  · cases o with
    | none => exact .inl rfl
    | some bs => exact .inr ⟨bs, rfl, g2 bs rfl⟩

end Go.Proofs.Ytpnkaggkedepeaa
