/- The walk of unify. -/
import Derived.Test.YtjhhacighfpdbaaHpC
import Derived.Deep.DeepCutAuto
namespace Go.Proofs.Ytjhhacighfpdbaa
set_option linter.unusedVariables false
open Go.RowKit Go.Maps Go.Proofs.YtjhhacighfpdbaaW.PrintWords Go.Proofs.YtjhhacighfpdbaaW.PrintLast Go.Proofs.YtjhhacighfpdbaaW.PrintMore Go.Proofs.Ytjhhacighfpdbaa.PHeapShares Go.Extern
attribute [local go_sem] max2_int min2_int max_two min_two

/-- What unify does. -/
def UPost (V : Int → Prop) (w : World) (hb : Nat) (S : Nat → Prop) (H : Hp) (a b : Nat) (e : Ending) (w' : World) : Prop :=
  ∃ (ok : Bool) (er : Int) (C' : List Cl) (N' : List Nt), e = .returned (.tuple #[.bool ok, .int .i64 er]) ∧ HpTo w hb S { H with C := C', N := N' } w' ∧ Noted H.C H.N C' N' ∧
    (ok = true → er = 0 ∧ ∃ σ, Uni V H.C C' a b σ) ∧ (ok = false → (er = 0 ∧ ∀ θ s t, Rep H.C a s → Rep H.C b t → sg θ s ≠ sg θ t) ∨ (er = 131 ∧ H.trail ≤ N'.length))

theorem two_new (w : World) (cs ds : Array Value) (t : TypeId) : ((w.alloc (.cells cs t)).alloc (.cells ds t)).drew.heap[w.heap.size]? = some (.cells cs t (0, 0)) ∧ ((w.alloc (.cells cs t)).alloc (.cells ds t)).drew.heap[w.heap.size + 1]? = some (.cells ds t (0, 0)) ∧ Below w.heap.size w ((w.alloc (.cells cs t)).alloc (.cells ds t)).drew := by
  refine ⟨blk_alloc (blk_new w _) _, ?_, below_drew (below_alloc (below_alloc (Below.refl _ _) _) _)⟩
  have := blk_new (w.alloc (.cells cs t)) (.cells ds t)
  rw [World.size_alloc] at this
  exact this

theorem upost_same {V : Int → Prop} {w w' : World} {hb : Nat} {S : Nat → Prop} {H : Hp} {a b : Nat} (hp : HpAt w' hb S H) (hf : Fs S w w') {t : S28} (ha : Rep H.C a t) (hb' : Rep H.C b t) : UPost V w hb S H a b (.returned (.tuple #[.bool true, .int .i64 0])) w' :=
  ⟨true, 0, H.C, H.N, rfl, hp.to hf, Noted.refl _ _, fun _ => ⟨rfl, mkV, Uni.refl V ha hb'⟩, fun h => (by cases h)⟩
theorem upost_no {V : Int → Prop} {w w' : World} {hb : Nat} {S : Nat → Prop} {H : Hp} {a b : Nat} (hp : HpAt w' hb S H) (hf : Fs S w w') (hno : ∀ θ s t, Rep H.C a s → Rep H.C b t → sg θ s ≠ sg θ t) : UPost V w hb S H a b (.returned (.tuple #[.bool false, .int .i64 0])) w' :=
  ⟨false, 0, H.C, H.N, rfl, hp.to hf, Noted.refl _ _, fun h => (by cases h), fun _ => .inl ⟨rfl, hno⟩⟩

theorem occ_nodes (θ : Int → S28) : ∀ (t : S28) (v : Int), v ∈ occT t → nodes (θ v) ≤ nodes (sg θ t) := by
  intro t
  induction hn : nodes t using Nat.strongRecOn generalizing t with
  | _ n ih =>
  obtain ⟨kd, nm, nt, xs⟩ := t
  intro v hv
  rw [occT] at hv
  by_cases h1 : kd = 1
  · rw [if_pos h1] at hv; simp at hv; subst hv
    rw [sg_eq, if_pos h1]; exact Nat.le_refl _
  rw [if_neg h1] at hv
  by_cases h4 : kd = 4
  · subst h4
    rw [if_pos rfl, occL_mem] at hv
    obtain ⟨a, ha, hv⟩ := hv
    have hlt : nodes a < n := by rw [← hn, nodes_eq4]; have := nodesL_mem ha; omega
    have := ih _ hlt a rfl v hv
    rw [sg_eq, if_neg (by decide), if_pos rfl, nodes_eq4, sgL_map]
    have := nodesL_mem (List.mem_map_of_mem (f := sg θ) ha)
    omega
  · rw [if_neg h4] at hv; cases hv
theorem occ_clash (θ : Int → S28) {nm : ByteArray} {ts : List S28} {v : Int} (hv : v ∈ occT ⟨4, nm, 0, ts⟩) : θ v ≠ sg θ ⟨4, nm, 0, ts⟩ := by
  intro h
  rw [occ_eq4, occL_mem] at hv
  obtain ⟨a, ha, hv⟩ := hv
  have h1 := occ_nodes θ a v hv
  rw [h, sg_eq4, nodes_eq4] at h1
  have := nodesL_mem (List.mem_map_of_mem (f := sg θ) ha)
  omega

/-- What binding a free cell comes to. -/
theorem upost_bind {V : Int → Prop} {w W w' : World} {hb : Nat} {S : Nat → Prop} {H : Hp} {a v b : Nat} {cv : Cl} {t : S28} {e : Ending} (hf : Fs S w W) (hI : HI H.C) (hcv : H.C[v]? = some cv) (hcv0 : cv.kd = 0) (ha : Walk H.C a v) (hr : Rep H.C b t) {b0 : Nat} (hb0 : Walk H.C b0 b) (hal : a < H.C.length) (hbl : b0 < H.C.length) (hVv : V ((v : Int) + 1)) (hVt : ∀ u ∈ occT t, V u)
    (h : BindPost W hb S H v b cv t e w') : (∃ (ok : Bool) (er : Int), e = .returned (.tuple #[.bool ok, .int .i64 er])) ∧ UPost V w hb S H a b0 e w' ∧ UPost V w hb S H b0 a e w' := by
  have hrep : Rep H.C v (mkV ((v : Int) + 1)) := .free v cv hcv hcv0
  have tov : ∀ s, Rep H.C a s → s = mkV ((v : Int) + 1) := fun s hs => (ha.rep hs).det hrep
  have tot : ∀ s, Rep H.C b0 s → s = t := fun s hs => (hb0.rep hs).det hr
  rcases h with ⟨rfl, h1, h4, ho⟩ | ⟨rfl, h1, h2⟩ | ⟨rfl, h1, h2, ho⟩
  · have hno : ∀ θ, sg θ (mkV ((v : Int) + 1)) ≠ sg θ t := fun θ => by
      obtain ⟨kd, nm, nt, xs⟩ := t
      simp only at h4
      subst h4
      have hn0 : nt = 0 := by
        have := hr.sgV
        rw [sg_eq, if_neg (by decide), if_pos rfl] at this
        simp only [S28.mk.injEq] at this
        exact this.2.2.1.symm
      subst hn0
      rw [sg_var]
      exact occ_clash θ ho
    refine ⟨⟨_, _, rfl⟩, ⟨false, 0, H.C, H.N, rfl, h1.after hf fun k hk => .inl hk, Noted.refl _ _, fun h => (by cases h), fun _ => .inl ⟨rfl, fun θ s u hs hu => ?_⟩⟩, ⟨false, 0, H.C, H.N, rfl, h1.after hf fun k hk => .inl hk, Noted.refl _ _, fun h => (by cases h), fun _ => .inl ⟨rfl, fun θ s u hs hu => ?_⟩⟩⟩
    · rw [tov s hs, tot u hu]; exact hno θ
    · rw [tov u hu, tot s hs]; exact (hno θ).symm
  · exact ⟨⟨_, _, rfl⟩, ⟨false, 131, H.C, H.N, rfl, h1.after hf fun k hk => .inl hk, Noted.refl _ _, fun h => (by cases h), fun _ => .inr ⟨rfl, h2⟩⟩, ⟨false, 131, H.C, H.N, rfl, h1.after hf fun k hk => .inl hk, Noted.refl _ _, fun h => (by cases h), fun _ => .inr ⟨rfl, h2⟩⟩⟩
  · have hu := (Uni.bind (V := V) hcv hcv0 hr ho hVv hVt).walked hI ha hb0 hal hbl
    have hnt := Noted.set (N := H.N) (d := refC b) hcv (by omega) rfl
    exact ⟨⟨_, _, rfl⟩, ⟨true, 0, _, _, rfl, h1.after hf fun k hk => .inl hk, hnt, fun _ => ⟨rfl, _, hu⟩, fun h => (by cases h)⟩, ⟨true, 0, _, _, rfl, h1.after hf fun k hk => .inl hk, hnt, fun _ => ⟨rfl, _, hu.symm⟩, fun h => (by cases h)⟩⟩

/-- Heads that differ can't be made the same. -/
theorem rep_clash {C : List Cl} {a b : Nat} {x y : Cl} {s t : S28} (θ : Int → S28) (hx : C[a]? = some x) (hy : C[b]? = some y) (hs : Rep C a s) (ht : Rep C b t) (hx0 : x.kd ≠ 0) (hx1 : x.kd ≠ 1) (hy0 : y.kd ≠ 0) (hy1 : y.kd ≠ 1) (h : sg θ s = sg θ t) :
    x.kd = y.kd ∧ x.nm = y.nm ∧ x.n = y.n ∧ x.ar = y.ar := by
  cases hs with
  | free _ c h2 hk2 => rw [hx] at h2; cases h2; omega
  | ref _ b c _ h2 hk2 => rw [hx] at h2; cases h2; omega
  | num _ c h2 hk2 hr hi hz =>
    rw [hx] at h2; cases h2
    rw [sg_num] at h
    cases ht with
    | free _ c h2 hk2 => rw [hy] at h2; cases h2; omega
    | ref _ b c _ h2 hk2 => rw [hy] at h2; cases h2; omega
    | num _ c h2 hk2' hr' hi' hz' =>
      rw [hy] at h2; cases h2
      rw [sg_num] at h
      simp only [S28.mk.injEq, true_and, and_true] at h
      exact ⟨by omega, by rw [hz, hz'], h, by omega⟩
    | atom _ c h2 hk2 => rw [sg_atom] at h; simp at h
    | comp _ f c ts h2 hk2 => rw [sg_eq4] at h; simp at h
  | atom _ c h2 hk2 hr hn hz =>
    rw [hx] at h2; cases h2
    rw [sg_atom] at h
    cases ht with
    | free _ c h2 hk2 => rw [hy] at h2; cases h2; omega
    | ref _ b c _ h2 hk2 => rw [hy] at h2; cases h2; omega
    | num _ c h2 hk2' hr' hi' hz' => rw [sg_num] at h; simp at h
    | atom _ c h2 hk2' hr' hn' hz' =>
      rw [hy] at h2; cases h2
      rw [sg_atom] at h
      simp only [S28.mk.injEq, true_and, and_true] at h
      exact ⟨by omega, h, by omega, by omega⟩
    | comp _ f c ts h2 hk2 => rw [sg_eq4] at h; simp at h
  | comp _ f c ts h2 hk2 ha hr h1 h8 hn hz hs =>
    rw [hx] at h2; cases h2
    rw [sg_eq4] at h
    cases ht with
    | free _ c h2 hk2 => rw [hy] at h2; cases h2; omega
    | ref _ b c _ h2 hk2 => rw [hy] at h2; cases h2; omega
    | num _ c h2 hk2' hr' hi' hz' => rw [sg_num] at h; simp at h
    | atom _ c h2 hk2' hr' hn' hz' => rw [sg_atom] at h; simp at h
    | comp _ f' c ts' h2 hk2' ha' hr' h1' h8' hn' hz' hs' =>
      rw [hy] at h2; cases h2
      rw [sg_eq4] at h
      simp only [S28.mk.injEq, true_and] at h
      have := congrArg List.length h.2
      simp at this
      exact ⟨by omega, h.1, by omega, by omega⟩
/-- Leaves with one head are one term. -/
theorem rep_leaf_same {C : List Cl} {a b : Nat} {x y : Cl} {s t : S28} (hx : C[a]? = some x) (hy : C[b]? = some y) (hs : Rep C a s) (ht : Rep C b t) (hx0 : x.kd ≠ 0) (hx1 : x.kd ≠ 1) (hx4 : x.kd ≠ 4) (hk : x.kd = y.kd) (hn : x.nm = y.nm) (hi : x.n = y.n) : s = t ∧ x.ar = 0 := by
  cases hs with
  | free _ c h2 hk2 => rw [hx] at h2; cases h2; omega
  | ref _ b c _ h2 hk2 => rw [hx] at h2; cases h2; omega
  | num _ c h2 hk2 hr hi' hz =>
    rw [hx] at h2; cases h2
    cases ht with
    | free _ c h2 hk2' => rw [hy] at h2; cases h2; omega
    | ref _ b c _ h2 hk2' => rw [hy] at h2; cases h2; omega
    | num _ c h2 hk2' hr' _ hz' => rw [hy] at h2; cases h2; exact ⟨by rw [hi], hr⟩
    | atom _ c h2 hk2' => rw [hy] at h2; cases h2; omega
    | comp _ f c ts h2 hk2' => rw [hy] at h2; cases h2; omega
  | atom _ c h2 hk2 hr _ hz =>
    rw [hx] at h2; cases h2
    cases ht with
    | free _ c h2 hk2' => rw [hy] at h2; cases h2; omega
    | ref _ b c _ h2 hk2' => rw [hy] at h2; cases h2; omega
    | num _ c h2 hk2' => rw [hy] at h2; cases h2; omega
    | atom _ c h2 hk2' => rw [hy] at h2; cases h2; exact ⟨by rw [hn], hr⟩
    | comp _ f c ts h2 hk2' => rw [hy] at h2; cases h2; omega
  | comp _ f c ts h2 hk2 => rw [hx] at h2; cases h2; omega

theorem bs_ne {s t : ByteArray} (h : s ≠ t) : (s.toList == t.toList) = false := by
  rw [beq_eq_false_iff_ne]
  intro e
  apply h
  rw [ByteArray.toList_eq, ByteArray.toList_eq] at e
  exact ByteArray.ext (Array.toList_inj.1 e)

/-- Arguments that can't be made the same: no more can the terms. -/
theorem unify_fail {V : Int → Prop} {C Ck : List Cl} {a b f f' k : Nat} {σ : Int → S28} {nm nm' : ByteArray} {ts ts' : List S28} (h : Arg V C Ck f f' k σ) (ha : Rep C a ⟨4, nm, 0, ts⟩) (hb : Rep C b ⟨4, nm', 0, ts'⟩) (hs : ∀ i (hi : i < ts.length), Rep C (f + i) ts[i]) (hs' : ∀ i (hi : i < ts'.length), Rep C (f' + i) ts'[i])
    (hl : ts.length = ts'.length) (hk : k < ts.length) (hno : ∀ θ s t, Rep Ck (f + k) s → Rep Ck (f' + k) t → sg θ s ≠ sg θ t) : ∀ θ s t, Rep C a s → Rep C b t → sg θ s ≠ sg θ t := by
  intro θ s t h1 h2 he
  rw [h1.det ha, h2.det hb, sg_eq4, sg_eq4] at he
  simp only [S28.mk.injEq, true_and] at he
  have hi : ∀ i (hi : i < ts.length), sg θ ts[i] = sg θ (ts'[i]'(by omega)) := fun i hi => by
    have h2 := congrArg (fun l => l[i]?) he.2
    simpa [List.getElem?_eq_getElem hi, List.getElem?_eq_getElem (show i < ts'.length by omega)] using h2
  have hm := h.mgu θ fun i hik s t hs1 ht1 => by
    rw [hs1.det (hs i (by omega)), ht1.det (hs' i (by omega))]
    exact hi i (by omega)
  refine hno θ _ _ (h.sol.rep _ _ (hs k hk)) (h.sol.rep _ _ (hs' k (by omega))) ?_
  rw [sg_sg, sg_sg, sg_congr _ θ _ (fun v _ => hm v), sg_congr _ θ _ (fun v _ => hm v)]
  exact hi k hk

/-- The last step of unify at compound terms. -/
theorem unify_close {V : Int → Prop} {w W w' : World} {hb a b a' b' f f' n p q : Nat} {S Sk : Nat → Prop} {H : Hp} {Ck : List Cl} {Nk : List Nt} {σ : Int → S28} {x y cp : Cl} {e : Ending} (hf : Fs S w W) (hS : ∀ k, Sk k → S k ∨ w.heap.size ≤ k) (hI : HI H.C) (h : Arg V H.C Ck f f' n σ) (hn : Noted H.C H.N Ck Nk)
    (ha : Walk H.C a a') (hb' : Walk H.C b b') (hal : a < H.C.length) (hbl : b < H.C.length) (hab : a' ≠ b') (hx : H.C[a']? = some x) (hy : H.C[b']? = some y) (hx4 : x.kd = 4) (hy4 : y.kd = 4) (hfx : x.a = f) (hfy : y.a = f') (hnx : x.ar = n) (hny : y.ar = n) (hnm : x.nm = y.nm)
    (hpq : p = a' ∧ q = b' ∨ p = b' ∧ q = a') (hcp : Ck[p]? = some cp) (hset : SetPost W hb Sk { H with C := Ck, N := Nk } p cp (refC q) e w') :
    (e = .returned (.bool false) ∧ UPost V w hb S H a b (.returned (.tuple #[.bool false, .int .i64 131])) w') ∨ (e = .returned (.bool true) ∧ UPost V w hb S H a b (.returned (.tuple #[.bool true, .int .i64 0])) w') := by
  obtain ⟨ka, kb, hd⟩ := h.done hI hab hx hy hx4 hy4 hfx hfy hnx hny hnm
  have hc4 : cp.kd ≠ 1 := by
    rcases hpq with ⟨rfl, _⟩ | ⟨rfl, _⟩
    · rw [ka] at hcp; cases hcp; omega
    · rw [kb] at hcp; cases hcp; omega
  rcases hset with ⟨h1, rfl, h3⟩ | ⟨h1, rfl, h3⟩
  · exact .inl ⟨rfl, false, 131, Ck, Nk, rfl, h3.after hf hS, hn, fun h => (by cases h), fun _ => .inr ⟨rfl, h1⟩⟩
  · refine .inr ⟨rfl, true, 0, _, _, rfl, h3.after hf hS, hn.trans (Noted.set (d := refC q) hcp hc4 rfl), fun _ => ⟨rfl, σ, ?_⟩, fun h => (by cases h)⟩
    exact (hd p q hpq).walked hI ha hb' hal hbl

set_option maxHeartbeats 8000000 in
set_option maxRecDepth 100000 in
theorem unify_any (hb : Nat) (V : Int → Prop) : ∀ (F n : Nat) (w : World) (S : Nat → Prop) (H : Hp) (a b : Nat) (s t : S28), freeN H.C = F → nodes s = n → HpAt w hb S H → HI H.C → Rep H.C a s → Rep H.C b t → (∀ v ∈ occT s, V v) → (∀ v ∈ occT t, V v) →
    Calls Try.prog 35 #[.pointer (some ⟨hb, 0, none⟩), .int .i64 a, .int .i64 b] w (UPost V w hb S H a b) := by
  intro F
  induction F using Nat.strongRecOn with
  | _ F ihF =>
  intro n
  induction n using Nat.strongRecOn with
  | _ n ihn =>
  intro w S H a b s t hF hn hp hI hs ht hVs hVt
  obtain ⟨a', ha⟩ := hs.walk
  obtain ⟨b', hb'⟩ := ht.walk
  have hsa := ha.rep hs
  have htb := hb'.rep ht
  obtain ⟨x, hx, hx1⟩ := ha.end_
  obtain ⟨y, hy, hy1⟩ := hb'.end_
  have hal := ha.lt
  have hbl := hb'.lt
  have hw1 := walk_any w hb S H hp ha
  have hw2 := walk_any w hb S H hp hb'
  have hp0 := hp
  obtain ⟨vc, vn, vm, hv⟩ := hp
  have hlc := hv.lc
  obtain ⟨g, cap, rfl, h1, h2, h3, h4, h5, h6⟩ := hv.cell hx
  obtain ⟨g', cap', hg', h1', h2', h3', h4', h5', h6'⟩ := hv.cell hy
  simp only [Value.slice.injEq, Option.some.injEq, Addr.mk.injEq, true_and, and_true] at hg'
  obtain ⟨rfl, rfl⟩ := hg'
  have c2 := hv.c2
  have d0 := h5.d0
  have d1 := h5.d1
  have d2 := h5.d2
  have d3 := h5.d3
  have d4 := h5.d4
  have q0 := h5'.d0
  have q1 := h5'.d1
  have q2 := h5'.d2
  have q3 := h5'.d3
  have q4 := h5'.d4
  have Hn := Lib.hid hn
  have HF := Lib.hid hF
  have HihF := Lib.hid ihF
  have Hihn := Lib.hid ihn
  clear hn hF ihF ihn
  go_enter Try.func35, Try.ntmps35
  go_wp2_with fail
  refine hw1.mono ?_
  rintro e w' ⟨rfl, rfl⟩
  go_wp2_with fail
  refine hw2.mono ?_
  rintro e w' ⟨rfl, rfl⟩
  go_upto_region 2 with (fail)
  have hsw := hv.Sl hb hv.Sh
  go_cut [8, 9] from 19 to 32 (fun p8 p9 w2 => ∃ u8 u9 : Nat, p8 = .pointer (some ⟨u8, 0, none⟩) ∧ p9 = .pointer (some ⟨u9, 0, none⟩) ∧ w.heap.size ≤ u8 ∧ w.heap.size ≤ u9 ∧
    w2.heap[u8]? = some (.cells #[.int .i64 x.kd, .string x.nm, .int .i64 x.n, .int .i64 x.a, .int .i64 x.ar] 66 (0, 0)) ∧ w2.heap[u9]? = some (.cells #[.int .i64 y.kd, .string y.nm, .int .i64 y.n, .int .i64 y.a, .int .i64 y.ar] 66 (0, 0)) ∧ Below w.heap.size w w2)
  case first =>
    go_region
    all_goals
      go_wp2
      go_meet
      case rel =>
        first
        | exact ⟨_, _, rfl, rfl, Nat.le_refl _, by omega, (two_new w #[.int .i64 x.kd, .string x.nm, .int .i64 x.n, .int .i64 x.a, .int .i64 x.ar] #[.int .i64 y.kd, .string y.nm, .int .i64 y.n, .int .i64 y.a, .int .i64 y.ar] 66).1, (two_new w #[.int .i64 x.kd, .string x.nm, .int .i64 x.n, .int .i64 x.a, .int .i64 x.ar] #[.int .i64 y.kd, .string y.nm, .int .i64 y.n, .int .i64 y.a, .int .i64 y.ar] 66).2.1, (two_new w _ _ _).2.2⟩
        | exact ⟨_, _, rfl, rfl, by omega, Nat.le_refl _, (two_new w #[.int .i64 y.kd, .string y.nm, .int .i64 y.n, .int .i64 y.a, .int .i64 y.ar] #[.int .i64 x.kd, .string x.nm, .int .i64 x.n, .int .i64 x.a, .int .i64 x.ar] 66).2.1, (two_new w #[.int .i64 y.kd, .string y.nm, .int .i64 y.n, .int .i64 y.a, .int .i64 y.ar] #[.int .i64 x.kd, .string x.nm, .int .i64 x.n, .int .i64 x.a, .int .i64 x.ar] 66).1, (two_new w _ _ _).2.2⟩
  case rest =>
  obtain ⟨u8, u9, rfl, rfl, k8, k9, kx, ky, hB2⟩ := hcut
  have hp2 := hp0.below hB2
  have hf2 : Fs S w wc := Fs.of_below hB2
  have x0 := blk_cell kx 0
  have x1 := blk_cell kx 1
  have x2 := blk_cell kx 2
  have x3 := blk_cell kx 3
  have x4 := blk_cell kx 4
  have y0 := blk_cell ky 0
  have y1 := blk_cell ky 1
  have y2 := blk_cell ky 2
  have y3 := blk_cell ky 3
  have y4 := blk_cell ky 4
  clear c2 d0 d1 d2 d3 d4 q0 q1 q2 q3 q4 hw1 hw2
  have hal0 := hs.lt
  have hbl0 := ht.lt
  by_cases hab : a' = b'
  · subst hab
    have hst : s = t := hsa.det htb
    have hfin := upost_same (V := V) hp2 hf2 hs (hst ▸ ht)
    have e1 : ((a' : Int) == (a' : Int)) = true := by simp
    go_wp2
    go_ret2
    exact hfin
  have e1 : ((a' : Int) == (b' : Int)) = false := by simp; omega
  by_cases hfx : x.kd = 0 ∧ (y.kd ≠ 0 ∨ b' < a')
  · have e2 : (x.kd == 0) = true := by simp; exact hfx.1
    have hbind := fun hyk => bind_any wc hb S H a' b' x y t hp2 hx hfx.1 hy hyk hab htb
    have hbd := hbind hy1
    have hVv : V ((a' : Int) + 1) := hVs _ (by rw [hsa.det (.free a' x hx hfx.1), occ_mkV]; simp)
    have hclose := fun e w' h => (upost_bind (V := V) (hb := hb) (e := e) (w' := w') hf2 hI hx hfx.1 ha htb hb' hal0 hbl0 hVv hVt h)
    by_cases e3 : (y.kd != 0) = true
    · clear hbind hfx hx1 hy1
      go_wp2_with fail
      refine hbd.mono ?_
      intro e w' hpost
      obtain ⟨⟨ok, er, rfl⟩, hfin, _⟩ := hclose _ _ hpost
      clear hpost hclose
      go_wp2
      go_ret2
      exact hfin
    · have e3 : (y.kd != 0) = false := by simpa using e3
      have e4 : decide ((b' : Int) < (a' : Int)) = true := decide_eq_true (by rcases hfx.2 with h | h; simp at e3; exact absurd e3 h; omega)
      have e5 : b' < a' := by simpa using e4
      clear hbind hfx hx1 hy1
      go_wp2_with fail
      refine hbd.mono ?_
      intro e w' hpost
      obtain ⟨⟨ok, er, rfl⟩, hfin, _⟩ := hclose _ _ hpost
      clear hpost hclose
      go_wp2
      go_ret2
      exact hfin
  by_cases hfy : y.kd = 0
  · have e7 : (y.kd == 0) = true := by simp; exact hfy
    have hbd := bind_any wc hb S H b' a' y x s hp2 hy hfy hx hx1 (fun e => hab e.symm) hsa
    have hVv : V ((b' : Int) + 1) := hVt _ (by rw [htb.det (.free b' y hy hfy), occ_mkV]; simp)
    have hclose := fun e w' h => (upost_bind (V := V) (hb := hb) (e := e) (w' := w') hf2 hI hy hfy hb' hsa ha hbl0 hal0 hVv hVs h)
    by_cases hx0 : x.kd = 0
    · have e2 : (x.kd == 0) = true := by simp; exact hx0
      have e3 : (y.kd != 0) = false := by simp; exact hfy
      have e5 : ¬ b' < a' := fun h => hfx ⟨hx0, .inr h⟩
      have e4 : decide ((b' : Int) < (a' : Int)) = false := decide_eq_false (by omega)
      clear hfx hx1 hy1 hx0 hfy
      go_wp2_with fail
      refine hbd.mono ?_
      intro e w' hpost
      obtain ⟨⟨ok, er, rfl⟩, _, hfin⟩ := hclose _ _ hpost
      clear hpost hclose
      go_wp2
      go_ret2
      exact hfin
    · have e2 : (x.kd == 0) = false := by simp; exact hx0
      clear hfx hx1 hy1 hx0 hfy
      go_wp2_with fail
      refine hbd.mono ?_
      intro e w' hpost
      obtain ⟨⟨ok, er, rfl⟩, _, hfin⟩ := hclose _ _ hpost
      clear hpost hclose
      go_wp2
      go_ret2
      exact hfin
  have hx0 : x.kd ≠ 0 := fun h => hfx ⟨h, .inl hfy⟩
  have e2 : (x.kd == 0) = false := by simp; exact hx0
  have e7 : (y.kd == 0) = false := by simp; exact hfy
  have hclash := fun θ s' t' (h1 : Rep H.C a s') (h2 : Rep H.C b t') (h : sg θ s' = sg θ t') => rep_clash θ hx hy (ha.rep h1) (hb'.rep h2) hx0 hx1 hfy hy1 h
  by_cases hsame : x.kd = y.kd ∧ x.nm = y.nm ∧ x.n = y.n ∧ x.ar = y.ar
  rotate_left
  · have hfin := upost_no (V := V) hp2 hf2 (fun θ s' t' h1 h2 h => hsame (hclash θ s' t' h1 h2 h))
    clear hclash
    by_cases g1 : x.kd = y.kd
    · by_cases g2 : x.nm = y.nm
      · by_cases g3 : x.n = y.n
        · have g4 : (x.ar != y.ar) = true := by simp; exact fun h => hsame ⟨g1, g2, g3, h⟩
          have f1 : (x.kd != y.kd) = false := by simp; exact g1
          have f2 : (x.nm.toList == y.nm.toList) = true := by simp [g2]
          have f2' : (x.nm.toList != y.nm.toList) = false := by simp [g2]
          have f3 : (x.n != y.n) = false := by simp; exact g3
          clear hfx hx1 hy1 hx0 hfy hsame g1 g2 g3
          go_wp2
          go_ret2
          exact hfin
        · have f3 : (x.n != y.n) = true := by simp; exact g3
          have f1 : (x.kd != y.kd) = false := by simp; exact g1
          have f2 : (x.nm.toList == y.nm.toList) = true := by simp [g2]
          have f2' : (x.nm.toList != y.nm.toList) = false := by simp [g2]
          clear hfx hx1 hy1 hx0 hfy hsame g1 g2 g3
          go_wp2
          go_ret2
          exact hfin
      · have f1 : (x.kd != y.kd) = false := by simp; exact g1
        have f2 := bs_ne g2
        have f2' : (x.nm.toList != y.nm.toList) = true := by simpa using f2
        clear hfx hx1 hy1 hx0 hfy hsame g1 g2
        go_wp2
        go_ret2
        exact hfin
    · have f1 : (x.kd != y.kd) = true := by simp; exact g1
      clear hfx hx1 hy1 hx0 hfy hsame g1
      go_wp2
      go_ret2
      exact hfin
  obtain ⟨g1, g2, g3, g4⟩ := hsame
  have f1 : (x.kd != y.kd) = false := by simp; exact g1
  have f2 : (x.nm.toList == y.nm.toList) = true := by simp [g2]
  have f2' : (x.nm.toList != y.nm.toList) = false := by simp [g2]
  have f3 : (x.n != y.n) = false := by simp; exact g3
  have f4 : (x.ar != y.ar) = false := by simp; exact g4
  by_cases h4c : x.kd = 4
  rotate_left
  · obtain ⟨hst, har⟩ := rep_leaf_same hx hy hsa htb hx0 hx1 h4c g1 g2 g3
    have hfin := upost_same (V := V) hp2 hf2 hs (hst ▸ ht)
    have e8 : (x.kd == 4) = false := by simp; exact h4c
    have e9 : decide ((0 : Int) < x.ar) = false := decide_eq_false (by omega)
    clear hclash hfx hx1 hy1 hx0 hfy g1 g2 g3 g4 h4c har hst
    go_wp2
    go_loop [96] (fun i => i = .int .i64 0) (fun _ => 0)
    case atStart => rfl
    case round =>
      subst hrel
      go_wp2
      go_ret2
      exact hfin
  have e8 : (x.kd == 4) = true := by simp; exact h4c
  obtain ⟨f, ts, hfa, har, hl1, hl8, hnm, rfl, hargs, -⟩ := hsa.inv4 hx h4c
  obtain ⟨f', ts', hfa', har', hl1', hl8', hnm', rfl, hargs', -⟩ := htb.inv4 hy (g1 ▸ h4c)
  have hll : ts.length = ts'.length := by omega
  have hny : y.ar = ts.length := by omega
  have hSu8 : ¬ S u8 := fun h => by have := hv.Sl _ h; omega
  have hSu9 : ¬ S u9 := fun h => by have := hv.Sl _ h; omega
  have Hg1 := Lib.hid g1
  have Hg2 := Lib.hid g2
  have Hfa := Lib.hid hfa
  have Hfa' := Lib.hid hfa'
  have Har := Lib.hid har
  have Hny := Lib.hid hny
  have H4 := Lib.hid h4c
  have Hll := Lib.hid hll
  clear hclash hfx hx1 hy1 hx0 hfy g1 g2 g3 g4 h4c har hfa hfa' har' hny hll
  go_wp2
  go_loopw [96] (fun i wr => ∃ (k : Nat) (Ck : List Cl) (Nk : List Nt) (Sk : Nat → Prop) (σ : Int → S28), k ≤ ts.length ∧ i = .int .i64 k ∧ HpAt wr hb Sk { H with C := Ck, N := Nk } ∧ Fs S w wr ∧ (∀ j, Sk j → S j ∨ w.heap.size ≤ j) ∧ ¬ Sk u8 ∧ ¬ Sk u9 ∧ Noted H.C H.N Ck Nk ∧ Arg V H.C Ck f f' k σ ∧
    wr.heap[u8]? = some (.cells #[.int .i64 x.kd, .string x.nm, .int .i64 x.n, .int .i64 x.a, .int .i64 x.ar] 66 (0, 0)) ∧ wr.heap[u9]? = some (.cells #[.int .i64 y.kd, .string y.nm, .int .i64 y.n, .int .i64 y.a, .int .i64 y.ar] 66 (0, 0))) (fun i _ => ts.length - (intOf i).toNat)
  case atStart => exact ⟨0, H.C, H.N, S, mkV, Nat.zero_le _, rfl, hp2, hf2, fun j h => .inl h, hSu8, hSu9, Noted.refl _ _, Arg.zero V H.C f f', kx, ky⟩
  case round =>
    clear x0 x1 x2 x3 x4 y0 y1 y2 y3 y4 kx ky hp2 hf2 hB2
    obtain ⟨k, Ck, Nk, Sk, σ, hk, rfl, hpk, hfk, hSk, hn8, hn9, hnk, hA, kx, ky⟩ := hrel
    have x0 := blk_cell kx 0
    have x3 := blk_cell kx 3
    have x4 := blk_cell kx 4
    have y3 := blk_cell ky 3
    have hlen := hA.sol.len
    by_cases hlt : k < ts.length
    · have hlt' : k < ts'.length := by have := Hll.out; omega
      have e9 : decide ((k : Int) < x.ar) = true := decide_eq_true (by have := Har.out; omega)
      have hra := hA.sol.rep _ _ (hargs k hlt)
      have hrb := hA.sol.rep _ _ (hargs' k hlt')
      have hVa : ∀ v ∈ occT (sg σ ts[k]), V v := occ_sg σ V (hargs k hlt) (fun v hv => hVs v (by rw [occ_eq4, occL_mem]; exact ⟨_, List.getElem_mem hlt, hv⟩)) hA.sol.rng
      have hVb : ∀ v ∈ occT (sg σ ts'[k]), V v := occ_sg σ V (hargs' k hlt') (fun v hv => hVt v (by rw [occ_eq4, occL_mem]; exact ⟨_, List.getElem_mem hlt', hv⟩)) hA.sol.rng
      have hcall : Calls Try.prog 35 #[.pointer (some ⟨hb, 0, none⟩), .int .i64 ((f + k : Nat) : Int), .int .i64 ((f' + k : Nat) : Int)] wr (UPost V wr hb Sk { H with C := Ck, N := Nk } (f + k) (f' + k)) := by
        rcases hA.sol.fewer with h | ⟨h, hσ⟩
        · exact HihF.out (freeN Ck) (by have := HF.out; omega) _ wr Sk _ _ _ _ _ rfl rfl hpk (hA.sol.HI hI) hra hrb hVa hVb
        · refine Hihn.out (nodes (sg σ ts[k])) ?_ wr Sk _ _ _ _ _ (by have := HF.out; show freeN Ck = F; omega) rfl hpk (hA.sol.HI hI) hra hrb hVa hVb
          have := Hn.out
          rw [nodes_eq4] at this
          rw [hσ, (hargs k hlt).sgV]
          have := nodesL_mem (List.getElem_mem hlt)
          omega
      have ea : (((f + k : Nat) : Nat) : Int) = x.a + (k : Int) := by have := Hfa.out; push_cast; omega
      have eb : (((f' + k : Nat) : Nat) : Int) = y.a + (k : Int) := by have := Hfa'.out; push_cast; omega
      have ba : x.a + (k : Int) ≤ 70000 ∧ 0 ≤ x.a + (k : Int) := by have := hra.lt; omega
      have bb : y.a + (k : Int) ≤ 70000 ∧ 0 ≤ y.a + (k : Int) := by have := hrb.lt; omega
      rw [ea, eb] at hcall
      clear ea eb
      go_wp2_with fail
      refine hcall.mono ?_
      rintro e w8 ⟨ok, er, C8, N8, rfl, ⟨S8, hp8, hf8, hS8⟩, hn8', hyes, hno⟩
      have hf88 := hfk.trans hf8 hSk
      have hSS : ∀ j, S8 j → S j ∨ w.heap.size ≤ j := fun j hj => by
        rcases hS8 j hj with h | h
        · exact hSk j h
        · exact .inr (Nat.le_trans hfk.size h)
      have kx8 := hf8.blk kx hn8
      have ky8 := hf8.blk ky hn9
      have hm8 : ¬ S8 u8 := fun h => by rcases hS8 _ h with h | h; exact hn8 h; have := blk_lt kx; omega
      have hm9 : ¬ S8 u9 := fun h => by rcases hS8 _ h with h | h; exact hn9 h; have := blk_lt ky; omega
      cases ok with
      | true =>
        obtain ⟨_, τ, hu⟩ := hyes rfl
        have hA8 := hA.step hI hu
        clear hyes hno hcall
        go_wp2
        go_roundw
        case measure => simp [intOf]; omega
        case rel => exact ⟨k + 1, C8, N8, S8, _, by omega, by go_num, hp8, hf88, hSS, hm8, hm9, hnk.trans hn8', hA8, kx8, ky8⟩
      | false =>
        have hfin : UPost V w hb S H a b (.returned (.tuple #[.bool false, .int .i64 er])) w8 := ⟨false, er, C8, N8, rfl, ⟨S8, hp8, hf88, hSS⟩, hnk.trans hn8', fun h => (by cases h), fun _ => by
          rcases hno rfl with ⟨h1, h2⟩ | h
          · exact .inl ⟨h1, unify_fail hA hs ht hargs hargs' Hll.out hlt h2⟩
          · exact .inr h⟩
        clear hyes hno hcall
        go_wp2
        go_ret2
        exact hfin
    · obtain rfl : k = ts.length := by omega
      have e9 : decide ((ts.length : Int) < x.ar) = false := decide_eq_false (by have := Har.out; omega)
      obtain ⟨ka, kb, -⟩ := hA.done hI hab hx hy H4.out (by rw [← Hg1.out]; exact H4.out) Hfa.out Hfa'.out Har.out Hny.out Hg2.out
      have hcl := fun p q cp hpq hcp e w' h => unify_close (V := V) (hb := hb) (p := p) (q := q) (cp := cp) (e := e) (w' := w') hfk hSk hI hA hnk ha hb' hal0 hbl0 hab hx hy H4.out (by rw [← Hg1.out]; exact H4.out) Hfa.out Hfa'.out Har.out Hny.out Hg2.out hpq hcp h
      by_cases hlt2 : a' < b'
      · have hset : Calls Try.prog 55 #[.pointer (some ⟨hb, 0, none⟩), .int .i64 b', .agg #[.int .i64 1, .string ⟨#[]⟩, .int .i64 0, .int .i64 a', .int .i64 0]] wr _ := set_any wr hb Sk _ hpk b' y (refC a') kb
        have hcl2 := fun e w' h => hcl b' a' y (.inr ⟨rfl, rfl⟩) kb e w' h
        have m1 : (if (a' : Int) < (b' : Int) then (b' : Int) else a') = b' := if_pos (by omega)
        have m2 : (if (b' : Int) < (a' : Int) then (b' : Int) else a') = a' := if_neg (by omega)
        have m3 : ¬ b' < a' := by omega
        clear hcl ka kb
        go_wp2_with fail
        refine hset.mono ?_
        intro e w' hpost
        rcases hcl2 _ _ hpost with ⟨rfl, hfin⟩ | ⟨rfl, hfin⟩
        · clear hcl2 hpost hset
          go_wp2
          go_ret2
          exact hfin
        · clear hcl2 hpost hset
          go_wp2
          go_ret2
          exact hfin
      · have hlt3 : b' < a' := by omega
        have hset : Calls Try.prog 55 #[.pointer (some ⟨hb, 0, none⟩), .int .i64 a', .agg #[.int .i64 1, .string ⟨#[]⟩, .int .i64 0, .int .i64 b', .int .i64 0]] wr _ := set_any wr hb Sk _ hpk a' x (refC b') ka
        have hcl2 := fun e w' h => hcl a' b' x (.inl ⟨rfl, rfl⟩) ka e w' h
        clear hcl ka kb
        go_wp2_with fail
        refine hset.mono ?_
        intro e w' hpost
        rcases hcl2 _ _ hpost with ⟨rfl, hfin⟩ | ⟨rfl, hfin⟩
        · clear hcl2 hpost hset
          go_wp2
          go_ret2
          exact hfin
        · clear hcl2 hpost hset
          go_wp2
          go_ret2
          exact hfin

end Go.Proofs.Ytjhhacighfpdbaa
