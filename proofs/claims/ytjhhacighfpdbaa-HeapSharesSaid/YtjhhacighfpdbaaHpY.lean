/- The document's Variant, out of the texts of the term package. -/
import Derived.Test.YtjhhacighfpdbaaHpW
namespace Go.Proofs.Ytjhhacighfpdbaa
set_option linter.unusedVariables false
open Go.RowKit Go.Maps Go.Proofs.YtjhhacighfpdbaaW.PrintWords Go.Proofs.YtjhhacighfpdbaaW.PrintLast Go.Proofs.YtjhhacighfpdbaaW.PrintMore Go.Proofs.Ytjhhacighfpdbaa.PHeapShares Go.Extern

abbrev Sm := List (Int × S28)
theorem info89 : (Try.prog.info? 89).map (fun i => (i.zero, i.size, i.bytes)) = some (some (.agg #[.int .i64 0, .int .i64 0, .string ⟨#[]⟩, .int .i64 0, .slice none 0 0]), 5, 64) := by kernel_rfl

/-! From TmA. -/

/-! From TmB. -/

/-! From TmC. -/

/-! From TmD. -/

/-! From IMap. -/
section
variable {α : Type}
end

/-! From TmM. -/
/-- A term as a value: where its arguments lie, and the room. -/
abbrev Tv := S28 × Option Addr × Nat
abbrev Tm := List (Int × Tv)

/-! From TmG. -/
theorem wfT_int {t : S28} (h : wfT t) : I64 t.f2 := by
  obtain ⟨kd, nm, nt, xs⟩ := t
  rw [wfT] at h
  exact h.1
mutual
/-- A term with bound terms put in. -/
def putT (f : Int → Option S28) : S28 → Int → Int → S28 × Bool × Int
  | ⟨kd, nm, nt, xs⟩, deep, s =>
    if kd = 1 then (match f nt with | some x => cpT x deep s | none => cpT ⟨kd, nm, nt, xs⟩ deep s)
    else if s + 1 > 2000 ∨ deep > 100 then (z28, false, s + 1)
    else if kd ≠ 4 then (bareT ⟨kd, nm, nt, xs⟩, true, s + 1)
    else
      let r := putL f xs (deep + 1) [] (s + 1)
      if r.2.1 = true then (⟨4, nm, 0, r.1⟩, true, r.2.2) else (z28, false, r.2.2)
def putL (f : Int → Option S28) : List S28 → Int → List S28 → Int → List S28 × Bool × Int
  | [], deep, acc, s => (acc, true, s)
  | a :: r, deep, acc, s =>
    let q := putT f a deep s
    if q.2.1 = true then putL f r deep (acc ++ [q.1]) q.2.2 else ([], false, q.2.2)
end
theorem putL_nil (f : Int → Option S28) (deep : Int) (acc : List S28) (s : Int) : putL f [] deep acc s = (acc, true, s) := by rw [putL]
theorem putL_cons (f : Int → Option S28) (a : S28) (r : List S28) (deep : Int) (acc : List S28) (s : Int) : putL f (a :: r) deep acc s = if (putT f a deep s).2.1 = true then putL f r deep (acc ++ [(putT f a deep s).1]) (putT f a deep s).2.2 else ([], false, (putT f a deep s).2.2) := by rw [putL]


/-! From TmH. -/

/-! From TmJ. -/
/-- All terms of a map lie in w0. -/
def TmIn (w0 : World) (L : Tm) : Prop := ∀ k tv, mget L k = some tv → Kd.C k28 w0 tv.2.1 tv.1.f3.length tv.1.f3 ∧ tv.1.f3.length ≤ tv.2.2 ∧ wfT tv.1
def fnT (L : Tm) (k : Int) : Option S28 := (mget L k).map (·.1)


/-! From TmK. -/
theorem ints_rd {w : World} {A : Option Addr} {n : Nat} {xs : List Int} (h : Kd.C (Kd.int .i64) w A n xs) (k : Nat) (hk : k < xs.length) :
    ∃ ad, A = some ad ∧ w.cell? (ad.add k) = some (.int .i64 xs[k]) := by
  have h1 := h.1
  obtain ⟨ad, e, hx⟩ := Kd.at_int h (k : Int) (by omega) (by omega)
  refine ⟨ad, e, ?_⟩
  simpa [rd, List.getD_eq_getElem?_getD, List.getElem?_eq_getElem hk] using hx

/-- The variables vs stand for the variables from a number on. -/
def renM : List Int → Int → Tm → Tm
  | [], _, L => L
  | v :: r, n, L => renM r (n + 1) (mput v (⟨1, ⟨#[]⟩, n, []⟩, none, 0) L)
/-- What Rename answers. -/
def renT (t : S28) (n : Int) : S28 × Int × Int :=
  if okT t = false then (z28, 0, 70)
  else if n < 1 ∨ n > 4611686018427387904 then (z28, 0, 1)
  else ((putT (fnT (renM (varsT t []) n [])) t 1 0).1, n + (varsT t []).length, 0)

/-- A map of variables. -/
def VarsM (L : Tm) : Prop := ∀ k tv, mget L k = some tv → tv.1.f3 = [] ∧ tv.2.1 = none ∧ wfT tv.1
theorem VarsM.at {L : Tm} (h : VarsM L) (w0 : World) : TmIn w0 L := fun k tv hk => by
  obtain ⟨h1, h2, h3⟩ := h k tv hk
  rw [h1, h2]
  exact ⟨Kd.C_nil _ _, Nat.zero_le _, h3⟩
theorem renM_vars : ∀ (vs : List Int) (n : Int) (L : Tm), VarsM L → 1 ≤ n → n + vs.length ≤ 9223372036854775807 → VarsM (renM vs n L)
  | [], n, L, h, _, _ => h
  | v :: r, n, L, h, h1, h2 => by
    simp only [List.length_cons] at h2
    push_cast at h2
    refine renM_vars r (n + 1) _ ?_ (by omega) (by omega)
    intro k tv hk
    by_cases hkv : k = v
    · subst hkv
      have hm := mget_mem hk
      rcases mem_mput.1 hm with he | ⟨_, hne⟩
      · cases he
        refine ⟨rfl, rfl, ?_⟩
        rw [wfT, wfL_nil]
        exact ⟨⟨by omega, by omega⟩, trivial⟩
      · exact absurd rfl hne
    · rw [mget_mput_other hkv] at hk
      exact h k tv hk

mutual
theorem varsT_i64 : ∀ (t : S28) (out : List Int), wfT t → (∀ x ∈ out, I64 x) → ∀ x ∈ varsT t out, I64 x
  | ⟨kd, nm, nt, xs⟩, out, hw, ho => by
    rw [wfT] at hw
    unfold varsT
    by_cases h1 : kd = 1
    · rw [if_pos h1]
      split
      · exact ho
      · intro x hx
        rcases List.mem_append.1 hx with hx | hx
        · exact ho x hx
        · rw [List.mem_singleton.1 hx]; exact hw.1
    rw [if_neg h1]
    by_cases h4 : kd = 4
    · rw [if_pos h4]; exact varsL_i64 xs out hw.2 ho
    · rw [if_neg h4]; exact ho
theorem varsL_i64 : ∀ (xs : List S28) (out : List Int), wfL xs → (∀ x ∈ out, I64 x) → ∀ x ∈ varsL xs out, I64 x
  | [], out, _, ho => by rw [varsL_nil]; exact ho
  | a :: r, out, hw, ho => by
    rw [varsL_cons]
    rw [wfL_cons] at hw
    exact varsL_i64 r _ hw.2 (varsT_i64 a out hw.1 ho)
end

/-! From TmL. -/
/-- Are two right terms variants? -/
def variantT (a b : S28) : Bool := okT a && (okT b && decide (ordT (renT a 1).1 (renT b 1).1 = 0))

/-! From TmN. -/
theorem Cb_rd {w : World} {A : Option Addr} {n : Nat} {xs : List S89} (h : Kd.C k89 w A n xs) (k : Nat) (hk : k < xs.length) (hn : n = xs.length) :
    ∃ ad A4 c4, A = some ad ∧ w.cell? (ad.add (k * 5)) = some (.int .i64 xs[k].f0) ∧ w.cell? ⟨(ad.add (k * 5)).block, (ad.add (k * 5)).off + 1, none⟩ = some (.int .i64 xs[k].f1.f0) ∧
      w.cell? ⟨(ad.add (k * 5)).block, (ad.add (k * 5)).off + 2, none⟩ = some (.string xs[k].f1.f1) ∧ w.cell? ⟨(ad.add (k * 5)).block, (ad.add (k * 5)).off + 3, none⟩ = some (.int .i64 xs[k].f1.f2) ∧
      w.cell? ⟨(ad.add (k * 5)).block, (ad.add (k * 5)).off + 4, none⟩ = some (.slice A4 xs[k].f1.f3.length c4) ∧ xs[k].f1.f3.length ≤ c4 ∧ Kd.C k28 w A4 xs[k].f1.f3.length xs[k].f1.f3 := by
  obtain ⟨ad, A3, c3, e, y0, y1, y2, y3, y4, l3, g3⟩ := at_T89 h (k : Int) (by omega) (by omega)
  have hrd : rd_T89 xs (k : Int) = xs[k] := by simp [rd_T89, List.getD_eq_getElem?_getD, List.getElem?_eq_getElem hk]
  simp only [Int.toNat_natCast, hrd] at y0 y1 y2 y3 y4 l3 g3
  exact ⟨ad, A3, c3, e, y0, y1, y2, y3, y4, l3, g3⟩


/-! From TmP. -/

/-! From TmPa. -/
mutual
theorem putT_spec (f : Int → Option S28) : ∀ (t : S28) (deep s : Int), Cut deep s (subT (fun v => (f v).map nrm) t) (putT f t deep s)
  | ⟨kd, nm, nt, xs⟩, deep, s => by
    unfold putT
    by_cases h0 : kd = 1
    · subst h0
      rw [if_pos rfl, subT, if_pos rfl]
      cases hf : f nt with
      | some x => exact cpT_spec x deep s
      | none =>
        have := cpT_spec ⟨1, nm, nt, xs⟩ deep s
        unfold nrm at this
        rw [subT, if_pos rfl] at this
        exact this
    rw [if_neg h0]
    by_cases h1 : s + 1 > 2000 ∨ deep > 100
    · rw [if_pos h1]; exact cut_deep _ h1
    rw [if_neg h1]
    by_cases h2 : kd ≠ 4
    · rw [if_pos h2, subT, if_neg h0, if_neg h2]
      exact cut_leaf (by rw [bareT_kd]; exact h2) h1
    · rw [if_neg h2]
      obtain rfl : kd = 4 := by omega
      rw [subT, if_neg (by decide), if_pos rfl]
      exact cut_comp h1 (putL_spec f xs (deep + 1) [] (s + 1) (by omega) (by omega))
theorem putL_spec (f : Int → Option S28) : ∀ (xs : List S28) (deep : Int) (acc : List S28) (s : Int), s ≤ 2000 → deep ≤ 101 → CutL deep s (subL (fun v => (f v).map nrm) xs) (putL f xs deep acc s) acc
  | [], deep, acc, s, hs, hd => by rw [putL_nil, subL_nil]; exact cutL_nil hs hd acc
  | a :: r, deep, acc, s, hs, hd => by
    rw [putL_cons, subL_cons]
    have ha := putT_spec f a deep s
    exact cutL_cons ha (fun h => by rw [(ha.val h).2]; exact putL_spec f r deep _ _ (ha.ok.1 h).1 hd)
end

/-! From TmPb. -/

/-! From TmPc. -/
theorem fold_map (g : Int → Int) : ∀ (l out : List Int), (∀ x ∈ out ++ l, ∀ y ∈ out ++ l, g x = g y → x = y) → (l.map g).foldl addv (out.map g) = (l.foldl addv out).map g
  | [], out, _ => rfl
  | v :: l, out, h => by
    rw [List.map_cons, List.foldl_cons, List.foldl_cons]
    have e : addv (out.map g) (g v) = (addv out v).map g := by
      unfold addv
      by_cases hv : v ∈ out
      · rw [if_pos hv, if_pos (List.mem_map_of_mem hv)]
      · rw [if_neg hv, if_neg, List.map_append]; rfl
        intro hm
        obtain ⟨x, hx, he⟩ := List.mem_map.1 hm
        exact hv (h x (by simp [hx]) v (by simp) he ▸ hx)
    rw [e]
    have hs : ∀ x, x ∈ addv out v ++ l → x ∈ out ++ v :: l := by
      intro x hx
      simp only [List.mem_append, mem_addv, List.mem_cons] at hx ⊢
      rcases hx with (h | h) | h
      · exact .inl h
      · exact .inr (.inl h)
      · exact .inr (.inr h)
    exact fold_map g l _ (fun x hx y hy => h x (hs x hx) y (hs y hy))
/-- What a variable of some is called from a number on. -/
def rnm : List Int → Int → Int → Option Int
  | [], _, _ => none
  | u :: r, n, v => if v = u then some n else rnm r (n + 1) v
theorem rnm_none : ∀ (vs : List Int) (n v : Int), v ∉ vs → rnm vs n v = none
  | [], _, _, _ => rfl
  | u :: r, n, v, h => by
    rw [rnm, if_neg (fun e => h (by rw [e]; simp)), rnm_none r _ _ (fun e => h (by simp [e]))]
theorem rnm_some : ∀ (vs : List Int) (n v : Int), v ∈ vs → ∃ k, rnm vs n v = some k ∧ n ≤ k ∧ k < n + vs.length
  | [], _, _, h => by simp at h
  | u :: r, n, v, h => by
    rw [rnm]
    by_cases e : v = u
    · rw [if_pos e]; exact ⟨n, rfl, Int.le_refl _, by simp only [List.length_cons]; push_cast; omega⟩
    · rw [if_neg e]
      obtain ⟨k, h1, h2, h3⟩ := rnm_some r (n + 1) v ((List.mem_cons.1 h).resolve_left e)
      exact ⟨k, h1, by omega, by simp only [List.length_cons]; push_cast; omega⟩
theorem rnm_map (g : Int → Int) : ∀ (vs : List Int) (n v : Int), (∀ x ∈ vs, g x = g v → x = v) → rnm (vs.map g) n (g v) = rnm vs n v
  | [], _, _, _ => rfl
  | u :: r, n, v, h => by
    rw [List.map_cons, rnm, rnm]
    by_cases e : v = u
    · rw [if_pos e, if_pos (by rw [e])]
    · rw [if_neg e, if_neg (fun he => e (h u (by simp) he.symm).symm)]
      exact rnm_map g r _ v (fun x hx => h x (by simp [hx]))
/-- The name of a variable: its own where it has none. -/
def rnf (vs : List Int) (n v : Int) : Int := (rnm vs n v).getD v
mutual
theorem renS_congr (g h : Int → Int) : ∀ t : S28, (∀ v ∈ occT t, g v = h v) → renS g t = renS h t
  | ⟨kd, nm, nt, xs⟩, e => by
    rw [renS_eq, renS_eq]
    rw [occT] at e
    by_cases h1 : kd = 1
    · rw [if_pos h1, if_pos h1]; rw [if_pos h1] at e; rw [e nt (by simp)]
    rw [if_neg h1, if_neg h1]; rw [if_neg h1] at e
    by_cases h4 : kd = 4
    · rw [if_pos h4, if_pos h4]; rw [if_pos h4] at e; rw [renL_congr g h xs e]
    · rw [if_neg h4, if_neg h4]
theorem renL_congr (g h : Int → Int) : ∀ xs : List S28, (∀ v ∈ occL xs, g v = h v) → renL g xs = renL h xs
  | [], _ => by rw [renL_nil, renL_nil]
  | a :: r, e => by
    rw [occL_cons] at e
    rw [renL_cons, renL_cons, renS_congr g h a (fun v hv => e v (List.mem_append_left _ hv)), renL_congr g h r (fun v hv => e v (List.mem_append_right _ hv))]
end
theorem bare_bare (t : S28) : bareT (bareT t) = bareT t := by
  unfold bareT; by_cases h : t.f0 = 1 ∨ t.f0 = 2
  · rw [if_pos h, if_pos h]
  · rw [if_neg h, if_neg h]
mutual
theorem renS_renS (g h : Int → Int) : ∀ t : S28, renS h (renS g t) = renS (fun v => h (g v)) t
  | ⟨kd, nm, nt, xs⟩ => by
    rw [renS_eq, renS_eq]
    by_cases h1 : kd = 1
    · rw [if_pos h1, if_pos h1]; unfold mkV; rw [renS_eq]; rfl
    rw [if_neg h1, if_neg h1]
    by_cases h4 : kd = 4
    · rw [if_pos h4, if_pos h4, renS_eq, if_neg (by decide), if_pos rfl, renL_renL g h xs]
    · rw [if_neg h4, if_neg h4]
      have hb := bareT_kd ⟨kd, nm, nt, xs⟩
      have hbb := bare_bare ⟨kd, nm, nt, xs⟩
      generalize bareT ⟨kd, nm, nt, xs⟩ = b at hb hbb
      obtain ⟨k, m, i, l⟩ := b
      simp only at hb
      rw [renS_eq, if_neg (by omega), if_neg (by omega)]; exact hbb
theorem renL_renL (g h : Int → Int) : ∀ xs : List S28, renL h (renL g xs) = renL (fun v => h (g v)) xs
  | [] => by rw [renL_nil, renL_nil, renL_nil]
  | a :: r => by rw [renL_cons, renL_cons, renL_cons, renS_renS g h a, renL_renL g h r]
end
mutual
theorem occ_renS (g : Int → Int) : ∀ t : S28, occT (renS g t) = (occT t).map g
  | ⟨kd, nm, nt, xs⟩ => by
    rw [renS_eq, occT]
    by_cases h1 : kd = 1
    · rw [if_pos h1, if_pos h1]; unfold mkV; rw [occT, if_pos rfl]; rfl
    rw [if_neg h1, if_neg h1]
    by_cases h4 : kd = 4
    · rw [if_pos h4, if_pos h4, occT, if_neg (by decide), if_pos rfl, occ_renL g xs]
    · rw [if_neg h4, if_neg h4, bare_kind]
      split
      · rw [occT, if_neg h1, if_neg h4]; rfl
      · rw [occT, if_neg h1, if_neg h4]; rfl
theorem occ_renL (g : Int → Int) : ∀ xs : List S28, occL (renL g xs) = (occL xs).map g
  | [] => by rw [renL_nil, occL_nil]; rfl
  | a :: r => by rw [renL_cons, occL_cons, occL_cons, List.map_append, occ_renS g a, occ_renL g r]
end
theorem fnT_renM : ∀ (vs : List Int) (n : Int) (L : Tm) (v : Int), vs.Nodup → msorted L → fnT (renM vs n L) v = match rnm vs n v with | some k => some (mkV k) | none => fnT L v
  | [], n, L, v, _, _ => rfl
  | u :: r, n, L, v, h, hL => by
    obtain ⟨h1, h2⟩ := List.nodup_cons.1 h
    rw [renM, fnT_renM r (n + 1) _ v h2 (msorted_mput hL), rnm]
    by_cases e : v = u
    · subst e
      rw [if_pos rfl, rnm_none r _ _ h1]
      simp only
      unfold fnT; rw [mget_mput_same hL]; rfl
    · rw [if_neg e]
      cases hr : rnm r (n + 1) v with
      | some k => rfl
      | none => simp only; unfold fnT; rw [mget_mput_other e]

theorem renT_ok {t : S28} (h : okT t = true) {n : Int} (h1 : 1 ≤ n) (h2 : n ≤ 4611686018427387904) : renT t n = (renS (rnf (varsT t []) n) t, n + (varsT t []).length, 0) := by
  unfold renT
  rw [h, if_neg (by decide), if_neg (by omega)]
  have hs := putT_spec (fnT (renM (varsT t []) n [])) t 1 0
  have e : subT (fun v => (fnT (renM (varsT t []) n []) v).map nrm) t = renS (rnf (varsT t []) n) t := by
    apply sub_ren
    intro v hv
    rw [fnT_renM _ _ _ _ (varsT_nodup t) List.Pairwise.nil]
    unfold rnf
    cases hr : rnm (varsT t []) n v with
    | some k => exact .inl rfl
    | none => exact .inr ⟨rfl, rfl⟩
  rw [e] at hs
  have hok := (okT_iff t).1 h
  have : (putT (fnT (renM (varsT t []) n [])) t 1 0).2.1 = true := by
    rw [hs.ok, (nodes_renS _ t).1, (nodes_renS _ t).2]
    exact ⟨by omega, by omega⟩
  rw [(hs.val this).1]

theorem rnf_bounds {t : S28} {n : Int} : ∀ x ∈ occT t, n ≤ rnf (varsT t []) n x ∧ rnf (varsT t []) n x < n + (varsT t []).length := by
  intro x hx
  obtain ⟨k, h1, h2, h3⟩ := rnm_some (varsT t []) n x ((mem_varsT t x).2 hx)
  unfold rnf; rw [h1]; exact ⟨h2, h3⟩
theorem vars_renS {g : Int → Int} {t : S28} (hg : ∀ x ∈ occT t, ∀ y ∈ occT t, g x = g y → x = y) : varsT (renS g t) [] = (varsT t []).map g := by
  rw [varsT_occ, varsT_occ, occ_renS]
  exact fold_map g (occT t) [] (by simpa using hg)
/-- A term whose variables are renamed apart is renamed as the term is. -/
theorem ren_ren {g : Int → Int} {t : S28} (hg : ∀ x ∈ occT t, ∀ y ∈ occT t, g x = g y → x = y) (n : Int) : renS (rnf (varsT (renS g t) []) n) (renS g t) = renS (rnf (varsT t []) n) t := by
  rw [renS_renS, vars_renS hg]
  apply renS_congr
  intro v hv
  unfold rnf
  rw [rnm_map g _ n v (fun x hx => hg x ((mem_varsT t x).1 hx) v hv)]
  obtain ⟨k, h1, _⟩ := rnm_some (varsT t []) n v ((mem_varsT t v).2 hv)
  rw [h1]; rfl
theorem variant_renS {g h : Int → Int} {t : S28} (hok : okT t = true) (hg : ∀ x ∈ occT t, ∀ y ∈ occT t, g x = g y → x = y) (hh : ∀ x ∈ occT t, ∀ y ∈ occT t, h x = h y → x = y)
    (g1 : ∀ v ∈ occT t, 1 ≤ g v) (h1 : ∀ v ∈ occT t, 1 ≤ h v) : variantT (renS g t) (renS h t) = true := by
  have k1 := ok_renS g hok g1
  have k2 := ok_renS h hok h1
  unfold variantT
  rw [k1, k2, renT_ok k1 (by decide) (by decide), renT_ok k2 (by decide) (by decide), ren_ren hg, ren_ren hh, ordT_refl]; rfl

/-! From TmPd. -/
theorem I64_zero : I64 0 := by unfold I64; decide
theorem wfT_z24 : wfT z28 := by unfold z28; rw [wfT, wfL]; exact ⟨I64_zero, trivial⟩
theorem wfT_bare {t : S28} (h : wfT t) : wfT (bareT t) := by
  unfold bareT; split
  · rw [wfT, wfL]; exact ⟨wfT_int h, trivial⟩
  · rw [wfT, wfL]; exact ⟨I64_zero, trivial⟩
mutual
theorem wfT_sub (f : Int → Option S28) (hf : ∀ v x, f v = some x → wfT x) : ∀ t : S28, wfT t → wfT (subT f t)
  | ⟨kd, nm, nt, xs⟩, h => by
    have hb := wfT_bare h
    rw [wfT] at h
    rw [subT]
    by_cases h1 : kd = 1
    · rw [if_pos h1]
      cases e : f nt with
      | some x => exact hf _ _ e
      | none => simp only; rw [wfT, wfL]; exact ⟨h.1, trivial⟩
    rw [if_neg h1]
    by_cases h4 : kd = 4
    · rw [if_pos h4, wfT]; exact ⟨I64_zero, wfL_sub f hf xs h.2⟩
    · rw [if_neg h4]; exact hb
theorem wfL_sub (f : Int → Option S28) (hf : ∀ v x, f v = some x → wfT x) : ∀ xs : List S28, wfL xs → wfL (subL f xs)
  | [], _ => by rw [subL_nil, wfL]; trivial
  | a :: r, h => by rw [wfL_cons] at h; rw [subL_cons, wfL_cons]; exact ⟨wfT_sub f hf a h.1, wfL_sub f hf r h.2⟩
end
theorem wfT_nrm {t : S28} (h : wfT t) : wfT (nrm t) := wfT_sub _ (fun _ _ e => by cases e) t h
theorem wfT_put {f : Int → Option S28} (hf : ∀ v x, f v = some x → wfT x) {t : S28} (h : wfT t) (deep s : Int) : wfT (putT f t deep s).1 := by
  have hs := putT_spec f t deep s
  by_cases hk : (putT f t deep s).2.1 = true
  · rw [(hs.val hk).1]
    refine wfT_sub _ (fun v x e => ?_) t h
    cases hv : f v with
    | none => rw [hv] at e; cases e
    | some y => rw [hv] at e; cases e; exact wfT_nrm (hf v y hv)
  · rw [hs.no (by simpa using hk)]; exact wfT_z24
theorem wfT_ren {t : S28} (h : wfT t) {n : Int} (hn : I64 n) : wfT (renT t n).1 := by
  unfold renT
  split
  · exact wfT_z24
  · split
    · exact wfT_z24
    · rename_i hok hr
      have hok : okT t = true := by simpa using hok
      refine wfT_put (fun v x e => ?_) h 1 0
      have hm := renM_vars (varsT t []) n [] (fun k tv hk => by cases hk) (by omega) (by
        have h1 := varsT_len t []
        have h2 := nodes_ok hok
        simp only [List.length_nil] at h1
        omega)
      unfold fnT at e
      cases hg : mget (renM (varsT t []) n []) v with
      | none => rw [hg] at e; cases e
      | some tv => rw [hg] at e; cases e; exact (hm v tv hg).2.2

section
variable {w0 W : World} {t u : S28} {A A' : Option Addr} {c c' : Nat}
end

/-! From TmPe. -/
theorem nodesL_memY {a : S28} : ∀ {xs : List S28}, a ∈ xs → nodes a ≤ nodesL xs ∧ dpt a ≤ dptL xs
  | b :: r, h => by
    rw [nodesL_cons, dptL_cons]
    rcases List.mem_cons.1 h with rfl | h
    · exact ⟨by omega, by omega⟩
    · have := nodesL_memY h; exact ⟨by omega, by omega⟩
section
variable {w0 W : World} {t u : S28} {A A' : Option Addr} {c c' : Nat}
end

/-! From TmPg. -/

/-! From TmPh. -/
section
variable {w0 W : World} {t u : S28} {A A' B : Option Addr} {c c' : Nat}
end

/-! From TmPo. -/
theorem outAt_belowB {B : Nat} {v : Value} {xs : List Int} {w w' : World} (h : OutAt w B v xs) (hb : Below w.heap.size w w') : OutAt w' B v xs := ownsRow_belowB h hb

/-! From TmPk. -/
theorem sh_mkV {v : Int} (h : 1 ≤ v) : shT (mkV v) = true := by unfold mkV; rw [shT, if_pos rfl]; exact decide_eq_true h

/-! From TmPl. -/
section
variable {σ : Int → S28} {S : Sm} {n : Nat}
end
/-- The first one of bindings that binds a variable. -/
def firstB (bs : List S89) (v : Int) : Option S28 := (bs.find? fun b => decide (b.f0 = v)).map (·.f1)
/-- What bindings put in a variable's places. -/
def bS (bs : List S89) (v : Int) : S28 := ((firstB bs v).map nrm).getD (mkV v)
theorem firstB_cons (b : S89) (bs : List S89) (v : Int) : firstB (b :: bs) v = if b.f0 = v then some b.f1 else firstB bs v := by
  unfold firstB
  rw [List.find?_cons]
  by_cases h : b.f0 = v
  · rw [if_pos h, decide_eq_true h]; rfl
  · rw [if_neg h, decide_eq_false h]

/-! From TmQa. -/

/-! From TmQb. -/

/-! From TmQc. -/
mutual
/-- A copy, as the document makes it. -/
def cpR : S28 → S28
  | ⟨kd, nm, nt, xs⟩ => if kd = 1 ∧ nt = 0 then z28 else if kd = 4 then ⟨4, nm, 0, cpRL xs⟩ else if kd ≤ 2 then ⟨kd, ⟨#[]⟩, nt, []⟩ else ⟨kd, nm, 0, []⟩
def cpRL : List S28 → List S28
  | [] => []
  | a :: r => cpR a :: cpRL r
end
def bareR (t : S28) : S28 := if t.f0 ≤ 2 then ⟨t.f0, ⟨#[]⟩, t.f2, []⟩ else ⟨t.f0, t.f1, 0, []⟩
theorem cpRL_map : ∀ xs : List S28, cpRL xs = xs.map cpR
  | [] => by rw [cpRL]; rfl
  | a :: r => by rw [cpRL, cpRL_map r]; rfl
theorem cpRL_take (xs : List S28) (k : Nat) (h : k < xs.length) : cpRL (xs.take (k + 1)) = cpRL (xs.take k) ++ [cpR xs[k]] := by
  rw [List.take_succ_eq_append_getElem h, cpRL_map, cpRL_map, List.map_append]; rfl
theorem nodesL_length : ∀ xs : List S28, xs.length ≤ nodesL xs
  | [] => Nat.zero_le _
  | a :: r => by rw [nodesL_cons, List.length_cons]; have := nodes_pos a; have := nodesL_length r; omega
theorem cpRL_len (xs : List S28) : (cpRL xs).length = xs.length := by rw [cpRL_map, List.length_map]
mutual
theorem cpR_nrm : ∀ t : S28, shT t = true → cpR t = nrm t
  | ⟨kd, nm, nt, xs⟩, h => by
    have hk := sh_kind' h
    simp only at hk
    rw [shT] at h
    unfold nrm
    rw [cpR, subT]
    by_cases h1 : kd = 1
    · rw [if_pos h1] at h
      have := of_decide_eq_true h
      rw [if_neg (by omega), if_neg (by omega), if_pos (by omega), if_pos h1, h1]
    rw [if_neg (by omega), if_neg h1]
    rw [if_neg h1] at h
    by_cases h4 : kd = 4
    · rw [if_pos h4, if_pos h4]
      rw [if_neg (by omega), if_pos h4] at h
      simp only [Bool.and_eq_true] at h
      rw [cpRL_nrm xs h.1.2]
    · rw [if_neg h4, if_neg h4, bare_kind]
      by_cases h2 : kd = 2
      · rw [if_pos (by omega), if_pos (.inr h2)]
      · rw [if_neg (by omega), if_neg (by omega)]
theorem cpRL_nrm : ∀ xs : List S28, shL xs = true → cpRL xs = subL (fun _ => none) xs
  | [], _ => by rw [cpRL, subL_nil]
  | a :: r, h => by
    rw [shL_cons, Bool.and_eq_true] at h
    have := cpR_nrm a h.1
    unfold nrm at this
    rw [cpRL, subL_cons, this, cpRL_nrm r h.2]
end
set_option maxHeartbeats 1000000 in
set_option maxRecDepth 100000 in
theorem rbare_any (t : S28) (w : World) (A : Option Addr) (c : Nat) :
    Calls Try.prog 72 #[.agg #[.int .i64 t.f0, .string t.f1, .int .i64 t.f2, .slice A t.f3.length c]] w fun e w' => e = .returned (.agg #[.int .i64 (bareR t).f0, .string (bareR t).f1, .int .i64 (bareR t).f2, .slice none 0 0]) ∧ Below w.heap.size w w' := by
  obtain ⟨kd, nm, nt, xs⟩ := t
  unfold bareR
  simp only
  by_cases k2 : kd ≤ 2
  · simp only [if_pos k2]
    go_enter Try.func72, Try.ntmps72
    go_wp2
    all_goals
      refine bodyPost_ret (v := .agg #[.int .i64 kd, .string ⟨#[]⟩, .int .i64 nt, .slice none 0 0]) (by simp [results, Try.results72, go_sem]) rfl ⟨rfl, ?_⟩
      repeat (refine below_set ?_ (by omega))
      exact below_alloc (below_alloc (Below.refl w.heap.size w) _) _
  · simp only [if_neg k2]
    go_enter Try.func72, Try.ntmps72
    go_wp2
    all_goals
      refine bodyPost_ret (v := .agg #[.int .i64 kd, .string nm, .int .i64 0, .slice none 0 0]) (by simp [results, Try.results72, go_sem]) rfl ⟨rfl, ?_⟩
      repeat (refine below_set ?_ (by omega))
      exact below_alloc (below_alloc (Below.refl w.heap.size w) _) _

def rput_T9 : Bool × List (List Nat × List Nat) := (true, [([], []), ([0], [0]), ([], []), ([2], [2]), ([], []), ([3, 4], [3, 4]), ([5], [5]), ([], []), ([], []), ([6, 7, 8], [6, 7, 8]), ([9], [9]), ([1, 10, 9], [1, 10]), ([0, 1, 2, 3, 4, 5, 6, 7, 8, 9, 10, 11], []), ([12, 11, 11, 0, 1, 2, 3, 4, 5, 6, 7, 8, 9, 10, 11], [11, 12])])
def rput_B9 : List Nat := [0, 1, 0, 4, 0, 28, 60, 0, 0, 508, 1020, 2047, 4095, 8191]
theorem rput_tab9 : rtab .any (opsOf Try.f79 9) = rput_T9 := by kernel_rfl
theorem rput_bits9 : waitsOk rput_T9.2 rput_B9 = true := by kernel_rfl

set_option maxHeartbeats 4000000 in
set_option maxRecDepth 100000 in
theorem rput_any : ∀ (n : Nat) (t : S28), SizeOf.sizeOf t = n → ∀ (w0 w : World) (c : Nat) (A : Option Addr), Kd.C k28 w0 A t.f3.length t.f3 → t.f3.length ≤ c → Below w0.heap.size w0 w → nodes t < 1000000 →
    Calls Try.prog 79 #[.agg #[.int .i64 t.f0, .string t.f1, .int .i64 t.f2, .slice A t.f3.length c], .int .i64 0, .agg #[.int .i64 0, .string ⟨#[]⟩, .int .i64 0, .slice none 0 0]] w fun e w' => ∃ v,
      e = .returned (.agg #[.int .i64 (cpR t).f0, .string (cpR t).f1, .int .i64 (cpR t).f2, v]) ∧ Kd.R k28 28 w' w.heap.size (fun _ => True) v (cpR t).f3 ∧ Below w.heap.size w w' := by
  intro n
  induction n using Nat.strongRecOn with
  | _ n ih =>
  intro t hn w0 w c A hC hc hB hnd
  obtain ⟨kd, nm, nt, xs⟩ := t
  simp only at hC hc ⊢
  have hB3 := below_alloc (below_alloc (below_alloc (Below.refl w.heap.size w) (.cells #[.int .i64 kd, .string nm, .int .i64 nt, .slice A xs.length c] 28)) (.cells #[.int .i64 0, .string ⟨#[]⟩, .int .i64 0, .slice none 0 0] 28)) (.cells #[.int .i64 0, .string ⟨#[]⟩, .int .i64 0, .slice none 0 0] 28)
  rw [cpR]
  by_cases h0 : kd = 1 ∧ nt = 0
  · obtain ⟨rfl, rfl⟩ := h0
    rw [if_pos ⟨rfl, rfl⟩]
    clear ih
    go_enter Try.func79, Try.ntmps79
    go_wp2
    refine bodyPost_ret (v := .agg #[.int .i64 0, .string ⟨#[]⟩, .int .i64 0, .slice none 0 0]) (by simp [results, Try.results79, go_sem]) rfl ⟨.slice none 0 0, rfl, Kd.R_nil _ _ _ _ _, ?_⟩
    repeat (refine below_set ?_ (by omega))
    exact hB3
  rw [if_neg h0]
  have kT : (((w.alloc (.cells #[.int .i64 kd, .string nm, .int .i64 nt, .slice A xs.length c] 28)).alloc (.cells #[.int .i64 0, .string ⟨#[]⟩, .int .i64 0, .slice none 0 0] 28)).alloc (.cells #[.int .i64 0, .string ⟨#[]⟩, .int .i64 0, .slice none 0 0] 28)).heap[w.heap.size]? = some (.cells #[.int .i64 kd, .string nm, .int .i64 nt, .slice A xs.length c] 28 (0, 0)) := blk_alloc (blk_alloc (blk_new w _) _) _
  have kX : (((w.alloc (.cells #[.int .i64 kd, .string nm, .int .i64 nt, .slice A xs.length c] 28)).alloc (.cells #[.int .i64 0, .string ⟨#[]⟩, .int .i64 0, .slice none 0 0] 28)).alloc (.cells #[.int .i64 0, .string ⟨#[]⟩, .int .i64 0, .slice none 0 0] 28)).heap[w.heap.size + 1]? = some (.cells #[.int .i64 0, .string ⟨#[]⟩, .int .i64 0, .slice none 0 0] 28 (0, 0)) := by
    have := blk_new (w.alloc (.cells #[.int .i64 kd, .string nm, .int .i64 nt, .slice A xs.length c] 28)) (.cells #[.int .i64 0, .string ⟨#[]⟩, .int .i64 0, .slice none 0 0] 28)
    rw [World.size_alloc] at this
    exact blk_alloc this _
  have kR : (((w.alloc (.cells #[.int .i64 kd, .string nm, .int .i64 nt, .slice A xs.length c] 28)).alloc (.cells #[.int .i64 0, .string ⟨#[]⟩, .int .i64 0, .slice none 0 0] 28)).alloc (.cells #[.int .i64 0, .string ⟨#[]⟩, .int .i64 0, .slice none 0 0] 28)).heap[w.heap.size + 1 + 1]? = some (.cells #[.int .i64 0, .string ⟨#[]⟩, .int .i64 0, .slice none 0 0] 28 (0, 0)) := by
    have := blk_new ((w.alloc (.cells #[.int .i64 kd, .string nm, .int .i64 nt, .slice A xs.length c] 28)).alloc (.cells #[.int .i64 0, .string ⟨#[]⟩, .int .i64 0, .slice none 0 0] 28)) (.cells #[.int .i64 0, .string ⟨#[]⟩, .int .i64 0, .slice none 0 0] 28)
    rw [World.size_alloc, World.size_alloc] at this
    exact this
  by_cases k4 : kd = 4
  · subst k4
    rw [if_pos rfl]
    have hn4 : nodes ⟨4, nm, nt, xs⟩ = 1 + nodesL xs := by rw [nodes, if_pos rfl]
    rw [hn4] at hnd
    have hz : ∀ a ∈ xs, SizeOf.sizeOf a < n ∧ nodes a < 1000000 := fun a ha => ⟨by rw [← hn]; exact sz_mem (t := ⟨4, nm, nt, xs⟩) ha, by have := (nodesL_memY ha).1; omega⟩
    have hxl : xs.length ≤ nodesL xs := nodesL_length xs
    clear hn hn4 h0
    have hmx := hC.2.1
    go_enter Try.func79, Try.ntmps79
    go_upto_region 7 with (fail)
    have hB4 := below_alloc hB3 (.cells #[.int .i64 4, .string nm, .int .i64 0, .slice none 0 0] 28)
    replace kT := blk_alloc kT (.cells #[.int .i64 4, .string nm, .int .i64 0, .slice none 0 0] 28)
    replace kX := blk_alloc kX (.cells #[.int .i64 4, .string nm, .int .i64 0, .slice none 0 0] 28)
    replace kR := blk_alloc kR (.cells #[.int .i64 4, .string nm, .int .i64 0, .slice none 0 0] 28)
    have kO : ((((w.alloc (.cells #[.int .i64 4, .string nm, .int .i64 nt, .slice A xs.length c] 28)).alloc (.cells #[.int .i64 0, .string ⟨#[]⟩, .int .i64 0, .slice none 0 0] 28)).alloc (.cells #[.int .i64 0, .string ⟨#[]⟩, .int .i64 0, .slice none 0 0] 28)).alloc (.cells #[.int .i64 4, .string nm, .int .i64 0, .slice none 0 0] 28)).heap[w.heap.size + 1 + 1 + 1]? = some (.cells #[.int .i64 4, .string nm, .int .i64 0, .slice none 0 0] 28 (0, 0)) := by
      have := blk_new (((w.alloc (.cells #[.int .i64 4, .string nm, .int .i64 nt, .slice A xs.length c] 28)).alloc (.cells #[.int .i64 0, .string ⟨#[]⟩, .int .i64 0, .slice none 0 0] 28)).alloc (.cells #[.int .i64 0, .string ⟨#[]⟩, .int .i64 0, .slice none 0 0] 28)) (.cells #[.int .i64 4, .string nm, .int .i64 0, .slice none 0 0] 28)
      rw [World.size_alloc, World.size_alloc, World.size_alloc] at this
      exact this
    generalize (((w.alloc (.cells #[.int .i64 4, .string nm, .int .i64 nt, .slice A xs.length c] 28)).alloc (.cells #[.int .i64 0, .string ⟨#[]⟩, .int .i64 0, .slice none 0 0] 28)).alloc (.cells #[.int .i64 0, .string ⟨#[]⟩, .int .i64 0, .slice none 0 0] 28)).alloc (.cells #[.int .i64 4, .string nm, .int .i64 0, .slice none 0 0] 28) = w4 at hB4 kT kX kR kO ⊢
    clear hB3
    go_loopw [8] (fun i wr => ∃ (k : Nat) (v : Value), k ≤ xs.length ∧ i = .int .i64 k ∧ wr.heap[w.heap.size]? = some (.cells #[.int .i64 4, .string nm, .int .i64 nt, .slice A xs.length c] 28 (0, 0)) ∧
        wr.heap[w.heap.size + 1]? = some (.cells #[.int .i64 0, .string ⟨#[]⟩, .int .i64 0, .slice none 0 0] 28 (0, 0)) ∧ wr.heap[w.heap.size + 1 + 1]? = some (.cells #[.int .i64 0, .string ⟨#[]⟩, .int .i64 0, .slice none 0 0] 28 (0, 0)) ∧
        wr.heap[w.heap.size + 1 + 1 + 1]? = some (.cells #[.int .i64 4, .string nm, .int .i64 0, v] 28 (0, 0)) ∧ Kd.R k28 28 wr w.heap.size (fun j => w.heap.size + 1 + 1 + 1 < j) v (cpRL (xs.take k)) ∧ Below w.heap.size w wr)
      (fun i _ => xs.length - (intOf i).toNat)
    case atStart => exact ⟨0, .slice none 0 0, Nat.zero_le _, rfl, kT, kX, kR, kO, by rw [List.take_zero, cpRL]; exact Kd.R_nil _ _ _ _ _, hB4⟩
    case round =>
      clear kT kX kR kO hB4
      obtain ⟨k, v, hk, rfl, kT, kX, kR, kO, hRv, hBr⟩ := hrel
      have hB0 := below_step hB hBr
      have x3 := blk_cell kT 3
      by_cases hlt : k < xs.length
      · obtain ⟨ad, A3, c3, rfl, y0, y1, y2, y3, l3, g3⟩ := C_rd hC k hlt rfl
        have htk := cpRL_take xs k hlt
        have hza := hz _ (List.getElem_mem hlt)
        have hal := cpRL_len (xs.take k)
        rw [List.length_take, Nat.min_eq_left hk] at hal
        replace hal : (cpRL (xs.take k)).length ≤ xs.length := by omega
        generalize xs[k] = a at y0 y1 y2 y3 l3 g3 htk hza
        generalize hac : cpRL (xs.take k) = acc at hRv htk hal
        clear hac
        have HTK := Lib.hid htk
        clear htk
        have HS := Lib.hid (show ∀ W, W.heap[w.heap.size]? = some (.cells #[.int .i64 4, .string nm, .int .i64 nt, .slice (some ad) xs.length c] 28 (0, 0)) → W.heap[w.heap.size + 1]? = some (.cells #[.int .i64 0, .string ⟨#[]⟩, .int .i64 0, .slice none 0 0] 28 (0, 0)) → Below w0.heap.size w0 W → W.cell? ⟨w.heap.size, 3, none⟩ = some (.slice (some ad) xs.length c) ∧ W.cell? ⟨w.heap.size + 1, 0, none⟩ = some (.int .i64 0) ∧ W.cell? ⟨w.heap.size + 1, 1, none⟩ = some (.string ⟨#[]⟩) ∧ W.cell? ⟨w.heap.size + 1, 2, none⟩ = some (.int .i64 0) ∧ W.cell? ⟨w.heap.size + 1, 3, none⟩ = some (.slice none 0 0) ∧ W.cell? (ad.add (k * 4)) = some (.int .i64 a.f0) ∧ W.cell? ⟨(ad.add (k * 4)).block, (ad.add (k * 4)).off + 1, none⟩ = some (.string a.f1) ∧ W.cell? ⟨(ad.add (k * 4)).block, (ad.add (k * 4)).off + 2, none⟩ = some (.int .i64 a.f2) ∧ W.cell? ⟨(ad.add (k * 4)).block, (ad.add (k * 4)).off + 3, none⟩ = some (.slice A3 a.f3.length c3) from fun W k1 k2 hW =>
          ⟨blk_cell k1 3, blk_cell k2 0, blk_cell k2 1, blk_cell k2 2, blk_cell k2 3, (hW.cell (World.block_lt_of_cell? w0 _ y0)).trans y0, (hW.cell (World.block_lt_of_cell? w0 _ y1)).trans y1, (hW.cell (World.block_lt_of_cell? w0 _ y2)).trans y2, (hW.cell (World.block_lt_of_cell? w0 _ y3)).trans y3⟩)
        have hS1 := HS.out wr.drew kT kX hB0.drew
        have hi := ih _ hza.1 a rfl w0 wr.drew c3 A3 g3 l3 hB0.drew hza.2
        have d0 : Below wr.heap.size wr wr.drew := (Below.refl _ wr).drew
        have o30 : wr.drew.cell? ⟨w.heap.size + 1 + 1 + 1, 3, none⟩ = some v := blk_cell (show wr.drew.heap[w.heap.size + 1 + 1 + 1]? = some (.cells #[.int .i64 4, .string nm, .int .i64 0, v] 28 (0, 0)) from kO) 3
        have hvo : ∀ j, v.ownBlock = some j → w.heap.size + 1 + 1 + 1 < j ∧ j < wr.heap.size := fun j hj => ⟨hRv.1 j hj, ((Kd.R_bound hRv).1 j hj).2.2.1⟩
        have hwr := hBr.size
        have hsz := blk_lt kO
        obtain ⟨r, hr⟩ : ∃ r, r = cpR a := ⟨_, rfl⟩
        rw [← hr] at hi HTK
        clear hr ih y0 y1 y2 y3 hB0 hk
        obtain ⟨e0, e1, e2, e3⟩ := r
        simp only at hi
        go_wp2_with fail
        refine start_ (n := 14) (S := fun W => W.cell? ⟨w.heap.size, 3, none⟩ = some (.slice (some ad) xs.length c) ∧ W.cell? ⟨w.heap.size + 1, 0, none⟩ = some (.int .i64 0) ∧ W.cell? ⟨w.heap.size + 1, 1, none⟩ = some (.string ⟨#[]⟩) ∧ W.cell? ⟨w.heap.size + 1, 2, none⟩ = some (.int .i64 0) ∧ W.cell? ⟨w.heap.size + 1, 3, none⟩ = some (.slice none 0 0) ∧ W.cell? (ad.add (k * 4)) = some (.int .i64 a.f0) ∧ W.cell? ⟨(ad.add (k * 4)).block, (ad.add (k * 4)).off + 1, none⟩ = some (.string a.f1) ∧ W.cell? ⟨(ad.add (k * 4)).block, (ad.add (k * 4)).off + 2, none⟩ = some (.int .i64 a.f2) ∧ W.cell? ⟨(ad.add (k * 4)).block, (ad.add (k * 4)).off + 3, none⟩ = some (.slice A3 a.f3.length c3) ∧ W.cell? ⟨w.heap.size + 1 + 1 + 1, 3, none⟩ = some v) (ds := [13]) #[false, false, false, false, false, false, false, false, false, false, false, false, false, false] (by kernel_rfl) rfl rfl (by obtain ⟨a0, a1, a2, a3, a4, a5, a6, a7, a8⟩ := hS1; exact ⟨a0, a1, a2, a3, a4, a5, a6, a7, a8, o30⟩) (fun hHeld => ?_)
        refine with_tabW rput_tab9 rput_bits9 (fun HT_ HW_ => ?_)
        refine pure_ (i := 0) (N := some 34) (v := ?_) (a' := ?_) #[true, false, false, false, false, false, false, false, false, false, false, false, false, false] rfl rfl (any_of HT_.out (by kernel_rfl)) (fun _ _ _ h => h) (Or.inl ⟨by rfl, ?_⟩) ?_ ?_
        rotate_left
        · intro w'
          go_simp
          with_reducible rfl
        rotate_left
        · simp only [Act.put, List.setIfInBounds_toArray, List.set_cons_zero, List.set_cons_succ]
          rfl
        refine pure_ (i := 2) (N := some 36) (v := ?_) (a' := ?_) #[true, false, true, false, false, false, false, false, false, false, false, false, false, false] rfl rfl (any_of HT_.out (by kernel_rfl)) (fun _ _ _ h => h) (Or.inl ⟨by rfl, ?_⟩) ?_ ?_
        rotate_left
        · intro w'
          go_simp
          with_reducible rfl
        rotate_left
        · simp only [Act.put, List.setIfInBounds_toArray, List.set_cons_zero, List.set_cons_succ]
          rfl
        refine pure_ (i := 4) (N := some 38) (v := ?_) (a' := ?_) #[true, false, true, false, true, false, false, false, false, false, false, false, false, false] rfl rfl (any_of HT_.out (by kernel_rfl)) (fun _ _ _ h => h) (Or.inl ⟨by rfl, ?_⟩) ?_ ?_
        rotate_left
        · intro w'
          go_simp
          with_reducible rfl
        rotate_left
        · simp only [Act.put, List.setIfInBounds_toArray, List.set_cons_zero, List.set_cons_succ]
          rfl
        refine pure_ (i := 7) (N := some 41) (v := ?_) (a' := ?_) #[true, false, true, false, true, false, false, true, false, false, false, false, false, false] rfl rfl (any_of HT_.out (by kernel_rfl)) (fun _ _ _ h => h) (Or.inl ⟨by rfl, ?_⟩) ?_ ?_
        rotate_left
        · intro w'
          go_simp
          with_reducible rfl
        rotate_left
        · simp only [Act.put, List.setIfInBounds_toArray, List.set_cons_zero, List.set_cons_succ]
          rfl
        refine take_ (i := 1) (N := some 35) (v := ?_) (a' := ?_) #[true, true, true, false, true, false, false, true, false, false, false, false, false, false] rfl rfl (take_ofW HT_.out HW_.out (by kernel_rfl)) (fun _ _ _ h => h) (Or.inl ⟨by rfl, ?_⟩) hHeld ?_ ?_
        rotate_left
        · rintro w' ⟨s0, s1, s2, s3, s4, s5, s6, s7, s8, s9⟩
          go_simp
          with_reducible rfl
        rotate_left
        · simp only [Act.put, List.setIfInBounds_toArray, List.set_cons_zero, List.set_cons_succ]
          rfl
        refine take_ (i := 3) (N := some 37) (v := ?_) (a' := ?_) #[true, true, true, true, true, false, false, true, false, false, false, false, false, false] rfl rfl (take_ofW HT_.out HW_.out (by kernel_rfl)) (fun _ _ _ h => h) (Or.inl ⟨by rfl, ?_⟩) hHeld ?_ ?_
        rotate_left
        · rintro w' ⟨s0, s1, s2, s3, s4, s5, s6, s7, s8, s9⟩
          go_simp
          with_reducible rfl
        rotate_left
        · simp only [Act.put, List.setIfInBounds_toArray, List.set_cons_zero, List.set_cons_succ]
          rfl
        refine pure_ (i := 5) (N := some 39) (v := ?_) (a' := ?_) #[true, true, true, true, true, true, false, true, false, false, false, false, false, false] rfl rfl (any_of HT_.out (by kernel_rfl)) (fun _ _ _ h => h) (Or.inl ⟨by rfl, ?_⟩) ?_ ?_
        rotate_left
        · intro w'
          go_simp
          with_reducible rfl
        rotate_left
        · simp only [Act.put, List.setIfInBounds_toArray, List.set_cons_zero, List.set_cons_succ]
          rfl
        refine take_ (i := 6) (N := some 40) (v := ?_) (a' := ?_) #[true, true, true, true, true, true, true, true, false, false, false, false, false, false] rfl rfl (take_ofW HT_.out HW_.out (by kernel_rfl)) (fun _ _ _ h => h) (Or.inl ⟨by rfl, ?_⟩) hHeld ?_ ?_
        rotate_left
        · rintro w' ⟨s0, s1, s2, s3, s4, s5, s6, s7, s8, s9⟩
          go_simp
          with_reducible rfl
        rotate_left
        · simp only [Act.put, List.setIfInBounds_toArray, List.set_cons_zero, List.set_cons_succ]
          rfl
        refine take_ (i := 8) (N := some 42) (v := ?_) (a' := ?_) #[true, true, true, true, true, true, true, true, true, false, false, false, false, false] rfl rfl (take_ofW HT_.out HW_.out (by kernel_rfl)) (fun _ _ _ h => h) (Or.inl ⟨by rfl, ?_⟩) hHeld ?_ ?_
        rotate_left
        · rintro w' ⟨s0, s1, s2, s3, s4, s5, s6, s7, s8, s9⟩
          go_simp
          with_reducible rfl
        rotate_left
        · simp only [Act.put, List.setIfInBounds_toArray, List.set_cons_zero, List.set_cons_succ]
          rfl
        refine one_ (i := 9) (N := some 43) #[true, true, true, true, true, true, true, true, true, true, false, false, false, false] rfl rfl (one_of HT_.out (by kernel_rfl)) (by decide) (fun K hK => ?_)
        refine goes_ Try.func79 (by kernel_rfl) rfl #[.agg #[.int .i64 a.f0, .string a.f1, .int .i64 a.f2, .slice A3 a.f3.length c3], .int .i64 0, .agg #[.int .i64 0, .string ⟨#[]⟩, .int .i64 0, .slice none 0 0]] (by rfl) rfl rfl (by (try simp only [List.map_toArray, List.map_cons, List.map_nil]); first | done | rfl) ?_
        with_reducible refine hi.mono ?_
        rintro e wy ⟨v5, rfl, R5, d5⟩
        obtain ⟨A5, c5, rfl, hc5, C5⟩ := Kd.R_reads R5
        have D5 := below_step d0 d5
        have kT5 := blk_below kT D5
        have kX5 := blk_below kX D5
        have kR5 := blk_below kR D5
        have kO5 := blk_below kO D5
        have B5 := below_step (below_step hB hBr) D5
        have hRy := Kd.R_below hRv D5
        have hwy := D5.size
        have hM : Kd.M k28 wy w.heap.size (fun j => wr.heap.size ≤ j) ⟨e0, e1, e2, e3⟩ [.int .i64 e0, .string e1, .int .i64 e2, .slice A5 e3.length c5] := k28_mkM wy w.heap.size _ ⟨e0, e1, e2, e3⟩ (Kd.R_mono (Kd.R_lower (Kd.R_bound R5) (by simpa using hwr)) (fun j hj => by have := hj.2.1; simpa using this))
        refine ⟨_, rfl, ?_⟩
        refine hK.out _ _ (by obtain ⟨a0, a1, a2, a3, a4, a5, a6, a7, a8⟩ := HS.out wy kT5 kX5 B5; exact ⟨a0, a1, a2, a3, a4, a5, a6, a7, a8, blk_cell kO5 3⟩) (fun hHeld => ?_)
        clear hK K
        refine norm_ (a' := ?_) ?_ ?_
        rotate_left
        · show Act.put _ (some 43) _ = _
          simp only [Act.put, List.setIfInBounds_toArray, List.set_cons_zero, List.set_cons_succ]
          rfl
        refine one_ (i := 10) (N := some 44) #[true, true, true, true, true, true, true, true, true, true, true, false, false, false] rfl rfl (one_of HT_.out (by kernel_rfl)) (by decide) (fun K hK => ?_)
        refine value_ (w1 := ?_) (v := ?_) (by rfl) rfl ?_ ?_
        rotate_left 2
        · go_simp
          constructor
          · rfl
          · rfl
        refine hK.out _ _ (by obtain ⟨a0, a1, a2, a3, a4, a5, a6, a7, a8⟩ := HS.out _ (blk_alloc kT5 _) (blk_alloc kX5 _) (below_alloc B5 _); exact ⟨a0, a1, a2, a3, a4, a5, a6, a7, a8, blk_cell (blk_alloc kO5 _) 3⟩) (fun hHeld => ?_)
        clear hK K
        refine norm_ (a' := ?_) ?_ ?_
        rotate_left
        · show Act.put _ (some 44) _ = _
          simp only [Act.put, List.setIfInBounds_toArray, List.set_cons_zero, List.set_cons_succ]
          rfl
        refine one_ (i := 11) (N := some 45) #[true, true, true, true, true, true, true, true, true, true, true, true, false, false] rfl rfl (one_of HT_.out (by kernel_rfl)) (by decide) (fun K hK => ?_)
        refine Kd.R_append_step k28 (w0 := w) w.heap.size (by rfl) (.tmp 35) (.tmp 44) 22 28 (.agg #[.int .i64 0, .string ⟨#[]⟩, .int .i64 0, .slice none 0 0]) 56 rfl Try.underlying22 info28 rfl (by decide) (by omega) v acc (⟨e0, e1, e2, e3⟩ : S28) [.int .i64 e0, .string e1, .int .i64 e2, .slice A5 e3.length c5] (fun j => w.heap.size + 1 + 1 + 1 < j) (fun j => wr.heap.size ≤ j) (by rfl) (by rfl) hM (fun j hj => ⟨by omega, fun e => by have := hvo j e.symm; omega⟩) (fun j hj => by omega) hRy (below_step hBr D5) (by omega) (by omega) ?_
        intro v8 w8 hR8 hb8 hg8 hat8
        have hlen : (acc ++ [(⟨e0, e1, e2, e3⟩ : S28)]).length = acc.length + 1 := by simp
        obtain ⟨A8, c8, rfl, hc8, C8⟩ := Kd.R_reads hR8
        rw [hlen] at hR8 ⊢
        clear hlen
        have kT8 := blk_grown kT5 hg8 (fun e => by have := hvo _ e.symm; omega)
        have kX8 := blk_grown kX5 hg8 (fun e => by have := hvo _ e.symm; omega)
        have kR8 := blk_grown kR5 hg8 (fun e => by have := hvo _ e.symm; omega)
        have kO8 := blk_grown kO5 hg8 (fun e => by have := hvo _ e.symm; omega)
        have B8 := below_step hB hb8
        refine hK.out _ _ (by obtain ⟨a0, a1, a2, a3, a4, a5, a6, a7, a8⟩ := HS.out w8 kT8 kX8 B8; exact ⟨a0, a1, a2, a3, a4, a5, a6, a7, a8, blk_cell kO8 3⟩) (fun hHeld => ?_)
        clear hK K
        refine norm_ (a' := ?_) ?_ ?_
        rotate_left
        · show Act.put _ (some 45) _ = _
          simp only [Act.put, List.setIfInBounds_toArray, List.set_cons_zero, List.set_cons_succ]
          rfl
        refine pure_ (i := 12) (N := some 46) (v := ?_) (a' := ?_) #[true, true, true, true, true, true, true, true, true, true, true, true, true, false] rfl rfl (any_of HT_.out (by kernel_rfl)) (fun _ _ _ h => h) (Or.inl ⟨by rfl, ?_⟩) ?_ ?_
        rotate_left
        · intro w'
          go_simp
          with_reducible rfl
        rotate_left
        · simp only [Act.put, List.setIfInBounds_toArray, List.set_cons_zero, List.set_cons_succ]
          rfl
        refine last_ (i := 13) (N := none) #[true, true, true, true, true, true, true, true, true, true, true, true, true, true] rfl rfl (one_of HT_.out (by kernel_rfl)) (by decide) (fun K hK => ?_)
        have p3 := blk_cell kO8 3
        have fo := fun i => blk_frozen kO8 i
        have lo := blk_lt kO8
        refine skip_ (w1 := ?_) (by rfl) rfl ?_ ?_
        rotate_left
        · go_simp
          rfl
        refine hK.out _ _ ?_
        clear hK K
        refine done_ (done_of HT_.out (by kernel_rfl)) ?_
        go_wp2
        go_roundw
        case rel => exact ⟨k + 1, .slice A8 (acc.length + 1) c8, by omega, by go_num, blk_far kT8 (show w.heap.size ≠ w.heap.size + 1 + 1 + 1 by omega) _, blk_far kX8 (show w.heap.size + 1 ≠ w.heap.size + 1 + 1 + 1 by omega) _, blk_far kR8 (show w.heap.size + 1 + 1 ≠ w.heap.size + 1 + 1 + 1 by omega) _, blk_set kO8 3 _, by rw [HTK.out]; exact Kd.R_step hR8 (fun j hj _ => Below.heap_setCell _ _ _ j (show j ≠ w.heap.size + 1 + 1 + 1 by omega)), below_set hb8 (by omega)⟩
        case measure => simp [intOf]; omega
      · obtain rfl : k = xs.length := by omega
        rw [List.take_length] at hRv
        obtain ⟨Av, cv, rfl, hcv, Cv⟩ := Kd.R_reads hRv
        have o0 := blk_cell kO 0
        have o1 := blk_cell kO 1
        have o2 := blk_cell kO 2
        have o3 := blk_cell kO 3
        have r0 := blk_cell kR 0
        have r1 := blk_cell kR 1
        have r2 := blk_cell kR 2
        have r3 := blk_cell kR 3
        have fr := fun i => blk_frozen kR i
        have lr := blk_lt kR
        clear ih
        go_wp2
        have kF := res_box kR (.int .i64 4) (.string nm) (.int .i64 0) (.slice Av (cpRL xs).length cv)
        have hBF : Below w.heap.size w ((((wr.setCell ⟨w.heap.size + 1 + 1, 0, none⟩ (.int .i64 4)).setCell ⟨w.heap.size + 1 + 1, 1, none⟩ (.string nm)).setCell ⟨w.heap.size + 1 + 1, 2, none⟩ (.int .i64 0)).setCell ⟨w.heap.size + 1 + 1, 3, none⟩ (.slice Av (cpRL xs).length cv)) :=
          below_set (below_set (below_set (below_set hBr (by omega)) (by omega)) (by omega)) (by omega)
        have hRF := R_set4 (g := w.heap.size + 1 + 1) hRv (fun j hj => by omega) (.int .i64 4) (.string nm) (.int .i64 0) (.slice Av (cpRL xs).length cv)
        generalize ((((wr.setCell ⟨w.heap.size + 1 + 1, 0, none⟩ (.int .i64 4)).setCell ⟨w.heap.size + 1 + 1, 1, none⟩ (.string nm)).setCell ⟨w.heap.size + 1 + 1, 2, none⟩ (.int .i64 0)).setCell ⟨w.heap.size + 1 + 1, 3, none⟩ (.slice Av (cpRL xs).length cv)) = WF at kF hBF hRF ⊢
        have q0 := blk_cell kF 0
        have q1 := blk_cell kF 1
        have q2 := blk_cell kF 2
        have q3 := blk_cell kF 3
        refine bodyPost_ret (v := .agg #[.int .i64 4, .string nm, .int .i64 0, .slice Av (cpRL xs).length cv]) (by simp [results, Try.results79, go_sem, q0, q1, q2, q3]) rfl ?_
        exact ⟨.slice Av (cpRL xs).length cv, rfl, Kd.R_mono hRF (fun _ _ => trivial), hBF⟩
  · rw [if_neg k4]
    have k4' : (kd != 4) = true := by simpa using k4
    have hbare := rbare_any ⟨kd, nm, nt, xs⟩ (((w.alloc (.cells #[.int .i64 kd, .string nm, .int .i64 nt, .slice A xs.length c] 28)).alloc (.cells #[.int .i64 0, .string ⟨#[]⟩, .int .i64 0, .slice none 0 0] 28)).alloc (.cells #[.int .i64 0, .string ⟨#[]⟩, .int .i64 0, .slice none 0 0] 28)) A c
    have hbv : bareR ⟨kd, nm, nt, xs⟩ = if kd ≤ 2 then ⟨kd, ⟨#[]⟩, nt, []⟩ else ⟨kd, nm, 0, []⟩ := rfl
    rw [← hbv]
    have hb3 : (bareR ⟨kd, nm, nt, xs⟩).f3 = [] := by unfold bareR; split <;> rfl
    generalize bareR ⟨kd, nm, nt, xs⟩ = bt at hbare hb3 ⊢
    clear hbv ih
    have hg : kd = 1 ∧ nt ≠ 0 ∨ kd ≠ 1 := by omega
    rcases hg with ⟨rfl, hnt⟩ | hk1
    · have hnt' : (nt == 0) = false := by simpa using hnt
      go_enter Try.func79, Try.ntmps79
      go_wp2_with fail
      refine hbare.mono ?_
      rintro e w1 ⟨rfl, hb1⟩
      replace kR := blk_below kR hb1
      have hB5 := below_step hB3 hb1
      have r0 := blk_cell kR 0
      have r1 := blk_cell kR 1
      have r2 := blk_cell kR 2
      have r3 := blk_cell kR 3
      have fr := fun i => blk_frozen kR i
      have lr := blk_lt kR
      clear hb1 hbare kT kX hB3
      go_wp2
      have kF := res_box kR (.int .i64 bt.f0) (.string bt.f1) (.int .i64 bt.f2) (.slice none 0 0)
      have hBF : Below w.heap.size w ((((w1.setCell ⟨w.heap.size + 1 + 1, 0, none⟩ (.int .i64 bt.f0)).setCell ⟨w.heap.size + 1 + 1, 1, none⟩ (.string bt.f1)).setCell ⟨w.heap.size + 1 + 1, 2, none⟩ (.int .i64 bt.f2)).setCell ⟨w.heap.size + 1 + 1, 3, none⟩ (.slice none 0 0)) :=
        below_set (below_set (below_set (below_set hB5 (by omega)) (by omega)) (by omega)) (by omega)
      generalize ((((w1.setCell ⟨w.heap.size + 1 + 1, 0, none⟩ (.int .i64 bt.f0)).setCell ⟨w.heap.size + 1 + 1, 1, none⟩ (.string bt.f1)).setCell ⟨w.heap.size + 1 + 1, 2, none⟩ (.int .i64 bt.f2)).setCell ⟨w.heap.size + 1 + 1, 3, none⟩ (.slice none 0 0)) = WF at kF hBF ⊢
      have q0 := blk_cell kF 0
      have q1 := blk_cell kF 1
      have q2 := blk_cell kF 2
      have q3 := blk_cell kF 3
      refine bodyPost_ret (v := .agg #[.int .i64 bt.f0, .string bt.f1, .int .i64 bt.f2, .slice none 0 0]) (by simp [results, Try.results79, go_sem, q0, q1, q2, q3]) rfl ?_
      exact ⟨.slice none 0 0, rfl, by rw [hb3]; exact Kd.R_nil _ _ _ _ _, hBF⟩
    · have hk1' : (kd == 1) = false := by simpa using hk1
      go_enter Try.func79, Try.ntmps79
      go_wp2_with fail
      refine hbare.mono ?_
      rintro e w1 ⟨rfl, hb1⟩
      replace kR := blk_below kR hb1
      have hB5 := below_step hB3 hb1
      have r0 := blk_cell kR 0
      have r1 := blk_cell kR 1
      have r2 := blk_cell kR 2
      have r3 := blk_cell kR 3
      have fr := fun i => blk_frozen kR i
      have lr := blk_lt kR
      clear hb1 hbare kT kX hB3
      go_wp2
      have kF := res_box kR (.int .i64 bt.f0) (.string bt.f1) (.int .i64 bt.f2) (.slice none 0 0)
      have hBF : Below w.heap.size w ((((w1.setCell ⟨w.heap.size + 1 + 1, 0, none⟩ (.int .i64 bt.f0)).setCell ⟨w.heap.size + 1 + 1, 1, none⟩ (.string bt.f1)).setCell ⟨w.heap.size + 1 + 1, 2, none⟩ (.int .i64 bt.f2)).setCell ⟨w.heap.size + 1 + 1, 3, none⟩ (.slice none 0 0)) :=
        below_set (below_set (below_set (below_set hB5 (by omega)) (by omega)) (by omega)) (by omega)
      generalize ((((w1.setCell ⟨w.heap.size + 1 + 1, 0, none⟩ (.int .i64 bt.f0)).setCell ⟨w.heap.size + 1 + 1, 1, none⟩ (.string bt.f1)).setCell ⟨w.heap.size + 1 + 1, 2, none⟩ (.int .i64 bt.f2)).setCell ⟨w.heap.size + 1 + 1, 3, none⟩ (.slice none 0 0)) = WF at kF hBF ⊢
      have q0 := blk_cell kF 0
      have q1 := blk_cell kF 1
      have q2 := blk_cell kF 2
      have q3 := blk_cell kF 3
      refine bodyPost_ret (v := .agg #[.int .i64 bt.f0, .string bt.f1, .int .i64 bt.f2, .slice none 0 0]) (by simp [results, Try.results79, go_sem, q0, q1, q2, q3]) rfl ?_
      exact ⟨.slice none 0 0, rfl, by rw [hb3]; exact Kd.R_nil _ _ _ _ _, hBF⟩


/-! From TmQd. -/
set_option maxHeartbeats 1000000 in
set_option maxRecDepth 100000 in
theorem rcopy_any (t : S28) (w0 w : World) (A : Option Addr) (c : Nat) (hC : Kd.C k28 w0 A t.f3.length t.f3) (hc : t.f3.length ≤ c) (hB : Below w0.heap.size w0 w) (hn : nodes t < 1000000) :
    Calls Try.prog 71 #[.agg #[.int .i64 t.f0, .string t.f1, .int .i64 t.f2, .slice A t.f3.length c]] w fun e w' => ∃ v,
      e = .returned (.agg #[.int .i64 (cpR t).f0, .string (cpR t).f1, .int .i64 (cpR t).f2, v]) ∧ Kd.R k28 28 w' w.heap.size (fun _ => True) v (cpR t).f3 ∧ Below w.heap.size w w' := by
  have hB2 := below_alloc (below_alloc (Below.refl w.heap.size w) (.cells #[.int .i64 t.f0, .string t.f1, .int .i64 t.f2, .slice A t.f3.length c] 28)) (.cells #[.int .i64 0, .string ⟨#[]⟩, .int .i64 0, .slice none 0 0] 28)
  have kR := blk_new (w.alloc (.cells #[.int .i64 t.f0, .string t.f1, .int .i64 t.f2, .slice A t.f3.length c] 28)) (.cells #[.int .i64 0, .string ⟨#[]⟩, .int .i64 0, .slice none 0 0] 28)
  rw [World.size_alloc] at kR
  have hcall := rput_any _ t rfl w0 _ c A hC hc (below_step hB hB2) hn
  generalize cpR t = r at hcall ⊢
  obtain ⟨e0, e1, e2, e3⟩ := r
  simp only at hcall ⊢
  go_enter Try.func71, Try.ntmps71
  go_wp2_with fail
  refine hcall.mono ?_
  rintro e w1 ⟨v, rfl, R, hb⟩
  obtain ⟨A5, c5, rfl, hc5, C5⟩ := Kd.R_reads R
  replace kR := blk_below kR hb
  have hB3 := below_step hB2 hb
  clear hcall hb
  have r0 := blk_cell kR 0
  have r1 := blk_cell kR 1
  have r2 := blk_cell kR 2
  have r3 := blk_cell kR 3
  have fr := fun i => blk_frozen kR i
  have lr := blk_lt kR
  go_wp2
  have kF := res_box kR (.int .i64 e0) (.string e1) (.int .i64 e2) (.slice A5 e3.length c5)
  have hBF : Below w.heap.size w ((((w1.setCell ⟨w.heap.size + 1, 0, none⟩ (.int .i64 e0)).setCell ⟨w.heap.size + 1, 1, none⟩ (.string e1)).setCell ⟨w.heap.size + 1, 2, none⟩ (.int .i64 e2)).setCell ⟨w.heap.size + 1, 3, none⟩ (.slice A5 e3.length c5)) := below_set (below_set (below_set (below_set hB3 (by omega)) (by omega)) (by omega)) (by omega)
  have hRF := R_set4 (g := w.heap.size + 1) (Kd.R_bound R) (fun j hj => by have := hj.2.1; simp at this; omega) (.int .i64 e0) (.string e1) (.int .i64 e2) (.slice A5 e3.length c5)
  generalize ((((w1.setCell ⟨w.heap.size + 1, 0, none⟩ (.int .i64 e0)).setCell ⟨w.heap.size + 1, 1, none⟩ (.string e1)).setCell ⟨w.heap.size + 1, 2, none⟩ (.int .i64 e2)).setCell ⟨w.heap.size + 1, 3, none⟩ (.slice A5 e3.length c5)) = WF at kF hBF hRF ⊢
  have q0 := blk_cell kF 0
  have q1 := blk_cell kF 1
  have q2 := blk_cell kF 2
  have q3 := blk_cell kF 3
  refine bodyPost_ret (v := .agg #[.int .i64 e0, .string e1, .int .i64 e2, .slice A5 e3.length c5]) (by simp [results, Try.results71, go_sem, q0, q1, q2, q3]) rfl ?_
  exact ⟨_, rfl, Kd.R_mono (Kd.R_lower hRF (by simp; omega)) (fun _ _ => trivial), hBF⟩

/-- What the first binding of a variable puts in. -/
def apV (bs : List S89) (t : S28) : S28 := match firstB bs t.f2 with | some y => cpR y | none => bareR t
mutual
/-- The first binding of each variable put in, as the document does it. -/
def apR (bs : List S89) : S28 → S28
  | ⟨kd, nm, nt, xs⟩ => if kd = 1 then apV bs ⟨kd, nm, nt, xs⟩ else if kd = 4 then ⟨4, nm, 0, apRL bs xs⟩ else bareR ⟨kd, nm, nt, xs⟩
def apRL (bs : List S89) : List S28 → List S28
  | [] => []
  | a :: r => apR bs a :: apRL bs r
end
theorem apRL_map (bs : List S89) : ∀ xs : List S28, apRL bs xs = xs.map (apR bs)
  | [] => by rw [apRL]; rfl
  | a :: r => by rw [apRL, apRL_map bs r]; rfl
theorem apRL_take (bs : List S89) (xs : List S28) (k : Nat) (h : k < xs.length) : apRL bs (xs.take (k + 1)) = apRL bs (xs.take k) ++ [apR bs xs[k]] := by
  rw [List.take_succ_eq_append_getElem h, apRL_map, apRL_map, List.map_append]; rfl
theorem apRL_len (bs : List S89) (xs : List S28) : (apRL bs xs).length = xs.length := by rw [apRL_map, List.length_map]
theorem bareR_eq {t : S28} (h : shT t = true) (h4 : t.f0 ≠ 4) : bareR t = bareT t := by
  have := sh_kind' h
  obtain ⟨kd, nm, nt, xs⟩ := t
  simp only at this h4
  unfold bareR
  rw [bare_kind]
  simp only
  by_cases h2 : kd ≤ 2
  · rw [if_pos h2, if_pos (by omega)]
  · rw [if_neg h2, if_neg (by omega)]
mutual
/-- Of right terms it is what is put in. -/
theorem apR_sg (bs : List S89) (hb : ∀ b ∈ bs, shT b.f1 = true) : ∀ t : S28, shT t = true → apR bs t = sg (bS bs) t
  | ⟨kd, nm, nt, xs⟩, h => by
    rw [apR, sg_eq]
    by_cases h1 : kd = 1
    · rw [if_pos h1, if_pos h1]
      unfold bS apV
      simp only
      cases hf : firstB bs nt with
      | none =>
        simp only [Option.map_none, Option.getD_none]
        rw [bareR_eq h (by simp only; omega), bare_kind, if_pos (.inl h1), h1]; rfl
      | some y =>
        simp only [Option.map_some, Option.getD_some]
        unfold firstB at hf
        obtain ⟨b, hb1, rfl⟩ := Option.map_eq_some_iff.1 hf
        exact cpR_nrm _ (hb b (List.mem_of_find?_eq_some hb1))
    rw [if_neg h1, if_neg h1]
    by_cases h4 : kd = 4
    · subst h4
      rw [if_pos rfl, if_pos rfl]
      rw [shT, if_neg (by decide), if_neg (by decide), if_pos rfl] at h
      simp only [Bool.and_eq_true] at h
      rw [apRL_sg bs hb xs h.1.2]
    · rw [if_neg h4, if_neg h4]
      exact bareR_eq h h4
theorem apRL_sg (bs : List S89) (hb : ∀ b ∈ bs, shT b.f1 = true) : ∀ xs : List S28, shL xs = true → apRL bs xs = sgL (bS bs) xs
  | [], _ => by rw [apRL]; unfold sgL; rw [subL_nil]
  | a :: r, h => by
    rw [shL_cons, Bool.and_eq_true] at h
    have h1 := apR_sg bs hb a h.1
    have h2 := apRL_sg bs hb r h.2
    unfold sgL at h2 ⊢
    unfold sg at h1
    rw [apRL, subL_cons, h1, h2]
end
def rapply_T14 : Bool × List (List Nat × List Nat) := (true, [([], []), ([0], [0]), ([], []), ([2], [2]), ([], []), ([3, 4], [3, 4]), ([5], [5]), ([], []), ([6, 7], [6, 7]), ([8], [8]), ([1, 9, 8], [1, 9]), ([0, 1, 2, 3, 4, 5, 6, 7, 8, 9, 10], []), ([11, 10, 10, 0, 1, 2, 3, 4, 5, 6, 7, 8, 9, 10], [10, 11])])
def rapply_B14 : List Nat := [0, 1, 0, 4, 0, 28, 60, 0, 252, 508, 1023, 2047, 4095]
theorem rapply_tab14 : rtab .any (opsOf Try.f58 14) = rapply_T14 := by kernel_rfl
theorem rapply_bits14 : waitsOk rapply_T14.2 rapply_B14 = true := by kernel_rfl

set_option maxHeartbeats 4000000 in
set_option maxRecDepth 100000 in
theorem rapply_any (bs : List S89) (E : Option Addr) (ce : Nat) (hbl : bs.length < 1000000) (hbn : ∀ b ∈ bs, nodes b.f1 < 1000000) : ∀ (n : Nat) (t : S28), SizeOf.sizeOf t = n → ∀ (w0 w : World) (c : Nat) (A : Option Addr), Kd.C k28 w0 A t.f3.length t.f3 → t.f3.length ≤ c → Kd.C k89 w0 E bs.length bs → Below w0.heap.size w0 w → nodes t < 1000000 →
    Calls Try.prog 58 #[.agg #[.int .i64 t.f0, .string t.f1, .int .i64 t.f2, .slice A t.f3.length c], .slice E bs.length ce] w fun e w' => ∃ v,
      e = .returned (.agg #[.int .i64 (apR bs t).f0, .string (apR bs t).f1, .int .i64 (apR bs t).f2, v]) ∧ Kd.R k28 28 w' w.heap.size (fun _ => True) v (apR bs t).f3 ∧ Below w.heap.size w w' := by
  intro n
  induction n using Nat.strongRecOn with
  | _ n ih =>
  intro t hn w0 w c A hC hc hE hB hnd
  obtain ⟨kd, nm, nt, xs⟩ := t
  simp only at hC hc ⊢
  have hB2 := below_alloc (below_alloc (Below.refl w.heap.size w) (.cells #[.int .i64 kd, .string nm, .int .i64 nt, .slice A xs.length c] 28)) (.cells #[.int .i64 0, .string ⟨#[]⟩, .int .i64 0, .slice none 0 0] 28)
  have kT : ((w.alloc (.cells #[.int .i64 kd, .string nm, .int .i64 nt, .slice A xs.length c] 28)).alloc (.cells #[.int .i64 0, .string ⟨#[]⟩, .int .i64 0, .slice none 0 0] 28)).heap[w.heap.size]? = some (.cells #[.int .i64 kd, .string nm, .int .i64 nt, .slice A xs.length c] 28 (0, 0)) := blk_alloc (blk_new w _) _
  have kR := blk_new (w.alloc (.cells #[.int .i64 kd, .string nm, .int .i64 nt, .slice A xs.length c] 28)) (.cells #[.int .i64 0, .string ⟨#[]⟩, .int .i64 0, .slice none 0 0] 28)
  rw [World.size_alloc] at kR
  have hbare := fun (W : World) => rbare_any ⟨kd, nm, nt, xs⟩ W A c
  rw [apR]
  by_cases k1 : kd = 1
  · subst k1
    rw [if_pos rfl]
    clear ih
    obtain ⟨rv, hr0⟩ : ∃ rv, rv = apV bs ⟨1, nm, nt, xs⟩ := ⟨_, rfl⟩
    rw [← hr0]
    have HR0 := Lib.hid hr0
    clear hr0
    go_enter Try.func58, Try.ntmps58
    go_upto_region 3 with (fail)
    generalize ((w.alloc (.cells #[.int .i64 1, .string nm, .int .i64 nt, .slice A xs.length c] 28)).alloc (.cells #[.int .i64 0, .string ⟨#[]⟩, .int .i64 0, .slice none 0 0] 28)) = w1 at hB2 kT kR ⊢
    go_loopw [5] (fun i wr => ∃ k : Nat, k ≤ bs.length ∧ i = .int .i64 k ∧ firstB bs nt = firstB (bs.drop k) nt ∧ wr.heap[w.heap.size]? = some (.cells #[.int .i64 1, .string nm, .int .i64 nt, .slice A xs.length c] 28 (0, 0)) ∧
        wr.heap[w.heap.size + 1]? = some (.cells #[.int .i64 0, .string ⟨#[]⟩, .int .i64 0, .slice none 0 0] 28 (0, 0)) ∧ Below w.heap.size w wr) (fun i _ => bs.length - (intOf i).toNat)
    case atStart => exact ⟨0, Nat.zero_le _, rfl, rfl, kT, kR, hB2⟩
    case round =>
      clear kT kR hB2
      obtain ⟨k, hk, rfl, hf, kT, kR, hBr⟩ := hrel
      have hB0 := below_step hB hBr
      by_cases hlt : k < bs.length
      · have hgr := Cb_rd hE k hlt rfl
        have hxn := hbn _ (List.getElem_mem hlt)
        rw [List.drop_eq_getElem_cons hlt, firstB_cons] at hf
        generalize bs[k] = b50 at hgr hxn hf
        obtain ⟨xv, xt⟩ := b50
        obtain ⟨ad, A4, c4, rfl, y0, y1, y2, y3, y4, l4, g4⟩ := hgr
        simp only at y0 y1 y2 y3 y4 l4 g4 hxn hf
        replace y0 := (hB0.cell (World.block_lt_of_cell? w0 _ y0)).trans y0
        replace y1 := (hB0.cell (World.block_lt_of_cell? w0 _ y1)).trans y1
        replace y2 := (hB0.cell (World.block_lt_of_cell? w0 _ y2)).trans y2
        replace y3 := (hB0.cell (World.block_lt_of_cell? w0 _ y3)).trans y3
        replace y4 := (hB0.cell (World.block_lt_of_cell? w0 _ y4)).trans y4
        have x2 := blk_cell kT 2
        have f0 : (0 : Int) ≤ (k : Int) := by omega
        have f1 : (k : Int) < (bs.length : Int) := by omega
        by_cases e : xv = nt
        · subst e
          rw [if_pos rfl] at hf
          have hr1 : cpR xt = rv := by rw [HR0.out]; unfold apV; simp only; rw [hf]
          have HR1 := Lib.hid hr1
          clear hf hr1
          have e' : (xv == xv) = true := by simp
          go_wp2_with fail
          go_quiet (fail)
          go_wp2_with fail
          refine (rcopy_any xt w0 _ A4 c4 g4 l4 (below_drewN hB0 _) hxn).mono ?_
          rw [HR1.out]
          clear HR1 HR0
          obtain ⟨e0, e1, e2, e3⟩ := rv
          simp only
          rintro e w5 ⟨v, rfl, R, hb⟩
          obtain ⟨A5, c5, rfl, hc5, C5⟩ := Kd.R_reads R
          have lr0 := blk_lt kR
          replace kR := blk_below (show (World.drewN wr _).heap[w.heap.size + 1]? = _ from kR) hb
          have hB3 := below_step (below_drewN hBr _) hb
          clear hb y0 y1 y2 y3 y4 x2
          have r0 := blk_cell kR 0
          have r1 := blk_cell kR 1
          have r2 := blk_cell kR 2
          have r3 := blk_cell kR 3
          have fr := fun i => blk_frozen kR i
          have lr := blk_lt kR
          go_wp2
          have kF := res_box kR (.int .i64 e0) (.string e1) (.int .i64 e2) (.slice A5 e3.length c5)
          have hBF : Below w.heap.size w ((((w5.setCell ⟨w.heap.size + 1, 0, none⟩ (.int .i64 e0)).setCell ⟨w.heap.size + 1, 1, none⟩ (.string e1)).setCell ⟨w.heap.size + 1, 2, none⟩ (.int .i64 e2)).setCell ⟨w.heap.size + 1, 3, none⟩ (.slice A5 e3.length c5)) := below_set (below_set (below_set (below_set hB3 (by omega)) (by omega)) (by omega)) (by omega)
          have hRF := R_set4 (g := w.heap.size + 1) (Kd.R_bound R) (fun j hj => by have := hj.2.1; simp at this; omega) (.int .i64 e0) (.string e1) (.int .i64 e2) (.slice A5 e3.length c5)
          generalize ((((w5.setCell ⟨w.heap.size + 1, 0, none⟩ (.int .i64 e0)).setCell ⟨w.heap.size + 1, 1, none⟩ (.string e1)).setCell ⟨w.heap.size + 1, 2, none⟩ (.int .i64 e2)).setCell ⟨w.heap.size + 1, 3, none⟩ (.slice A5 e3.length c5)) = WF at kF hBF hRF ⊢
          have q0 := blk_cell kF 0
          have q1 := blk_cell kF 1
          have q2 := blk_cell kF 2
          have q3 := blk_cell kF 3
          refine bodyPost_ret (v := .agg #[.int .i64 e0, .string e1, .int .i64 e2, .slice A5 e3.length c5]) (by simp [results, Try.results58, go_sem, q0, q1, q2, q3]) rfl ?_
          exact ⟨_, rfl, Kd.R_mono (Kd.R_lower hRF (by have := hBr.size; exact this)) (fun _ _ => trivial), hBF⟩
        · rw [if_neg e] at hf
          have HF := Lib.hid hf
          clear hf
          have e' : (xv == nt) = false := by simpa using e
          go_wp2_with fail
          go_quiet (fail)
          go_wp2
          go_roundw
          case rel => exact ⟨k + 1, by omega, by go_num, HF.out, kT, kR, below_drewN hBr _⟩
          case measure => simp [intOf]; omega
      · obtain rfl : k = bs.length := by omega
        rw [List.drop_of_length_le (Nat.le_refl _)] at hf
        have hr1 : bareR ⟨1, nm, nt, xs⟩ = rv := by rw [HR0.out]; unfold apV; simp only; rw [hf]; rfl
        clear hf
        have x0 := blk_cell kT 0
        have x1 := blk_cell kT 1
        have x2 := blk_cell kT 2
        have x3 := blk_cell kT 3
        have hcall := hbare wr
        clear hbare
        have hb3 : (bareR ⟨1, nm, nt, xs⟩).f3 = [] := by unfold bareR; split <;> rfl
        rw [hr1] at hcall hb3
        clear hr1 HR0
        go_wp2_with fail
        refine hcall.mono ?_
        rintro e w5 ⟨rfl, hb⟩
        replace kR := blk_below kR hb
        have hB3 := below_step hBr hb
        clear hb hcall x0 x1 x2 x3
        have r0 := blk_cell kR 0
        have r1 := blk_cell kR 1
        have r2 := blk_cell kR 2
        have r3 := blk_cell kR 3
        have fr := fun i => blk_frozen kR i
        have lr := blk_lt kR
        go_wp2
        have kF := res_box kR (.int .i64 rv.f0) (.string rv.f1) (.int .i64 rv.f2) (.slice none 0 0)
        have hBF : Below w.heap.size w ((((w5.setCell ⟨w.heap.size + 1, 0, none⟩ (.int .i64 rv.f0)).setCell ⟨w.heap.size + 1, 1, none⟩ (.string rv.f1)).setCell ⟨w.heap.size + 1, 2, none⟩ (.int .i64 rv.f2)).setCell ⟨w.heap.size + 1, 3, none⟩ (.slice none 0 0)) := below_set (below_set (below_set (below_set hB3 (by omega)) (by omega)) (by omega)) (by omega)
        have hRF := R_set4 (g := w.heap.size + 1) (Kd.R_nil k28 28 w5 w.heap.size (fun j => w.heap.size + 1 < j)) (fun j hj => by omega) (.int .i64 rv.f0) (.string rv.f1) (.int .i64 rv.f2) (.slice none 0 0)
        generalize ((((w5.setCell ⟨w.heap.size + 1, 0, none⟩ (.int .i64 rv.f0)).setCell ⟨w.heap.size + 1, 1, none⟩ (.string rv.f1)).setCell ⟨w.heap.size + 1, 2, none⟩ (.int .i64 rv.f2)).setCell ⟨w.heap.size + 1, 3, none⟩ (.slice none 0 0)) = WF at kF hBF hRF ⊢
        have q0 := blk_cell kF 0
        have q1 := blk_cell kF 1
        have q2 := blk_cell kF 2
        have q3 := blk_cell kF 3
        refine bodyPost_ret (v := .agg #[.int .i64 rv.f0, .string rv.f1, .int .i64 rv.f2, .slice none 0 0]) (by simp [results, Try.results58, go_sem, q0, q1, q2, q3]) rfl ?_
        exact ⟨.slice none 0 0, rfl, by rw [hb3]; exact Kd.R_nil _ _ _ _ _, hBF⟩
  rw [if_neg k1]
  have k1' : (kd == 1) = false := by simpa using k1
  by_cases k4 : kd = 4
  · subst k4
    rw [if_pos rfl]
    have hn4 : nodes ⟨4, nm, nt, xs⟩ = 1 + nodesL xs := by rw [nodes, if_pos rfl]
    rw [hn4] at hnd
    have hz : ∀ a ∈ xs, SizeOf.sizeOf a < n ∧ nodes a < 1000000 := fun a ha => ⟨by rw [← hn]; exact sz_mem (t := ⟨4, nm, nt, xs⟩) ha, by have := (nodesL_memY ha).1; omega⟩
    have hxl : xs.length ≤ nodesL xs := nodesL_length xs
    clear hn hn4 hbare
    have hmx := hC.2.1
    go_enter Try.func58, Try.ntmps58
    go_upto_region 12 with (fail)
    have hB4 := below_alloc hB2 (.cells #[.int .i64 4, .string nm, .int .i64 0, .slice none 0 0] 28)
    replace kT := blk_alloc kT (.cells #[.int .i64 4, .string nm, .int .i64 0, .slice none 0 0] 28)
    replace kR := blk_alloc kR (.cells #[.int .i64 4, .string nm, .int .i64 0, .slice none 0 0] 28)
    have kO : (((w.alloc (.cells #[.int .i64 4, .string nm, .int .i64 nt, .slice A xs.length c] 28)).alloc (.cells #[.int .i64 0, .string ⟨#[]⟩, .int .i64 0, .slice none 0 0] 28)).alloc (.cells #[.int .i64 4, .string nm, .int .i64 0, .slice none 0 0] 28)).heap[w.heap.size + 1 + 1]? = some (.cells #[.int .i64 4, .string nm, .int .i64 0, .slice none 0 0] 28 (0, 0)) := by
      have := blk_new ((w.alloc (.cells #[.int .i64 4, .string nm, .int .i64 nt, .slice A xs.length c] 28)).alloc (.cells #[.int .i64 0, .string ⟨#[]⟩, .int .i64 0, .slice none 0 0] 28)) (.cells #[.int .i64 4, .string nm, .int .i64 0, .slice none 0 0] 28)
      rw [World.size_alloc, World.size_alloc] at this
      exact this
    generalize ((w.alloc (.cells #[.int .i64 4, .string nm, .int .i64 nt, .slice A xs.length c] 28)).alloc (.cells #[.int .i64 0, .string ⟨#[]⟩, .int .i64 0, .slice none 0 0] 28)).alloc (.cells #[.int .i64 4, .string nm, .int .i64 0, .slice none 0 0] 28) = w4 at hB4 kT kR kO ⊢
    clear hB2
    go_loopw [7] (fun i wr => ∃ (k : Nat) (v : Value), k ≤ xs.length ∧ i = .int .i64 k ∧ wr.heap[w.heap.size]? = some (.cells #[.int .i64 4, .string nm, .int .i64 nt, .slice A xs.length c] 28 (0, 0)) ∧
        wr.heap[w.heap.size + 1]? = some (.cells #[.int .i64 0, .string ⟨#[]⟩, .int .i64 0, .slice none 0 0] 28 (0, 0)) ∧
        wr.heap[w.heap.size + 1 + 1]? = some (.cells #[.int .i64 4, .string nm, .int .i64 0, v] 28 (0, 0)) ∧ Kd.R k28 28 wr w.heap.size (fun j => w.heap.size + 1 + 1 < j) v (apRL bs (xs.take k)) ∧ Below w.heap.size w wr)
      (fun i _ => xs.length - (intOf i).toNat)
    case atStart => exact ⟨0, .slice none 0 0, Nat.zero_le _, rfl, kT, kR, kO, by rw [List.take_zero, apRL]; exact Kd.R_nil _ _ _ _ _, hB4⟩
    case round =>
      clear kT kR kO hB4
      obtain ⟨k, v, hk, rfl, kT, kR, kO, hRv, hBr⟩ := hrel
      have hB0 := below_step hB hBr
      have x3 := blk_cell kT 3
      by_cases hlt : k < xs.length
      · obtain ⟨ad, A3, c3, rfl, y0, y1, y2, y3, l3, g3⟩ := C_rd hC k hlt rfl
        have htk := apRL_take bs xs k hlt
        have hza := hz _ (List.getElem_mem hlt)
        have hal := apRL_len bs (xs.take k)
        rw [List.length_take, Nat.min_eq_left hk] at hal
        replace hal : (apRL bs (xs.take k)).length ≤ xs.length := by omega
        generalize xs[k] = a at y0 y1 y2 y3 l3 g3 htk hza
        generalize hac : apRL bs (xs.take k) = acc at hRv htk hal
        clear hac
        have HTK := Lib.hid htk
        clear htk
        have HS := Lib.hid (show ∀ W, W.heap[w.heap.size]? = some (.cells #[.int .i64 4, .string nm, .int .i64 nt, .slice (some ad) xs.length c] 28 (0, 0)) → Below w0.heap.size w0 W → W.cell? ⟨w.heap.size, 3, none⟩ = some (.slice (some ad) xs.length c) ∧ W.cell? (ad.add (k * 4)) = some (.int .i64 a.f0) ∧ W.cell? ⟨(ad.add (k * 4)).block, (ad.add (k * 4)).off + 1, none⟩ = some (.string a.f1) ∧ W.cell? ⟨(ad.add (k * 4)).block, (ad.add (k * 4)).off + 2, none⟩ = some (.int .i64 a.f2) ∧ W.cell? ⟨(ad.add (k * 4)).block, (ad.add (k * 4)).off + 3, none⟩ = some (.slice A3 a.f3.length c3) from fun W k1 hW =>
          ⟨blk_cell k1 3, (hW.cell (World.block_lt_of_cell? w0 _ y0)).trans y0, (hW.cell (World.block_lt_of_cell? w0 _ y1)).trans y1, (hW.cell (World.block_lt_of_cell? w0 _ y2)).trans y2, (hW.cell (World.block_lt_of_cell? w0 _ y3)).trans y3⟩)
        have hS1 := HS.out wr.drew kT hB0.drew
        have hi := ih _ hza.1 a rfl w0 wr.drew c3 A3 g3 l3 hE hB0.drew hza.2
        have d0 : Below wr.heap.size wr wr.drew := (Below.refl _ wr).drew
        have o30 : wr.drew.cell? ⟨w.heap.size + 1 + 1, 3, none⟩ = some v := blk_cell (show wr.drew.heap[w.heap.size + 1 + 1]? = some (.cells #[.int .i64 4, .string nm, .int .i64 0, v] 28 (0, 0)) from kO) 3
        have hvo : ∀ j, v.ownBlock = some j → w.heap.size + 1 + 1 < j ∧ j < wr.heap.size := fun j hj => ⟨hRv.1 j hj, ((Kd.R_bound hRv).1 j hj).2.2.1⟩
        have hwr := hBr.size
        have hsz := blk_lt kO
        obtain ⟨r, hr⟩ : ∃ r, r = apR bs a := ⟨_, rfl⟩
        rw [← hr] at hi HTK
        clear hr ih y0 y1 y2 y3 hB0 hk
        obtain ⟨e0, e1, e2, e3⟩ := r
        simp only at hi
        go_wp2_with fail
        refine start_ (n := 13) (S := fun W => W.cell? ⟨w.heap.size, 3, none⟩ = some (.slice (some ad) xs.length c) ∧ W.cell? (ad.add (k * 4)) = some (.int .i64 a.f0) ∧ W.cell? ⟨(ad.add (k * 4)).block, (ad.add (k * 4)).off + 1, none⟩ = some (.string a.f1) ∧ W.cell? ⟨(ad.add (k * 4)).block, (ad.add (k * 4)).off + 2, none⟩ = some (.int .i64 a.f2) ∧ W.cell? ⟨(ad.add (k * 4)).block, (ad.add (k * 4)).off + 3, none⟩ = some (.slice A3 a.f3.length c3) ∧ W.cell? ⟨w.heap.size + 1 + 1, 3, none⟩ = some v) (ds := [12]) #[false, false, false, false, false, false, false, false, false, false, false, false, false] (by kernel_rfl) rfl rfl (by obtain ⟨a0, a1, a2, a3, a4⟩ := hS1; exact ⟨a0, a1, a2, a3, a4, o30⟩) (fun hHeld => ?_)
        refine with_tabW rapply_tab14 rapply_bits14 (fun HT_ HW_ => ?_)
        refine pure_ (i := 0) (N := some 48) (v := ?_) (a' := ?_) #[true, false, false, false, false, false, false, false, false, false, false, false, false] rfl rfl (any_of HT_.out (by kernel_rfl)) (fun _ _ _ h => h) (Or.inl ⟨by rfl, ?_⟩) ?_ ?_
        rotate_left
        · intro w'
          go_simp
          with_reducible rfl
        rotate_left
        · simp only [Act.put, List.setIfInBounds_toArray, List.set_cons_zero, List.set_cons_succ]
          rfl
        refine pure_ (i := 2) (N := some 50) (v := ?_) (a' := ?_) #[true, false, true, false, false, false, false, false, false, false, false, false, false] rfl rfl (any_of HT_.out (by kernel_rfl)) (fun _ _ _ h => h) (Or.inl ⟨by rfl, ?_⟩) ?_ ?_
        rotate_left
        · intro w'
          go_simp
          with_reducible rfl
        rotate_left
        · simp only [Act.put, List.setIfInBounds_toArray, List.set_cons_zero, List.set_cons_succ]
          rfl
        refine pure_ (i := 4) (N := some 52) (v := ?_) (a' := ?_) #[true, false, true, false, true, false, false, false, false, false, false, false, false] rfl rfl (any_of HT_.out (by kernel_rfl)) (fun _ _ _ h => h) (Or.inl ⟨by rfl, ?_⟩) ?_ ?_
        rotate_left
        · intro w'
          go_simp
          with_reducible rfl
        rotate_left
        · simp only [Act.put, List.setIfInBounds_toArray, List.set_cons_zero, List.set_cons_succ]
          rfl
        refine pure_ (i := 7) (N := some 55) (v := ?_) (a' := ?_) #[true, false, true, false, true, false, false, true, false, false, false, false, false] rfl rfl (any_of HT_.out (by kernel_rfl)) (fun _ _ _ h => h) (Or.inl ⟨by rfl, ?_⟩) ?_ ?_
        rotate_left
        · intro w'
          go_simp
          with_reducible rfl
        rotate_left
        · simp only [Act.put, List.setIfInBounds_toArray, List.set_cons_zero, List.set_cons_succ]
          rfl
        refine take_ (i := 1) (N := some 49) (v := ?_) (a' := ?_) #[true, true, true, false, true, false, false, true, false, false, false, false, false] rfl rfl (take_ofW HT_.out HW_.out (by kernel_rfl)) (fun _ _ _ h => h) (Or.inl ⟨by rfl, ?_⟩) hHeld ?_ ?_
        rotate_left
        · rintro w' ⟨s0, s1, s2, s3, s4, s5⟩
          go_simp
          with_reducible rfl
        rotate_left
        · simp only [Act.put, List.setIfInBounds_toArray, List.set_cons_zero, List.set_cons_succ]
          rfl
        refine take_ (i := 3) (N := some 51) (v := ?_) (a' := ?_) #[true, true, true, true, true, false, false, true, false, false, false, false, false] rfl rfl (take_ofW HT_.out HW_.out (by kernel_rfl)) (fun _ _ _ h => h) (Or.inl ⟨by rfl, ?_⟩) hHeld ?_ ?_
        rotate_left
        · rintro w' ⟨s0, s1, s2, s3, s4, s5⟩
          go_simp
          with_reducible rfl
        rotate_left
        · simp only [Act.put, List.setIfInBounds_toArray, List.set_cons_zero, List.set_cons_succ]
          rfl
        refine pure_ (i := 5) (N := some 53) (v := ?_) (a' := ?_) #[true, true, true, true, true, true, false, true, false, false, false, false, false] rfl rfl (any_of HT_.out (by kernel_rfl)) (fun _ _ _ h => h) (Or.inl ⟨by rfl, ?_⟩) ?_ ?_
        rotate_left
        · intro w'
          go_simp
          with_reducible rfl
        rotate_left
        · simp only [Act.put, List.setIfInBounds_toArray, List.set_cons_zero, List.set_cons_succ]
          rfl
        refine take_ (i := 6) (N := some 54) (v := ?_) (a' := ?_) #[true, true, true, true, true, true, true, true, false, false, false, false, false] rfl rfl (take_ofW HT_.out HW_.out (by kernel_rfl)) (fun _ _ _ h => h) (Or.inl ⟨by rfl, ?_⟩) hHeld ?_ ?_
        rotate_left
        · rintro w' ⟨s0, s1, s2, s3, s4, s5⟩
          go_simp
          with_reducible rfl
        rotate_left
        · simp only [Act.put, List.setIfInBounds_toArray, List.set_cons_zero, List.set_cons_succ]
          rfl
        refine one_ (i := 8) (N := some 56) #[true, true, true, true, true, true, true, true, true, false, false, false, false] rfl rfl (one_of HT_.out (by kernel_rfl)) (by decide) (fun K hK => ?_)
        refine goes_ Try.func58 (by kernel_rfl) rfl #[.agg #[.int .i64 a.f0, .string a.f1, .int .i64 a.f2, .slice A3 a.f3.length c3], .slice E bs.length ce] (by rfl) rfl rfl (by (try simp only [List.map_toArray, List.map_cons, List.map_nil]); first | done | rfl) ?_
        with_reducible refine hi.mono ?_
        rintro e wy ⟨v5, rfl, R5, d5⟩
        obtain ⟨A5, c5, rfl, hc5, C5⟩ := Kd.R_reads R5
        have D5 := below_step d0 d5
        have kT5 := blk_below kT D5
        have kR5 := blk_below kR D5
        have kO5 := blk_below kO D5
        have B5 := below_step (below_step hB hBr) D5
        have hRy := Kd.R_below hRv D5
        have hwy := D5.size
        have hM : Kd.M k28 wy w.heap.size (fun j => wr.heap.size ≤ j) ⟨e0, e1, e2, e3⟩ [.int .i64 e0, .string e1, .int .i64 e2, .slice A5 e3.length c5] := k28_mkM wy w.heap.size _ ⟨e0, e1, e2, e3⟩ (Kd.R_mono (Kd.R_lower (Kd.R_bound R5) (by simpa using hwr)) (fun j hj => by have := hj.2.1; simpa using this))
        refine ⟨_, rfl, ?_⟩
        refine hK.out _ _ (by obtain ⟨a0, a1, a2, a3, a4⟩ := HS.out wy kT5 B5; exact ⟨a0, a1, a2, a3, a4, blk_cell kO5 3⟩) (fun hHeld => ?_)
        clear hK K
        refine norm_ (a' := ?_) ?_ ?_
        rotate_left
        · show Act.put _ (some 56) _ = _
          simp only [Act.put, List.setIfInBounds_toArray, List.set_cons_zero, List.set_cons_succ]
          rfl
        refine one_ (i := 9) (N := some 57) #[true, true, true, true, true, true, true, true, true, true, false, false, false] rfl rfl (one_of HT_.out (by kernel_rfl)) (by decide) (fun K hK => ?_)
        refine value_ (w1 := ?_) (v := ?_) (by rfl) rfl ?_ ?_
        rotate_left 2
        · go_simp
          constructor
          · rfl
          · rfl
        refine hK.out _ _ (by obtain ⟨a0, a1, a2, a3, a4⟩ := HS.out _ (blk_alloc kT5 _) (below_alloc B5 _); exact ⟨a0, a1, a2, a3, a4, blk_cell (blk_alloc kO5 _) 3⟩) (fun hHeld => ?_)
        clear hK K
        refine norm_ (a' := ?_) ?_ ?_
        rotate_left
        · show Act.put _ (some 57) _ = _
          simp only [Act.put, List.setIfInBounds_toArray, List.set_cons_zero, List.set_cons_succ]
          rfl
        refine one_ (i := 10) (N := some 58) #[true, true, true, true, true, true, true, true, true, true, true, false, false] rfl rfl (one_of HT_.out (by kernel_rfl)) (by decide) (fun K hK => ?_)
        refine Kd.R_append_step k28 (w0 := w) w.heap.size (by rfl) (.tmp 49) (.tmp 57) 22 28 (.agg #[.int .i64 0, .string ⟨#[]⟩, .int .i64 0, .slice none 0 0]) 56 rfl Try.underlying22 info28 rfl (by decide) (by omega) v acc (⟨e0, e1, e2, e3⟩ : S28) [.int .i64 e0, .string e1, .int .i64 e2, .slice A5 e3.length c5] (fun j => w.heap.size + 1 + 1 < j) (fun j => wr.heap.size ≤ j) (by rfl) (by rfl) hM (fun j hj => ⟨by omega, fun e => by have := hvo j e.symm; omega⟩) (fun j hj => by omega) hRy (below_step hBr D5) (by omega) (by omega) ?_
        intro v8 w8 hR8 hb8 hg8 hat8
        have hlen : (acc ++ [(⟨e0, e1, e2, e3⟩ : S28)]).length = acc.length + 1 := by simp
        obtain ⟨A8, c8, rfl, hc8, C8⟩ := Kd.R_reads hR8
        rw [hlen] at hR8 ⊢
        clear hlen
        have kT8 := blk_grown kT5 hg8 (fun e => by have := hvo _ e.symm; omega)
        have kR8 := blk_grown kR5 hg8 (fun e => by have := hvo _ e.symm; omega)
        have kO8 := blk_grown kO5 hg8 (fun e => by have := hvo _ e.symm; omega)
        have B8 := below_step hB hb8
        refine hK.out _ _ (by obtain ⟨a0, a1, a2, a3, a4⟩ := HS.out w8 kT8 B8; exact ⟨a0, a1, a2, a3, a4, blk_cell kO8 3⟩) (fun hHeld => ?_)
        clear hK K
        refine norm_ (a' := ?_) ?_ ?_
        rotate_left
        · show Act.put _ (some 58) _ = _
          simp only [Act.put, List.setIfInBounds_toArray, List.set_cons_zero, List.set_cons_succ]
          rfl
        refine pure_ (i := 11) (N := some 59) (v := ?_) (a' := ?_) #[true, true, true, true, true, true, true, true, true, true, true, true, false] rfl rfl (any_of HT_.out (by kernel_rfl)) (fun _ _ _ h => h) (Or.inl ⟨by rfl, ?_⟩) ?_ ?_
        rotate_left
        · intro w'
          go_simp
          with_reducible rfl
        rotate_left
        · simp only [Act.put, List.setIfInBounds_toArray, List.set_cons_zero, List.set_cons_succ]
          rfl
        refine last_ (i := 12) (N := none) #[true, true, true, true, true, true, true, true, true, true, true, true, true] rfl rfl (one_of HT_.out (by kernel_rfl)) (by decide) (fun K hK => ?_)
        have p3 := blk_cell kO8 3
        have fo := fun i => blk_frozen kO8 i
        have lo := blk_lt kO8
        refine skip_ (w1 := ?_) (by rfl) rfl ?_ ?_
        rotate_left
        · go_simp
          rfl
        refine hK.out _ _ ?_
        clear hK K
        refine done_ (done_of HT_.out (by kernel_rfl)) ?_
        go_wp2
        go_roundw
        case rel => exact ⟨k + 1, .slice A8 (acc.length + 1) c8, by omega, by go_num, blk_far kT8 (show w.heap.size ≠ w.heap.size + 1 + 1 by omega) _, blk_far kR8 (show w.heap.size + 1 ≠ w.heap.size + 1 + 1 by omega) _, blk_set kO8 3 _, by rw [HTK.out]; exact Kd.R_step hR8 (fun j hj _ => Below.heap_setCell _ _ _ j (show j ≠ w.heap.size + 1 + 1 by omega)), below_set hb8 (by omega)⟩
        case measure => simp [intOf]; omega
      · obtain rfl : k = xs.length := by omega
        rw [List.take_length] at hRv
        obtain ⟨Av, cv, rfl, hcv, Cv⟩ := Kd.R_reads hRv
        have o0 := blk_cell kO 0
        have o1 := blk_cell kO 1
        have o2 := blk_cell kO 2
        have o3 := blk_cell kO 3
        clear ih
        have r0 := blk_cell kR 0
        have r1 := blk_cell kR 1
        have r2 := blk_cell kR 2
        have r3 := blk_cell kR 3
        have fr := fun i => blk_frozen kR i
        have lr := blk_lt kR
        go_wp2
        have kF := res_box kR (.int .i64 4) (.string nm) (.int .i64 0) (.slice Av (apRL bs xs).length cv)
        have hBF : Below w.heap.size w ((((wr.setCell ⟨w.heap.size + 1, 0, none⟩ (.int .i64 4)).setCell ⟨w.heap.size + 1, 1, none⟩ (.string nm)).setCell ⟨w.heap.size + 1, 2, none⟩ (.int .i64 0)).setCell ⟨w.heap.size + 1, 3, none⟩ (.slice Av (apRL bs xs).length cv)) := below_set (below_set (below_set (below_set hBr (by omega)) (by omega)) (by omega)) (by omega)
        have hRF := R_set4 (g := w.heap.size + 1) hRv (fun j hj => by omega) (.int .i64 4) (.string nm) (.int .i64 0) (.slice Av (apRL bs xs).length cv)
        generalize ((((wr.setCell ⟨w.heap.size + 1, 0, none⟩ (.int .i64 4)).setCell ⟨w.heap.size + 1, 1, none⟩ (.string nm)).setCell ⟨w.heap.size + 1, 2, none⟩ (.int .i64 0)).setCell ⟨w.heap.size + 1, 3, none⟩ (.slice Av (apRL bs xs).length cv)) = WF at kF hBF hRF ⊢
        have q0 := blk_cell kF 0
        have q1 := blk_cell kF 1
        have q2 := blk_cell kF 2
        have q3 := blk_cell kF 3
        refine bodyPost_ret (v := .agg #[.int .i64 4, .string nm, .int .i64 0, .slice Av (apRL bs xs).length cv]) (by simp [results, Try.results58, go_sem, q0, q1, q2, q3]) rfl ?_
        exact ⟨_, rfl, Kd.R_mono hRF (fun _ _ => trivial), hBF⟩
  · rw [if_neg k4]
    have k4' : (kd != 4) = true := by simpa using k4
    have hcall := hbare ((w.alloc (.cells #[.int .i64 kd, .string nm, .int .i64 nt, .slice A xs.length c] 28)).alloc (.cells #[.int .i64 0, .string ⟨#[]⟩, .int .i64 0, .slice none 0 0] 28))
    have hb3 : (bareR ⟨kd, nm, nt, xs⟩).f3 = [] := by unfold bareR; split <;> rfl
    generalize bareR ⟨kd, nm, nt, xs⟩ = bt at hcall hb3 ⊢
    clear hbare ih
    go_enter Try.func58, Try.ntmps58
    go_wp2_with fail
    refine hcall.mono ?_
    rintro e w5 ⟨rfl, hb⟩
    replace kR := blk_below kR hb
    have hB3 := below_step hB2 hb
    clear hb hcall kT hB2
    have r0 := blk_cell kR 0
    have r1 := blk_cell kR 1
    have r2 := blk_cell kR 2
    have r3 := blk_cell kR 3
    have fr := fun i => blk_frozen kR i
    have lr := blk_lt kR
    go_wp2
    have kF := res_box kR (.int .i64 bt.f0) (.string bt.f1) (.int .i64 bt.f2) (.slice none 0 0)
    have hBF : Below w.heap.size w ((((w5.setCell ⟨w.heap.size + 1, 0, none⟩ (.int .i64 bt.f0)).setCell ⟨w.heap.size + 1, 1, none⟩ (.string bt.f1)).setCell ⟨w.heap.size + 1, 2, none⟩ (.int .i64 bt.f2)).setCell ⟨w.heap.size + 1, 3, none⟩ (.slice none 0 0)) := below_set (below_set (below_set (below_set hB3 (by omega)) (by omega)) (by omega)) (by omega)
    have hRF := R_set4 (g := w.heap.size + 1) (Kd.R_nil k28 28 w5 w.heap.size (fun j => w.heap.size + 1 < j)) (fun j hj => by omega) (.int .i64 bt.f0) (.string bt.f1) (.int .i64 bt.f2) (.slice none 0 0)
    generalize ((((w5.setCell ⟨w.heap.size + 1, 0, none⟩ (.int .i64 bt.f0)).setCell ⟨w.heap.size + 1, 1, none⟩ (.string bt.f1)).setCell ⟨w.heap.size + 1, 2, none⟩ (.int .i64 bt.f2)).setCell ⟨w.heap.size + 1, 3, none⟩ (.slice none 0 0)) = WF at kF hBF hRF ⊢
    have q0 := blk_cell kF 0
    have q1 := blk_cell kF 1
    have q2 := blk_cell kF 2
    have q3 := blk_cell kF 3
    refine bodyPost_ret (v := .agg #[.int .i64 bt.f0, .string bt.f1, .int .i64 bt.f2, .slice none 0 0]) (by simp [results, Try.results58, go_sem, q0, q1, q2, q3]) rfl ?_
    exact ⟨.slice none 0 0, rfl, by rw [hb3]; exact Kd.R_nil _ _ _ _ _, hBF⟩

/-- The bindings of the first so many variables to their new names. -/
def rbinds (n : Int) : List Int → List S89
  | [] => []
  | v :: r => ⟨v, mkV n⟩ :: rbinds (n + 1) r
theorem rbinds_snoc : ∀ (vs : List Int) (n v : Int), rbinds n (vs ++ [v]) = rbinds n vs ++ [⟨v, mkV (n + vs.length)⟩]
  | [], n, v => by simp [rbinds]
  | u :: r, n, v => by
    rw [List.cons_append, rbinds, rbinds, rbinds_snoc r (n + 1) v, List.cons_append, List.length_cons]
    rw [show n + 1 + (r.length : Int) = n + ((r.length + 1 : Nat) : Int) by push_cast; omega]
theorem rbinds_len (n : Int) : ∀ vs : List Int, (rbinds n vs).length = vs.length
  | [] => rfl
  | v :: r => by rw [rbinds, List.length_cons, List.length_cons, rbinds_len (n + 1) r]
theorem rbinds_first : ∀ (vs : List Int) (n v : Int), firstB (rbinds n vs) v = (rnm vs n v).map mkV
  | [], n, v => by simp [rbinds, firstB, rnm]
  | u :: r, n, v => by
    rw [rbinds, firstB_cons, rnm]
    by_cases h : u = v
    · simp [h]
    · rw [if_neg h, if_neg (fun e => h e.symm)]
      exact rbinds_first r (n + 1) v
theorem rbinds_ok : ∀ (vs : List Int) (n : Int), 1 ≤ n → ∀ b ∈ rbinds n vs, shT b.f1 = true ∧ nodes b.f1 < 1000000
  | [], _, _, b, hb => by cases hb
  | v :: r, n, h, b, hb => by
    rw [rbinds] at hb
    rcases List.mem_cons.1 hb with rfl | hb
    · exact ⟨sh_mkV h, by show nodes (mkV n) < 1000000; unfold mkV; rw [nodes, if_neg (by decide)]; decide⟩
    · exact rbinds_ok r (n + 1) (by omega) b hb
/-- What the document's Rename makes of a right term. -/
theorem rbinds_ren {t : S28} (h : shT t = true) {n : Int} (hn : 1 ≤ n) : apR (rbinds n (varsT t [])) t = renS (rnf (varsT t []) n) t := by
  rw [apR_sg _ (fun b hb => (rbinds_ok _ _ hn b hb).1) t h]
  unfold renS
  refine sub_congr _ _ t (fun v hv => ?_)
  simp only [Option.getD_some]
  unfold bS rnf
  rw [rbinds_first]
  obtain ⟨k, hk, _⟩ := rnm_some (varsT t []) n v ((mem_varsT t v).2 hv)
  rw [hk]
  rfl

set_option maxHeartbeats 4000000 in
set_option maxRecDepth 100000 in
theorem rren_any (t : S28) (n : Int) (w0 w : World) (A : Option Addr) (c : Nat) (h : Lies w0 t A c) (hB : Below w0.heap.size w0 w) (ho : okT t = true) (h1 : 1 ≤ n) (h2 : n ≤ 4611686018427387904) :
    Calls Try.prog 39 #[.agg #[.int .i64 t.f0, .string t.f1, .int .i64 t.f2, .slice A t.f3.length c], .int .i64 n] w fun e w' => ∃ v,
      e = .returned (.tuple #[.agg #[.int .i64 (renS (rnf (varsT t []) n) t).f0, .string (renS (rnf (varsT t []) n) t).f1, .int .i64 (renS (rnf (varsT t []) n) t).f2, v], .int .i64 (n + (varsT t []).length)]) ∧ Kd.R k28 28 w' w.heap.size (fun _ => True) v (renS (rnf (varsT t []) n) t).f3 ∧ Below w.heap.size w w' := by
  have hB2 := below_alloc (below_alloc (Below.refl w.heap.size w) (.cells #[.int .i64 t.f0, .string t.f1, .int .i64 t.f2, .slice A t.f3.length c] 28)) (.cells #[.int .i64 0, .string ⟨#[]⟩, .int .i64 0, .slice none 0 0] 28)
  have kT : ((w.alloc (.cells #[.int .i64 t.f0, .string t.f1, .int .i64 t.f2, .slice A t.f3.length c] 28)).alloc (.cells #[.int .i64 0, .string ⟨#[]⟩, .int .i64 0, .slice none 0 0] 28)).heap[w.heap.size]? = some (.cells #[.int .i64 t.f0, .string t.f1, .int .i64 t.f2, .slice A t.f3.length c] 28 (0, 0)) := blk_alloc (blk_new w _) _
  have kR := blk_new (w.alloc (.cells #[.int .i64 t.f0, .string t.f1, .int .i64 t.f2, .slice A t.f3.length c] 28)) (.cells #[.int .i64 0, .string ⟨#[]⟩, .int .i64 0, .slice none 0 0] 28)
  rw [World.size_alloc] at kR
  have hshp := ((okT_iff t).1 ho)
  have hren := rbinds_ren hshp.1 h1
  have hvl : (varsT t []).length ≤ 2000 := by
    have h1 := varsT_len t []
    simp only [List.length_nil] at h1
    omega
  have hvw := varsT_i64 t [] h.wf (fun x hx => by cases hx)
  have hcall := rVars_at h (below_step hB hB2) (by omega)
  generalize varsT t [] = vs at hren hvl hvw hcall ⊢
  rw [← hren]
  clear hren
  obtain ⟨rv, hrv⟩ : ∃ rv, rv = apR (rbinds n vs) t := ⟨_, rfl⟩
  rw [← hrv]
  have HRV := Lib.hid hrv
  clear hrv
  go_enter Try.func39, Try.ntmps39
  go_wp2_with fail
  refine hcall.mono ?_
  rintro e w1 ⟨Av, cv, rfl, hcv, OV, hb1⟩
  replace kT := blk_below kT hb1
  replace kR := blk_below kR hb1
  have hB3 := below_step hB2 hb1
  clear hcall hb1 hB2
  go_upto_region 4 with (fail)
  have hR0 : Kd.R k89 89 (w1.alloc (.cells #[] 89)) w1.heap.size (fun j => w1.heap.size ≤ j) (.slice (some ⟨w1.heap.size, 0, none⟩) 0 0) [] := by
    refine ⟨fun j hj => by simp [Value.ownBlock] at hj; omega, [], World.ownsRow_made w1 #[] 0 (Nat.le_refl _) (by decide) (by simp), ?_⟩
    exact Reps.none _ _
  have kT1 := Lib.hid kT
  have kR1 := Lib.hid kR
  replace kT := blk_alloc kT (.cells #[] 89)
  replace kR := blk_alloc kR (.cells #[] 89)
  have hB4 := below_alloc hB3 (.cells #[] 89)
  have hB5 := below_alloc (Below.refl w1.heap.size w1) (.cells #[] 89)
  generalize w1.alloc (.cells #[] 89) = w2 at hR0 kT kR hB4 hB5 ⊢
  have hvs := World.ownsRow.lt OV
  have hsT := hB3.size
  go_loopw [7, 8] (fun v i wr => ∃ k : Nat, k ≤ vs.length ∧ i = .int .i64 k ∧ Kd.R k89 89 wr w1.heap.size (fun j => w1.heap.size ≤ j) v (rbinds n (vs.take k)) ∧ Below w1.heap.size w1 wr) (fun _ i _ => vs.length - (intOf i).toNat)
  case atStart => exact ⟨0, Nat.zero_le _, rfl, by rw [List.take_zero]; exact hR0, hB5⟩
  case round =>
    clear hR0 kT kR hB4 hB5
    obtain ⟨k, hk, rfl, hRv, hBr⟩ := hrel
    have OVr := outAt_belowB OV hBr
    by_cases hlt : k < vs.length
    · obtain ⟨A', cv', e', _, CV⟩ := OVr.reads
      cases e'
      obtain ⟨av, rfl, hy⟩ := ints_rd CV k hlt
      have htk : rbinds n (vs.take (k + 1)) = rbinds n (vs.take k) ++ [⟨vs[k], mkV (n + k)⟩] := by
        rw [List.take_succ_eq_append_getElem hlt, rbinds_snoc, List.length_take, Nat.min_eq_left hk]
      have HTK := Lib.hid htk
      have hal : (rbinds n (vs.take k)).length ≤ 2000 := by rw [rbinds_len, List.length_take]; omega
      clear htk CV
      generalize vs[k] = vk at hy HTK
      generalize hac : rbinds n (vs.take k) = acc at hRv HTK hal
      clear hac
      have hM : Kd.M k89 wr w1.heap.size (fun j => wr.heap.size ≤ j) ⟨vk, mkV (n + k)⟩ [.int .i64 vk, .int .i64 1, .string ⟨#[]⟩, .int .i64 (n + k), .slice none 0 0] := k89_mkM wr w1.heap.size _ ⟨vk, mkV (n + k)⟩ (Kd.R_nil _ _ _ _ _)
      have hvo : ∀ j, u7.ownBlock = some j → j < wr.heap.size := fun j hj => ((Kd.R_bound hRv).1 j hj).2.2.1
      have hsr := hBr.size
      go_wp2_with (at_builtin; refine Kd.R_append k89 (w0 := w1) w1.heap.size rfl (.tmp 18) (.tmp 28) 47 89 (.agg #[.int .i64 0, .int .i64 0, .string ⟨#[]⟩, .int .i64 0, .slice none 0 0]) 64 rfl Try.underlying47 info89 rfl (by decide) (by decide) u7 acc (⟨vk, mkV (n + k)⟩ : S89) [.int .i64 vk, .int .i64 1, .string ⟨#[]⟩, .int .i64 (n + k), .slice none 0 0] (fun j => w1.heap.size ≤ j) (fun j => wr.heap.size ≤ j) rfl rfl hM (fun j hj => ⟨by omega, fun e => by have := hvo j e.symm; omega⟩) (fun j hj => by omega) hRv hBr hsr (by omega) ?_; intro v8 w8 hR8 hb8 hg8 hat8)
      go_roundw
      case rel => exact ⟨k + 1, by omega, by go_num, by rw [HTK.out]; exact hR8, hb8⟩
      case measure => simp [intOf]; omega
    · obtain rfl : k = vs.length := by omega
      rw [List.take_length] at hRv
      obtain ⟨Eb, cb, rfl, hcb, CB⟩ := Kd.R_reads hRv
      have hcall := rapply_any (rbinds n vs) Eb cb (by rw [rbinds_len]; omega) (fun b hb => (rbinds_ok vs n h1 b hb).2) _ t rfl wr wr c A (h.at (below_step hB (below_step hB3 hBr))).C h.le CB (Below.refl _ _) (by omega)
      rw [← HRV.out] at hcall
      rw [rbinds_len] at hcall ⊢
      have kTr := blk_below kT1.out hBr
      have kRr := blk_below kR1.out hBr
      have t0 := blk_cell kTr 0
      have t1 := blk_cell kTr 1
      have t2 := blk_cell kTr 2
      have t3 := blk_cell kTr 3
      clear HRV CB hRv kT1 kR1
      obtain ⟨e0, e1, e2, e3⟩ := rv
      simp only at hcall
      go_wp2_with fail
      refine hcall.mono ?_
      rintro e w5 ⟨v, rfl, R, hb⟩
      obtain ⟨A5, c5, rfl, hc5, C5⟩ := Kd.R_reads R
      have kR := blk_below kRr hb
      have hB6 := below_step (below_step hB3 hBr) hb
      have hwr := hBr.size
      have lr0 := blk_lt kRr
      clear hcall hb t0 t1 t2 t3
      have r0 := blk_cell kR 0
      have r1 := blk_cell kR 1
      have r2 := blk_cell kR 2
      have r3 := blk_cell kR 3
      have fr := fun i => blk_frozen kR i
      have lr := blk_lt kR
      go_wp2
      have kF := res_box kR (.int .i64 e0) (.string e1) (.int .i64 e2) (.slice A5 e3.length c5)
      have hBF : Below w.heap.size w ((((w5.setCell ⟨w.heap.size + 1, 0, none⟩ (.int .i64 e0)).setCell ⟨w.heap.size + 1, 1, none⟩ (.string e1)).setCell ⟨w.heap.size + 1, 2, none⟩ (.int .i64 e2)).setCell ⟨w.heap.size + 1, 3, none⟩ (.slice A5 e3.length c5)) := below_set (below_set (below_set (below_set hB6 (by omega)) (by omega)) (by omega)) (by omega)
      have hRF := R_set4 (g := w.heap.size + 1) (Kd.R_bound R) (fun j hj => by have := hj.2.1; omega) (.int .i64 e0) (.string e1) (.int .i64 e2) (.slice A5 e3.length c5)
      generalize ((((w5.setCell ⟨w.heap.size + 1, 0, none⟩ (.int .i64 e0)).setCell ⟨w.heap.size + 1, 1, none⟩ (.string e1)).setCell ⟨w.heap.size + 1, 2, none⟩ (.int .i64 e2)).setCell ⟨w.heap.size + 1, 3, none⟩ (.slice A5 e3.length c5)) = WF at kF hBF hRF ⊢
      have q0 := blk_cell kF 0
      have q1 := blk_cell kF 1
      have q2 := blk_cell kF 2
      have q3 := blk_cell kF 3
      refine bodyPost_ret (v := .tuple #[.agg #[.int .i64 e0, .string e1, .int .i64 e2, .slice A5 e3.length c5], .int .i64 (n + vs.length)]) (by simp [results, Try.results39, go_sem, q0, q1, q2, q3]) rfl ?_
      exact ⟨_, rfl, Kd.R_mono (Kd.R_lower hRF (by omega)) (fun _ _ => trivial), hBF⟩


/-! From TmQe. -/
section
variable {w0 W : World} {t u : S28} {A A' : Option Addr} {c c' : Nat}
theorem rrename_at (h : Lies w0 t A c) (hB : Below w0.heap.size w0 W) (ho : okT t = true) {n : Int} (h1 : 1 ≤ n) (h2 : n ≤ 4611686018427387904) :
    Calls Try.prog 39 #[.agg #[.int .i64 t.f0, .string t.f1, .int .i64 t.f2, .slice A t.f3.length c], .int .i64 n] W fun e w' => ∃ A1 c1,
      e = .returned (.tuple #[.agg #[.int .i64 (renS (rnf (varsT t []) n) t).f0, .string (renS (rnf (varsT t []) n) t).f1, .int .i64 (renS (rnf (varsT t []) n) t).f2, .slice A1 (renS (rnf (varsT t []) n) t).f3.length c1], .int .i64 (n + (varsT t []).length)]) ∧ Lies w' (renS (rnf (varsT t []) n) t) A1 c1 ∧ Below W.heap.size W w' :=
  (rren_any t n w0 W A c h hB ho h1 h2).mono fun e w' ⟨v, a, r, b⟩ => by
    obtain ⟨A1, c1, rfl, g1, g2⟩ := Kd.R_reads r
    have hw := wfT_ren h.wf (n := n) (by unfold I64; omega)
    rw [renT_ok ho h1 h2] at hw
    exact ⟨A1, c1, a, ⟨g2, g1, hw⟩, b⟩
theorem variantT_ok (ht : okT t = true) (hu : okT u = true) : variantT t u = decide (ordT (renS (rnf (varsT t []) 1) t) (renS (rnf (varsT u []) 1) u) = 0) := by
  unfold variantT
  rw [ht, hu, renT_ok ht (by decide) (by decide), renT_ok hu (by decide) (by decide)]
  rfl
set_option maxHeartbeats 1000000 in
set_option maxRecDepth 100000 in
theorem rvariant_at (h : Lies w0 t A c) (k : Lies w0 u A' c') (hB : Below w0.heap.size w0 W) (ht : okT t = true) (hu : okT u = true) :
    Calls Try.prog 17 #[.agg #[.int .i64 t.f0, .string t.f1, .int .i64 t.f2, .slice A t.f3.length c], .agg #[.int .i64 u.f0, .string u.f1, .int .i64 u.f2, .slice A' u.f3.length c']] W fun e w' => e = .returned (.bool (variantT t u)) ∧ Below w0.heap.size w0 w' := by
  rw [variantT_ok ht hu]
  have hsx := ((okT_iff _).1 (ok_renS (rnf (varsT t []) 1) ht (fun v hv => (rnf_bounds v hv).1))).1
  have hsy := ((okT_iff _).1 (ok_renS (rnf (varsT u []) 1) hu (fun v hv => (rnf_bounds v hv).1))).1
  have hB2 := below_alloc (below_alloc (Below.refl W.heap.size W) (.cells #[.int .i64 t.f0, .string t.f1, .int .i64 t.f2, .slice A t.f3.length c] 28)) (.cells #[.int .i64 u.f0, .string u.f1, .int .i64 u.f2, .slice A' u.f3.length c'] 28)
  have kA : ((W.alloc (.cells #[.int .i64 t.f0, .string t.f1, .int .i64 t.f2, .slice A t.f3.length c] 28)).alloc (.cells #[.int .i64 u.f0, .string u.f1, .int .i64 u.f2, .slice A' u.f3.length c'] 28)).heap[W.heap.size]? = some (.cells #[.int .i64 t.f0, .string t.f1, .int .i64 t.f2, .slice A t.f3.length c] 28 (0, 0)) := blk_alloc (blk_new W _) _
  have kB := blk_new (W.alloc (.cells #[.int .i64 t.f0, .string t.f1, .int .i64 t.f2, .slice A t.f3.length c] 28)) (.cells #[.int .i64 u.f0, .string u.f1, .int .i64 u.f2, .slice A' u.f3.length c'] 28)
  rw [World.size_alloc] at kB
  have h1 := rrename_at (h.at hB) hB2 ht (n := 1) (by decide) (by decide)
  have h2 := fun (W' : World) (hW : Below W.heap.size W W') => rrename_at (k.at hB) hW hu (n := 1) (by decide) (by decide)
  generalize renS (rnf (varsT t []) 1) t = x at h1 hsx ⊢
  generalize renS (rnf (varsT u []) 1) u = y at h2 hsy ⊢
  go_enter Try.func17, Try.ntmps17
  go_wp2_with fail
  refine h1.mono ?_
  rintro e w1 ⟨X, cx, rfl, LX, b1⟩
  go_upto_region 2 with (fail)
  have b2 := below_alloc (Below.refl w1.heap.size w1) (.cells #[.int .i64 x.f0, .string x.f1, .int .i64 x.f2, .slice X x.f3.length cx] 28)
  have kX := blk_new w1 (.cells #[.int .i64 x.f0, .string x.f1, .int .i64 x.f2, .slice X x.f3.length cx] 28)
  replace LX := LX.at b2
  replace b1 := below_step b1 b2
  replace kB := blk_below kB b1
  have hB3 := below_step hB2 b1
  generalize w1.alloc (.cells #[.int .i64 x.f0, .string x.f1, .int .i64 x.f2, .slice X x.f3.length cx] 28) = w2 at kX LX b1 kB hB3 ⊢
  clear b2
  generalize w1.heap.size = gx at kX ⊢
  have q0 := blk_cell kB 0
  have q1 := blk_cell kB 1
  have q2 := blk_cell kB 2
  have q3 := blk_cell kB 3
  go_wp2_with fail
  refine (h2 _ hB3).mono ?_
  rintro e w3 ⟨Y, cy, rfl, LY, b3⟩
  clear q0 q1 q2 q3
  go_upto_region 3 with (fail)
  have b4 := below_alloc (Below.refl w3.heap.size w3) (.cells #[.int .i64 y.f0, .string y.f1, .int .i64 y.f2, .slice Y y.f3.length cy] 28)
  have kY := blk_new w3 (.cells #[.int .i64 y.f0, .string y.f1, .int .i64 y.f2, .slice Y y.f3.length cy] 28)
  replace LY := LY.at b4
  replace b3 := below_step b3 b4
  replace kX := blk_below kX b3
  replace LX := LX.at b3
  have hB5 := below_step hB3 b3
  generalize w3.alloc (.cells #[.int .i64 y.f0, .string y.f1, .int .i64 y.f2, .slice Y y.f3.length cy] 28) = w4 at kX kY LX LY b3 hB5 ⊢
  clear b4
  generalize w3.heap.size = gy at kY ⊢
  have q0 := blk_cell kX 0
  have q1 := blk_cell kX 1
  have q2 := blk_cell kX 2
  have q3 := blk_cell kX 3
  have r0 := blk_cell kY 0
  have r1 := blk_cell kY 1
  have r2 := blk_cell kY 2
  have r3 := blk_cell kY 3
  clear h1 h2
  go_wp2_with fail
  refine (rsame_at LX LY (Below.refl _ _) hsx hsy).mono ?_
  rintro e w5 ⟨rfl, b5⟩
  go_wp2
  go_ret
  exact ⟨rfl, below_step hB (below_step hB5 b5)⟩
end

end Go.Proofs.Ytjhhacighfpdbaa
