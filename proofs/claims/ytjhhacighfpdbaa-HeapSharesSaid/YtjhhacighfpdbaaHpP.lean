/- A heap's cells in plain words: which term stands at an address, and what becomes of it when a variable is bound and when two terms are merged. -/
import Derived.Test.YtjhhacighfpdbaaHpG
namespace Go.Proofs.Ytjhhacighfpdbaa
set_option linter.unusedVariables false
open Go.RowKit Go.Maps Go.Proofs.YtjhhacighfpdbaaW.PrintWords Go.Proofs.YtjhhacighfpdbaaW.PrintLast Go.Proofs.YtjhhacighfpdbaaW.PrintMore Go.Proofs.Ytjhhacighfpdbaa.PHeapShares Go.Extern

/-- One cell. -/
structure Cl where
  kd : Int
  nm : ByteArray
  n : Int
  a : Int
  ar : Int

/-- The term that stands at an address. -/
inductive Rep (C : List Cl) : Nat → S28 → Prop
  | free (x : Nat) (c : Cl) (h : C[x]? = some c) (hk : c.kd = 0) : Rep C x (mkV ((x : Int) + 1))
  | ref (x b : Nat) (c : Cl) (t : S28) (h : C[x]? = some c) (hk : c.kd = 1) (ha : c.a = b) (hr : Rep C b t) : Rep C x t
  | num (x : Nat) (c : Cl) (h : C[x]? = some c) (hk : c.kd = 2) (hr : c.ar = 0) (hi : I64 c.n) (hz : c.nm = ⟨#[]⟩) : Rep C x ⟨2, ⟨#[]⟩, c.n, []⟩
  | atom (x : Nat) (c : Cl) (h : C[x]? = some c) (hk : c.kd = 3) (hr : c.ar = 0) (hn : (c.nm.size : Int) ≤ 64) (hz : c.n = 0) : Rep C x ⟨3, c.nm, 0, []⟩
  | comp (x f : Nat) (c : Cl) (ts : List S28) (h : C[x]? = some c) (hk : c.kd = 4) (ha : c.a = f) (hr : c.ar = ts.length) (h1 : 1 ≤ ts.length) (h8 : ts.length ≤ 8) (hn : (c.nm.size : Int) ≤ 64) (hz : c.n = 0)
      (hs : ∀ i (hi : i < ts.length), Rep C (f + i) ts[i]) : Rep C x ⟨4, c.nm, 0, ts⟩

theorem Rep.lt {C : List Cl} {x : Nat} {t : S28} (h : Rep C x t) : x < C.length := by
  induction h with
  | free x c h => exact (List.getElem?_eq_some_iff.1 h).1
  | ref x b c t h => exact (List.getElem?_eq_some_iff.1 h).1
  | num x c h => exact (List.getElem?_eq_some_iff.1 h).1
  | atom x c h => exact (List.getElem?_eq_some_iff.1 h).1
  | comp x f c ts h => exact (List.getElem?_eq_some_iff.1 h).1

theorem Rep.cell {C : List Cl} {x : Nat} {t : S28} (h : Rep C x t) : ∃ c, C[x]? = some c := ⟨_, List.getElem?_eq_getElem h.lt⟩

theorem Rep.det {C : List Cl} {x : Nat} {t : S28} (h : Rep C x t) : ∀ {t'}, Rep C x t' → t = t' := by
  induction h with
  | free x c h hk =>
    intro t' h'
    cases h' with
    | free _ c' h2 hk2 => rfl
    | ref _ b c' _ h2 hk2 ha hr => rw [h] at h2; cases h2; omega
    | num _ c' h2 hk2 => rw [h] at h2; cases h2; omega
    | atom _ c' h2 hk2 => rw [h] at h2; cases h2; omega
    | comp _ f c' ts h2 hk2 => rw [h] at h2; cases h2; omega
  | ref x b c t h hk ha hr ih =>
    intro t' h'
    cases h' with
    | free _ c' h2 hk2 => rw [h] at h2; cases h2; omega
    | ref _ b' c' _ h2 hk2 ha2 hr2 =>
      rw [h] at h2; cases h2
      have : b = b' := by omega
      subst this
      exact ih hr2
    | num _ c' h2 hk2 => rw [h] at h2; cases h2; omega
    | atom _ c' h2 hk2 => rw [h] at h2; cases h2; omega
    | comp _ f c' ts h2 hk2 => rw [h] at h2; cases h2; omega
  | num x c h hk hr hi hz =>
    intro t' h'
    cases h' with
    | free _ c' h2 hk2 => rw [h] at h2; cases h2; omega
    | ref _ b c' _ h2 hk2 ha hr => rw [h] at h2; cases h2; omega
    | num _ c' h2 hk2 => rw [h] at h2; cases h2; rfl
    | atom _ c' h2 hk2 => rw [h] at h2; cases h2; omega
    | comp _ f c' ts h2 hk2 => rw [h] at h2; cases h2; omega
  | atom x c h hk hr hn hz =>
    intro t' h'
    cases h' with
    | free _ c' h2 hk2 => rw [h] at h2; cases h2; omega
    | ref _ b c' _ h2 hk2 ha hr => rw [h] at h2; cases h2; omega
    | num _ c' h2 hk2 => rw [h] at h2; cases h2; omega
    | atom _ c' h2 hk2 => rw [h] at h2; cases h2; rfl
    | comp _ f c' ts h2 hk2 => rw [h] at h2; cases h2; omega
  | comp x f c ts h hk ha hr h1 h8 hn hz hs ih =>
    intro t' h'
    cases h' with
    | free _ c' h2 hk2 => rw [h] at h2; cases h2; omega
    | ref _ b c' _ h2 hk2 ha hr => rw [h] at h2; cases h2; omega
    | num _ c' h2 hk2 => rw [h] at h2; cases h2; omega
    | atom _ c' h2 hk2 => rw [h] at h2; cases h2; omega
    | comp _ f' c' ts' h2 hk2 ha2 hr2 _ _ _ _ hs2 =>
      rw [h] at h2; cases h2
      have hl : ts.length = ts'.length := by omega
      have hf : f = f' := by omega
      subst hf
      have : ts = ts' := List.ext_getElem hl fun i hi hi' => ih i hi (hs2 i hi')
      rw [this]

theorem Rep.inv4 {C : List Cl} {x : Nat} {t : S28} {c : Cl} (ht : Rep C x t) (hx : C[x]? = some c) (h4 : c.kd = 4) :
    ∃ (f : Nat) (ts : List S28), c.a = f ∧ c.ar = ts.length ∧ 1 ≤ ts.length ∧ ts.length ≤ 8 ∧ (c.nm.size : Int) ≤ 64 ∧ t = ⟨4, c.nm, 0, ts⟩ ∧ (∀ i (hi : i < ts.length), Rep C (f + i) ts[i]) ∧ c.n = 0 := by
  cases ht with
  | free _ c' h2 hk2 => rw [hx] at h2; cases h2; omega
  | ref _ b' c' _ h2 hk2 ha2 hr2 => rw [hx] at h2; cases h2; omega
  | num _ c' h2 hk2 => rw [hx] at h2; cases h2; omega
  | atom _ c' h2 hk2 => rw [hx] at h2; cases h2; omega
  | comp _ f' c' ts h2 hk2 ha2 hr2 h1 h8 hn hz hs =>
    rw [hx] at h2; cases h2
    exact ⟨f', ts, ha2, hr2, h1, h8, hn, rfl, hs, hz⟩

theorem nodes_eq4 (nm : ByteArray) (nt : Int) (ts : List S28) : nodes ⟨4, nm, nt, ts⟩ = 1 + nodesL ts := by rw [nodes, if_pos rfl]
theorem nodesL_mem {a : S28} : ∀ {xs : List S28}, a ∈ xs → nodes a ≤ nodesL xs
  | [], h => by cases h
  | b :: r, h => by
    rw [nodesL_cons]
    rcases List.mem_cons.1 h with rfl | h
    · omega
    · have := nodesL_mem h; omega
theorem occL_mem {v : Int} : ∀ {xs : List S28}, v ∈ occL xs ↔ ∃ a ∈ xs, v ∈ occT a
  | [] => by rw [occL_nil]; simp
  | b :: r => by rw [occL_cons, List.mem_append, occL_mem (xs := r)]; simp
theorem occ_eq4 (nm : ByteArray) (nt : Int) (ts : List S28) : occT ⟨4, nm, nt, ts⟩ = occL ts := by rw [occT, if_neg (by decide), if_pos rfl]
theorem occ_mkV (v : Int) : occT (mkV v) = [v] := by unfold mkV; rw [occT, if_pos rfl]

/-- Variables are cells that stand for nothing. -/
theorem Rep.occ {C : List Cl} {x : Nat} {t : S28} (h : Rep C x t) : ∀ v ∈ occT t, ∃ k : Nat, v = (k : Int) + 1 ∧ ∃ c, C[k]? = some c ∧ c.kd = 0 := by
  induction h with
  | free x c h hk => intro v hv; rw [occ_mkV] at hv; simp at hv; exact ⟨x, hv, c, h, hk⟩
  | ref x b c t h hk ha hr ih => exact ih
  | num x c h hk hr hi hz => intro v hv; rw [occT] at hv; simp at hv
  | atom x c h hk hr hn hz => intro v hv; rw [occT] at hv; simp at hv
  | comp x f c ts h hk ha hr h1 h8 hn hz hs ih =>
    intro v hv
    rw [occ_eq4, occL_mem] at hv
    obtain ⟨a, ha, hv⟩ := hv
    obtain ⟨i, hi, rfl⟩ := List.getElem_of_mem ha
    exact ih i hi v hv

theorem sg_eq4 (σ : Int → S28) (nm : ByteArray) (ts : List S28) : sg σ ⟨4, nm, 0, ts⟩ = ⟨4, nm, 0, ts.map (sg σ)⟩ := by rw [sg_eq, if_neg (by decide), if_pos rfl, sgL_map]
theorem sg_num (σ : Int → S28) (n : Int) : sg σ ⟨2, ⟨#[]⟩, n, []⟩ = ⟨2, ⟨#[]⟩, n, []⟩ := by rw [sg_eq]; rfl
theorem sg_atom (σ : Int → S28) (nm : ByteArray) : sg σ ⟨3, nm, 0, []⟩ = ⟨3, nm, 0, []⟩ := by rw [sg_eq]; rfl

theorem Rep.sgV {C : List Cl} {x : Nat} {t : S28} (h : Rep C x t) : sg mkV t = t := by
  induction h with
  | free x c h hk => rw [sg_var]
  | ref x b c t h hk ha hr ih => exact ih
  | num x c h hk hr hi hz => rw [sg_num]
  | atom x c h hk hr hn hz => rw [sg_atom]
  | comp x f c ts h hk ha hr h1 h8 hn hz hs ih =>
    rw [sg_eq4]
    congr 1
    refine List.ext_getElem (by simp) fun i h1 h2 => ?_
    simp only [List.getElem_map]
    exact ih i h2

theorem shL_all : ∀ {xs : List S28}, shL xs = true ↔ ∀ a ∈ xs, shT a = true
  | [] => by rw [shL_nil]; simp
  | b :: r => by rw [shL_cons, Bool.and_eq_true, shL_all (xs := r)]; simp
theorem wfL_all : ∀ {xs : List S28}, wfL xs ↔ ∀ a ∈ xs, wfT a
  | [] => by rw [wfL_nil]; simp
  | b :: r => by rw [wfL_cons, wfL_all (xs := r)]; simp
theorem Rep.sh {C : List Cl} {x : Nat} {t : S28} (h : Rep C x t) : shT t = true := by
  induction h with
  | free x c h hk => unfold mkV; rw [shT, if_pos rfl]; exact decide_eq_true (by omega)
  | ref x b c t h hk ha hr ih => exact ih
  | num x c h hk hr hi hz => rw [shT]; rfl
  | atom x c h hk hr hn hz => rw [shT]; simp; omega
  | comp x f c ts h hk ha hr h1 h8 hn hz hs ih =>
    rw [shT]
    simp only [show ¬((4 : Int) = 1) by decide, show ¬((4 : Int) = 2) by decide, if_false, if_true]
    have : shL ts = true := shL_all.2 fun a ha => by
      obtain ⟨i, hi, rfl⟩ := List.getElem_of_mem ha
      exact ih i hi
    simp [this, h1, h8, hn]
theorem Rep.wf {C : List Cl} (hC : C.length ≤ 1000000) {x : Nat} {t : S28} (h : Rep C x t) : wfT t := by
  induction h with
  | free x c h hk =>
    have := (List.getElem?_eq_some_iff.1 h).1
    unfold mkV; rw [wfT, wfL_nil]; exact ⟨⟨by omega, by omega⟩, trivial⟩
  | ref x b c t h hk ha hr ih => exact ih
  | num x c h hk hr hi hz => rw [wfT, wfL_nil]; exact ⟨hi, trivial⟩
  | atom x c h hk hr hn hz => rw [wfT, wfL_nil]; exact ⟨⟨by decide, by decide⟩, trivial⟩
  | comp x f c ts h hk ha hr h1 h8 hn hz hs ih =>
    rw [wfT]
    refine ⟨⟨by decide, by decide⟩, wfL_all.2 fun a ha => ?_⟩
    obtain ⟨i, hi, rfl⟩ := List.getElem_of_mem ha
    exact ih i hi

/-- More cells: the terms stay. -/
theorem Rep.ext {C D : List Cl} (hD : ∀ (i : Nat) (c : Cl), C[i]? = some c → D[i]? = some c) {x : Nat} {t : S28} (h : Rep C x t) : Rep D x t := by
  induction h with
  | free x c h hk => exact .free x c (hD _ _ h) hk
  | ref x b c t h hk ha hr ih => exact .ref x b c t (hD _ _ h) hk ha ih
  | num x c h hk hr hi hz => exact .num x c (hD _ _ h) hk hr hi hz
  | atom x c h hk hr hn hz => exact .atom x c (hD _ _ h) hk hr hn hz
  | comp x f c ts h hk ha hr h1 h8 hn hz hs ih => exact .comp x f c ts (hD _ _ h) hk ha hr h1 h8 hn hz ih

/-- Every cell stands for a term. -/
def HI (C : List Cl) : Prop := ∀ x, x < C.length → ∃ t, Rep C x t

def refC (b : Int) : Cl := ⟨1, ⟨#[]⟩, 0, b, 0⟩

theorem Rep.bind_far {C : List Cl} {v : Nat} {r : Cl} {x : Nat} {t : S28} (h : Rep C x t) (cv : Cl) (hv : C[v]? = some cv) (hk0 : cv.kd = 0) (ho : (v : Int) + 1 ∉ occT t) : Rep (C.set v r) x t := by
  have hset : ∀ (i : Nat) (c : Cl), C[i]? = some c → i ≠ v → (C.set v r)[i]? = some c := fun i c hi hne => by rw [List.getElem?_set_ne (fun e => hne e.symm)]; exact hi
  induction h with
  | free x c h hk =>
    refine .free x c (hset _ _ h fun e => ho ?_) hk
    rw [occ_mkV, e]; simp
  | ref x b c t h hk ha hr ih => exact .ref x b c t (hset _ _ h fun e => by rw [e, hv] at h; cases h; omega) hk ha (ih ho)
  | num x c h hk hr hi hz => exact .num x c (hset _ _ h fun e => by rw [e, hv] at h; cases h; omega) hk hr hi hz
  | atom x c h hk hr hn hz => exact .atom x c (hset _ _ h fun e => by rw [e, hv] at h; cases h; omega) hk hr hn hz
  | comp x f c ts h hk ha hr h1 h8 hn hz hs ih =>
    refine .comp x f c ts (hset _ _ h fun e => by rw [e, hv] at h; cases h; omega) hk ha hr h1 h8 hn hz fun i hi => ih i hi fun h => ho ?_
    rw [occ_eq4, occL_mem]
    exact ⟨_, List.getElem_mem hi, h⟩

/-- What a binding makes of variables. -/
def bindS (v : Nat) (t : S28) : Int → S28 := fun u => if u = (v : Int) + 1 then t else mkV u

theorem Rep.bind {C : List Cl} {v b : Nat} {t : S28} (cv : Cl) (hv : C[v]? = some cv) (hk0 : cv.kd = 0) (hb : Rep C b t) (ho : (v : Int) + 1 ∉ occT t) {x : Nat} {s : S28} (h : Rep C x s) : Rep (C.set v (refC b)) x (sg (bindS v t) s) := by
  have hset : ∀ (i : Nat) (c : Cl), C[i]? = some c → i ≠ v → (C.set v (refC b))[i]? = some c := fun i c hi hne => by rw [List.getElem?_set_ne (fun e => hne e.symm)]; exact hi
  have hvl := (List.getElem?_eq_some_iff.1 hv).1
  induction h with
  | free x c h hk =>
    rw [sg_var]
    by_cases e : x = v
    · subst e
      unfold bindS
      rw [if_pos rfl]
      exact .ref x b (refC b) t (by rw [List.getElem?_set_self hvl]) rfl rfl (hb.bind_far cv hv hk0 ho)
    · unfold bindS
      rw [if_neg (by omega)]
      exact .free x c (hset _ _ h e) hk
  | ref x b' c t h hk ha hr ih => exact .ref x b' c _ (hset _ _ h fun e => by rw [e, hv] at h; cases h; omega) hk ha ih
  | num x c h hk hr hi hz => rw [sg_num]; exact .num x c (hset _ _ h fun e => by rw [e, hv] at h; cases h; omega) hk hr hi hz
  | atom x c h hk hr hn hz => rw [sg_atom]; exact .atom x c (hset _ _ h fun e => by rw [e, hv] at h; cases h; omega) hk hr hn hz
  | comp x f c ts h hk ha hr h1 h8 hn hz hs ih =>
    rw [sg_eq4]
    refine .comp x f c _ (hset _ _ h fun e => by rw [e, hv] at h; cases h; omega) hk ha (by simpa using hr) (by simpa using h1) (by simpa using h8) hn hz fun i hi => ?_
    simp only [List.getElem_map]
    exact ih i (by simpa using hi)

/-- Two compound terms that are the same are made one. -/
theorem Rep.merge {C : List Cl} {p q : Nat} {t : S28} {cp cq : Cl} (hp : C[p]? = some cp) (hp4 : cp.kd = 4) (hq : C[q]? = some cq) (hq4 : cq.kd = 4) (hpq : p ≠ q) (htp : Rep C p t) (htq : Rep C q t) :
    ∀ (n x : Nat) (s : S28), nodes s ≤ n → Rep C x s → Rep (C.set p (refC q)) x s := by
  have hset : ∀ (i : Nat) (c : Cl), C[i]? = some c → i ≠ p → (C.set p (refC q))[i]? = some c := fun i c hi hne => by rw [List.getElem?_set_ne (fun e => hne e.symm)]; exact hi
  have hpl := (List.getElem?_eq_some_iff.1 hp).1
  intro n
  induction n with
  | zero => intro x s hN _; have := nodes_pos s; omega
  | succ n ihn =>
    intro x s hN h
    induction h with
    | free x c h hk => exact .free x c (hset _ _ h fun e => by rw [e, hp] at h; cases h; omega) hk
    | ref x b c t h hk ha hr ih => exact .ref x b c t (hset _ _ h fun e => by rw [e, hp] at h; cases h; omega) hk ha (ih hN)
    | num x c h hk hr hi hz => exact .num x c (hset _ _ h fun e => by rw [e, hp] at h; cases h; omega) hk hr hi hz
    | atom x c h hk hr hn hz => exact .atom x c (hset _ _ h fun e => by rw [e, hp] at h; cases h; omega) hk hr hn hz
    | comp x f c ts h hk ha hr h1 h8 hnm hz hs ih =>
      rw [nodes_eq4] at hN
      by_cases e : x = p
      · subst e
        have he := htp.det (.comp x f c ts h hk ha hr h1 h8 hnm hz hs)
        subst he
        refine .ref x q (refC q) _ (by rw [List.getElem?_set_self hpl]) rfl rfl ?_
        obtain ⟨f', ts', ha2, hr2, h12, h82, hn2, e2, hs2, hz2⟩ := htq.inv4 hq hq4
        simp only [S28.mk.injEq, true_and] at e2
        obtain ⟨e3, rfl⟩ := e2
        rw [e3]
        exact .comp q f' cq ts (hset _ _ hq fun e => hpq e.symm) hq4 ha2 hr2 h12 h82 hn2 hz2 fun i hi => ihn _ _ (by have := nodesL_mem (List.getElem_mem hi); omega) (hs2 i hi)
      · exact .comp x f c ts (hset _ _ h e) hk ha hr h1 h8 hnm hz fun i hi => ihn _ _ (by have := nodesL_mem (List.getElem_mem hi); omega) (hs i hi)

/-- A part of a term, or the term. -/
inductive Sub (s : S28) : S28 → Prop
  | refl : Sub s s
  | arg (a : S28) (nm : ByteArray) (ts : List S28) (ha : a ∈ ts) (h : Sub s a) : Sub s ⟨4, nm, 0, ts⟩
theorem Sub.nodes {s t : S28} (h : Sub s t) : nodes s ≤ nodes t := by
  induction h with
  | refl => exact Nat.le_refl _
  | arg a nm ts ha h ih => rw [nodes_eq4]; have := nodesL_mem ha; omega
theorem Sub.sg {s t : S28} (σ : Int → S28) (h : Sub s t) : Sub (sg σ s) (sg σ t) := by
  induction h with
  | refl => exact .refl
  | arg a nm ts ha h ih => rw [sg_eq4]; exact .arg _ _ _ (List.mem_map_of_mem ha) ih
theorem Sub.trans {r s t : S28} (h : Sub r s) (k : Sub s t) : Sub r t := by
  induction k with
  | refl => exact h
  | arg a nm ts ha k ih => exact .arg a _ _ ha ih

/-- How many cells stand for nothing. -/
def freeN (C : List Cl) : Nat := C.countP fun c => c.kd == 0
theorem freeN_set {C : List Cl} {i : Nat} {c d : Cl} (h : C[i]? = some c) : freeN (C.set i d) + (if c.kd = 0 then 1 else 0) = freeN C + (if d.kd = 0 then 1 else 0) := by
  unfold freeN
  obtain ⟨hi, rfl⟩ := List.getElem?_eq_some_iff.1 h
  rw [List.countP_set hi]
  have hpos : (C[i].kd == 0) = true → 0 < C.countP fun c => c.kd == 0 := fun h => List.countP_pos_iff.2 ⟨_, List.getElem_mem hi, h⟩
  by_cases h1 : C[i].kd = 0
  · have e1 : (C[i].kd == 0) = true := by simp [h1]
    have := hpos e1
    by_cases h2 : d.kd = 0
    · have e2 : (d.kd == 0) = true := by simp [h2]
      simp only [h1, h2, if_true, beq_self_eq_true]; omega
    · have e2 : (d.kd == 0) = false := by simp [h2]
      simp only [h1, h2, beq_self_eq_true, beq_iff_eq, if_true, if_false]; omega
  · have e1 : (C[i].kd == 0) = false := by simp [h1]
    by_cases h2 : d.kd = 0
    · have e2 : (d.kd == 0) = true := by simp [h2]
      simp [h1, h2]
    · have e2 : (d.kd == 0) = false := by simp [h2]
      simp [h1, h2]

end Go.Proofs.Ytjhhacighfpdbaa
