/- What HeapShares compares; arguments; the walk of HeapShares. -/
import Derived.Test.YtjhhacighfpdbaaHpY
import Derived.Test.YtjhhacighfpdbaaHpXt
import Derived.Deep.Slices
import Derived.Deep.Strs
import Derived.SizedLaws
import Derived.ChangeShapes
import Derived.OpenShut

/- What HeapShares compares, in plain words. -/
namespace Go.Proofs.Ytjhhacighfpdbaa
set_option linter.unusedVariables false
open Go.RowKit Go.Maps Go.Proofs.YtjhhacighfpdbaaW.PrintWords Go.Proofs.YtjhhacighfpdbaaW.PrintLast Go.Proofs.YtjhhacighfpdbaaW.PrintMore Go.Proofs.Ytjhhacighfpdbaa.PHeapShares Go.Extern

section
variable {t : S28} {C C1 C2 : List Cl} {E1 E2 : List Int} {σ σ1 σ2 : Int → S28} {top : Int}
/-- A variable of a term that was put in without an env is a new cell. -/
theorem laid_fresh (h : Laid t C (env0 [] top) C2 E2 σ) : ∀ v ∈ occT t, σ v = mkV (envAt E2 v + 1) ∧ (C.length : Int) ≤ envAt E2 v ∧ envAt E2 v < C2.length := fun v hv => by
  obtain ⟨k, e, hr⟩ := h.vars v hv
  have h0 : (env0 [] top).getD (v - 1).toNat (-1) = -1 := by
    have := env0_at [] top v
    unfold envAt at this
    rw [this]
    simp
  have e' := e
  unfold envAt at e'
  rcases h.new (v - 1).toNat with h1 | ⟨_, k', e2, h2, h3, h4⟩
  · rw [h0, e'] at h1
    omega
  · have hk : k = k' := by omega
    subst hk
    rw [e]
    refine ⟨?_, by omega, by omega⟩
    exact hr.det (.free k zCl h4 rfl)
theorem laid_inj (h : Laid t C (env0 [] top) C2 E2 σ) (hp : ∀ v ∈ occT t, 1 ≤ v) : ∀ x ∈ occT t, ∀ y ∈ occT t, envAt E2 x + 1 = envAt E2 y + 1 → x = y := fun x hx y hy e => by
  have h0 : ∀ v : Int, (env0 [] top).getD (v - 1).toNat (-1) = -1 := fun v => by
    have := env0_at [] top v
    unfold envAt at this
    rw [this]
    simp
  have hxe := (laid_fresh h x hx).2.1
  have e' : envAt E2 x = envAt E2 y := by omega
  unfold envAt at hxe e'
  have := h.inj (x - 1).toNat (y - 1).toNat (by rw [h0]; decide) (by rw [h0]; decide) (by omega) e'
  have := hp x hx
  have := hp y hy
  omega
theorem laid_tree (h : Laid t C (env0 [] top) C2 E2 σ) : sg σ t = renS (fun v => envAt E2 v + 1) t := sg_congr _ _ t fun v hv => (laid_fresh h v hv).1
theorem laid_again (h1 : Laid t C (env0 [] top) C1 E1 σ1) (h2 : Laid t C1 (env0 E1 top) C2 E2 σ2) : sg σ2 t = sg σ1 t := sg_congr _ _ t fun v hv => by
  obtain ⟨k, e, hr⟩ := h1.vars v hv
  obtain ⟨k2, e2, hr2⟩ := h2.vars v hv
  have h0 := env0_at E1 top v
  rw [e] at h0
  have hk := h2.kept (v - 1).toNat (by unfold envAt at h0; omega)
  unfold envAt at h0 e2
  have : k = k2 := by omega
  subst this
  exact hr2.det (hr.ext h2.old)
end

theorem top_le {t : S28} (hok : okT t = true) (hv : ∀ v ∈ occT t, v ≤ 2000) : topL 0 (varsOf t) ≤ 2000 := by
  have htop : ∀ (l : List Int) (m : Int), (∀ v ∈ l, v ≤ 2000) → m ≤ 2000 → topL m l ≤ 2000 := by
    intro l
    induction l with
    | nil => intro m _ h; exact h
    | cons a r ih => intro m h h0; exact ih _ (fun v hv => h v (List.mem_cons_of_mem _ hv)) (by have := h a (by simp); omega)
  refine htop _ _ (fun v hv' => hv v ?_) (by decide)
  unfold varsOf at hv'
  rw [if_pos hok] at hv'
  exact (mem_varsT t v).1 hv'

/-- What the law has put in. -/
structure Shared (C : List Cl) (a b c d : Nat) (T1 T3 U : S28) : Prop where
  ra : Rep C a T1
  rb : Rep C b T1
  rc : Rep C c T3
  rd : Rep C d U
  o1 : okT T1 = true
  o3 : okT T3 = true
  var : variantT T1 T3 = true
  apart : ∀ v ∈ occT T3, v ∉ occT T1 ∧ v ∉ occT U
  len : C.length ≤ 200

theorem shared {t u : S28} {C1 C2 C3 C4 : List Cl} {E1 E2 E3 E4 : List Int} {σ1 σ2 σ3 σ4 : Int → S28} {top tup : Int} (ht : okT t = true) (hu : okT u = true) (nt : nodes t ≤ 30) (nu : nodes u ≤ 30)
    (h1 : Laid t [] (env0 [] top) C1 E1 σ1) (h2 : Laid t C1 (env0 E1 top) C2 E2 σ2) (h3 : Laid t C2 (env0 [] top) C3 E3 σ3) (h4 : Laid u C3 (env0 [] tup) C4 E4 σ4) :
    Shared C4 0 C1.length C2.length C3.length (renS (fun v => envAt E1 v + 1) t) (renS (fun v => envAt E3 v + 1) t) (renS (fun v => envAt E4 v + 1) u) := by
  have l1 := h1.len
  have l2 := h2.len
  have l3 := h3.len
  have l4 := h4.len
  simp only [List.length_nil, Nat.zero_add] at l1
  have f1 := laid_fresh h1
  have f3 := laid_fresh h3
  have f4 := laid_fresh h4
  refine ⟨?_, ?_, ?_, ?_, ok_renS _ ht fun v hv => ?_, ok_renS _ ht fun v hv => ?_, ?_, fun v hv => ⟨fun hv1 => ?_, fun hv1 => ?_⟩, by omega⟩
  · rw [← laid_tree h1]
    exact (((h1.rep.ext h2.old).ext h3.old).ext h4.old)
  · rw [← laid_tree h1, ← laid_again h1 h2]
    exact (h2.rep.ext h3.old).ext h4.old
  · rw [← laid_tree h3]
    exact h3.rep.ext h4.old
  · rw [← laid_tree h4]
    exact h4.rep
  · have := (f1 v hv).2; omega
  · have := (f3 v hv).2; omega
  · exact variant_renS ht (laid_inj h1 (occ_pos ht)) (laid_inj h3 (occ_pos ht)) (fun v hv => by have := (f1 v hv).2; omega) (fun v hv => by have := (f3 v hv).2; omega)
  · rw [occ_renS] at hv hv1
    obtain ⟨x, hx, rfl⟩ := List.mem_map.1 hv
    obtain ⟨y, hy, e⟩ := List.mem_map.1 hv1
    have := (f3 x hx).2
    have := (f1 y hy).2
    omega
  · rw [occ_renS] at hv hv1
    obtain ⟨x, hx, rfl⟩ := List.mem_map.1 hv
    obtain ⟨y, hy, e⟩ := List.mem_map.1 hv1
    have := (f3 x hx).2
    have := (f4 y hy).2
    omega

/-- Unify of the first and the last. -/
theorem shared_unify {w : World} {hb : Nat} {S : Nat → Prop} {C : List Cl} {M : List (Nat × Nat)} {b cc dd : Nat} {T1 T3 U : S28} (sh : Shared C 0 b cc dd T1 T3 U) (hI : HI C) (hp : HpAt w hb S ⟨65536, 65536, C, [], M⟩) :
    Calls Try.prog 10 #[.pointer (some ⟨hb, 0, none⟩), .int .i64 (0 : Nat), .int .i64 dd] w fun e w' => ∃ C5 N5 okb X S5, e = .returned (.tuple #[.bool okb, .int .i64 0]) ∧ HpAt w' hb S5 ⟨65536, 65536, C5, N5, M⟩ ∧ Fs S w w' ∧ (∀ k, S5 k → S k ∨ w.heap.size ≤ k) ∧
      Rep C5 0 X ∧ Rep C5 b X ∧ Rep C5 cc T3 ∧ (okb = true ∨ X = T1) ∧ wfT X := by
  have hl := sh.len
  have hu := Unify_any (fun v => v ∈ occT T1 ∨ v ∈ occT U) w hb S ⟨65536, 65536, C, [], M⟩ 0 dd T1 U hp hI sh.ra sh.rd (fun v h => .inl h) (fun v h => .inr h)
  refine hu.mono fun e w' hu => ?_
  rcases hu with ⟨C', N', σ, he, ⟨S', h1, h2, h3⟩, hn, hu⟩ | ⟨he, ⟨S', h1, h2, h3⟩, _⟩ | ⟨he, ⟨S', h1, h2, h3⟩, h4⟩
  · refine ⟨C', N', true, sg σ T1, S', he, h1, h2, h3, hu.sol.rep _ _ sh.ra, hu.sol.rep _ _ sh.rb, ?_, .inl rfl, (hu.sol.rep _ _ sh.ra).wf (by rw [hu.sol.len]; show C.length ≤ 1000000; omega)⟩
    have hz := hu.sol.rep _ _ sh.rc
    rwa [show sg σ T3 = T3 from by
      rw [sg_congr σ mkV T3 fun v hv => Classical.byContradiction fun hne => (hu.sol.dom v hne).elim (sh.apart v hv).1 (sh.apart v hv).2]
      exact sh.rc.sgV] at hz
  · exact ⟨C, [], false, T1, S', he, h1, h2, h3, sh.ra, sh.rb, sh.rc, .inr rfl, sh.ra.wf (by omega)⟩
  · exact absurd h4 (by simp; omega)

/-- A term that was taken, in its box at g; all of it made from NB on. -/
structure Boxed (NB : Nat) (W : World) (t : S28) (g : Nat) (A : Option Addr) (c : Nat) : Prop where
  blk : W.heap[g]? = some (.cells #[.int .i64 t.f0, .string t.f1, .int .i64 t.f2, .slice A t.f3.length c] 28 (0, 0))
  row : LF (fun q => NB ≤ q) W t A c
  lo : NB ≤ g

section
variable {NB g n c : Nat} {W W' : World} {t : S28} {A : Option Addr}
theorem Boxed.mk' (hR : Kd.R k28 28 W n (fun _ => True) (.slice A t.f3.length c) t.f3) (hn : NB ≤ n) (hw : NB ≤ W.heap.size) (hwf : wfT t) : Boxed NB (W.alloc (.cells #[.int .i64 t.f0, .string t.f1, .int .i64 t.f2, .slice A t.f3.length c] 28)) t W.heap.size A c := by
  obtain ⟨_, _, e, h⟩ := LF.of_R (t := t) (Kd.R_bound hR) hwf
  simp only [Value.slice.injEq, true_and] at e
  obtain ⟨rfl, rfl⟩ := e
  exact ⟨blk_new _ _, (h.mono fun q hq => Nat.le_trans hn hq.2.1).below (below_alloc (Below.refl _ _) _), hw⟩
theorem Boxed.below (h : Boxed NB W t g A c) (hB : Below W.heap.size W W') : Boxed NB W' t g A c := ⟨blk_below h.blk hB, h.row.below hB, h.lo⟩
theorem Boxed.fs {S : Nat → Prop} (h : Boxed NB W t g A c) (hf : Fs S W W') (hS : ∀ k, S k → k < NB) : Boxed NB W' t g A c :=
  ⟨hf.blk h.blk (fun hs => by have := hS _ hs; have := h.lo; omega), h.row.fs hf (fun k hk h1 => by have := hS k hk; omega), h.lo⟩
theorem Boxed.cells (h : Boxed NB W t g A c) : W.cell? ⟨g, 0, none⟩ = some (.int .i64 t.f0) ∧ W.cell? ⟨g, 1, none⟩ = some (.string t.f1) ∧ W.cell? ⟨g, 2, none⟩ = some (.int .i64 t.f2) ∧ W.cell? ⟨g, 3, none⟩ = some (.slice A t.f3.length c) :=
  ⟨blk_cell h.blk 0, blk_cell h.blk 1, blk_cell h.blk 2, blk_cell h.blk 3⟩
end

end Go.Proofs.Ytjhhacighfpdbaa


/- Terms and numbers that came in, as they lie in memory. -/
namespace Go.Proofs.Ytjhhacighfpdbaa
set_option linter.unusedVariables false
open Go.RowKit Go.Maps Go.Deep Go.ChangeShapes Go.WideShapes Go.Proofs.YtjhhacighfpdbaaW.PrintWords Go.Proofs.YtjhhacighfpdbaaW.PrintLast Go.Proofs.YtjhhacighfpdbaaW.PrintMore Go.Proofs.Ytjhhacighfpdbaa.PHeapShares

/-! From TmA. -/

/-! From TmM. -/
def zeroTv : Tv := (z28, none, 0)

/-! From TmG. -/

/-! From TmP. -/

/-! From TmPd. -/
section
variable {w0 W : World} {t u : S28} {A A' : Option Addr} {c c' : Nat}
end

/-! From TmOp. -/
theorem cells24' : Try.prog.cellsOf 28 = 4 := by kernel_rfl
theorem cells2' : Try.prog.cellsOf 2 = 1 := by kernel_rfl
theorem cells3' : Try.prog.cellsOf 3 = 1 := by kernel_rfl
theorem cells9' : Try.prog.cellsOf 9 = 1 := by kernel_rfl
theorem cells22' : Try.prog.cellsOf 22 = 1 := by kernel_rfl

theorem wfL_of : ∀ ts : List S28, (∀ t ∈ ts, wfT t) → wfL ts
  | [], _ => by rw [wfL]; trivial
  | a :: r, h => by rw [wfL_cons]; exact ⟨h a (by simp), wfL_of r (fun t ht => h t (by simp [ht]))⟩

section
variable {H : Type} {enc : TypeId × Value → H} {W : World} {sp : Nat → Bool}
set_option maxRecDepth 100000 in
theorem row_open {fuel : Nat} {cs : List Value} {x : DataW H × List MemPlace} (h : DataW.trod enc Try.prog W 0 sp true fuel 22 cs = some x)
    (ih : ∀ n, n < fuel → ∀ cs x, DataW.trod enc Try.prog W 0 sp true n 28 cs = some x → ∃ (t : S28) (A : Option Addr) (c : Nat), cs = [.int .i64 t.f0, .string t.f1, .int .i64 t.f2, .slice A t.f3.length c] ∧ Lies W t A c) :
    ∃ (ts : List S28) (A : Option Addr) (c : Nat), cs = [.slice A ts.length c] ∧ ts.length ≤ c ∧ Kd.C k28 W A ts.length ts ∧ ∀ t ∈ ts, wfT t := by
  rcases DataW.trod_slice Try.underlying22 h with ⟨rfl, _⟩ | ⟨a, len, cap, elems, rest, n, rfl, rfl, _, _, hl, hm, hlen, hel, _, _⟩
  · exact ⟨[], none, 0, rfl, Nat.le_refl _, Kd.C_nil _ _, fun t ht => by cases ht⟩
  · unfold maxLen at hm
    have hone : ∀ i, i < len → ∃ o : S28 × Option Addr × Nat, Lies W o.1 o.2.1 o.2.2 ∧ ∀ j u, [Value.int .i64 o.1.f0, .string o.1.f1, .int .i64 o.1.f2, .slice o.2.1 o.1.f3.length o.2.2][j]? = some u → W.cell? (a.add (i * 4 + j)) = some u := by
      intro i hi
      have he := hel i hi
      rw [cells24', List.getElem?_eq_getElem (by omega)] at he
      cases hc : W.cells? 0 (a.add (i * 4)) 4 with
      | none => rw [hc] at he; cases he
      | some cs' =>
        rw [hc] at he
        obtain ⟨t, A, c, rfl, hL⟩ := ih n (Nat.lt_succ_self _) cs' _ he
        obtain ⟨_, hlen', hcell⟩ := World.cells?_some hc
        refine ⟨(t, A, c), hL, fun j u hj => ?_⟩
        have hjl : j < 4 := by
          have := (List.getElem?_eq_some_iff.1 hj).1
          simpa using this
        have := hcell j (by omega)
        rw [Go.Deep.add_add] at this
        rw [this]
        exact hj
    have hinh : Inhabited (S28 × Option Addr × Nat) := ⟨zeroTv⟩
    obtain ⟨f, hf⟩ := choose_lt hone
    refine ⟨(List.range len).map fun i => (f i).1, some a, cap, by simp, by simpa using hl, ⟨by simp, by simp; omega, fun _ => ⟨a, rfl, fun j p hj => ?_⟩⟩, fun t ht => ?_⟩
    · have hj' : j < len := by
        have := (List.getElem?_eq_some_iff.1 hj).1
        simpa using this
      have hp : (f j).1 = p := by simpa [hj'] using hj
      obtain ⟨hL, hc⟩ := hf j hj'
      rw [hp] at hL hc
      exact ⟨_, rfl, k28_mk W p hL.le hL.C, fun i u hu => hc i u hu⟩
    · obtain ⟨i, hi, rfl⟩ := List.mem_map.1 ht
      exact (hf i (List.mem_range.1 hi)).1.wf

set_option maxRecDepth 100000 in
theorem term_cells : ∀ (fuel : Nat) (cs : List Value) (x : DataW H × List MemPlace), DataW.trod enc Try.prog W 0 sp true fuel 28 cs = some x →
    ∃ (t : S28) (A : Option Addr) (c : Nat), cs = [.int .i64 t.f0, .string t.f1, .int .i64 t.f2, .slice A t.f3.length c] ∧ Lies W t A c := by
  intro fuel
  induction fuel using Nat.strongRecOn with
  | _ fuel ih =>
  intro cs x h
  obtain ⟨xs, n, rfl, _, hl, hlen, hf⟩ := DataW.trod_struct Try.underlying28 h
  rw [cells24'] at hl
  match cs, hl, xs, hlen with
  | [u0, u1, u2, u3], _, [y0, y1, y2, y3], _ =>
    have t0 : DataW.trod enc Try.prog W 0 sp true n 3 [u0] = some y0 := by simpa [cells3'] using hf 0 _ rfl
    have t1 : DataW.trod enc Try.prog W 0 sp true n 9 [u1] = some y1 := by simpa [cells9'] using hf 1 _ rfl
    have t2 : DataW.trod enc Try.prog W 0 sp true n 2 [u2] = some y2 := by simpa [cells2'] using hf 2 _ rfl
    have t3 : DataW.trod enc Try.prog W 0 sp true n 22 [u3] = some y3 := by simpa [cells22'] using hf 3 _ rfl
    obtain ⟨v0, e0, _, w0⟩ := DataW.trod_int Try.underlying3 t0
    obtain ⟨v1, e1, _, w1⟩ := DataW.trod_string Try.underlying9 t1
    obtain ⟨v2, e2, _, w2⟩ := DataW.trod_int Try.underlying2 t2
    simp only [List.cons.injEq, and_true] at e0 e1 e2
    subst e0 e1 e2
    obtain ⟨ts, A, c, e3, hc, hC, hw⟩ := row_open t3 (fun m hm => ih m (by omega))
    simp only [List.cons.injEq, and_true] at e3
    subst e3
    refine ⟨⟨v0, v1, v2, ts⟩, A, c, rfl, hC, hc, ?_⟩
    rw [wfT]
    exact ⟨bounds_i64 w2, wfL_of _ hw⟩

set_option maxRecDepth 100000 in
theorem open_term {r : Reach} {b0 : Nat} {v : Value} {d : DataW H} {p : List MemPlace} (hv : Value.okWide Try.prog W r b0 28 v) (h : DataW.Trod enc Try.prog W 0 sp true 28 v d p) :
    ∃ (t : S28) (A : Option Addr) (c : Nat), v = .agg #[.int .i64 t.f0, .string t.f1, .int .i64 t.f2, .slice A t.f3.length c] ∧ Lies W t A c := by
  obtain ⟨cs, rfl, hsz⟩ := okWide_struct Try.underlying28 hv
  obtain ⟨fuel, hf⟩ := h
  obtain ⟨t, A, c, e, hL⟩ := term_cells _ _ _ hf
  refine ⟨t, A, c, ?_, hL⟩
  have : cs.toList = [.int .i64 t.f0, .string t.f1, .int .i64 t.f2, .slice A t.f3.length c] := by simpa [Value.cells] using e
  cases cs
  simp only at this
  rw [this]

set_option maxRecDepth 100000 in
theorem open_terms {a : Option Addr} {len cap : Nat} {d : DataW H} {p : List MemPlace} (h : DataW.Trod enc Try.prog W 0 sp true 22 (.slice a len cap) d p) :
    ∃ ts : List S28, len = ts.length ∧ ts.length ≤ cap ∧ Kd.C k28 W a ts.length ts ∧ ∀ t ∈ ts, wfT t := by
  obtain ⟨fuel, hf⟩ := h
  obtain ⟨ts, A, c, e, h1, h2, h3⟩ := row_open hf (fun n _ => term_cells n)
  simp [Value.cells] at e
  obtain ⟨rfl, rfl, rfl⟩ := e
  exact ⟨ts, rfl, h1, h2, h3⟩

end

end Go.Proofs.Ytjhhacighfpdbaa


/- The walk of the law HeapShares. -/
namespace Go.Proofs.Ytjhhacighfpdbaa
set_option linter.unusedVariables false
open Go.RowKit Go.Maps Go.Proofs.YtjhhacighfpdbaaW.PrintWords Go.Proofs.YtjhhacighfpdbaaW.PrintLast Go.Proofs.YtjhhacighfpdbaaW.PrintMore Go.Proofs.Ytjhhacighfpdbaa.PHeapShares Go.Extern

/-- What the example is asked for. -/
def Alive : Prop := ∀ w : World, Calls Try.prog 6 #[] w fun e w' => e = .returned (.bool true) ∧ Below w.heap.size w w'

/-- Put with an env, of a term that lies in known blocks. -/
theorem LS.put_env {w0 w : World} {hb : Nat} {S : Nat → Prop} {H : Hp} {va : Value} {A : List Nat} {t : S28} {T : Nat → Prop} {B : Option Addr} {c : Nat} {E : List Int} {ev : Value} (h : LS w0 w hb S H va A) (hE : EnvRow w ev E) (hvS : ∀ k, ev.ownBlock = some k → ¬ S k) (hL : LF T w t B c) (hS : ∀ k, S k → ¬ T k) (hT : ∀ k, T k → k < w.heap.size) (hok : okT t = true) (hel : E.length ≤ 2000) (hv : ∀ v ∈ occT t, v ≤ 2000) (hin : ∀ v ∈ occT t, envAt E v < H.C.length) (hroom : H.C.length + nodes t ≤ 65536) :
    Calls Try.prog 9 #[.pointer (some ⟨hb, 0, none⟩), .agg #[.int .i64 t.f0, .string t.f1, .int .i64 t.f2, .slice B t.f3.length c], ev] w fun e w' => ∃ v S' C2 E2 σ,
      e = .returned (.tuple #[.int .i64 H.C.length, v, .int .i64 0]) ∧ LS w0 w' hb S' { H with C := C2 } va A ∧ Laid t H.C (env0 E (topL 0 (varsOf t))) C2 E2 σ := by
  have hp := put_gen t E T w hb S H B c ev h.hp h.hi hE hvS hS hT hL hok hel hv hin (by rw [h.mo]; omega)
  exact hp.mono fun e w' ⟨v, S', C2, E2, σ, he, h1, h2, h3, h4, h5, h6⟩ => ⟨v, S', C2, E2, σ, he, h.to h1 h2 h3 h6.hi (by rw [h6.len]; omega) rfl rfl, h6⟩

set_option maxHeartbeats 4000000 in
set_option maxRecDepth 100000 in
theorem shares_law (hal : Alive) (w : World) (t u : S28) (A B : Option Addr) (c d : Nat) (ht : Lies w t A c) (hu : Lies w u B d) :
    Calls Try.prog 4 #[.agg #[.int .i64 t.f0, .string t.f1, .int .i64 t.f2, .slice A t.f3.length c], .agg #[.int .i64 u.f0, .string u.f1, .int .i64 u.f2, .slice B u.f3.length d]] w fun e w' => e = .returned (.bool true) ∧ Below w.heap.size w w' := by
  have hBw := below_alloc (below_alloc (Below.refl w.heap.size w) (.cells #[.int .i64 t.f0, .string t.f1, .int .i64 t.f2, .slice A t.f3.length c] 28)) (.cells #[.int .i64 u.f0, .string u.f1, .int .i64 u.f2, .slice B u.f3.length d] 28)
  have kT0 := blk_alloc (blk_new w (.cells #[.int .i64 t.f0, .string t.f1, .int .i64 t.f2, .slice A t.f3.length c] 28)) (.cells #[.int .i64 u.f0, .string u.f1, .int .i64 u.f2, .slice B u.f3.length d] 28)
  have kU0 := blk_new (w.alloc (.cells #[.int .i64 t.f0, .string t.f1, .int .i64 t.f2, .slice A t.f3.length c] 28)) (.cells #[.int .i64 u.f0, .string u.f1, .int .i64 u.f2, .slice B u.f3.length d] 28)
  rw [World.size_alloc] at kU0
  have ha := hal ((w.alloc (.cells #[.int .i64 t.f0, .string t.f1, .int .i64 t.f2, .slice A t.f3.length c] 28)).alloc (.cells #[.int .i64 u.f0, .string u.f1, .int .i64 u.f2, .slice B u.f3.length d] 28))
  go_enter Try.func4, Try.ntmps4
  go_wp2_with fail
  refine ha.mono ?_
  rintro e w1 ⟨rfl, hB1⟩
  clear ha
  have ht0 := ht.at hBw
  have hu0 := hu.at hBw
  generalize ((w.alloc (.cells #[.int .i64 t.f0, .string t.f1, .int .i64 t.f2, .slice A t.f3.length c] 28)).alloc (.cells #[.int .i64 u.f0, .string u.f1, .int .i64 u.f2, .slice B u.f3.length d] 28)) = W0 at hBw kT0 kU0 hB1 ht0 hu0
  have bT : ∀ W, Below W0.heap.size W0 W → W.cell? ⟨w.heap.size, 0, none⟩ = some (.int .i64 t.f0) ∧ W.cell? ⟨w.heap.size, 1, none⟩ = some (.string t.f1) ∧ W.cell? ⟨w.heap.size, 2, none⟩ = some (.int .i64 t.f2) ∧ W.cell? ⟨w.heap.size, 3, none⟩ = some (.slice A t.f3.length c) := fun W hW => by
    have k := blk_below kT0 hW
    exact ⟨blk_cell k 0, blk_cell k 1, blk_cell k 2, blk_cell k 3⟩
  have bU : ∀ W, Below W0.heap.size W0 W → W.cell? ⟨w.heap.size + 1, 0, none⟩ = some (.int .i64 u.f0) ∧ W.cell? ⟨w.heap.size + 1, 1, none⟩ = some (.string u.f1) ∧ W.cell? ⟨w.heap.size + 1, 2, none⟩ = some (.int .i64 u.f2) ∧ W.cell? ⟨w.heap.size + 1, 3, none⟩ = some (.slice B u.f3.length d) := fun W hW => by
    have k := blk_below kU0 hW
    exact ⟨blk_cell k 0, blk_cell k 1, blk_cell k 2, blk_cell k 3⟩
  have hst := small_any t w1 A c (ht0.at hB1)
  have BT := Lib.hid bT
  have BU := Lib.hid bU
  clear bT bU kT0 kU0
  obtain ⟨t0, t1, t2, t3⟩ := BT.out _ hB1
  go_wp2_with fail
  refine hst.mono ?_
  rintro e w2 ⟨rfl, hb2⟩
  have hB2 := below_step hB1 hb2
  clear hst t0 t1 t2 t3 hb2
  cases hs1 : smallT t with
  | false =>
    go_wp2
    go_ret
    exact ⟨rfl, below_step hBw hB2⟩
  | true =>
  have hsu := small_any u w2 B d (hu0.at hB2)
  obtain ⟨t0, t1, t2, t3⟩ := BU.out _ hB2
  go_wp2_with fail
  refine hsu.mono ?_
  rintro e w3 ⟨rfl, hb3⟩
  have hB3 := below_step hB2 hb3
  clear hsu t0 t1 t2 t3 hb3
  cases hs2 : smallT u with
  | false =>
    go_wp2
    go_ret
    exact ⟨rfl, below_step hBw hB3⟩
  | true =>
  obtain ⟨nt, okt, vt⟩ := small_facts hs1
  obtain ⟨nu, oku, vu⟩ := small_facts hs2
  clear hs1 hs2 hB1 hB2
  have hn := New_any w3 65536 (by decide) (by decide)
  go_wp2_with fail
  refine hn.mono ?_
  rintro e w4 ⟨rfl, hb4, hp4, hs4⟩
  clear hn
  have hB4 := below_step hB3 hb4
  have hls : LS W0 w4 w3.heap.size _ _ (.slice none 0 0) [] := ⟨hp4, hB4, fun k hk => by have := hB3.size; omega, World.ownsRow_nil _ _ _ _, fun k hk => by simp [Value.ownBlock] at hk, fun x hx => by simp at hx, fun a ha => (by cases ha), rfl, rfl⟩
  clear hp4 hs4 hb4 hB3 hB4
  generalize w3.heap.size = hb at hls ⊢
  have hTl : ∀ W, Below W0.heap.size W0 W → ∀ k, k < W0.heap.size → k < W.heap.size := fun W hW k hk => Nat.lt_of_lt_of_le hk hW.size
  have HTL := Lib.hid hTl
  clear hTl
  -- the four are put in
  have h1 := hls.put (ht0.lf hls.bel) (fun k hk h => by have := hls.sb k hk; omega) (HTL.out _ hls.bel) okt vt (by show 0 + nodes t ≤ 65536; omega)
  simp only [List.length_nil] at h1
  obtain ⟨t0, t1, t2, t3⟩ := BT.out _ hls.bel
  go_wp2_with fail
  refine h1.mono ?_
  rintro e w5 ⟨v5, S5, C1, E1, σ1, rfl, hls5, L1, _, _, hE5, hv5⟩
  clear h1 t0 t1 t2 t3 hls
  obtain ⟨A5, c5, rfl⟩ : ∃ A c, v5 = .slice A E1.length c := own_slice hE5
  have hel : E1.length ≤ 2000 := by rw [L1.elen, env0_len]; have := top_le okt vt; simp; omega
  have h2 := hls5.put_env hE5 (fun k hk => (hv5 k hk).1) (ht0.lf hls5.bel) (fun k hk h => by have := hls5.sb k hk; omega) (HTL.out _ hls5.bel) okt hel vt (fun v hv => (laid_fresh L1 v hv).2.2) (by have := L1.len; show C1.length + nodes t ≤ 65536; simp at this; omega)
  obtain ⟨t0, t1, t2, t3⟩ := BT.out _ hls5.bel
  go_wp2_with fail
  refine h2.mono ?_
  rintro e w6 ⟨v6, S6, C2, E2, σ2, rfl, hls6, L2⟩
  clear h2 t0 t1 t2 t3 hls5 hE5 hv5
  have h3 := hls6.put (ht0.lf hls6.bel) (fun k hk h => by have := hls6.sb k hk; omega) (HTL.out _ hls6.bel) okt vt (by have := L1.len; have := L2.len; show C2.length + nodes t ≤ 65536; simp at *; omega)
  obtain ⟨t0, t1, t2, t3⟩ := BT.out _ hls6.bel
  go_wp2_with fail
  refine h3.mono ?_
  rintro e w7 ⟨v7, S7, C3, E3, σ3, rfl, hls7, L3, _, _, _, _⟩
  clear h3 t0 t1 t2 t3 hls6
  have h4 := hls7.put (hu0.lf hls7.bel) (fun k hk h => by have := hls7.sb k hk; omega) (HTL.out _ hls7.bel) oku vu (by have := L1.len; have := L2.len; have := L3.len; show C3.length + nodes u ≤ 65536; simp at *; omega)
  obtain ⟨t0, t1, t2, t3⟩ := BU.out _ hls7.bel
  go_wp2_with fail
  refine h4.mono ?_
  rintro e w8 ⟨v8, S8, C4, E4, σ4, rfl, hls8, L4, _, _, _, _⟩
  clear h4 t0 t1 t2 t3 hls7
  have sh := shared okt oku nt nu L1 L2 L3 L4
  clear L1 L2 L3 L4 hel HTL BT BU okt oku nt nu vt vu ht0 hu0
  generalize renS (fun v => envAt E1 v + 1) t = T1 at sh
  generalize renS (fun v => envAt E3 v + 1) t = T3 at sh
  generalize renS (fun v => envAt E4 v + 1) u = U at sh
  go_upto_region 14 with (fail)
  generalize C1.length = b at sh ⊢
  generalize C2.length = cc at sh ⊢
  generalize C3.length = dd at sh ⊢
  have hwf : ∀ {x : Nat} {s : S28}, Rep C4 x s → wfT s := fun h => h.wf (by have := sh.len; omega)
  obtain ⟨NB, hNB⟩ : ∃ m, m = w8.heap.size := ⟨_, rfl⟩
  have hSN : ∀ k, S8 k → k < NB := fun k hk => by rw [hNB]; exact hls8.hp.lt k hk
  have hNB8 : NB ≤ w8.heap.size := by omega
  clear hNB
  -- three are taken
  have hta := take_ok w8 hb S8 _ 0 T1 hls8.hp sh.ra sh.o1
  go_wp2_with fail
  refine hta.mono ?_
  rintro e w9 ⟨v9, rfl, hR9, hb9⟩
  obtain ⟨A9, c9, rfl⟩ := Kd.R_slice hR9
  clear hta
  go_upto_region 15 with (fail)
  have hNB9 := hb9.size
  have X1 := Boxed.mk' (NB := NB) hR9 hNB8 (by omega) (hwf sh.ra)
  have hlsA := (hls8.below hb9).alloc (.cells #[.int .i64 T1.f0, .string T1.f1, .int .i64 T1.f2, .slice A9 T1.f3.length c9] 28)
  have hNBA : NB ≤ (w9.alloc (.cells #[.int .i64 T1.f0, .string T1.f1, .int .i64 T1.f2, .slice A9 T1.f3.length c9] 28)).heap.size := by simp; omega
  clear hR9 hb9 hls8 hNB8
  generalize (w9.alloc (.cells #[.int .i64 T1.f0, .string T1.f1, .int .i64 T1.f2, .slice A9 T1.f3.length c9] 28)) = WA at X1 hlsA hNBA ⊢
  have htb := take_ok WA hb S8 _ b T1 hlsA.hp sh.rb sh.o1
  go_wp2_with fail
  refine htb.mono ?_
  rintro e w10 ⟨v10, rfl, hR10, hb10⟩
  obtain ⟨A10, c10, rfl⟩ := Kd.R_slice hR10
  clear htb
  go_upto_region 16 with (fail)
  have hNB10 := hb10.size
  have X2 := Boxed.mk' (NB := NB) hR10 hNBA (by omega) (hwf sh.rb)
  have hBb := hb10.trans ((below_alloc (Below.refl w10.heap.size w10) (.cells #[.int .i64 T1.f0, .string T1.f1, .int .i64 T1.f2, .slice A10 T1.f3.length c10] 28)).mono hb10.size)
  have hlsB := hlsA.below hBb
  replace X1 := X1.below hBb
  have hNBB := Nat.le_trans hNBA hBb.size
  clear hR10 hb10 hlsA hNBA hBb
  generalize (w10.alloc (.cells #[.int .i64 T1.f0, .string T1.f1, .int .i64 T1.f2, .slice A10 T1.f3.length c10] 28)) = WB at X1 X2 hlsB hNBB ⊢
  have htc := take_ok WB hb S8 _ cc T3 hlsB.hp sh.rc sh.o3
  go_wp2_with fail
  refine htc.mono ?_
  rintro e w11 ⟨v11, rfl, hR11, hb11⟩
  obtain ⟨A11, c11, rfl⟩ := Kd.R_slice hR11
  clear htc
  go_upto_region 17 with (fail)
  have hNB11 := hb11.size
  have X3 := Boxed.mk' (NB := NB) hR11 hNBB (by omega) (hwf sh.rc)
  have hBb := hb11.trans ((below_alloc (Below.refl w11.heap.size w11) (.cells #[.int .i64 T3.f0, .string T3.f1, .int .i64 T3.f2, .slice A11 T3.f3.length c11] 28)).mono hb11.size)
  have hls := hlsB.below hBb
  replace X1 := X1.below hBb
  replace X2 := X2.below hBb
  have hNBC := Nat.le_trans hNBB hBb.size
  clear hR11 hb11 hlsB hNBB hBb
  generalize (w11.alloc (.cells #[.int .i64 T3.f0, .string T3.f1, .int .i64 T3.f2, .slice A11 T3.f3.length c11] 28)) = WC at X1 X2 X3 hls hNBC ⊢
  -- they are compared
  have s1 := ((okT_iff T1).1 sh.o1).1
  have s3 := ((okT_iff T3).1 sh.o3).1
  have hsm := rsame_at X1.row.lies X2.row.lies (Below.refl WC.heap.size WC) s1 s1
  rw [ordT_refl] at hsm
  obtain ⟨p0, p1, p2, p3⟩ := X1.cells
  obtain ⟨q0, q1, q2, q3⟩ := X2.cells
  go_wp2_with fail
  refine hsm.mono ?_
  rintro e w12 ⟨rfl, hb12⟩
  clear hsm p0 p1 p2 p3 q0 q1 q2 q3 X2
  replace X1 := X1.below hb12
  replace X3 := X3.below hb12
  replace hls := hls.below hb12
  have hNBD := Nat.le_trans hNBC hb12.size
  clear hb12 hNBC
  have hva := rvariant_at X1.row.lies X3.row.lies (Below.refl w12.heap.size w12) sh.o1 sh.o3
  rw [sh.var] at hva
  obtain ⟨p0, p1, p2, p3⟩ := X1.cells
  obtain ⟨q0, q1, q2, q3⟩ := X3.cells
  go_wp2_with fail
  refine hva.mono ?_
  rintro e w13 ⟨rfl, hb13⟩
  clear hva p0 p1 p2 p3 q0 q1 q2 q3
  replace X1 := X1.below hb13
  replace X3 := X3.below hb13
  replace hls := hls.below hb13
  replace hNBD := Nat.le_trans hNBD hb13.size
  clear hb13
  have n3 := ((okT_iff T3).1 sh.o3).2.1
  have n1 := ((okT_iff T1).1 sh.o1).2.1
  have hvs := rVars_at X3.row.lies (Below.refl w13.heap.size w13) (by omega)
  obtain ⟨q0, q1, q2, q3⟩ := X3.cells
  have hm3 := mem_varsT T3
  have hl3 := varsT_len T3 []
  simp only [List.length_nil, Nat.zero_add] at hl3
  go_wp2_with fail
  refine hvs.mono ?_
  rintro e w14 ⟨vA, vc, rfl, hvc, hO, hb14⟩
  clear hvs q0 q1 q2 q3
  generalize varsT T3 [] = vs at hm3 hl3 hvc hO ⊢
  replace X1 := X1.below hb14
  replace X3 := X3.below hb14
  replace hls := hls.below hb14
  replace hNBD := Nat.le_trans hNBD hb14.size
  clear hb14
  go_wp2
  go_loopw [129] (fun i wr => ∃ k : Nat, k ≤ vs.length ∧ i = .int .i64 k ∧ Below w14.heap.size w14 wr) (fun i _ => vs.length - (intOf i).toNat)
  case atStart => exact ⟨0, Nat.zero_le _, rfl, Below.refl _ _⟩
  case round =>
    obtain ⟨k, hk, rfl, hb⟩ := hrel
    by_cases hlt : k < vs.length
    · obtain ⟨g, cap, hg, g1, g2, g3⟩ := outAt_cell (own_step hO fun q hq => hb.block q (World.ownsRow.lt hO q hq).2 : OutAt wr w13.heap.size (.slice vA vs.length vc) vs) hlt
      simp only [Value.slice.injEq, true_and] at hg
      obtain ⟨rfl, rfl⟩ := hg
      have hy := (hm3 _).1 (List.getElem_mem hlt)
      generalize vs[k] = y at g3 hy
      have X1r := X1.below hb
      have hv1 := rVars_at X1r.row.lies (Below.refl wr.heap.size wr) (by omega)
      obtain ⟨p0, p1, p2, p3⟩ := X1r.cells
      have hm1 := mem_varsT T1
      have hl1 := varsT_len T1 []
      simp only [List.length_nil, Nat.zero_add] at hl1
      go_wp2_with fail
      refine hv1.mono ?_
      rintro e w15 ⟨vB, vd, rfl, hvd, hO1, hb15⟩
      clear hv1 p0 p1 p2 p3 g3
      generalize varsT T1 [] = vt at hm1 hl1 hvd hO1 ⊢
      go_wp2
      go_loopw [136] (fun i wx => ∃ m : Nat, m ≤ vt.length ∧ i = .int .i64 m ∧ Below w15.heap.size w15 wx) (fun i _ => vt.length - (intOf i).toNat)
      case atStart => exact ⟨0, Nat.zero_le _, rfl, Below.refl _ _⟩
      case round =>
        obtain ⟨m, hm, rfl, hbx⟩ := hrel
        by_cases hltm : m < vt.length
        · obtain ⟨g', cap', hg', g1', g2', g3'⟩ := outAt_cell (own_step hO1 fun q hq => hbx.block q (World.ownsRow.lt hO1 q hq).2 : OutAt _ _ (.slice vB vt.length vd) vt) hltm
          simp only [Value.slice.injEq, true_and] at hg'
          obtain ⟨rfl, rfl⟩ := hg'
          have hz := (hm1 _).1 (List.getElem_mem hltm)
          generalize vt[m] = z at g3' hz
          have hne : ¬ y = z := fun e => (sh.apart y hy).1 (e ▸ hz)
          have hne2 : (y == z) = false := by simpa using hne
          go_wp2
          go_roundw
          case rel => exact ⟨m + 1, by omega, by go_num, hbx⟩
          case measure => simp [intOf]; omega
        · obtain rfl : m = vt.length := by omega
          go_wp2
          go_roundw
          case rel => exact ⟨k + 1, by omega, by go_num, hb.trans ((hb15.trans (hbx.mono hb15.size)).mono hb.size)⟩
          case measure => simp [intOf]; omega
    · obtain rfl : k = vs.length := by omega
      clear hlt hk hm3 hl3 hO hvc
      replace X1 := X1.below hb
      replace X3 := X3.below hb
      replace hls := hls.below hb
      replace hNBD := Nat.le_trans hNBD hb.size
      clear hb
      have huni := shared_unify sh hls.hi hls.hp
      go_wp2_with fail
      refine huni.mono ?_
      rintro e w15 ⟨C5, N5, okb, X, S5, rfl, hp5, hf5, hS5, rx, ry, rz, hX, hwX⟩
      clear huni
      have Y1 := X1.fs hf5 hSN
      have Y3 := X3.fs hf5 hSN
      have hl5 := hf5.size
      have hB5 : Below W0.heap.size W0 w15 := ⟨hf5.os.trans hls.bel.os, hf5.tape.trans hls.bel.tape, hf5.output.trans hls.bel.output, Nat.le_trans hls.bel.size hf5.size, fun q hq => (hf5.block q (Nat.lt_of_lt_of_le hq hls.bel.size) (fun h => by have := hls.sb q h; omega)).trans (hls.bel.block q hq)⟩
      have hNB5 : NB ≤ w15.heap.size := by omega
      have o1 := sh.o1
      have o3 := sh.o3
      have hw3 := hwf sh.rc
      clear X1 X3 hls hf5 hS5 hSN hwf sh hNBD hl5
      cases hoX : okT X with
      | false =>
        have hk : okb = true := by
          rcases hX with h | h
          · exact h
          · rw [h, o1] at hoX; cases hoX
        subst hk
        have htx := take_bad w15 hb S5 _ 0 X hp5 rx hoX
        go_wp2_with fail
        refine htx.mono ?_
        rintro e w16 ⟨vw16, rfl, hRw16, hbw16⟩
        obtain ⟨Aw16, cw16, rfl⟩ := Kd.R_slice hRw16
        clear htx
        go_upto_region 31 with (fail)
        have hBb := hbw16.trans ((below_alloc (Below.refl w16.heap.size w16) (.cells #[.int .i64 0, .string ⟨#[]⟩, .int .i64 0, .slice Aw16 0 cw16] 28)).mono hbw16.size)
        replace hp5 := hp5.below hBb
        replace hB5 := below_step hB5 hBb
        replace Y1 := Y1.below hBb
        replace Y3 := Y3.below hBb
        replace hNB5 := Nat.le_trans hNB5 hBb.size
        clear hRw16 hbw16 hBb
        generalize (w16.alloc (.cells #[.int .i64 0, .string ⟨#[]⟩, .int .i64 0, .slice Aw16 0 cw16] 28)) = Ww16 at hp5 hB5 hNB5 Y1 Y3 ⊢
        have htx := take_bad Ww16 hb S5 _ b X hp5 ry hoX
        go_wp2_with fail
        refine htx.mono ?_
        rintro e w17 ⟨vw17, rfl, hRw17, hbw17⟩
        obtain ⟨Aw17, cw17, rfl⟩ := Kd.R_slice hRw17
        clear htx
        go_upto_region 32 with (fail)
        have hBb := hbw17.trans ((below_alloc (Below.refl w17.heap.size w17) (.cells #[.int .i64 0, .string ⟨#[]⟩, .int .i64 0, .slice Aw17 0 cw17] 28)).mono hbw17.size)
        replace hp5 := hp5.below hBb
        replace hB5 := below_step hB5 hBb
        replace Y1 := Y1.below hBb
        replace Y3 := Y3.below hBb
        replace hNB5 := Nat.le_trans hNB5 hBb.size
        clear hRw17 hbw17 hBb
        generalize (w17.alloc (.cells #[.int .i64 0, .string ⟨#[]⟩, .int .i64 0, .slice Aw17 0 cw17] 28)) = Ww17 at hp5 hB5 hNB5 Y1 Y3 ⊢
        have htx := take_ok Ww17 hb S5 _ cc T3 hp5 rz o3
        go_wp2_with fail
        refine htx.mono ?_
        rintro e w18 ⟨vw18, rfl, hRw18, hbw18⟩
        obtain ⟨Aw18, cw18, rfl⟩ := Kd.R_slice hRw18
        clear htx
        go_upto_region 33 with (fail)
        have hsw18 := hbw18.size
        have Z3 := Boxed.mk' (NB := NB) hRw18 hNB5 (by omega) hw3
        have hBb := hbw18.trans ((below_alloc (Below.refl w18.heap.size w18) (.cells #[.int .i64 T3.f0, .string T3.f1, .int .i64 T3.f2, .slice Aw18 T3.f3.length cw18] 28)).mono hbw18.size)
        replace hp5 := hp5.below hBb
        replace hB5 := below_step hB5 hBb
        replace Y1 := Y1.below hBb
        replace Y3 := Y3.below hBb
        replace hNB5 := Nat.le_trans hNB5 hBb.size
        clear hRw18 hbw18 hBb
        generalize (w18.alloc (.cells #[.int .i64 T3.f0, .string T3.f1, .int .i64 T3.f2, .slice Aw18 T3.f3.length cw18] 28)) = Ww18 at hp5 hB5 hNB5 Z3 Y1 Y3 ⊢
        have s3 := ((okT_iff T3).1 o3).1
        have hsm := rsame_at Z3.row.lies Y3.row.lies (Below.refl Ww18.heap.size Ww18) s3 s3
        rw [ordT_refl] at hsm
        obtain ⟨p0, p1, p2, p3⟩ := Z3.cells
        obtain ⟨q0, q1, q2, q3⟩ := Y3.cells
        go_wp2_with fail
        refine hsm.mono ?_
        rintro e w19 ⟨rfl, hbw19⟩
        clear hsm p0 p1 p2 p3 q0 q1 q2 q3
        replace hB5 := below_step hB5 hbw19
        clear hbw19
        go_wp2
        go_ret
        exact ⟨rfl, below_step hBw hB5⟩
      | true =>
        have htx := take_ok w15 hb S5 _ 0 X hp5 rx hoX
        go_wp2_with fail
        refine htx.mono ?_
        rintro e w16 ⟨vw16, rfl, hRw16, hbw16⟩
        obtain ⟨Aw16, cw16, rfl⟩ := Kd.R_slice hRw16
        clear htx
        go_upto_region 31 with (fail)
        have hsw16 := hbw16.size
        have Zx := Boxed.mk' (NB := NB) hRw16 hNB5 (by omega) hwX
        have hBb := hbw16.trans ((below_alloc (Below.refl w16.heap.size w16) (.cells #[.int .i64 X.f0, .string X.f1, .int .i64 X.f2, .slice Aw16 X.f3.length cw16] 28)).mono hbw16.size)
        replace hp5 := hp5.below hBb
        replace hB5 := below_step hB5 hBb
        replace Y1 := Y1.below hBb
        replace Y3 := Y3.below hBb
        replace hNB5 := Nat.le_trans hNB5 hBb.size
        clear hRw16 hbw16 hBb
        generalize (w16.alloc (.cells #[.int .i64 X.f0, .string X.f1, .int .i64 X.f2, .slice Aw16 X.f3.length cw16] 28)) = Ww16 at hp5 hB5 hNB5 Zx Y1 Y3 ⊢
        have htx := take_ok Ww16 hb S5 _ b X hp5 ry hoX
        go_wp2_with fail
        refine htx.mono ?_
        rintro e w17 ⟨vw17, rfl, hRw17, hbw17⟩
        obtain ⟨Aw17, cw17, rfl⟩ := Kd.R_slice hRw17
        clear htx
        go_upto_region 32 with (fail)
        have hsw17 := hbw17.size
        have Zy := Boxed.mk' (NB := NB) hRw17 hNB5 (by omega) hwX
        have hBb := hbw17.trans ((below_alloc (Below.refl w17.heap.size w17) (.cells #[.int .i64 X.f0, .string X.f1, .int .i64 X.f2, .slice Aw17 X.f3.length cw17] 28)).mono hbw17.size)
        replace hp5 := hp5.below hBb
        replace hB5 := below_step hB5 hBb
        replace Y1 := Y1.below hBb
        replace Y3 := Y3.below hBb
        replace Zx := Zx.below hBb
        replace hNB5 := Nat.le_trans hNB5 hBb.size
        clear hRw17 hbw17 hBb
        generalize (w17.alloc (.cells #[.int .i64 X.f0, .string X.f1, .int .i64 X.f2, .slice Aw17 X.f3.length cw17] 28)) = Ww17 at hp5 hB5 hNB5 Zy Y1 Y3 Zx ⊢
        have htx := take_ok Ww17 hb S5 _ cc T3 hp5 rz o3
        go_wp2_with fail
        refine htx.mono ?_
        rintro e w18 ⟨vw18, rfl, hRw18, hbw18⟩
        obtain ⟨Aw18, cw18, rfl⟩ := Kd.R_slice hRw18
        clear htx
        go_upto_region 33 with (fail)
        have hsw18 := hbw18.size
        have Z3 := Boxed.mk' (NB := NB) hRw18 hNB5 (by omega) hw3
        have hBb := hbw18.trans ((below_alloc (Below.refl w18.heap.size w18) (.cells #[.int .i64 T3.f0, .string T3.f1, .int .i64 T3.f2, .slice Aw18 T3.f3.length cw18] 28)).mono hbw18.size)
        replace hp5 := hp5.below hBb
        replace hB5 := below_step hB5 hBb
        replace Y1 := Y1.below hBb
        replace Y3 := Y3.below hBb
        replace Zx := Zx.below hBb
        replace Zy := Zy.below hBb
        replace hNB5 := Nat.le_trans hNB5 hBb.size
        clear hRw18 hbw18 hBb
        generalize (w18.alloc (.cells #[.int .i64 T3.f0, .string T3.f1, .int .i64 T3.f2, .slice Aw18 T3.f3.length cw18] 28)) = Ww18 at hp5 hB5 hNB5 Z3 Y1 Y3 Zx Zy ⊢
        have s3 := ((okT_iff T3).1 o3).1
        have sX := ((okT_iff X).1 hoX).1
        have hsm := rsame_at Zx.row.lies Zy.row.lies (Below.refl Ww18.heap.size Ww18) sX sX
        rw [ordT_refl] at hsm
        obtain ⟨p0, p1, p2, p3⟩ := Zx.cells
        obtain ⟨q0, q1, q2, q3⟩ := Zy.cells
        go_wp2_with fail
        refine hsm.mono ?_
        rintro e w19 ⟨rfl, hbw19⟩
        clear hsm p0 p1 p2 p3 q0 q1 q2 q3
        replace hB5 := below_step hB5 hbw19
        replace Y1 := Y1.below hbw19
        replace Y3 := Y3.below hbw19
        replace Zx := Zx.below hbw19
        replace Z3 := Z3.below hbw19
        clear hbw19
        have hsm := rsame_at Z3.row.lies Y3.row.lies (Below.refl w19.heap.size w19) s3 s3
        rw [ordT_refl] at hsm
        obtain ⟨p0, p1, p2, p3⟩ := Z3.cells
        obtain ⟨q0, q1, q2, q3⟩ := Y3.cells
        go_wp2_with fail
        refine hsm.mono ?_
        rintro e w20 ⟨rfl, hbw20⟩
        clear hsm p0 p1 p2 p3 q0 q1 q2 q3
        replace hB5 := below_step hB5 hbw20
        replace Y1 := Y1.below hbw20
        replace Zx := Zx.below hbw20
        clear hbw20
        cases okb with
        | true =>
          go_wp2
          go_ret
          exact ⟨rfl, below_step hBw hB5⟩
        | false =>
          obtain rfl : X = T1 := by
            rcases hX with h | h
            · cases h
            · exact h
          have hsm := rsame_at Zx.row.lies Y1.row.lies (Below.refl w20.heap.size w20) sX sX
          rw [ordT_refl] at hsm
          obtain ⟨p0, p1, p2, p3⟩ := Zx.cells
          obtain ⟨q0, q1, q2, q3⟩ := Y1.cells
          go_wp2_with fail
          refine hsm.mono ?_
          rintro e w21 ⟨rfl, hbw21⟩
          clear hsm p0 p1 p2 p3 q0 q1 q2 q3
          replace hB5 := below_step hB5 hbw21
          clear hbw21
          go_wp2
          go_ret
          exact ⟨rfl, below_step hBw hB5⟩

end Go.Proofs.Ytjhhacighfpdbaa
