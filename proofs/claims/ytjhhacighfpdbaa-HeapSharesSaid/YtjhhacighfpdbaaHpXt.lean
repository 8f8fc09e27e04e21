/- Put as the laws ask for it; small; a law's heap. -/
import Derived.Test.YtjhhacighfpdbaaHpR
import Derived.Test.YtjhhacighfpdbaaHpT
import Derived.Test.YtjhhacighfpdbaaHpJ
import Derived.Test.YtjhhacighfpdbaaHpW
import Derived.Test.YtjhhacighfpdbaaHpN
import Derived.Laws.BitsLemmas

/- Put as the laws ask for it; what Undo brings back, in plain words. -/
namespace Go.Proofs.Ytjhhacighfpdbaa
set_option linter.unusedVariables false
open Go.RowKit Go.Maps Go.Proofs.YtjhhacighfpdbaaW.PrintWords Go.Proofs.YtjhhacighfpdbaaW.PrintLast Go.Proofs.YtjhhacighfpdbaaW.PrintMore Go.Proofs.Ytjhhacighfpdbaa.PHeapShares Go.Extern

/-- What Put does, in plain words. -/
def PutL (t : S28) (E : List Int) (w : World) (hb : Nat) (S : Nat → Prop) (H : Hp) (e : Ending) (w' : World) : Prop :=
  ∃ v S' C2 E2 σ, e = .returned (.tuple #[.int .i64 H.C.length, v, .int .i64 0]) ∧ HpAt w' hb S' { H with C := C2 } ∧ Fs S w w' ∧ (∀ k, S' k → S k ∨ w.heap.size ≤ k) ∧
    EnvRow w' v E2 ∧ (∀ k, v.ownBlock = some k → ¬ S' k ∧ w.heap.size ≤ k) ∧ Laid t H.C (env0 E (topL 0 (varsOf t))) C2 E2 σ

theorem env0_len (E : List Int) (top : Int) : (env0 E top).length = max E.length top.toNat := by unfold env0; simp; omega

theorem env0_at (E : List Int) (top v : Int) : envAt (env0 E top) v = max (envAt E v) (-1) := by
  unfold envAt env0
  generalize (v - 1).toNat = j
  rw [List.getD_eq_getElem?_getD, List.getD_eq_getElem?_getD]
  by_cases h : j < E.length
  · rw [List.getElem?_append_left (by simpa using h)]
    simp [List.getElem?_eq_getElem h]
  · rw [List.getElem?_append_right (by simp; omega), List.getElem?_eq_none (by omega : E.length ≤ j)]
    simp only [List.length_map, List.getElem?_replicate]
    split <;> simp

theorem put_gen (t : S28) (E : List Int) (T : Nat → Prop) (w : World) (hb : Nat) (S : Nat → Prop) (H : Hp) (A : Option Addr) (c : Nat) (ev : Value) (hp : HpAt w hb S H) (hI : HI H.C) (hE : EnvRow w ev E) (hvS : ∀ k, ev.ownBlock = some k → ¬ S k) (hS : ∀ k, S k → ¬ T k) (hTl : ∀ k, T k → k < w.heap.size) (hL : LF T w t A c) (hok : okT t = true)
    (hel : E.length ≤ 2000) (hv : ∀ v ∈ occT t, v ≤ 2000) (hin : ∀ v ∈ occT t, envAt E v < H.C.length) (hroom : H.C.length + nodes t ≤ H.most) :
    Calls Try.prog 9 #[.pointer (some ⟨hb, 0, none⟩), .agg #[.int .i64 t.f0, .string t.f1, .int .i64 t.f2, .slice A t.f3.length c], ev] w (PutL t E w hb S H) := by
  have hsh := ((okT_iff t).1 hok).1
  have hvo : ∀ v, v ∈ varsOf t ↔ v ∈ occT t := fun v => by unfold varsOf; rw [if_pos hok]; exact mem_varsT t v
  have htop : ∀ (l : List Int) (m : Int), (∀ v ∈ l, v ≤ 2000) → m ≤ 2000 → topL m l ≤ 2000 := by
    intro l
    induction l with
    | nil => intro m _ h; exact h
    | cons a r ih => intro m h h0; exact ih _ (fun v hv => h v (List.mem_cons_of_mem _ hv)) (by have := h a (by simp); omega)
  have hle : ∀ (l : List Int) (m : Int), m ≤ topL m l ∧ ∀ v ∈ l, v ≤ topL m l := by
    intro l
    induction l with
    | nil => intro m; exact ⟨Int.le_refl _, fun v hv => by cases hv⟩
    | cons a r ih =>
      intro m
      obtain ⟨h1, h2⟩ := ih (max m a)
      refine ⟨by show m ≤ topL (max m a) r; omega, fun v hv => ?_⟩
      rcases List.mem_cons.1 hv with rfl | hv
      · show v ≤ topL (max m v) r; omega
      · exact h2 v hv
  have hpos : ∀ v ∈ occT t, 1 ≤ v := fun v hv => occ_pos hok v hv
  have h := Put_any t E T w hb S H A c ev hp hE hvS hS hTl hL hok hel (htop _ _ (fun v hv' => hv v ((hvo v).1 hv')) (by decide)) (fun v hv' => ⟨hpos v ((hvo v).1 hv'), (hle _ _).2 v hv', hin v ((hvo v).1 hv')⟩) hroom
  refine h.mono fun e w' ⟨v, S', he, h1, h2, h3, h4, h5⟩ => ?_
  obtain ⟨σ, hσ⟩ := put_laid t H.C (env0 E (topL 0 (varsOf t))) hI hsh hL.wf (fun v hv' => ⟨hpos v hv', by
    have := (hle (varsOf t) 0).2 v ((hvo v).2 hv')
    rw [env0_len]
    omega⟩) (fun v hv' => by
    rw [env0_at]
    have := hin v hv'
    omega)
  exact ⟨v, S', _, _, σ, he, h1, h2, h3, h4, h5, hσ⟩

theorem take_ok (w : World) (hb : Nat) (S : Nat → Prop) (H : Hp) (a : Nat) (t : S28) (hp : HpAt w hb S H) (hr : Rep H.C a t) (hok : okT t = true) :
    Calls Try.prog 11 #[.pointer (some ⟨hb, 0, none⟩), .int .i64 a] w fun e w' => ∃ v,
      e = .returned (.tuple #[.agg #[.int .i64 t.f0, .string t.f1, .int .i64 t.f2, v], .int .i64 0]) ∧ Kd.R k28 28 w' w.heap.size (fun _ => True) v t.f3 ∧ Below w.heap.size w w' := by
  have h := Take_any w hb S H a t hp hr
  unfold TakenPost at h
  rw [show takT t = t from by unfold takT; rw [if_pos hok]] at h
  simp only [hok, if_true] at h
  exact h

/-! ### What Undo brings back -/
theorem backC_get {i : Nat} : ∀ (N : List Nt) (C D : List Cl), i < C.length → i < D.length → C[i]? = D[i]? → (backC C N)[i]? = (backC D N)[i]?
  | [], C, D, _, _, h => h
  | n :: r, C, D, hc, hd, h => by
    have ih := backC_get r C D hc hd h
    unfold backC at ih ⊢
    rw [List.foldr_cons, List.foldr_cons]
    have l1 := backC_len C r
    have l2 := backC_len D r
    unfold backC at l1 l2
    by_cases e : n.1 = i
    · subst e
      rw [List.getElem?_set_self (by rw [l1]; exact hc), List.getElem?_set_self (by rw [l2]; exact hd)]
    · rw [List.getElem?_set_ne e, List.getElem?_set_ne e]
      exact ih

/-- What was there at a mark, and what has been done since. -/
structure Since (C0 : List Cl) (N0 : List Nt) (C : List Cl) (N : List Nt) : Prop where
  ex : ∃ M, N = N0 ++ M ∧ (∀ i, i < C0.length → (backC C M)[i]? = C0[i]?) ∧ ∀ n ∈ M, n.1 < C.length
  len : C0.length ≤ C.length

theorem Since.refl (C : List Cl) (N : List Nt) : Since C N C N := ⟨⟨[], by simp, fun i _ => rfl, by simp⟩, Nat.le_refl _⟩
theorem Since.noted {C0 C C' : List Cl} {N0 N N' : List Nt} (h : Since C0 N0 C N) (k : Noted C N C' N') : Since C0 N0 C' N' := by
  obtain ⟨M, e, hM, hl⟩ := h.ex
  obtain ⟨M1, e1, hM1, hl1⟩ := k.ex
  refine ⟨⟨M ++ M1, by rw [e1, e, List.append_assoc], fun i hi => by rw [backC_append, hM1]; exact hM i hi, fun n hn => ?_⟩, by rw [k.len]; exact h.len⟩
  rw [k.len]
  rcases List.mem_append.1 hn with h1 | h1
  · exact hl n h1
  · exact hl1 n h1
theorem Since.laid {C0 C C' : List Cl} {N0 N : List Nt} (h : Since C0 N0 C N) (hl : C.length ≤ C'.length) (ho : ∀ (i : Nat) (c : Cl), C[i]? = some c → C'[i]? = some c) : Since C0 N0 C' N := by
  obtain ⟨M, e, hM, hm⟩ := h.ex
  have h0 := h.len
  refine ⟨⟨M, e, fun i hi => ?_, fun n hn => Nat.lt_of_lt_of_le (hm n hn) hl⟩, Nat.le_trans h.len hl⟩
  rw [← hM i hi]
  refine backC_get M C' C (by omega) (by omega) ?_
  rw [ho i _ (List.getElem?_eq_getElem (by omega)), List.getElem?_eq_getElem (by omega)]
theorem Since.back {C0 C : List Cl} {N0 N : List Nt} (h : Since C0 N0 C N) : (backC C (N.drop N0.length)).take C0.length = C0 ∧ N.take N0.length = N0 ∧ N0.length ≤ N.length ∧ ∀ p ∈ N.drop N0.length, p.1 < C.length := by
  obtain ⟨M, e, hM, hm⟩ := h.ex
  have h0 := h.len
  subst e
  rw [List.drop_left, List.take_left]
  refine ⟨List.ext_getElem? fun i => ?_, rfl, by simp, hm⟩
  by_cases hi : i < C0.length
  · rw [List.getElem?_take_of_lt hi, hM i hi]
  · rw [List.getElem?_eq_none (by simp; omega), List.getElem?_eq_none (by omega)]

end Go.Proofs.Ytjhhacighfpdbaa


/- small walked. -/
namespace Go.Proofs.Ytjhhacighfpdbaa
set_option linter.unusedVariables false
open Go.RowKit Go.Maps Go.Proofs.YtjhhacighfpdbaaW.PrintWords Go.Proofs.YtjhhacighfpdbaaW.PrintLast Go.Proofs.YtjhhacighfpdbaaW.PrintMore Go.Proofs.Ytjhhacighfpdbaa.PHeapShares Go.Extern

/-- What small tells. -/
def smallT (t : S28) : Bool := decide (nodes t ≤ 30) && (okT t && (decide (dpt t ≤ 6) && (varsT t []).all fun v => decide (v ≤ 2000)))

set_option maxHeartbeats 4000000 in
set_option maxRecDepth 100000 in
theorem small_any (t : S28) (w : World) (A : Option Addr) (c : Nat) (h : Lies w t A c) :
    Calls Try.prog 8 #[.agg #[.int .i64 t.f0, .string t.f1, .int .i64 t.f2, .slice A t.f3.length c]] w fun e w' => e = .returned (.bool (smallT t)) ∧ Below w.heap.size w w' := by
  have hB0 := below_alloc (Below.refl w.heap.size w) (.cells #[.int .i64 t.f0, .string t.f1, .int .i64 t.f2, .slice A t.f3.length c] 28)
  have kT := blk_new w (.cells #[.int .i64 t.f0, .string t.f1, .int .i64 t.f2, .slice A t.f3.length c] 28)
  have hL0 := h.at hB0
  have h1 := rsize_at hL0 (Below.refl _ _) (most := 30) (by decide) (by decide)
  obtain ⟨m, hm⟩ : ∃ m : Int, m = min (nodes t : Int) (30 + 1) := ⟨_, rfl⟩
  rw [← hm] at h1
  obtain ⟨R, hR⟩ : ∃ R, R = smallT t := ⟨_, rfl⟩
  rw [← hR]
  unfold smallT at hR
  go_enter Try.func8, Try.ntmps8
  by_cases h30 : nodes t ≤ 30
  case neg =>
    rw [decide_eq_false h30, Bool.false_and] at hR
    have e1 : decide (30 < m) = true := decide_eq_true (by omega)
    go_wp2_with fail
    refine h1.mono ?_
    rintro e w1 ⟨rfl, hb1⟩
    clear h1
    go_wp2
    go_ret
    exact ⟨by first | (rw [hR]; rfl) | rfl, hB0.trans (hb1.mono hB0.size)⟩
  rw [decide_eq_true h30, Bool.true_and] at hR
  have e1 : decide (30 < m) = false := decide_eq_false (by omega)
  obtain ⟨d, hd⟩ : ∃ d : Int, d = min (dpt t) (200 + 1) := ⟨_, rfl⟩
  go_wp2_with fail
  refine h1.mono ?_
  rintro e w1 ⟨rfl, hb1⟩
  replace kT := blk_below kT hb1
  have hB1 := hB0.trans (hb1.mono hB0.size)
  have h2 := rright_at (h.at hB1) (Below.refl _ _)
  have t0 : w1.cell? ⟨w.heap.size, 0, none⟩ = some (.int .i64 t.f0) := blk_cell kT 0
  have t1 : w1.cell? ⟨w.heap.size, 1, none⟩ = some (.string t.f1) := blk_cell kT 1
  have t2 : w1.cell? ⟨w.heap.size, 2, none⟩ = some (.int .i64 t.f2) := blk_cell kT 2
  have t3 : w1.cell? ⟨w.heap.size, 3, none⟩ = some (.slice A t.f3.length c) := blk_cell kT 3
  clear h1 hb1
  go_wp2_with fail
  refine h2.mono ?_
  rintro e w2 ⟨rfl, hb2⟩
  replace kT := blk_below kT hb2
  have hB2 := hB1.trans (hb2.mono hB1.size)
  clear t0 t1 t2 t3 h2 hb2
  by_cases hok : okT t = true
  case neg =>
    have hok' : okT t = false := by simpa using hok
    rw [hok', Bool.false_and] at hR
    go_wp2
    go_ret
    exact ⟨by first | (rw [hR]; rfl) | rfl, hB2⟩
  rw [hok, Bool.true_and] at hR
  have h3 := rdepth_at (h.at hB2) (Below.refl _ _) (left := 200) (by decide) (by decide) (by omega)
  rw [← hd] at h3
  have t0 : w2.cell? ⟨w.heap.size, 0, none⟩ = some (.int .i64 t.f0) := blk_cell kT 0
  have t1 : w2.cell? ⟨w.heap.size, 1, none⟩ = some (.string t.f1) := blk_cell kT 1
  have t2 : w2.cell? ⟨w.heap.size, 2, none⟩ = some (.int .i64 t.f2) := blk_cell kT 2
  have t3 : w2.cell? ⟨w.heap.size, 3, none⟩ = some (.slice A t.f3.length c) := blk_cell kT 3
  go_wp2_with fail
  refine h3.mono ?_
  rintro e w3 ⟨rfl, hb3⟩
  replace kT := blk_below kT hb3
  have hB3 := hB2.trans (hb3.mono hB2.size)
  clear t0 t1 t2 t3 h3 hb3
  by_cases h6 : dpt t ≤ 6
  case neg =>
    rw [decide_eq_false h6, Bool.false_and] at hR
    have e6 : decide (6 < d) = true := decide_eq_true (by omega)
    go_wp2
    go_ret
    exact ⟨by first | (rw [hR]; rfl) | rfl, hB3⟩
  rw [decide_eq_true h6, Bool.true_and] at hR
  have e6 : decide (6 < d) = false := decide_eq_false (by omega)
  have h4 := rVars_at (h.at hB3) (Below.refl _ _) (by omega)
  have t0 : w3.cell? ⟨w.heap.size, 0, none⟩ = some (.int .i64 t.f0) := blk_cell kT 0
  have t1 : w3.cell? ⟨w.heap.size, 1, none⟩ = some (.string t.f1) := blk_cell kT 1
  have t2 : w3.cell? ⟨w.heap.size, 2, none⟩ = some (.int .i64 t.f2) := blk_cell kT 2
  have t3 : w3.cell? ⟨w.heap.size, 3, none⟩ = some (.slice A t.f3.length c) := blk_cell kT 3
  have hvl := varsT_len t []
  simp only [List.length_nil, Nat.zero_add] at hvl
  go_wp2_with fail
  refine h4.mono ?_
  rintro e w4 ⟨vA, vc, rfl, hvc, hO, hb4⟩
  have hB4 := hB3.trans (hb4.mono hB3.size)
  clear t0 t1 t2 t3 h4 hb4 kT hB1 hB2 hB3 hL0 hB0
  generalize varsT t [] = vs at hvc hO hvl hR ⊢
  go_wp2
  go_loopw [21] (fun i wr => ∃ k : Nat, k ≤ vs.length ∧ i = .int .i64 k ∧ (vs.all fun v => decide (v ≤ 2000)) = ((vs.drop k).all fun v => decide (v ≤ 2000)) ∧ Below w4.heap.size w4 wr) (fun i _ => vs.length - (intOf i).toNat)
  case atStart => exact ⟨0, Nat.zero_le _, rfl, rfl, Below.refl _ _⟩
  case round =>
    obtain ⟨k, hk, rfl, ho, hb⟩ := hrel
    by_cases hlt : k < vs.length
    · obtain ⟨g, cap, hg, g1, g2, g3⟩ := outAt_cell (own_step hO fun q hq => hb.block q (World.ownsRow.lt hO q hq).2 : OutAt wr w3.heap.size (.slice vA vs.length vc) vs) hlt
      simp only [Value.slice.injEq, true_and] at hg
      obtain ⟨rfl, rfl⟩ := hg
      rw [List.drop_eq_getElem_cons hlt, List.all_cons] at ho
      generalize vs[k] = u at g3 ho
      by_cases hu : u ≤ 2000
      · rw [decide_eq_true hu, Bool.true_and] at ho
        have e7 : decide (2000 < u) = false := decide_eq_false (by omega)
        go_wp2
        go_roundw
        case rel => exact ⟨k + 1, by omega, by go_num, ho, hb⟩
        case measure => simp [intOf]; omega
      · rw [decide_eq_false hu, Bool.false_and] at ho
        have e7 : decide (2000 < u) = true := decide_eq_true (by omega)
        go_wp2
        go_ret
        exact ⟨by first | (rw [hR, ho]; done) | (rw [hR, ho]; rfl) | rfl, hB4.trans (hb.mono hB4.size)⟩
    · obtain rfl : k = vs.length := by omega
      rw [List.drop_of_length_le (Nat.le_refl _), List.all_nil] at ho
      go_wp2
      go_ret
      exact ⟨by first | (rw [hR, ho]; done) | (rw [hR, ho]; rfl) | rfl, hB4.trans (hb.mono hB4.size)⟩

end Go.Proofs.Ytjhhacighfpdbaa


/- What a law's heap and its row of addresses are like. -/
namespace Go.Proofs.Ytjhhacighfpdbaa
set_option linter.unusedVariables false
open Go.RowKit Go.Maps Go.Proofs.YtjhhacighfpdbaaW.PrintWords Go.Proofs.YtjhhacighfpdbaaW.PrintLast Go.Proofs.YtjhhacighfpdbaaW.PrintMore Go.Proofs.Ytjhhacighfpdbaa.PHeapShares Go.Extern

theorem and_1023 (x : Int) : 0 ≤ bits .and .i64 x 1023 ∧ bits .and .i64 x 1023 ≤ 1023 := by
  have h : (BitVec.ofInt IntKind.i64.bits x &&& BitVec.ofInt IntKind.i64.bits 1023).toNat ≤ 1023 := by
    rw [BitVec.toNat_and]
    exact Nat.le_trans Nat.and_le_right (by decide)
  unfold bits
  simp only
  rw [IntKind.wrap_i64]
  omega

theorem small_facts {t : S28} (h : smallT t = true) : nodes t ≤ 30 ∧ okT t = true ∧ ∀ v ∈ occT t, v ≤ 2000 := by
  unfold smallT at h
  simp only [Bool.and_eq_true, decide_eq_true_eq, List.all_eq_true] at h
  exact ⟨h.1, h.2.1, fun v hv => h.2.2.2 v ((mem_varsT t v).2 hv)⟩

/-- A law's heap, and the row of the addresses of what was put in. -/
structure LS (w0 w : World) (hb : Nat) (S : Nat → Prop) (H : Hp) (va : Value) (A : List Nat) : Prop where
  hp : HpAt w hb S H
  bel : Below w0.heap.size w0 w
  sb : ∀ k, S k → w0.heap.size ≤ k
  row : EnvRow w va (A.map fun a : Nat => (a : Int))
  rb : ∀ k, va.ownBlock = some k → w0.heap.size ≤ k ∧ ¬ S k
  hi : HI H.C
  adr : ∀ a ∈ A, a < H.C.length
  mo : H.most = 65536
  tr : H.trail = 65536

section
variable {w0 w w' : World} {hb : Nat} {S : Nat → Prop} {H : Hp} {va : Value} {A : List Nat}
theorem LS.below (h : LS w0 w hb S H va A) (hB : Below w.heap.size w w') : LS w0 w' hb S H va A :=
  ⟨h.hp.below hB, below_step h.bel hB, h.sb, h.row.below hB, h.rb, h.hi, h.adr, h.mo, h.tr⟩
theorem LS.alloc (h : LS w0 w hb S H va A) (o : Obj) : LS w0 (w.alloc o) hb S H va A := h.below (below_alloc (Below.refl _ _) o)
/-- The heap has turned, and nothing else. -/
theorem LS.to {H' : Hp} {S' : Nat → Prop} (h : LS w0 w hb S H va A) (hp : HpAt w' hb S' H') (hf : Fs S w w') (hs : ∀ k, S' k → S k ∨ w.heap.size ≤ k) (hi : HI H'.C) (hl : H.C.length ≤ H'.C.length) (hm : H'.most = H.most) (ht : H'.trail = H.trail) : LS w0 w' hb S' H' va A :=
  ⟨hp, ⟨hf.os.trans h.bel.os, hf.tape.trans h.bel.tape, hf.output.trans h.bel.output, Nat.le_trans h.bel.size hf.size, fun k hk => (hf.block k (Nat.lt_of_lt_of_le hk h.bel.size) (fun hS => by have := h.sb k hS; omega)).trans (h.bel.block k hk)⟩,
    fun k hk => (hs k hk).elim (h.sb k) (fun h1 => Nat.le_trans h.bel.size h1), h.row.fs hf (fun k hk => (h.rb k hk).2),
    fun k hk => ⟨(h.rb k hk).1, fun hS => (hs k hS).elim (h.rb k hk).2 (fun h1 => by have := (World.ownsRow.lt h.row k hk).2; omega)⟩, hi, fun a ha => Nat.lt_of_lt_of_le (h.adr a ha) hl, hm.trans h.mo, ht.trans h.tr⟩

theorem envAt_nil (v : Int) : envAt [] v = -1 := by unfold envAt; simp

/-- Put without an env, of a term that lies in known blocks. -/
theorem LS.put {t : S28} {T : Nat → Prop} {B : Option Addr} {c : Nat} (h : LS w0 w hb S H va A) (hL : LF T w t B c) (hS : ∀ k, S k → ¬ T k) (hT : ∀ k, T k → k < w.heap.size) (hok : okT t = true) (hv : ∀ v ∈ occT t, v ≤ 2000) (hroom : H.C.length + nodes t ≤ 65536) :
    Calls Try.prog 9 #[.pointer (some ⟨hb, 0, none⟩), .agg #[.int .i64 t.f0, .string t.f1, .int .i64 t.f2, .slice B t.f3.length c], .slice none 0 0] w fun e w' => ∃ v S' C2 E2 σ,
      e = .returned (.tuple #[.int .i64 H.C.length, v, .int .i64 0]) ∧ LS w0 w' hb S' { H with C := C2 } va A ∧ Laid t H.C (env0 [] (topL 0 (varsOf t))) C2 E2 σ ∧ Fs S w w' ∧ (∀ k, S' k → S k ∨ w.heap.size ≤ k) ∧ EnvRow w' v E2 ∧ (∀ k, v.ownBlock = some k → ¬ S' k ∧ w.heap.size ≤ k) := by
  have hp := put_gen t [] T w hb S H B c (.slice none 0 0) h.hp h.hi (World.ownsRow_nil _ _ _ _) (fun k hk => by simp [Value.ownBlock] at hk) hS hT hL hok (by simp) hv (fun v _ => by rw [envAt_nil]; omega) (by rw [h.mo]; omega)
  refine hp.mono fun e w' ⟨v, S', C2, E2, σ, he, h1, h2, h3, h4, h5, h6⟩ => ⟨v, S', C2, E2, σ, he, h.to h1 h2 h3 h6.hi (by rw [h6.len]; omega) rfl rfl, h6, h2, h3, h4, h5⟩

theorem HpAt.grown {row : Option Nat} (h : HpAt w hb S H) (hg : w.grownBy w' row) (hr : ∀ k, row = some k → ¬ S k) : HpAt w' hb S H :=
  h.step (fun k hk => hg.block k (h.lt k hk) (fun e => hr k e.symm hk)) hg.size

/-- One address more. -/
theorem LS.push {o : Obj} {x g c : Nat} (h : LS w0 w hb S H va A) (hx : x < H.C.length) (ho : w'.ownsRow 0 3 1 (.slice (some ⟨g, 0, none⟩) (A.length + 1) c) (A.length + 1) ((A.map fun a : Nat => (a : Int)).map (.int .i64 ·) ++ [.int .i64 (x : Int)]))
    (hg : (w.alloc o).grownBy w' va.ownBlock) (hor : va.ownBlock = some g ∨ g = (w.alloc o).heap.size) : LS w0 w' hb S H (.slice (some ⟨g, 0, none⟩) (A.length + 1) c) (A ++ [x]) := by
  have hs := h.bel.size
  refine ⟨(h.hp.alloc o).grown hg (fun k hk => (h.rb k hk).2), below_grown (below_alloc h.bel o) hg (fun k hk => (h.rb k hk).1) (Nat.le_refl _), h.sb, ?_, fun k hk => ?_, h.hi, fun a ha => ?_, h.mo, h.tr⟩
  · unfold EnvRow
    simpa using ho
  · obtain rfl : g = k := by simpa [Value.ownBlock] using hk
    rcases hor with e | e
    · exact h.rb _ e
    · simp at e
      exact ⟨by omega, fun hS => by have := h.hp.lt _ hS; omega⟩
  · rcases List.mem_append.1 ha with ha | ha
    · exact h.adr a ha
    · rw [List.mem_singleton.1 ha]; exact hx

theorem take_bad (w : World) (hb : Nat) (S : Nat → Prop) (H : Hp) (a : Nat) (t : S28) (hp : HpAt w hb S H) (hr : Rep H.C a t) (hok : okT t = false) :
    Calls Try.prog 11 #[.pointer (some ⟨hb, 0, none⟩), .int .i64 a] w fun e w' => ∃ v,
      e = .returned (.tuple #[.agg #[.int .i64 0, .string ⟨#[]⟩, .int .i64 0, v], .int .i64 2]) ∧ Kd.R k28 28 w' w.heap.size (fun _ => True) v [] ∧ Below w.heap.size w w' := by
  have h := Take_any w hb S H a t hp hr
  unfold TakenPost at h
  rw [show takT t = z28 from by unfold takT; rw [hok]; rfl] at h
  rw [hok] at h
  exact h

theorem R_made (w : World) (base : Nat) (ok : Nat → Prop) (hb : base ≤ w.heap.size) (hok : ok w.heap.size) : Kd.R k28 28 (w.alloc (.cells #[] 28)) base ok (.slice (some ⟨w.heap.size, 0, none⟩) 0 0) [] :=
  ⟨fun k hk => by
    have hk' : w.heap.size = k := by simpa [Value.ownBlock] using hk
    rw [← hk']; exact hok, [], World.ownsRow_made w #[] 0 hb (by decide) (by simp), ⟨rfl, fun j p hj => by simp at hj⟩⟩

/-- The terms at the first k addresses. -/
def TakenUp (C : List Cl) (A : List Nat) (Ws : List S28) : Prop := ∀ (q a : Nat) (t : S28), A[q]? = some a → Ws[q]? = some t → Rep C a t ∧ okT t = true

theorem TakenUp.snoc {C : List Cl} {A : List Nat} {Ws : List S28} {t : S28} (h : TakenUp C A Ws) (hl : Ws.length < A.length) (hr : Rep C (A[Ws.length]'hl) t) (hok : okT t = true) : TakenUp C A (Ws ++ [t]) := by
  intro q a u ha hu
  by_cases hq : q < Ws.length
  · rw [List.getElem?_append_left hq] at hu
    exact h q a u ha hu
  · have hq2 : q = Ws.length := by
      have := (List.getElem?_eq_some_iff.1 hu).1
      simp at this
      omega
    subst hq2
    rw [List.getElem?_append_right (Nat.le_refl _)] at hu
    simp at hu
    subst hu
    rw [List.getElem?_eq_getElem hl] at ha
    obtain rfl := Option.some.inj ha
    exact ⟨hr, hok⟩

/-- A row of whole numbers that came in. -/
structure Pairs (w : World) (B : Option Addr) (n : Nat) : Prop where
  at_ : ∀ i, i < n → ∃ ad x, B = some ad ∧ w.cell? (ad.add i) = some (.int .i64 x)
  max : n ≤ 9223372036854775807

/-- Where a pick of two addresses reads. -/
structure Picked (w : World) (ad : Addr) (ga : Nat) (j len : Nat) (x : Int) (a : Nat) : Prop where
  p : w.cell? (ad.add j) = some (.int .i64 x)
  lo : 0 ≤ (bits .and .i64 x 1023).tmod len
  hi : (bits .and .i64 x 1023).tmod len < len
  q : w.cell? ⟨ga, ((bits .and .i64 x 1023).tmod len).toNat, none⟩ = some (.int .i64 a)

theorem LS.pick {Va : Option Addr} {ca n j : Nat} {B : Option Addr} (h : LS w0 w hb S H (.slice Va A.length ca) A) (hP : Pairs w0 B n) (hA : 0 < A.length) (hj : j < n) :
    ∃ ad ga x a, B = some ad ∧ Va = some ⟨ga, 0, none⟩ ∧ a ∈ A ∧ Picked w ad ga j A.length x a := by
  obtain ⟨ad, x, rfl, hx⟩ := hP.at_ j hj
  have hb := and_1023 x
  have h0 : 0 ≤ (bits .and .i64 x 1023).tmod A.length := Int.tmod_nonneg _ hb.1
  have h1 : (bits .and .i64 x 1023).tmod A.length < A.length := Int.tmod_lt_of_pos _ (by omega)
  have hk : ((bits .and .i64 x 1023).tmod A.length).toNat < A.length := by omega
  obtain ⟨ga, cap, e, _, hc, _⟩ := h.row.cell (j := ((bits .and .i64 x 1023).tmod A.length).toNat) (by simpa using hk)
  simp only [Value.slice.injEq] at e
  obtain ⟨rfl, _, rfl⟩ := e
  refine ⟨ad, ga, x, A[((bits .and .i64 x 1023).tmod A.length).toNat], rfl, rfl, List.getElem_mem hk, ?_, h0, h1, ?_⟩
  · exact (h.bel.cell (World.block_lt_of_cell? w0 _ hx)).trans hx
  · rw [hc]
    simp [List.getD_eq_getElem?_getD, List.getElem?_eq_getElem hk]

/-- Unify of two of the addresses: the cells are as many as before, and all that was done is noted. -/
theorem LS.unify {a b : Nat} (h : LS w0 w hb S H va A) (ha : a ∈ A) (hb' : b ∈ A) :
    Calls Try.prog 10 #[.pointer (some ⟨hb, 0, none⟩), .int .i64 a, .int .i64 b] w fun e w' => ∃ v S' C' N', e = .returned v ∧ LS w0 w' hb S' { H with C := C', N := N' } va A ∧ Noted H.C H.N C' N' ∧ Fs S w w' ∧ ∀ k, S' k → S k ∨ w.heap.size ≤ k := by
  obtain ⟨s, hs⟩ := h.hi a (h.adr a ha)
  obtain ⟨t, ht⟩ := h.hi b (h.adr b hb')
  have hu := Unify_any (fun _ => True) w hb S H a b s t h.hp h.hi hs ht (fun _ _ => trivial) (fun _ _ => trivial)
  refine hu.mono fun e w' hu => ?_
  rcases hu with ⟨C', N', σ, he, ⟨S', h1, h2, h3⟩, hn, hu⟩ | ⟨he, ⟨S', h1, h2, h3⟩, _⟩ | ⟨he, ⟨S', h1, h2, h3⟩, _⟩
  · exact ⟨_, S', C', N', he, h.to h1 h2 h3 (hu.sol.HI h.hi) (Nat.le_of_eq hn.len.symm) rfl rfl, hn, h2, h3⟩
  · exact ⟨_, S', H.C, H.N, he, h.to h1 h2 h3 h.hi (Nat.le_refl _) rfl rfl, Noted.refl _ _, h2, h3⟩
  · exact ⟨_, S', H.C, H.N, he, h.to h1 h2 h3 h.hi (Nat.le_refl _) rfl rfl, Noted.refl _ _, h2, h3⟩

/-- A row that is none of the heap's, nor that of the addresses, was written. -/
theorem LS.grown {row : Option Nat} (h : LS w0 w hb S H va A) (hg : w.grownBy w' row) (hr : ∀ k, row = some k → w0.heap.size ≤ k ∧ ¬ S k ∧ va.ownBlock ≠ some k) : LS w0 w' hb S H va A :=
  ⟨h.hp.grown hg fun k e => (hr k e).2.1, below_grown h.bel hg (fun k e => (hr k e).1) (Nat.le_refl _), h.sb, h.row.step fun k e => hg.block k (World.ownsRow.lt h.row k e).2 (fun e2 => (hr k e2.symm).2.2 e), h.rb, h.hi, h.adr, h.mo, h.tr⟩

theorem LS.slice (h : LS w0 w hb S H va A) : ∃ B c, va = .slice B A.length c := by
  have h := own_slice h.row
  simpa using h

/-- The k-th address. -/
theorem LS.addr {Va : Option Addr} {ca k : Nat} (h : LS w0 w hb S H (.slice Va A.length ca) A) (hk : k < A.length) : ∃ g, Va = some ⟨g, 0, none⟩ ∧ w.cell? ⟨g, k, none⟩ = some (.int .i64 (A[k] : Int)) := by
  obtain ⟨ga, cap, e, _, hc, _⟩ := h.row.cell (j := k) (by simpa using hk)
  simp only [Value.slice.injEq] at e
  refine ⟨ga, e.1, ?_⟩
  rw [hc]
  simp [List.getD_eq_getElem?_getD, List.getElem?_eq_getElem hk]

theorem LS.mark (h : LS w0 w hb S H va A) (hm : H.M.length < 1000000) :
    Calls Try.prog 13 #[.pointer (some ⟨hb, 0, none⟩)] w fun e w' => ∃ S', e = .returned (.int .i64 ((H.M.length : Int) + 1)) ∧ LS w0 w' hb S' { H with M := H.M ++ [(H.C.length, H.N.length)] } va A ∧ Fs S w w' ∧ ∀ k, S' k → S k ∨ w.heap.size ≤ k := by
  refine (Mark_any w hb S H h.hp hm).mono fun e w' ⟨he, S', h1, h2, h3⟩ => ⟨S', he, h.to h1 h2 h3 h.hi (Nat.le_refl _) rfl rfl, h2, h3⟩

/-- The taken terms' row, as a term of its own. -/
theorem row_wf {C : List Cl} {B : List Nat} {Ws : List S28} (hC : C.length ≤ 1000000) (hl : Ws.length ≤ B.length) (h : TakenUp C B Ws) : wfT ⟨4, ⟨#[]⟩, 0, Ws⟩ := by
  rw [wfT]
  refine ⟨by unfold I64; decide, wfL_all.2 fun t ht => ?_⟩
  obtain ⟨q, hq, rfl⟩ := List.getElem_of_mem ht
  exact (h q _ _ (List.getElem?_eq_getElem (by omega : q < B.length)) (List.getElem?_eq_getElem hq)).1.wf hC

/-- The heap is as it was. -/
theorem LS.back {H' : Hp} {S' : Nat → Prop} (h : LS w0 w hb S H va A) (hp : HpAt w' hb S' H') (hf : Fs S w w') (hs : ∀ k, S' k → S k ∨ w.heap.size ≤ k) (hi : HI H'.C) (ha : ∀ a ∈ A, a < H'.C.length) (hm : H'.most = H.most) (ht : H'.trail = H.trail) : LS w0 w' hb S' H' va A :=
  ⟨hp, ⟨hf.os.trans h.bel.os, hf.tape.trans h.bel.tape, hf.output.trans h.bel.output, Nat.le_trans h.bel.size hf.size, fun k hk => (hf.block k (Nat.lt_of_lt_of_le hk h.bel.size) (fun hS => by have := h.sb k hS; omega)).trans (h.bel.block k hk)⟩,
    fun k hk => (hs k hk).elim (h.sb k) (fun h1 => Nat.le_trans h.bel.size h1), h.row.fs hf (fun k hk => (h.rb k hk).2),
    fun k hk => ⟨(h.rb k hk).1, fun hS => (hs k hS).elim (h.rb k hk).2 (fun h1 => by have := (World.ownsRow.lt h.row k hk).2; omega)⟩, hi, ha, hm.trans h.mo, ht.trans h.tr⟩
end

end Go.Proofs.Ytjhhacighfpdbaa
