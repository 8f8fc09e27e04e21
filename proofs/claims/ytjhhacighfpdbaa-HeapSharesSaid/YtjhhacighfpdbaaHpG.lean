/- Terms in memory and in plain words (gathered out of the texts of the term package). -/
import Derived.Test.YtjhhacighfpdbaaPHeapSharesr3
import Derived.Maps.AppendAt
import Derived.Lib.Bytealg
import Derived.Stop.Asserts
import Derived.RowKitTokens
import Derived.StillTailTactics
import Derived.Lib.Hide
import Derived.Maps.OwnSet
import Derived.Sort.KeysCollected
import Derived.WalkKit
import Derived.WalkLawsBesides
import Derived.Deep.QuietTactic
import Derived.BigQuiet
import Derived.Deep.CutRange
namespace Go.Proofs.Ytjhhacighfpdbaa
set_option linter.unusedVariables false
open Go.RowKit Go.Maps Go.Proofs.YtjhhacighfpdbaaW.PrintWords Go.Proofs.YtjhhacighfpdbaaW.PrintLast Go.Proofs.YtjhhacighfpdbaaW.PrintMore Go.Proofs.Ytjhhacighfpdbaa.PHeapShares Go.Extern

/-! From TmA. -/
/-- A number of a machine word. -/
def I64 (x : Int) : Prop := -9223372036854775808 ≤ x ∧ x ≤ 9223372036854775807

mutual
/-- What measure answers, and how many symbols it has counted then. -/
def meas : S28 → Int → Int → Int × Bool × Int
  | ⟨kd, nm, nt, xs⟩, deep, s =>
    if s + 1 > 2000 ∨ deep > 100 then (0, false, s + 1)
    else if kd = 1 then (1, decide (nt ≥ 1), s + 1)
    else if kd = 2 then (1, true, s + 1)
    else if kd = 4 then
      if xs.length < 1 ∨ xs.length > 8 then (0, false, s + 1)
      else
        let r := measL xs (deep + 1) 0 (s + 1)
        if r.2.1 = true then (r.1 + 1, decide ((nm.size : Int) ≤ 64), r.2.2) else (0, false, r.2.2)
    else if kd = 3 then (1, decide ((nm.size : Int) ≤ 64), s + 1)
    else (0, false, s + 1)
/-- Of arguments: the greatest depth. -/
def measL : List S28 → Int → Int → Int → Int × Bool × Int
  | [], deep, d, s => (d, true, s)
  | a :: r, deep, d, s =>
    let q := meas a deep s
    if q.2.1 = true then measL r deep (max d q.1) q.2.2 else (0, false, q.2.2)
end
theorem measL_nil (deep d s : Int) : measL [] deep d s = (d, true, s) := by rw [measL]
theorem measL_cons (a : S28) (r : List S28) (deep d s : Int) : measL (a :: r) deep d s = if (meas a deep s).2.1 = true then measL r deep (max d (meas a deep s).1) (meas a deep s).2.2 else (0, false, (meas a deep s).2.2) := by rw [measL]

/-- A cell of one's own with a count in it. -/
def CntAt (w : World) (b : Nat) (s : Int) : Prop := w.heap[b]? = some (.cells #[.int .i64 s] 3 (0, 0))

theorem sz_mem {t a : S28} (h : a ∈ t.f3) : SizeOf.sizeOf a < SizeOf.sizeOf t := by
  cases t with
  | mk k n i xs =>
    have := List.sizeOf_lt_of_mem h
    simp only [S28.mk.sizeOf_spec]
    simp only at this
    omega

/-- The bounds of what measure answers. -/
structure MB (deep d0 s : Int) (r : Int × Bool × Int) : Prop where
  d : 0 ≤ r.1
  lo : s ≤ r.2.2
  hi : r.2.2 ≤ 2001
  ok : r.2.1 = true → r.2.2 ≤ 2000 ∧ r.1 + deep ≤ 101

mutual
theorem meas_b : ∀ (t : S28) (deep s : Int), s ≤ 2000 → deep ≤ 101 → MB deep 0 s (meas t deep s)
  | ⟨kd, nm, nt, xs⟩, deep, s, hs, hd => by
    unfold meas
    by_cases h1 : s + 1 > 2000 ∨ deep > 100
    · rw [if_pos h1]; exact ⟨by simp, by simp; omega, by simp; omega, by simp⟩
    rw [if_neg h1]
    by_cases h2 : kd = 1
    · rw [if_pos h2]; exact ⟨by simp, by simp; omega, by simp; omega, fun _ => ⟨by simp; omega, by simp; omega⟩⟩
    rw [if_neg h2]
    by_cases h3 : kd = 2
    · rw [if_pos h3]; exact ⟨by simp, by simp; omega, by simp; omega, fun _ => ⟨by simp; omega, by simp; omega⟩⟩
    rw [if_neg h3]
    by_cases h4 : kd = 4
    · rw [if_pos h4]
      by_cases h5 : xs.length < 1 ∨ xs.length > 8
      · rw [if_pos h5]; exact ⟨by simp, by simp; omega, by simp; omega, by simp⟩
      rw [if_neg h5]
      have hb := measL_b xs (deep + 1) 0 (s + 1) (by omega) (by omega) (by omega) (by omega)
      by_cases h6 : (measL xs (deep + 1) 0 (s + 1)).2.1 = true
      · simp only [h6, if_true]
        have := hb.ok h6
        exact ⟨by have := hb.d; simp only; omega, by have := hb.lo; simp only; omega, hb.hi, fun _ => ⟨this.1, by simp only; omega⟩⟩
      · simp only [h6]
        exact ⟨by simp, by have := hb.lo; simp; omega, by have := hb.hi; simpa using this, by simp⟩
    rw [if_neg h4]
    by_cases h5 : kd = 3
    · rw [if_pos h5]; exact ⟨by simp, by simp; omega, by simp; omega, fun _ => ⟨by simp; omega, by simp; omega⟩⟩
    rw [if_neg h5]
    exact ⟨by simp, by simp; omega, by simp; omega, by simp⟩
theorem measL_b : ∀ (xs : List S28) (deep d s : Int), s ≤ 2000 → deep ≤ 101 → 0 ≤ d → d + deep ≤ 101 → MB deep d s (measL xs deep d s)
  | [], deep, d, s, hs, hd, h0, hdd => by
    unfold measL
    exact ⟨h0, Int.le_refl _, by simp only; omega, fun _ => ⟨hs, hdd⟩⟩
  | a :: r, deep, d, s, hs, hd, h0, hdd => by
    have hb := meas_b a deep s hs hd
    unfold measL
    by_cases h6 : (meas a deep s).2.1 = true
    · simp only [h6, if_true]
      have := hb.ok h6
      have hl := measL_b r deep (max d (meas a deep s).1) (meas a deep s).2.2 this.1 hd (by omega) (by omega)
      exact ⟨hl.d, by have := hl.lo; have := hb.lo; omega, hl.hi, hl.ok⟩
    · simp only [h6]
      exact ⟨by simp, by have := hb.lo; simpa using this, by have := hb.hi; simpa using this, by simp⟩
end
/-- Nothing that was there has turned but one block. -/
structure Fg (b : Nat) (w w' : World) : Prop where
  os : w'.os = w.os
  tape : w'.tape = w.tape
  output : w'.output = w.output
  size : w.heap.size ≤ w'.heap.size
  block : ∀ k, k < w.heap.size → k ≠ b → w'.heap[k]? = w.heap[k]?

theorem Fg.refl (b : Nat) (w : World) : Fg b w w := ⟨rfl, rfl, rfl, Nat.le_refl _, fun _ _ _ => rfl⟩
theorem Fg.trans {b : Nat} {w w1 w2 : World} (h : Fg b w w1) (k : Fg b w1 w2) : Fg b w w2 :=
  ⟨k.os.trans h.os, k.tape.trans h.tape, k.output.trans h.output, Nat.le_trans h.size k.size, fun i hi hb => (k.block i (Nat.lt_of_lt_of_le hi h.size) hb).trans (h.block i hi hb)⟩
theorem Fg.of_below {b : Nat} {w w' : World} (h : Below w.heap.size w w') : Fg b w w' := ⟨h.os, h.tape, h.output, h.size, fun k hk _ => h.block k hk⟩
theorem Fg.set {b : Nat} (w : World) (j : Nat) (u : Value) : Fg b w (w.setCell ⟨b, j, none⟩ u) :=
  ⟨rfl, rfl, rfl, by simp [World.setCell], fun k _ hk => Below.heap_setCell w ⟨b, j, none⟩ u k hk⟩
theorem Fg.alloc {b : Nat} {w w' : World} (h : Fg b w w') (o : Obj) : Fg b w (w'.alloc o) := h.trans (.of_below (below_alloc (Below.refl _ _) o))
theorem Fg.below {b : Nat} {w0 w w' : World} (h : Fg b w w') (hB : Below w0.heap.size w0 w) (hb : w0.heap.size ≤ b) : Below w0.heap.size w0 w' :=
  ⟨h.os.trans hB.os, h.tape.trans hB.tape, h.output.trans hB.output, Nat.le_trans hB.size h.size, fun k hk => (h.block k (Nat.lt_of_lt_of_le hk hB.size) (by omega)).trans (hB.block k hk)⟩
theorem Fg.blk {b g : Nat} {w w' : World} {o : Obj} (h : Fg b w w') (hb : w.heap[g]? = some o) (hg : g ≠ b) : w'.heap[g]? = some o := (h.block g (blk_lt hb) hg).trans hb

theorem CntAt.set {w : World} {b : Nat} {s : Int} (h : CntAt w b s) (s' : Int) : CntAt (w.setCell ⟨b, 0, none⟩ (.int .i64 s')) b s' := by
  have := blk_set h 0 (.int .i64 s')
  simpa [CntAt] using this
theorem CntAt.alloc {w : World} {b : Nat} {s : Int} (h : CntAt w b s) (o : Obj) : CntAt (w.alloc o) b s := blk_alloc h o

set_option maxHeartbeats 4000000 in
set_option maxRecDepth 100000 in
theorem measure_any : ∀ (n : Nat) (t : S28), SizeOf.sizeOf t = n → ∀ (deep s : Int) (w0 w : World) (b c : Nat) (A : Option Addr), Kd.C k28 w0 A t.f3.length t.f3 → t.f3.length ≤ c → Below w0.heap.size w0 w → w0.heap.size ≤ b → CntAt w b s → 0 ≤ s → s ≤ 2000 → 0 ≤ deep → deep ≤ 101 →
    Calls Try.prog 42 #[.agg #[.int .i64 t.f0, .string t.f1, .int .i64 t.f2, .slice A t.f3.length c], .int .i64 deep, .pointer (some ⟨b, 0, none⟩)] w fun e w' =>
      e = .returned (.tuple #[.int .i64 (meas t deep s).1, .bool (meas t deep s).2.1]) ∧ Fg b w w' ∧ CntAt w' b (meas t deep s).2.2 := by
  intro n
  induction n using Nat.strongRecOn with
  | _ n ih =>
  intro t hn deep s w0 w b c A hC hc hB hb hs h0 h2 hd0 hd
  obtain ⟨kd, nm, nt, xs⟩ := t
  simp only at hC hc ⊢
  have x0 := blk_cell hs 0
  have x1 := blk_frozen hs 0
  have hbl := blk_lt hs
  have hs1 := hs.set (s + 1)
  have hf1 : Fg b w (w.setCell ⟨b, 0, none⟩ (.int .i64 (s + 1))) := Fg.set w 0 _
  have hs2 := hs1.alloc (.cells #[.int .i64 kd, .string nm, .int .i64 nt, .slice A xs.length c] 28)
  have hf2 := hf1.alloc (.cells #[.int .i64 kd, .string nm, .int .i64 nt, .slice A xs.length c] 28)
  unfold meas
  by_cases h1 : s + 1 > 2000 ∨ deep > 100
  · simp only [if_pos h1]
    have e1 : (decide (2000 < s + 1) || decide (100 < deep)) = true := by simp; omega
    clear ih
    go_enter Try.func42, Try.ntmps42
    go_wp2
    all_goals
      go_ret2
      exact ⟨rfl, hf2, hs2⟩
  simp only [if_neg h1]
  have e1 : (decide (2000 < s + 1) || decide (100 < deep)) = false := by simp; omega
  by_cases k1 : kd = 1
  · subst k1
    simp only [if_true]
    clear ih
    go_enter Try.func42, Try.ntmps42
    go_wp2
    go_quiet (fail)
    go_wp2
    go_ret2
    exact ⟨rfl, ⟨hf2.os, hf2.tape, hf2.output, hf2.size, hf2.block⟩, hs2⟩
  simp only [if_neg k1]
  have k1' : (kd == 1) = false := by simpa using k1
  by_cases k2 : kd = 2
  · subst k2
    simp only [if_true]
    clear ih
    go_enter Try.func42, Try.ntmps42
    go_wp2
    go_ret2
    exact ⟨rfl, hf2, hs2⟩
  simp only [if_neg k2]
  have k2' : (kd == 2) = false := by simpa using k2
  by_cases k4 : kd = 4
  · subst k4
    simp only [if_true]
    by_cases hl : xs.length < 1 ∨ xs.length > 8
    · simp only [if_pos hl]
      clear ih
      go_enter Try.func42, Try.ntmps42
      go_wp2
      all_goals
        go_ret2
        exact ⟨rfl, hf2, hs2⟩
    simp only [if_neg hl]
    go_enter Try.func42, Try.ntmps42
    go_wp2
    have hB2 := hf2.below hB hb
    obtain ⟨W2, hW2⟩ : ∃ W, W = ((w.setCell ⟨b, 0, none⟩ (.int .i64 (s + 1))).alloc (.cells #[.int .i64 4, .string nm, .int .i64 nt, .slice A xs.length c] 28)) := ⟨_, rfl⟩
    have he : (w.setCell ⟨b, 0, none⟩ (.int .i64 (s + 1))).heap.size = w.heap.size := by simp [World.setCell]
    have nb : W2.heap[w.heap.size]? = some (.cells #[.int .i64 4, .string nm, .int .i64 nt, .slice A xs.length c] 28 (0, 0)) := by rw [hW2, ← he]; exact blk_new _ _
    have z1 : W2.cell? ⟨w.heap.size, 1, none⟩ = some (.string nm) := blk_cell nb 1
    have z2 : w.heap.size < W2.heap.size := blk_lt nb
    clear he nb
    rw [← hW2] at hf2 hs2 hB2 ⊢
    clear hW2
    go_loopw [6, 51] (fun v i wr => ∃ (k : Nat) (d q : Int), k ≤ xs.length ∧ v = .int .i64 d ∧ i = .int .i64 k ∧ measL xs (deep + 1) 0 (s + 1) = measL (xs.drop k) (deep + 1) d q ∧ 0 ≤ d ∧ d + (deep + 1) ≤ 101 ∧ 0 ≤ q ∧ q ≤ 2000 ∧ CntAt wr b q ∧ Fg b W2 wr)
      (fun _ i _ => xs.length - (intOf i).toNat)
    case atStart => exact ⟨0, 0, s + 1, Nat.zero_le _, rfl, rfl, rfl, by omega, by omega, by omega, by omega, hs2, Fg.refl _ _⟩
    case round =>
      obtain ⟨k, d, q, hk, rfl, rfl, hm, hd1, hd2, hq1, hq2, hcq, hfq⟩ := hrel
      have hBq := hfq.below hB2 hb
      have hbw : w.heap.size ≠ b := by omega
      by_cases hlt : k < xs.length
      · obtain ⟨ad, A3, c3, rfl, y0, y1, y2, y3, l3, g3⟩ := at_T28 hC (k : Int) (by omega) (by omega)
        have hrd : rd_T28 xs (k : Int) = xs[k] := by simp [rd_T28, List.getD_eq_getElem?_getD, List.getElem?_eq_getElem hlt]
        simp only [Int.toNat_natCast, hrd] at y0 y1 y2 y3 l3 g3
        replace y0 := (hBq.cell (World.block_lt_of_cell? w0 _ y0)).trans y0
        replace y1 := (hBq.cell (World.block_lt_of_cell? w0 _ y1)).trans y1
        replace y2 := (hBq.cell (World.block_lt_of_cell? w0 _ y2)).trans y2
        replace y3 := (hBq.cell (World.block_lt_of_cell? w0 _ y3)).trans y3
        rw [List.drop_eq_getElem_cons hlt] at hm
        have hz : SizeOf.sizeOf xs[k] < n := by rw [← hn]; exact sz_mem (t := ⟨4, nm, nt, xs⟩) (List.getElem_mem hlt)
        generalize xs[k] = a at y0 y1 y2 y3 l3 g3 hm hz
        have hi := ih _ hz a rfl (deep + 1) q w0 (wr.alloc (.cells #[.int .i64 a.f0, .string a.f1, .int .i64 a.f2, .slice A3 a.f3.length c3] 28)) b c3 A3 g3 l3 (below_alloc hBq _) hb (hcq.alloc _) hq1 hq2 (by omega) (by omega)
        have hmb := meas_b a (deep + 1) q hq2 (by omega)
        rw [measL_cons] at hm
        generalize hr : meas a (deep + 1) q = r at hi hm hmb
        obtain ⟨r1, r2, r3⟩ := r
        simp only at hi hm
        clear ih
        go_wp2_with fail
        refine hi.mono ?_
        rintro e w5 ⟨rfl, f5, c5⟩
        have f6 := (hfq.alloc (.cells #[.int .i64 a.f0, .string a.f1, .int .i64 a.f2, .slice A3 a.f3.length c3] 28)).trans f5
        have hr3 := hmb.lo
        have hr1 := hmb.d
        have hr4 := hmb.ok
        simp only at hr3 hr1 hr4
        clear hi f5 hmb
        cases r2 with
        | true =>
          have hr5 := hr4 rfl
          simp only [if_true] at hm
          clear hr4
          go_wp2
          go_roundw
          case rel => exact ⟨k + 1, max d r1, r3, by omega, by congr 1; split <;> omega, by go_num, hm, by omega, by omega, by omega, by omega, c5, f6⟩
          case measure => simp [intOf]; omega
        | false =>
          simp only [Bool.false_eq_true, if_false] at hm
          clear hr4
          go_wp2
          all_goals
            go_ret2
            exact ⟨rfl, hf2.trans f6, c5⟩
      · obtain rfl : k = xs.length := by omega
        rw [List.drop_of_length_le (Nat.le_refl _)] at hm
        rw [measL_nil] at hm
        have hw1 : IntKind.i64.wrap (d + 1) = d + 1 := by rw [IntKind.wrap_i64]; omega
        have z3 : wr.cell? ⟨w.heap.size, 1, none⟩ = some (.string nm) := (World.cell?_of_block (hfq.block _ z2 hbw)).trans z1
        replace hfq := hf2.trans hfq
        go_wp2
        go_quiet (fail)
        go_wp2
        all_goals
          go_ret2
          exact ⟨rfl, ⟨hfq.os, hfq.tape, hfq.output, hfq.size, hfq.block⟩, hcq⟩
  simp only [if_neg k4]
  have k4' : (kd == 4) = false := by simpa using k4
  by_cases k3 : kd = 3
  · subst k3
    simp only [if_true]
    clear ih
    go_enter Try.func42, Try.ntmps42
    go_wp2
    go_quiet (fail)
    go_wp2
    go_ret2
    exact ⟨rfl, ⟨hf2.os, hf2.tape, hf2.output, hf2.size, hf2.block⟩, hs2⟩
  simp only [if_neg k3]
  have k3' : (kd == 3) = false := by simpa using k3
  clear ih
  go_enter Try.func42, Try.ntmps42
  go_wp2
  go_ret2
  exact ⟨rfl, hf2, hs2⟩


/-! From TmB. -/
/-- Is a term right? -/
def okT (t : S28) : Bool := (meas t 1 0).2.1
/-- Its size; 0: it isn't right. -/
def sizeT (t : S28) : Int := if okT t = true then (meas t 1 0).2.2 else 0
theorem C_rd {w : World} {A : Option Addr} {n : Nat} {xs : List S28} (h : Kd.C k28 w A n xs) (k : Nat) (hk : k < xs.length) (hn : n = xs.length) :
    ∃ ad A3 c3, A = some ad ∧ w.cell? (ad.add (k * 4)) = some (.int .i64 xs[k].f0) ∧ w.cell? ⟨(ad.add (k * 4)).block, (ad.add (k * 4)).off + 1, none⟩ = some (.string xs[k].f1) ∧
      w.cell? ⟨(ad.add (k * 4)).block, (ad.add (k * 4)).off + 2, none⟩ = some (.int .i64 xs[k].f2) ∧ w.cell? ⟨(ad.add (k * 4)).block, (ad.add (k * 4)).off + 3, none⟩ = some (.slice A3 xs[k].f3.length c3) ∧
      xs[k].f3.length ≤ c3 ∧ Kd.C k28 w A3 xs[k].f3.length xs[k].f3 := by
  obtain ⟨ad, A3, c3, e, y0, y1, y2, y3, l3, g3⟩ := at_T28 h (k : Int) (by omega) (by omega)
  have hrd : rd_T28 xs (k : Int) = xs[k] := by simp [rd_T28, List.getD_eq_getElem?_getD, List.getElem?_eq_getElem hk]
  simp only [Int.toNat_natCast, hrd] at y0 y1 y2 y3 l3 g3
  exact ⟨ad, A3, c3, e, y0, y1, y2, y3, l3, g3⟩

theorem C_one {W : World} {g c : Nat} {A : Option Addr} {t : S28} (hb : W.heap[g]? = some (.cells #[.int .i64 t.f0, .string t.f1, .int .i64 t.f2, .slice A t.f3.length c] 28 (0, 0))) (hc : t.f3.length ≤ c) (hC : Kd.C k28 W A t.f3.length t.f3) :
    Kd.C k28 W (some ⟨g, 0, none⟩) 1 [t] := by
  refine ⟨rfl, by decide, fun _ => ⟨_, rfl, fun j p hj => ?_⟩⟩
  cases j with
  | zero =>
    obtain rfl : t = p := by simpa using hj
    refine ⟨_, rfl, k28_mk W t hc hC, fun i u hu => ?_⟩
    have hs : k28.sz = 4 := rfl
    rw [hs]
    have := blk_cell hb i
    rw [show (⟨g, 0, none⟩ : Addr).add (0 * 4 + i) = ⟨g, i, none⟩ by simp [Addr.add] <;> omega, this]
    simpa using hu
  | succ j => simp at hj

set_option maxHeartbeats 4000000 in
set_option maxRecDepth 100000 in
theorem right_any (ts : List S28) (w : World) (A : Option Addr) (c : Nat) (hC : Kd.C k28 w A ts.length ts) (hn : ts.length < 1000000) :
    Calls Try.prog 41 #[.slice A ts.length c] w fun e w' => e = .returned (.bool (ts.all okT)) ∧ Below w.heap.size w w' := by
  go_enter Try.func41, Try.ntmps41
  go_wp2
  go_loopw [10] (fun i wr => ∃ k : Nat, k ≤ ts.length ∧ i = .int .i64 k ∧ ts.all okT = (ts.drop k).all okT ∧ Below w.heap.size w wr)
    (fun i _ => ts.length - (intOf i).toNat)
  case atStart => exact ⟨0, Nat.zero_le _, rfl, rfl, Below.refl _ _⟩
  case round =>
    obtain ⟨k, hk, rfl, ha, hb⟩ := hrel
    by_cases hlt : k < ts.length
    · obtain ⟨ad, A3, c3, rfl, y0, y1, y2, y3, l3, g3⟩ := C_rd hC k hlt rfl
      replace y0 := (hb.cell (World.block_lt_of_cell? w _ y0)).trans y0
      replace y1 := (hb.cell (World.block_lt_of_cell? w _ y1)).trans y1
      replace y2 := (hb.cell (World.block_lt_of_cell? w _ y2)).trans y2
      replace y3 := (hb.cell (World.block_lt_of_cell? w _ y3)).trans y3
      rw [List.drop_eq_getElem_cons hlt, List.all_cons] at ha
      generalize ts[k] = t at y0 y1 y2 y3 l3 g3 ha
      have hb1 := below_alloc hb (.cells #[.int .i64 t.f0, .string t.f1, .int .i64 t.f2, .slice A3 t.f3.length c3] 28)
      have hb2 := below_alloc hb1 (.cells #[.int .i64 0] 3)
      have hm := measure_any _ t rfl 1 0 w _ (wr.heap.size + 1) c3 A3 g3 l3 hb2 (by have := hb.size; omega) (by have := blk_new (wr.alloc (.cells #[.int .i64 t.f0, .string t.f1, .int .i64 t.f2, .slice A3 t.f3.length c3] 28)) (.cells #[.int .i64 0] 3); simpa [CntAt] using this) (by omega) (by omega) (by omega) (by omega)
      change Calls _ _ _ _ (fun e w' => e = .returned (.tuple #[.int .i64 (meas t 1 0).1, .bool (okT t)]) ∧ _) at hm
      have hss := hb.size
      generalize hr : okT t = r at hm ha
      clear hb1
      go_wp2_with fail
      refine hm.mono ?_
      rintro e w5 ⟨rfl, f5, c5⟩
      have hb5 := f5.below hb2 (by omega)
      clear hm f5 c5 hb2
      cases r with
      | true =>
        rw [Bool.true_and] at ha
        go_wp2
        go_roundw
        case rel => exact ⟨k + 1, by omega, by go_num, ha, hb5⟩
        case measure => simp [intOf]; omega
      | false =>
        rw [Bool.false_and] at ha
        go_wp2
        go_ret
        exact ⟨by rw [ha]; rfl, hb5⟩
    · obtain rfl : k = ts.length := by omega
      rw [List.drop_of_length_le (Nat.le_refl _), List.all_nil] at ha
      go_wp2
      go_ret
      exact ⟨by rw [ha]; rfl, hb⟩

/-- right of one term: the call as the code makes it, a slice of one behind the term's box. -/
theorem right_one (t : S28) (w : World) (A : Option Addr) (c : Nat) (hC : Kd.C k28 w A t.f3.length t.f3) (hc : t.f3.length ≤ c) :
    Calls Try.prog 41 #[.slice (some ⟨w.heap.size + 1, 0, none⟩) 1 1] ((w.alloc (.cells #[.int .i64 t.f0, .string t.f1, .int .i64 t.f2, .slice A t.f3.length c] 28)).alloc (.cells #[.int .i64 t.f0, .string t.f1, .int .i64 t.f2, .slice A t.f3.length c] 28)) fun e w' => e = .returned (.bool (okT t)) ∧ Below w.heap.size w w' := by
  have hb := blk_new (w.alloc (.cells #[.int .i64 t.f0, .string t.f1, .int .i64 t.f2, .slice A t.f3.length c] 28)) (.cells #[.int .i64 t.f0, .string t.f1, .int .i64 t.f2, .slice A t.f3.length c] 28)
  rw [show (w.alloc (.cells #[.int .i64 t.f0, .string t.f1, .int .i64 t.f2, .slice A t.f3.length c] 28)).heap.size = w.heap.size + 1 by simp] at hb
  have h := right_any [t] ((w.alloc (.cells #[.int .i64 t.f0, .string t.f1, .int .i64 t.f2, .slice A t.f3.length c] 28)).alloc (.cells #[.int .i64 t.f0, .string t.f1, .int .i64 t.f2, .slice A t.f3.length c] 28)) (some ⟨w.heap.size + 1, 0, none⟩) 1 (C_one hb hc (Kd.C_alloc (Kd.C_alloc hC _) _)) (by simp)
  refine h.mono fun e w' ⟨he, hw⟩ => ⟨by rw [he]; simp, below_then (below_alloc (below_alloc (Below.refl _ _) _) _) (by simp; omega) hw⟩

set_option maxHeartbeats 4000000 in
set_option maxRecDepth 100000 in
theorem check_any (t : S28) (w : World) (A : Option Addr) (c : Nat) (hC : Kd.C k28 w A t.f3.length t.f3) (hc : t.f3.length ≤ c) :
    Calls Try.prog 19 #[.agg #[.int .i64 t.f0, .string t.f1, .int .i64 t.f2, .slice A t.f3.length c]] w fun e w' => e = .returned (.int .i64 (if okT t = true then 0 else 70)) ∧ Below w.heap.size w w' := by
  have hr := right_one t w A c hC hc
  generalize okT t = r at hr ⊢
  go_enter Try.func19, Try.ntmps19
  go_wp2_with fail
  refine hr.mono ?_
  rintro e w1 ⟨rfl, hb⟩
  cases r with
  | true =>
    go_wp2
    go_ret
    exact ⟨rfl, hb⟩
  | false =>
    go_wp2
    go_ret
    exact ⟨rfl, hb⟩

/-- measure as its callers call it: behind the term's box, with a count of one's own. -/
theorem measure_one (t : S28) (w : World) (A : Option Addr) (c : Nat) (hC : Kd.C k28 w A t.f3.length t.f3) (hc : t.f3.length ≤ c) :
    Calls Try.prog 42 #[.agg #[.int .i64 t.f0, .string t.f1, .int .i64 t.f2, .slice A t.f3.length c], .int .i64 1, .pointer (some ⟨w.heap.size + 1, 0, none⟩)] ((w.alloc (.cells #[.int .i64 t.f0, .string t.f1, .int .i64 t.f2, .slice A t.f3.length c] 28)).alloc (.cells #[.int .i64 0] 3)) fun e w' =>
      e = .returned (.tuple #[.int .i64 (meas t 1 0).1, .bool (okT t)]) ∧ Below w.heap.size w w' ∧ CntAt w' (w.heap.size + 1) (meas t 1 0).2.2 := by
  have hb := below_alloc (below_alloc (Below.refl w.heap.size w) (.cells #[.int .i64 t.f0, .string t.f1, .int .i64 t.f2, .slice A t.f3.length c] 28)) (.cells #[.int .i64 0] 3)
  have hm := measure_any _ t rfl 1 0 w _ (w.heap.size + 1) c A hC hc hb (by omega) (by have := blk_new (w.alloc (.cells #[.int .i64 t.f0, .string t.f1, .int .i64 t.f2, .slice A t.f3.length c] 28)) (.cells #[.int .i64 0] 3); simpa [CntAt] using this) (by omega) (by omega) (by omega) (by omega)
  exact hm.mono fun e w' ⟨he, hf, hc⟩ => ⟨he, hf.below hb (by omega), hc⟩

set_option maxHeartbeats 4000000 in
set_option maxRecDepth 100000 in
theorem size_any (t : S28) (w : World) (A : Option Addr) (c : Nat) (hC : Kd.C k28 w A t.f3.length t.f3) (hc : t.f3.length ≤ c) :
    Calls Try.prog 20 #[.agg #[.int .i64 t.f0, .string t.f1, .int .i64 t.f2, .slice A t.f3.length c]] w fun e w' => e = .returned (.int .i64 (sizeT t)) ∧ Below w.heap.size w w' := by
  have hr := measure_one t w A c hC hc
  unfold sizeT
  generalize okT t = r at hr ⊢
  generalize meas t 1 0 = q at hr ⊢
  go_enter Try.func20, Try.ntmps20
  go_wp2_with fail
  refine hr.mono ?_
  rintro e w1 ⟨rfl, hb, hcn⟩
  have x0 := blk_cell hcn 0
  cases r with
  | true =>
    go_wp2
    go_ret
    exact ⟨rfl, hb⟩
  | false =>
    go_wp2
    go_ret
    exact ⟨rfl, hb⟩


/-! From TmC. -/
mutual
/-- A term's variables behind some. -/
def varsT : S28 → List Int → List Int
  | ⟨kd, nm, nt, xs⟩, out => if kd = 1 then (if nt ∈ out then out else out ++ [nt]) else if kd = 4 then varsL xs out else out
def varsL : List S28 → List Int → List Int
  | [], out => out
  | a :: r, out => varsL r (varsT a out)
end
theorem varsL_nil (out : List Int) : varsL [] out = out := by rw [varsL]
theorem varsL_cons (a : S28) (r : List S28) (out : List Int) : varsL (a :: r) out = varsL r (varsT a out) := by rw [varsL]

mutual
/-- How many symbols a term has. -/
def nodes : S28 → Nat
  | ⟨kd, nm, nt, xs⟩ => 1 + (if kd = 4 then nodesL xs else 0)
def nodesL : List S28 → Nat
  | [] => 0
  | a :: r => nodes a + nodesL r
end
theorem nodesL_nil : nodesL [] = 0 := by rw [nodesL]
theorem nodesL_cons (a : S28) (r : List S28) : nodesL (a :: r) = nodes a + nodesL r := by rw [nodesL]

mutual
theorem meas_nodes : ∀ (t : S28) (deep s : Int), (meas t deep s).2.1 = true → (meas t deep s).2.2 = s + nodes t
  | ⟨kd, nm, nt, xs⟩, deep, s => by
    unfold meas nodes
    by_cases h1 : s + 1 > 2000 ∨ deep > 100
    · rw [if_pos h1]; simp
    rw [if_neg h1]
    by_cases h2 : kd = 1
    · rw [if_pos h2, if_neg (by omega)]; intro _; rfl
    rw [if_neg h2]
    by_cases h3 : kd = 2
    · rw [if_pos h3, if_neg (by omega)]; intro _; rfl
    rw [if_neg h3]
    by_cases h4 : kd = 4
    · rw [if_pos h4, if_pos h4]
      by_cases h5 : xs.length < 1 ∨ xs.length > 8
      · rw [if_pos h5]; simp
      rw [if_neg h5]
      by_cases h6 : (measL xs (deep + 1) 0 (s + 1)).2.1 = true
      · simp only [h6, if_true]
        intro _
        have := measL_nodes xs (deep + 1) 0 (s + 1) h6
        omega
      · simp only [h6]; simp
    rw [if_neg h4, if_neg h4]
    by_cases h5 : kd = 3
    · rw [if_pos h5]; intro _; rfl
    rw [if_neg h5]; simp
theorem measL_nodes : ∀ (xs : List S28) (deep d s : Int), (measL xs deep d s).2.1 = true → (measL xs deep d s).2.2 = s + nodesL xs
  | [], deep, d, s => by rw [measL_nil, nodesL_nil]; intro _; simp
  | a :: r, deep, d, s => by
    rw [measL_cons, nodesL_cons]
    by_cases h6 : (meas a deep s).2.1 = true
    · rw [if_pos h6]
      intro h
      have h1 := meas_nodes a deep s h6
      have h2 := measL_nodes r deep _ _ h
      omega
    · rw [if_neg h6]; simp
end
mutual
theorem varsT_len : ∀ (t : S28) (out : List Int), (varsT t out).length ≤ out.length + nodes t
  | ⟨kd, nm, nt, xs⟩, out => by
    unfold varsT nodes
    by_cases h1 : kd = 1
    · rw [if_pos h1]; split <;> simp
    rw [if_neg h1]
    by_cases h4 : kd = 4
    · rw [if_pos h4, if_pos h4]
      have := varsL_len xs out
      omega
    · rw [if_neg h4, if_neg h4]; omega
theorem varsL_len : ∀ (xs : List S28) (out : List Int), (varsL xs out).length ≤ out.length + nodesL xs
  | [], out => by rw [varsL_nil, nodesL_nil]; omega
  | a :: r, out => by
    rw [varsL_cons, nodesL_cons]
    have h1 := varsT_len a out
    have h2 := varsL_len r (varsT a out)
    omega
end
theorem index_l0 (xs : List Int) (m : Int) (hl : xs.length < 1000000) : ∀ (d k i : Nat), i + d = xs.length → d < k →
    ∃ r, slices_Index_int64_int64.l0 k xs m (xs.length : Int) (i : Int) = some r ∧ (r ≥ 0 ↔ m ∈ xs.drop i) := by
  intro d
  induction d with
  | zero =>
    intro k i hi hk
    obtain ⟨k, rfl⟩ : ∃ q, k = q + 1 := ⟨k - 1, by omega⟩
    simp only [slices_Index_int64_int64.l0]
    rw [if_neg (by omega), List.drop_of_length_le (by omega)]
    exact ⟨_, rfl, by simp⟩
  | succ d ih =>
    intro k i hi hk
    obtain ⟨k, rfl⟩ : ∃ q, k = q + 1 := ⟨k - 1, by omega⟩
    have hw : wrap64 ((i : Int) + 1) = ((i + 1 : Nat) : Int) := by unfold wrap64; omega
    have hr : rd xs (i : Int) = xs[i]'(by omega) := by simp [rd, List.getElem?_eq_getElem (show i < xs.length by omega)]
    simp only [slices_Index_int64_int64.l0]
    rw [if_pos (by omega), if_pos (by omega), if_pos (by omega), hr, hw, List.drop_eq_getElem_cons (show i < xs.length by omega)]
    by_cases he : m = xs[i]'(by omega)
    · rw [if_pos he]
      exact ⟨_, rfl, by rw [List.mem_cons]; exact ⟨fun _ => .inl he, fun _ => by omega⟩⟩
    · rw [if_neg he]
      obtain ⟨r, h1, h2⟩ := ih k (i + 1) (by omega) (by omega)
      exact ⟨r, h1, by rw [h2, List.mem_cons]; exact ⟨.inr, fun h => h.resolve_left he⟩⟩

theorem contains_pure (xs : List Int) (m : Int) (hl : xs.length < 1000000) : slices_Contains_int64_int64.f (xs.length + 1) xs m = some (decide (m ∈ xs)) := by
  obtain ⟨r, h1, h2⟩ := index_l0 xs m hl xs.length (xs.length + 1) 0 (by omega) (by omega)
  unfold slices_Contains_int64_int64.f slices_Index_int64_int64.f
  rw [show ((0 : Nat) : Int) = 0 from rfl] at h1
  rw [h1, Option.bind_some]
  rw [List.drop_zero] at h2
  congr 1
  exact decide_eq_decide.2 h2

theorem below_grown {B : Nat} {w wr w' : World} (h : Below B w wr) {row : Option Nat} (hg : wr.grownBy w' row) (hr : ∀ k, row = some k → B ≤ k) (hB : B ≤ w.heap.size) : Below B w w' :=
  ⟨hg.os.trans h.os, hg.tape.trans h.tape, hg.output.trans h.output, Nat.le_trans h.size hg.size,
   fun k hk => (hg.block k (by have := h.size; omega) (fun e => by have := hr k e.symm; omega)).trans (h.block k hk)⟩

/-- A row of numbers of one's own. -/
def OutAt (w : World) (base : Nat) (v : Value) (xs : List Int) : Prop := w.ownsRow base 2 1 v xs.length (xs.map (Value.int .i64))

theorem OutAt.reads {w : World} {base : Nat} {v : Value} {xs : List Int} (h : OutAt w base v xs) : ∃ A c, v = .slice A xs.length c ∧ xs.length ≤ c ∧ Kd.C (Kd.int .i64) w A xs.length xs :=
  Kd.R_reads (Kd.R_of_own (ok := fun _ => True) h (fun _ _ => trivial))
theorem OutAt.none (w : World) (base : Nat) : OutAt w base (.slice none 0 0) [] := World.ownsRow_nil _ _ _ _

set_option maxHeartbeats 4000000 in
set_option maxRecDepth 100000 in
theorem vars_any : ∀ (n : Nat) (t : S28), SizeOf.sizeOf t = n → ∀ (w0 w : World) (c : Nat) (A : Option Addr) (v : Value) (out : List Int), Kd.C k28 w0 A t.f3.length t.f3 → t.f3.length ≤ c → Below w0.heap.size w0 w → OutAt w w0.heap.size v out → out.length + nodes t < 100000 →
    Calls Try.prog 50 #[.agg #[.int .i64 t.f0, .string t.f1, .int .i64 t.f2, .slice A t.f3.length c], v] w fun e w' => ∃ v', e = .returned v' ∧ OutAt w' w0.heap.size v' (varsT t out) ∧ Below w0.heap.size w0 w' := by
  intro n
  induction n using Nat.strongRecOn with
  | _ n ih =>
  intro t hn w0 w c A v out hC hc hB ho hl
  obtain ⟨i0, hi, hz0, hz1, hz2⟩ := info_parts info2
  obtain ⟨kd, nm, nt, xs⟩ := t
  simp only at hC hc ⊢
  have hsz := hB.size
  have hBa := below_alloc hB (.cells #[.int .i64 kd, .string nm, .int .i64 nt, .slice A xs.length c] 28)
  have hoa : OutAt (w.alloc (.cells #[.int .i64 kd, .string nm, .int .i64 nt, .slice A xs.length c] 28)) w0.heap.size v out := ho.alloc _
  have ccon := fun (W : World) (A1 : Option Addr) (c1 : Nat) (hC1 : Kd.C (Kd.int .i64) W A1 out.length out) (hc1 : out.length ≤ c1) => slices_Contains_int64_int64.calls (out.length + 1) A1 c1 out nt _ W hC1 hc1 (contains_pure out nt (by omega))
  unfold varsT
  by_cases k1 : kd = 1
  · subst k1
    simp only [if_true]
    obtain ⟨A1, c1, rfl, hc1, C1⟩ := hoa.reads
    have hcall := ccon _ A1 c1 C1 hc1
    clear ih ccon
    by_cases hm : nt ∈ out
    · rw [decide_eq_true hm] at hcall
      rw [if_pos hm]
      go_enter Try.func50, Try.ntmps50
      go_wp2_with fail
      refine hcall.mono ?_
      rintro e w1 ⟨rfl, nd, rfl⟩
      go_wp2
      go_ret
      exact ⟨_, rfl, hoa, ⟨hBa.os, hBa.tape, hBa.output, hBa.size, hBa.block⟩⟩
    · rw [decide_eq_false hm] at hcall
      rw [if_neg hm]
      have hlt : out.length < 100000 := by omega
      have hba := hBa.size
      go_enter Try.func50, Try.ntmps50
      go_wp2_with fail
      refine hcall.mono ?_
      rintro e w1 ⟨rfl, nd, rfl⟩
      have hoW : OutAt ((w.alloc (.cells #[.int .i64 1, .string nm, .int .i64 nt, .slice A xs.length c] 28)).drewN nd) w0.heap.size (.slice A1 out.length c1) out := hoa
      have hBW : Below w0.heap.size w0 ((w.alloc (.cells #[.int .i64 1, .string nm, .int .i64 nt, .slice A xs.length c] 28)).drewN nd) := ⟨hBa.os, hBa.tape, hBa.output, hBa.size, hBa.block⟩
      have x2 : ((w.alloc (.cells #[.int .i64 1, .string nm, .int .i64 nt, .slice A xs.length c] 28)).drewN nd).cell? ⟨w.heap.size, 2, none⟩ = some (.int .i64 nt) := by simp
      have hsW := hBW.size
      generalize (w.alloc (.cells #[.int .i64 1, .string nm, .int .i64 nt, .slice A xs.length c] 28)).drewN nd = W at hoW hBW x2 hsW ⊢
      clear hoa hBa hba C1 ho
      go_wp2_with (first
        | (at_builtin; refine wpList_append_own_at _ rfl _ _ 43 rfl w0.heap.size 2 i0 (.int .i64 0) 1 8 Try.underlying43 hi hz0 hz1 hz2 rfl (by decide) (.slice A1 out.length c1) _ _ rfl (hoW.alloc _) ⟨W.heap.size, 0, none⟩ 1 1 [.int .i64 nt] rfl rfl (cell_one_new _ _ _) (ints_oneCell .i64 [nt]) (by unfold maxLen; omega) (by omega) (by simp; omega) ?_
           intro v' w6 hown6 hgrow6 _ _))
      go_ret
      exact ⟨_, rfl, by unfold OutAt; simpa using hown6, below_grown (below_alloc hBW _) hgrow6 (fun k hk => (World.ownsRow.lt hoW k hk).1) (Nat.le_refl _)⟩
  simp only [if_neg k1]
  have k1' : (kd == 1) = false := by simpa using k1
  by_cases k4 : kd = 4
  · subst k4
    simp only [if_true]
    clear ccon
    have hn4 : nodes ⟨4, nm, nt, xs⟩ = 1 + nodesL xs := by rw [nodes, if_pos rfl]
    rw [hn4] at hl
    have hz : ∀ a ∈ xs, SizeOf.sizeOf a < n := fun a ha => by rw [← hn]; exact sz_mem (t := ⟨4, nm, nt, xs⟩) ha
    clear hn hn4
    go_enter Try.func50, Try.ntmps50
    have hmx := hC.2.1
    go_wp2
    go_loopw [1, 28] (fun v i wr => ∃ (k : Nat) (o : List Int), k ≤ xs.length ∧ i = .int .i64 k ∧ varsL xs out = varsL (xs.drop k) o ∧ OutAt wr w0.heap.size v o ∧ o.length + nodesL (xs.drop k) < 100000 ∧ Below w0.heap.size w0 wr)
      (fun _ i _ => xs.length - (intOf i).toNat)
    case atStart => exact ⟨0, out, Nat.zero_le _, rfl, rfl, hoa, by rw [List.drop_zero]; omega, hBa⟩
    case round =>
      obtain ⟨k, o, hk, rfl, hv, how, hnl, hbr⟩ := hrel
      by_cases hlt : k < xs.length
      · obtain ⟨ad, A3, c3, rfl, y0, y1, y2, y3, l3, g3⟩ := C_rd hC k hlt rfl
        replace y0 := (hbr.cell (World.block_lt_of_cell? w0 _ y0)).trans y0
        replace y1 := (hbr.cell (World.block_lt_of_cell? w0 _ y1)).trans y1
        replace y2 := (hbr.cell (World.block_lt_of_cell? w0 _ y2)).trans y2
        replace y3 := (hbr.cell (World.block_lt_of_cell? w0 _ y3)).trans y3
        rw [List.drop_eq_getElem_cons hlt, varsL_cons] at hv
        rw [List.drop_eq_getElem_cons hlt, nodesL_cons] at hnl
        have hza := hz _ (List.getElem_mem hlt)
        generalize xs[k] = a at y0 y1 y2 y3 l3 g3 hv hnl hza
        have hcall := ih _ hza a rfl w0 (wr.alloc (.cells #[.int .i64 a.f0, .string a.f1, .int .i64 a.f2, .slice A3 a.f3.length c3] 28)) c3 A3 _ o g3 l3 (below_alloc hbr _) (how.alloc _) (by omega)
        have hvl := varsT_len a o
        clear ih
        go_wp2_with fail
        refine hcall.mono ?_
        rintro e w5 ⟨v5, rfl, ho5, hb5⟩
        clear hcall
        go_wp2
        go_roundw
        case rel => exact ⟨k + 1, _, by omega, by go_num, hv, ho5, by omega, hb5⟩
        case measure => simp [intOf]; omega
      · obtain rfl : k = xs.length := by omega
        rw [List.drop_of_length_le (Nat.le_refl _), varsL_nil] at hv
        go_wp2
        go_ret
        exact ⟨u1, rfl, by rw [hv]; exact how, hbr⟩
  · simp only [if_neg k4]
    have k4' : (kd == 4) = false := by simpa using k4
    clear ih ccon
    go_enter Try.func50, Try.ntmps50
    go_wp2
    go_ret
    exact ⟨_, rfl, hoa, hBa⟩


/-! From TmM. -/
theorem I64.wf {x : Int} (h : I64 x) : (Lit.int .i64 x).wf = true := by
  unfold I64 at h
  exact WalkArith.wf_i64 h


/-! From TmG. -/
mutual
/-- All ints of a term fit a machine word. -/
def wfT : S28 → Prop
  | ⟨kd, nm, nt, xs⟩ => I64 nt ∧ wfL xs
def wfL : List S28 → Prop
  | [] => True
  | a :: r => wfT a ∧ wfL r
end
theorem wfL_nil : wfL [] = True := by rw [wfL]
theorem wfL_cons (a : S28) (r : List S28) : wfL (a :: r) = (wfT a ∧ wfL r) := by rw [wfL]
/-- A term with what its kind names, but for its arguments. -/
def bareT (t : S28) : S28 := if t.f0 = 1 ∨ t.f0 = 2 then ⟨t.f0, ⟨#[]⟩, t.f2, []⟩ else ⟨t.f0, t.f1, 0, []⟩

mutual
/-- A copy of a term: the copy, whether it is within the bounds, and the count behind it. -/
def cpT : S28 → Int → Int → S28 × Bool × Int
  | ⟨kd, nm, nt, xs⟩, deep, s =>
    if s + 1 > 2000 ∨ deep > 100 then (z28, false, s + 1)
    else if kd ≠ 4 then (bareT ⟨kd, nm, nt, xs⟩, true, s + 1)
    else
      let r := cpL xs (deep + 1) [] (s + 1)
      if r.2.1 = true then (⟨4, nm, 0, r.1⟩, true, r.2.2) else (z28, false, r.2.2)
def cpL : List S28 → Int → List S28 → Int → List S28 × Bool × Int
  | [], deep, acc, s => (acc, true, s)
  | a :: r, deep, acc, s =>
    let q := cpT a deep s
    if q.2.1 = true then cpL r deep (acc ++ [q.1]) q.2.2 else ([], false, q.2.2)
end
theorem cpL_nil (deep : Int) (acc : List S28) (s : Int) : cpL [] deep acc s = (acc, true, s) := by rw [cpL]
theorem cpL_cons (a : S28) (r : List S28) (deep : Int) (acc : List S28) (s : Int) : cpL (a :: r) deep acc s = if (cpT a deep s).2.1 = true then cpL r deep (acc ++ [(cpT a deep s).1]) (cpT a deep s).2.2 else ([], false, (cpT a deep s).2.2) := by rw [cpL]


/-! From TmH. -/
theorem res_box {W : World} {g : Nat} {z0 z1 z2 z3 : Value} (h : W.heap[g]? = some (.cells #[z0, z1, z2, z3] 28 (0, 0))) (x0 x1 x2 x3 : Value) :
    ((((W.setCell ⟨g, 0, none⟩ x0).setCell ⟨g, 1, none⟩ x1).setCell ⟨g, 2, none⟩ x2).setCell ⟨g, 3, none⟩ x3).heap[g]? = some (.cells #[x0, x1, x2, x3] 28 (0, 0)) :=
  blk_set (blk_set (blk_set (blk_set h 0 x0) 1 x1) 2 x2) 3 x3
theorem R_set4 {W : World} {base g : Nat} {ok : Nat → Prop} {v : Value} {xs : List S28} (h : Kd.R k28 28 W base ok v xs) (hg : ∀ k, ok k → k ≠ g) (x0 x1 x2 x3 : Value) :
    Kd.R k28 28 ((((W.setCell ⟨g, 0, none⟩ x0).setCell ⟨g, 1, none⟩ x1).setCell ⟨g, 2, none⟩ x2).setCell ⟨g, 3, none⟩ x3) base ok v xs :=
  Kd.R_step h fun k hk _ => (Below.heap_setCell _ _ _ k (hg k hk)).trans ((Below.heap_setCell _ _ _ k (hg k hk)).trans ((Below.heap_setCell _ _ _ k (hg k hk)).trans (Below.heap_setCell _ _ _ k (hg k hk))))

theorem Fg.far {b : Nat} {w w' : World} (h : Fg b w w') {p : Addr} (hp : w.heap.size ≤ p.block) (u : Value) : Fg b w (w'.setCell p u) :=
  ⟨h.os, h.tape, h.output, by simpa [World.setCell] using h.size, fun k hk hne => (Below.heap_setCell w' p u k (by omega)).trans (h.block k hk hne)⟩
theorem CntAt.far {w : World} {b : Nat} {s : Int} (h : CntAt w b s) {p : Addr} (hp : b ≠ p.block) (u : Value) : CntAt (w.setCell p u) b s := blk_far h hp u

mutual
theorem cpT_b : ∀ (t : S28) (deep s : Int), s + 1 ≤ (cpT t deep s).2.2 ∧ ((cpT t deep s).2.1 = true → (cpT t deep s).2.2 ≤ 2000)
  | ⟨kd, nm, nt, xs⟩, deep, s => by
    unfold cpT
    by_cases h1 : s + 1 > 2000 ∨ deep > 100
    · simp only [if_pos h1]; exact ⟨Int.le_refl _, by simp⟩
    simp only [if_neg h1]
    by_cases h2 : kd ≠ 4
    · simp only [if_pos h2]; exact ⟨Int.le_refl _, fun _ => by omega⟩
    simp only [if_neg h2]
    have hb := cpL_b xs (deep + 1) [] (s + 1)
    by_cases h3 : (cpL xs (deep + 1) [] (s + 1)).2.1 = true
    · simp only [h3, if_true]; exact ⟨hb.1, fun _ => hb.2 (by omega) h3⟩
    · simp only [h3]; exact ⟨hb.1, by simp⟩
theorem cpL_b : ∀ (xs : List S28) (deep : Int) (acc : List S28) (s : Int), s ≤ (cpL xs deep acc s).2.2 ∧ (s ≤ 2000 → (cpL xs deep acc s).2.1 = true → (cpL xs deep acc s).2.2 ≤ 2000)
  | [], deep, acc, s => by rw [cpL_nil]; exact ⟨Int.le_refl _, fun h _ => h⟩
  | a :: r, deep, acc, s => by
    rw [cpL_cons]
    have ha := cpT_b a deep s
    by_cases h3 : (cpT a deep s).2.1 = true
    · simp only [h3, if_true]
      have hr := cpL_b r deep (acc ++ [(cpT a deep s).1]) (cpT a deep s).2.2
      exact ⟨by have := hr.1; have := ha.1; omega, fun _ hk => hr.2 (ha.2 h3) hk⟩
    · simp only [h3]; exact ⟨by have := ha.1; simp; omega, by simp⟩
end

/-! From TmP. -/
/-- A term that lies in w0, as a value. -/
structure Lies (w0 : World) (t : S28) (A : Option Addr) (c : Nat) : Prop where
  C : Kd.C k28 w0 A t.f3.length t.f3
  le : t.f3.length ≤ c
  wf : wfT t


/-! From TmPa. -/
mutual
/-- A term's depth. -/
def dpt : S28 → Int
  | ⟨kd, nm, nt, xs⟩ => if kd = 4 then dptL xs + 1 else 1
def dptL : List S28 → Int
  | [] => 0
  | a :: r => max (dpt a) (dptL r)
end
theorem dptL_nil : dptL [] = 0 := by rw [dptL]
theorem dptL_cons (a : S28) (r : List S28) : dptL (a :: r) = max (dpt a) (dptL r) := by rw [dptL]
mutual
theorem dpt_pos : ∀ t : S28, 1 ≤ dpt t
  | ⟨kd, nm, nt, xs⟩ => by
    rw [dpt]
    split
    · have := dptL_pos xs; omega
    · omega
theorem dptL_pos : ∀ xs : List S28, 0 ≤ dptL xs
  | [] => by rw [dptL_nil]; omega
  | a :: r => by rw [dptL_cons]; have := dpt_pos a; omega
end
mutual
/-- Are a term's kinds, names, numbers and numbers of arguments right? -/
def shT : S28 → Bool
  | ⟨kd, nm, nt, xs⟩ => if kd = 1 then decide (nt ≥ 1) else if kd = 2 then true else if kd = 4 then decide (1 ≤ xs.length ∧ xs.length ≤ 8) && shL xs && decide ((nm.size : Int) ≤ 64) else if kd = 3 then decide ((nm.size : Int) ≤ 64) else false
def shL : List S28 → Bool
  | [] => true
  | a :: r => shT a && shL r
end
theorem shL_nil : shL [] = true := by rw [shL]
theorem shL_cons (a : S28) (r : List S28) : shL (a :: r) = (shT a && shL r) := by rw [shL]

theorem nodes_pos (t : S28) : 1 ≤ nodes t := by cases t; rw [nodes]; omega

mutual
theorem meas_spec : ∀ (t : S28) (deep s : Int), ((meas t deep s).2.1 = true ↔ shT t = true ∧ s + nodes t ≤ 2000 ∧ deep + dpt t ≤ 101) ∧ ((meas t deep s).2.1 = true → (meas t deep s).1 = dpt t)
  | ⟨kd, nm, nt, xs⟩, deep, s => by
    have hn := nodes_pos ⟨kd, nm, nt, xs⟩
    have hd := dpt_pos ⟨kd, nm, nt, xs⟩
    unfold meas
    by_cases h1 : s + 1 > 2000 ∨ deep > 100
    · rw [if_pos h1]
      refine ⟨⟨by simp, fun h => ?_⟩, by simp⟩
      have := h.2.1; have := h.2.2; omega
    rw [if_neg h1]
    unfold shT nodes dpt
    by_cases h2 : kd = 1
    · subst h2; simp; omega
    rw [if_neg h2, if_neg h2]
    by_cases h3 : kd = 2
    · subst h3; simp; omega
    rw [if_neg h3, if_neg h3]
    by_cases h4 : kd = 4
    · subst h4
      simp only [if_true]
      by_cases h5 : xs.length < 1 ∨ xs.length > 8
      · rw [if_pos h5]
        refine ⟨⟨by simp, fun h => ?_⟩, by simp⟩
        have := h.1; simp at this; omega
      rw [if_neg h5]
      have ih := measL_spec xs (deep + 1) 0 (s + 1) (by omega) (by omega) (by omega)
      have hp := dptL_pos xs
      by_cases h6 : (measL xs (deep + 1) 0 (s + 1)).2.1 = true
      · simp only [h6, if_true]
        have h7 := ih.1.1 h6
        have h8 := ih.2 h6
        refine ⟨?_, fun _ => by rw [h8]; omega⟩
        have e1 : decide (1 ≤ xs.length ∧ xs.length ≤ 8) = true := by simp; omega
        rw [e1, h7.1]
        have := h7.2.1; have := h7.2.2
        simp only [Bool.true_and, decide_eq_true_eq]
        push_cast
        constructor
        · intro h; exact ⟨h, by omega, by omega⟩
        · intro h; exact h.1
      · simp only [h6]
        refine ⟨⟨by simp, fun h => ?_⟩, by simp⟩
        exfalso
        apply h6
        rw [ih.1]
        have h9 := h.1
        simp only [Bool.and_eq_true] at h9
        refine ⟨h9.1.2, ?_, ?_⟩
        · have := h.2.1; push_cast at this; omega
        · have := h.2.2; omega
    rw [if_neg h4, if_neg h4]
    by_cases h5 : kd = 3
    · subst h5; simp; omega
    · simp [h5, h4]
theorem measL_spec : ∀ (xs : List S28) (deep d s : Int), s ≤ 2000 → deep ≤ 101 → 0 ≤ d → ((measL xs deep d s).2.1 = true ↔ shL xs = true ∧ s + nodesL xs ≤ 2000 ∧ deep + dptL xs ≤ 101) ∧ ((measL xs deep d s).2.1 = true → (measL xs deep d s).1 = max d (dptL xs))
  | [], deep, d, s, hs, hd, h0 => by
    rw [measL_nil, shL_nil, nodesL_nil, dptL_nil]
    exact ⟨⟨fun _ => ⟨rfl, by simpa using hs, by omega⟩, fun _ => rfl⟩, fun _ => by simp only; omega⟩
  | a :: r, deep, d, s, hs, hd, h0 => by
    have ha := meas_spec a deep s
    rw [measL_cons, shL_cons, nodesL_cons, dptL_cons]
    have hna := nodes_pos a
    have hda := dpt_pos a
    have hpr := dptL_pos r
    by_cases h6 : (meas a deep s).2.1 = true
    · rw [if_pos h6]
      have h7 := ha.1.1 h6
      have h8 := ha.2 h6
      have h9 := meas_nodes a deep s h6
      have ih := measL_spec r deep (max d (meas a deep s).1) (meas a deep s).2.2 (by omega) hd (by omega)
      refine ⟨?_, fun h => by rw [ih.2 h, h8]; omega⟩
      rw [ih.1, h7.1, h9]
      push_cast
      simp only [Bool.true_and]
      constructor
      · rintro ⟨x, y, z⟩; exact ⟨x, by omega, by omega⟩
      · rintro ⟨x, y, z⟩; exact ⟨x, by omega, by omega⟩
    · rw [if_neg h6]
      refine ⟨⟨by simp, fun h => ?_⟩, by simp⟩
      exfalso
      apply h6
      rw [ha.1]
      have h9 := h.1
      simp only [Bool.and_eq_true] at h9
      have := h.2.1; push_cast at this
      exact ⟨h9.1, by omega, by have := h.2.2; omega⟩
end
theorem okT_iff (t : S28) : okT t = true ↔ shT t = true ∧ nodes t ≤ 2000 ∧ dpt t ≤ 100 := by
  unfold okT
  rw [(meas_spec t 1 0).1]
  constructor
  · rintro ⟨a, b, c⟩; exact ⟨a, by omega, by omega⟩
  · rintro ⟨a, b, c⟩; exact ⟨a, by omega, by omega⟩
mutual
/-- A term with what its kinds name alone, and with terms in its variables' places. -/
def subT (f : Int → Option S28) : S28 → S28
  | ⟨kd, nm, nt, xs⟩ => if kd = 1 then (match f nt with | some x => x | none => ⟨1, ⟨#[]⟩, nt, []⟩) else if kd = 4 then ⟨4, nm, 0, subL f xs⟩ else bareT ⟨kd, nm, nt, xs⟩
def subL (f : Int → Option S28) : List S28 → List S28
  | [] => []
  | a :: r => subT f a :: subL f r
end
theorem subL_nil (f : Int → Option S28) : subL f [] = [] := by rw [subL]
theorem subL_cons (f : Int → Option S28) (a : S28) (r : List S28) : subL f (a :: r) = subT f a :: subL f r := by rw [subL]
theorem subL_map (f : Int → Option S28) : ∀ xs, subL f xs = xs.map (subT f)
  | [] => by rw [subL_nil]; rfl
  | a :: r => by rw [subL_cons, subL_map f r]; rfl
/-- A term with what its kinds name alone. -/
def nrm (t : S28) : S28 := subT (fun _ => none) t
theorem bareT_kd (t : S28) : (bareT t).f0 = t.f0 := by unfold bareT; split <;> rfl
theorem nodes_no {t : S28} (h : t.f0 ≠ 4) : nodes t = 1 := by cases t; rw [nodes, if_neg h]
theorem dpt_no {t : S28} (h : t.f0 ≠ 4) : dpt t = 1 := by cases t; rw [dpt, if_neg h]

/-- What a walk through a term answers that counts and gives up: within the bounds it is the term, with the count. -/
structure Cut (deep s : Int) (x : S28) (r : S28 × Bool × Int) : Prop where
  ok : r.2.1 = true ↔ s + nodes x ≤ 2000 ∧ deep + dpt x ≤ 101
  val : r.2.1 = true → r.1 = x ∧ r.2.2 = s + nodes x
  no : r.2.1 = false → r.1 = z28
structure CutL (deep s : Int) (xs : List S28) (r : List S28 × Bool × Int) (acc : List S28) : Prop where
  ok : r.2.1 = true ↔ s + nodesL xs ≤ 2000 ∧ deep + dptL xs ≤ 101
  val : r.2.1 = true → r.1 = acc ++ xs ∧ r.2.2 = s + nodesL xs

theorem cut_leaf {deep s : Int} {x : S28} (h4 : x.f0 ≠ 4) (h1 : ¬(s + 1 > 2000 ∨ deep > 100)) : Cut deep s x (x, true, s + 1) := by
  have hn := nodes_no h4
  have hd := dpt_no h4
  exact ⟨⟨fun _ => ⟨by rw [hn]; omega, by rw [hd]; omega⟩, fun _ => rfl⟩, fun _ => ⟨rfl, by rw [hn]; rfl⟩, fun h => by cases h⟩
theorem cut_deep {deep s : Int} (x : S28) (h1 : s + 1 > 2000 ∨ deep > 100) : Cut deep s x (z28, false, s + 1) := by
  have hn := nodes_pos x
  have hd := dpt_pos x
  exact ⟨⟨(fun h => by cases h), fun h => by omega⟩, (fun h => by cases h), fun _ => rfl⟩
theorem cut_comp {deep s : Int} {nm : ByteArray} {xs : List S28} {r : List S28 × Bool × Int} (h1 : ¬(s + 1 > 2000 ∨ deep > 100)) (h : CutL (deep + 1) (s + 1) xs r []) :
    Cut deep s ⟨4, nm, 0, xs⟩ (if r.2.1 = true then (⟨4, nm, 0, r.1⟩, true, r.2.2) else (z28, false, r.2.2)) := by
  have hn : nodes ⟨4, nm, 0, xs⟩ = 1 + nodesL xs := by rw [nodes, if_pos rfl]
  have hd : dpt ⟨4, nm, 0, xs⟩ = dptL xs + 1 := by rw [dpt, if_pos rfl]
  by_cases h6 : r.2.1 = true
  · rw [if_pos h6]
    have hv := h.val h6
    have ho := h.ok.1 h6
    refine ⟨⟨fun _ => ⟨by rw [hn]; push_cast; omega, by rw [hd]; omega⟩, fun _ => rfl⟩, fun _ => ⟨by simp only; rw [hv.1]; rfl, by simp only; rw [hv.2, hn]; push_cast; omega⟩, fun h => by cases h⟩
  · rw [if_neg h6]
    refine ⟨⟨(fun h => by cases h), fun hh => ?_⟩, (fun h => by cases h), fun _ => rfl⟩
    exfalso; apply h6; rw [h.ok]
    rw [hn, hd] at hh
    have := hh.1; push_cast at this
    exact ⟨by omega, by have := hh.2; omega⟩
theorem cutL_nil {deep s : Int} (hs : s ≤ 2000) (hd : deep ≤ 101) (acc : List S28) : CutL deep s [] (acc, true, s) acc :=
  ⟨⟨fun _ => ⟨by rw [nodesL_nil]; simpa using hs, by rw [dptL_nil]; omega⟩, fun _ => rfl⟩, fun _ => ⟨by simp, by rw [nodesL_nil]; simp⟩⟩
theorem cutL_cons {deep s : Int} {x : S28} {xs : List S28} {q : S28 × Bool × Int} {r : List S28 × Bool × Int} {acc : List S28} (h : Cut deep s x q) (hr : q.2.1 = true → CutL deep q.2.2 xs r (acc ++ [q.1])) :
    CutL deep s (x :: xs) (if q.2.1 = true then r else ([], false, q.2.2)) acc := by
  have hn := nodes_pos x
  have hp := dptL_pos xs
  rw [show CutL deep s (x :: xs) (if q.2.1 = true then r else ([], false, q.2.2)) acc ↔ _ from Iff.rfl]
  by_cases h6 : q.2.1 = true
  · rw [if_pos h6]
    have hv := h.val h6
    have ho := h.ok.1 h6
    have hR := hr h6
    refine ⟨?_, fun hh => ?_⟩
    · rw [hR.ok, hv.2, nodesL_cons, dptL_cons]
      push_cast
      constructor
      · rintro ⟨a, b⟩; exact ⟨by omega, by omega⟩
      · rintro ⟨a, b⟩; exact ⟨by omega, by omega⟩
    · have := hR.val hh
      rw [this.1, this.2, hv.1, hv.2, nodesL_cons]
      exact ⟨by simp, by push_cast; omega⟩
  · rw [if_neg h6]
    refine ⟨⟨(fun h => by cases h), fun hh => ?_⟩, (fun h => by cases h)⟩
    exfalso; apply h6; rw [h.ok]
    rw [nodesL_cons, dptL_cons] at hh
    have := hh.1; push_cast at this
    exact ⟨by omega, by have := hh.2; omega⟩

mutual
theorem cpT_spec : ∀ (t : S28) (deep s : Int), Cut deep s (nrm t) (cpT t deep s)
  | ⟨kd, nm, nt, xs⟩, deep, s => by
    unfold cpT nrm
    by_cases h1 : s + 1 > 2000 ∨ deep > 100
    · rw [if_pos h1]; exact cut_deep _ h1
    rw [if_neg h1]
    by_cases h2 : kd ≠ 4
    · rw [if_pos h2]
      have hb : subT (fun _ => none) ⟨kd, nm, nt, xs⟩ = bareT ⟨kd, nm, nt, xs⟩ := by
        rw [subT]
        by_cases h3 : kd = 1
        · subst h3; rfl
        · rw [if_neg h3, if_neg h2]
      rw [hb]
      exact cut_leaf (by rw [bareT_kd]; exact h2) h1
    · rw [if_neg h2]
      obtain rfl : kd = 4 := by omega
      rw [subT, if_neg (by decide), if_pos rfl]
      exact cut_comp h1 (cpL_spec xs (deep + 1) [] (s + 1) (by omega) (by omega))
theorem cpL_spec : ∀ (xs : List S28) (deep : Int) (acc : List S28) (s : Int), s ≤ 2000 → deep ≤ 101 → CutL deep s (subL (fun _ => none) xs) (cpL xs deep acc s) acc
  | [], deep, acc, s, hs, hd => by rw [cpL_nil, subL_nil]; exact cutL_nil hs hd acc
  | a :: r, deep, acc, s, hs, hd => by
    rw [cpL_cons, subL_cons]
    have ha := cpT_spec a deep s
    exact cutL_cons ha (fun h => by rw [(ha.val h).2]; exact cpL_spec r deep _ _ (ha.ok.1 h).1 hd)
end

/-! From TmPc. -/
mutual
/-- Where variables stand in a term, in order. -/
def occT : S28 → List Int
  | ⟨kd, nm, nt, xs⟩ => if kd = 1 then [nt] else if kd = 4 then occL xs else []
def occL : List S28 → List Int
  | [] => []
  | a :: r => occT a ++ occL r
end
theorem occL_nil : occL [] = [] := by rw [occL]
theorem occL_cons (a : S28) (r : List S28) : occL (a :: r) = occT a ++ occL r := by rw [occL]
def mkV (n : Int) : S28 := ⟨1, ⟨#[]⟩, n, []⟩
theorem bare_kind {kd : Int} {nm : ByteArray} {nt : Int} {xs : List S28} : bareT ⟨kd, nm, nt, xs⟩ = if kd = 1 ∨ kd = 2 then ⟨kd, ⟨#[]⟩, nt, []⟩ else ⟨kd, nm, 0, []⟩ := rfl

/-! From TmPd. -/
theorem Lies.at {w0 W : World} {t : S28} {A : Option Addr} {c : Nat} (h : Lies w0 t A c) (hB : Below w0.heap.size w0 W) : Lies W t A c := ⟨Kd.C_below h.C hB, h.le, h.wf⟩

section
variable {w0 W : World} {t u : S28} {A A' : Option Addr} {c c' : Nat}
end

/-! From TmPk. -/
/-- A term with terms in its variables' places. -/
def sg (σ : Int → S28) (t : S28) : S28 := subT (fun v => some (σ v)) t
def sgL (σ : Int → S28) (xs : List S28) : List S28 := subL (fun v => some (σ v)) xs
theorem sg_eq (σ : Int → S28) (kd : Int) (nm : ByteArray) (nt : Int) (xs : List S28) : sg σ ⟨kd, nm, nt, xs⟩ = if kd = 1 then σ nt else if kd = 4 then ⟨4, nm, 0, sgL σ xs⟩ else bareT ⟨kd, nm, nt, xs⟩ := by
  unfold sg sgL; rw [subT]
theorem sgL_map (σ : Int → S28) (xs : List S28) : sgL σ xs = xs.map (sg σ) := subL_map _ _
theorem sg_var (σ : Int → S28) (v : Int) : sg σ (mkV v) = σ v := by unfold mkV; rw [sg_eq, if_pos rfl]
theorem sg_bare {t : S28} (σ : Int → S28) : sg σ (bareT t) = if t.f0 = 4 then ⟨4, t.f1, 0, []⟩ else sg σ t := by
  obtain ⟨kd, nm, nt, xs⟩ := t
  rw [sg_eq, bare_kind]
  by_cases h1 : kd = 1
  · subst h1; rw [if_pos (.inl rfl), sg_eq, if_pos rfl]; rfl
  · by_cases h4 : kd = 4
    · subst h4; rw [if_neg (by decide), sg_eq]; simp [sgL, subL_nil]
    · simp only [if_neg h1, if_neg h4]
      by_cases h2 : kd = 2
      · subst h2; rw [if_pos (.inr rfl), sg_eq]; rfl
      · rw [if_neg (by omega), sg_eq, if_neg h1, if_neg h4, bare_kind, if_neg (by omega)]

mutual
theorem sub_congr (f g : Int → Option S28) : ∀ t : S28, (∀ v ∈ occT t, (f v).getD (mkV v) = (g v).getD (mkV v)) → subT f t = subT g t
  | ⟨kd, nm, nt, xs⟩, h => by
    rw [subT, subT]
    rw [occT] at h
    by_cases h1 : kd = 1
    · rw [if_pos h1, if_pos h1]
      rw [if_pos h1] at h
      have := h nt (by simp)
      cases hf : f nt <;> cases hg : g nt <;> simp only [hf, hg, Option.getD_none, Option.getD_some] at this ⊢ <;> first | exact this | rfl
    rw [if_neg h1, if_neg h1]
    rw [if_neg h1] at h
    by_cases h4 : kd = 4
    · rw [if_pos h4, if_pos h4]
      rw [if_pos h4] at h
      rw [subL_congr f g xs h]
    · rw [if_neg h4, if_neg h4]
theorem subL_congr (f g : Int → Option S28) : ∀ xs : List S28, (∀ v ∈ occL xs, (f v).getD (mkV v) = (g v).getD (mkV v)) → subL f xs = subL g xs
  | [], _ => by rw [subL_nil, subL_nil]
  | a :: r, h => by
    rw [occL_cons] at h
    rw [subL_cons, subL_cons, sub_congr f g a (fun v hv => h v (List.mem_append_left _ hv)), subL_congr f g r (fun v hv => h v (List.mem_append_right _ hv))]
end
mutual
theorem sg_sub (σ : Int → S28) (f : Int → Option S28) : ∀ t : S28, sg σ (subT f t) = sg (fun v => sg σ ((f v).getD (mkV v))) t
  | ⟨kd, nm, nt, xs⟩ => by
    rw [subT, sg_eq]
    by_cases h1 : kd = 1
    · rw [if_pos h1, if_pos h1]
      cases f nt <;> rfl
    rw [if_neg h1, if_neg h1]
    by_cases h4 : kd = 4
    · rw [if_pos h4, if_pos h4, sg_eq, if_neg (by decide), if_pos rfl, sgL_sub σ f xs]
    · rw [if_neg h4, if_neg h4, sg_bare, if_neg h4, sg_eq, if_neg h1, if_neg h4]
theorem sgL_sub (σ : Int → S28) (f : Int → Option S28) : ∀ xs : List S28, sgL σ (subL f xs) = sgL (fun v => sg σ ((f v).getD (mkV v))) xs
  | [] => by rw [subL_nil, sgL, subL_nil, sgL, subL_nil]
  | a :: r => by
    have h1 := sg_sub σ f a
    have h2 := sgL_sub σ f r
    unfold sgL at h2 ⊢
    unfold sg at h1
    rw [subL_cons, subL_cons, subL_cons, h2]
    congr 1
end
theorem sg_congr (σ τ : Int → S28) (t : S28) (h : ∀ v ∈ occT t, σ v = τ v) : sg σ t = sg τ t := sub_congr _ _ t (fun v hv => h v hv)

end Go.Proofs.Ytjhhacighfpdbaa
