/- Terms in memory: measure, right, sizes, variables, order. -/
import Derived.Test.YtpnkaggkedepeaaPTermTellsr1
import Derived.Maps.AppendAt
import Derived.Lib.Bytealg
import Derived.Stop.Asserts
import Derived.RowKitTokens
import Derived.StillTailTactics
import Derived.Lib.Hide

/- Terms in memory; measure in plain words and its walk. -/
namespace Go.Proofs.Ytpnkaggkedepeaa
set_option linter.unusedVariables false
open Go.RowKit Go.Proofs.YtpnkaggkedepeaaW.PrintWords Go.Proofs.YtpnkaggkedepeaaW.PrintLast Go.Proofs.YtpnkaggkedepeaaW.PrintMore Go.Proofs.Ytpnkaggkedepeaa.PTermTells

/-- A number of a machine word. -/
def I64 (x : Int) : Prop := -9223372036854775808 ≤ x ∧ x ≤ 9223372036854775807

mutual
/-- What measure answers, and how many symbols it has counted then. -/
def meas : S24 → Int → Int → Int × Bool × Int
  | ⟨kd, nm, nt, xs⟩, deep, s =>
    if s + 1 > 2000 ∨ deep > 100 then (0, false, s + 1)
    else if kd = 1 then (1, decide (nt ≥ 1), s + 1)
    else if kd = 2 then (1, true, s + 1)
    else if kd = 4 then
      if xs.length < 1 ∨ xs.length > 8 then (0, false, s + 1)
      else
        let r := measL xs (deep + 1) 0 (s + 1)
        if r.2.1 = true then (r.1 + 1, decide ((nm.size : Int) ≤ 64), r.2.2) else (0, false, r.2.2)
    else if kd = 3 then (1, decide ((nm.size : Int) ≤ 64), s + 1)
    else (0, false, s + 1)
/-- Of arguments: the greatest depth. -/
def measL : List S24 → Int → Int → Int → Int × Bool × Int
  | [], deep, d, s => (d, true, s)
  | a :: r, deep, d, s =>
    let q := meas a deep s
    if q.2.1 = true then measL r deep (max d q.1) q.2.2 else (0, false, q.2.2)
end

theorem measL_nil (deep d s : Int) : measL [] deep d s = (d, true, s) := by rw [measL]
theorem measL_cons (a : S24) (r : List S24) (deep d s : Int) : measL (a :: r) deep d s = if (meas a deep s).2.1 = true then measL r deep (max d (meas a deep s).1) (meas a deep s).2.2 else (0, false, (meas a deep s).2.2) := by rw [measL]

/-- A cell of one's own with a count in it. -/
def CntAt (w : World) (b : Nat) (s : Int) : Prop := w.heap[b]? = some (.cells #[.int .i64 s] 3 (0, 0))

theorem sz_mem {t a : S24} (h : a ∈ t.f3) : SizeOf.sizeOf a < SizeOf.sizeOf t := by
  cases t with
  | mk k n i xs =>
    have := List.sizeOf_lt_of_mem h
    simp only [S24.mk.sizeOf_spec]
    simp only at this
    omega

/-- The bounds of what measure answers. -/
structure MB (deep d0 s : Int) (r : Int × Bool × Int) : Prop where
  d : 0 ≤ r.1
  lo : s ≤ r.2.2
  hi : r.2.2 ≤ 2001
  ok : r.2.1 = true → r.2.2 ≤ 2000 ∧ r.1 + deep ≤ 101

mutual
theorem meas_b : ∀ (t : S24) (deep s : Int), s ≤ 2000 → deep ≤ 101 → MB deep 0 s (meas t deep s)
  | ⟨kd, nm, nt, xs⟩, deep, s, hs, hd => by
    unfold meas
    by_cases h1 : s + 1 > 2000 ∨ deep > 100
    · rw [if_pos h1]; exact ⟨by simp, by simp; omega, by simp; omega, by simp⟩
    rw [if_neg h1]
    by_cases h2 : kd = 1
    · rw [if_pos h2]; exact ⟨by simp, by simp; omega, by simp; omega, fun _ => ⟨by simp; omega, by simp; omega⟩⟩
    rw [if_neg h2]
    by_cases h3 : kd = 2
    · rw [if_pos h3]; exact ⟨by simp, by simp; omega, by simp; omega, fun _ => ⟨by simp; omega, by simp; omega⟩⟩
    rw [if_neg h3]
    by_cases h4 : kd = 4
    · rw [if_pos h4]
      by_cases h5 : xs.length < 1 ∨ xs.length > 8
      · rw [if_pos h5]; exact ⟨by simp, by simp; omega, by simp; omega, by simp⟩
      rw [if_neg h5]
      have hb := measL_b xs (deep + 1) 0 (s + 1) (by omega) (by omega) (by omega) (by omega)
      by_cases h6 : (measL xs (deep + 1) 0 (s + 1)).2.1 = true
      · simp only [h6, if_true]
        have := hb.ok h6
        exact ⟨by have := hb.d; simp only; omega, by have := hb.lo; simp only; omega, hb.hi, fun _ => ⟨this.1, by simp only; omega⟩⟩
      · simp only [h6]
        exact ⟨by simp, by have := hb.lo; simp; omega, by have := hb.hi; simpa using this, by simp⟩
    rw [if_neg h4]
    by_cases h5 : kd = 3
    · rw [if_pos h5]; exact ⟨by simp, by simp; omega, by simp; omega, fun _ => ⟨by simp; omega, by simp; omega⟩⟩
    rw [if_neg h5]
    exact ⟨by simp, by simp; omega, by simp; omega, by simp⟩
theorem measL_b : ∀ (xs : List S24) (deep d s : Int), s ≤ 2000 → deep ≤ 101 → 0 ≤ d → d + deep ≤ 101 → MB deep d s (measL xs deep d s)
  | [], deep, d, s, hs, hd, h0, hdd => by
    unfold measL
    exact ⟨h0, Int.le_refl _, by simp only; omega, fun _ => ⟨hs, hdd⟩⟩
  | a :: r, deep, d, s, hs, hd, h0, hdd => by
    have hb := meas_b a deep s hs hd
    unfold measL
    by_cases h6 : (meas a deep s).2.1 = true
    · simp only [h6, if_true]
      have := hb.ok h6
      have hl := measL_b r deep (max d (meas a deep s).1) (meas a deep s).2.2 this.1 hd (by omega) (by omega)
      exact ⟨hl.d, by have := hl.lo; have := hb.lo; omega, hl.hi, hl.ok⟩
    · simp only [h6]
      exact ⟨by simp, by have := hb.lo; simpa using this, by have := hb.hi; simpa using this, by simp⟩
end

/-- Nothing that was there has turned but one block. -/
structure Fg (b : Nat) (w w' : World) : Prop where
  os : w'.os = w.os
  tape : w'.tape = w.tape
  output : w'.output = w.output
  size : w.heap.size ≤ w'.heap.size
  block : ∀ k, k < w.heap.size → k ≠ b → w'.heap[k]? = w.heap[k]?

theorem Fg.refl (b : Nat) (w : World) : Fg b w w := ⟨rfl, rfl, rfl, Nat.le_refl _, fun _ _ _ => rfl⟩
theorem Fg.trans {b : Nat} {w w1 w2 : World} (h : Fg b w w1) (k : Fg b w1 w2) : Fg b w w2 :=
  ⟨k.os.trans h.os, k.tape.trans h.tape, k.output.trans h.output, Nat.le_trans h.size k.size, fun i hi hb => (k.block i (Nat.lt_of_lt_of_le hi h.size) hb).trans (h.block i hi hb)⟩
theorem Fg.of_below {b : Nat} {w w' : World} (h : Below w.heap.size w w') : Fg b w w' := ⟨h.os, h.tape, h.output, h.size, fun k hk _ => h.block k hk⟩
theorem Fg.set {b : Nat} (w : World) (j : Nat) (u : Value) : Fg b w (w.setCell ⟨b, j, none⟩ u) :=
  ⟨rfl, rfl, rfl, by simp [World.setCell], fun k _ hk => Below.heap_setCell w ⟨b, j, none⟩ u k hk⟩
theorem Fg.alloc {b : Nat} {w w' : World} (h : Fg b w w') (o : Obj) : Fg b w (w'.alloc o) := h.trans (.of_below (below_alloc (Below.refl _ _) o))
theorem Fg.below {b : Nat} {w0 w w' : World} (h : Fg b w w') (hB : Below w0.heap.size w0 w) (hb : w0.heap.size ≤ b) : Below w0.heap.size w0 w' :=
  ⟨h.os.trans hB.os, h.tape.trans hB.tape, h.output.trans hB.output, Nat.le_trans hB.size h.size, fun k hk => (h.block k (Nat.lt_of_lt_of_le hk hB.size) (by omega)).trans (hB.block k hk)⟩
theorem Fg.blk {b g : Nat} {w w' : World} {o : Obj} (h : Fg b w w') (hb : w.heap[g]? = some o) (hg : g ≠ b) : w'.heap[g]? = some o := (h.block g (blk_lt hb) hg).trans hb

theorem CntAt.set {w : World} {b : Nat} {s : Int} (h : CntAt w b s) (s' : Int) : CntAt (w.setCell ⟨b, 0, none⟩ (.int .i64 s')) b s' := by
  have := blk_set h 0 (.int .i64 s')
  simpa [CntAt] using this
theorem CntAt.alloc {w : World} {b : Nat} {s : Int} (h : CntAt w b s) (o : Obj) : CntAt (w.alloc o) b s := blk_alloc h o

theorem Fg.drew {b : Nat} {w w' : World} (h : Fg b w w') : Fg b w w'.drew := ⟨h.os, h.tape, h.output, h.size, h.block⟩
theorem fieldT0 (a b c d : Value) (w : World) : (Instr.field 24 (.agg #[a, b, c, d]) 0).run Try.prog w = .ok a w := by kernel_rfl

set_option maxHeartbeats 4000000 in
set_option maxRecDepth 100000 in
theorem measure_any : ∀ (n : Nat) (t : S24), SizeOf.sizeOf t = n → ∀ (deep s : Int) (w0 w : World) (b c : Nat) (A : Option Addr), Kd.C k24 w0 A t.f3.length t.f3 → t.f3.length ≤ c → Below w0.heap.size w0 w → w0.heap.size ≤ b → CntAt w b s → 0 ≤ s → s ≤ 2000 → 0 ≤ deep → deep ≤ 101 →
    Calls Try.prog 52 #[.agg #[.int .i64 t.f0, .string t.f1, .int .i64 t.f2, .slice A t.f3.length c], .int .i64 deep, .pointer (some ⟨b, 0, none⟩)] w fun e w' =>
      e = .returned (.tuple #[.int .i64 (meas t deep s).1, .bool (meas t deep s).2.1]) ∧ Fg b w w' ∧ CntAt w' b (meas t deep s).2.2 := by
  intro n
  induction n using Nat.strongRecOn with
  | _ n ih =>
  intro t hn deep s w0 w b c A hC hc hB hb hs h0 h2 hd0 hd
  obtain ⟨kd, nm, nt, xs⟩ := t
  simp only at hC hc ⊢
  have x0 := blk_cell hs 0
  have x1 := blk_frozen hs 0
  have hbl := blk_lt hs
  have hs1 := hs.set (s + 1)
  have hf1 : Fg b w (w.setCell ⟨b, 0, none⟩ (.int .i64 (s + 1))) := Fg.set w 0 _
  have hs2 := hs1.alloc (.cells #[.int .i64 kd, .string nm, .int .i64 nt, .slice A xs.length c] 24)
  have hf2 := hf1.alloc (.cells #[.int .i64 kd, .string nm, .int .i64 nt, .slice A xs.length c] 24)
  unfold meas
  by_cases h1 : s + 1 > 2000 ∨ deep > 100
  · simp only [if_pos h1]
    have e1 : (decide (2000 < s + 1) || decide (100 < deep)) = true := by simp; omega
    clear ih
    go_enter Try.func52, Try.ntmps52
    go_wp2
    all_goals
      go_ret2
      exact ⟨rfl, hf2, hs2⟩
  simp only [if_neg h1]
  have e1 : (decide (2000 < s + 1) || decide (100 < deep)) = false := by simp; omega
  by_cases k1 : kd = 1
  · subst k1
    simp only [if_true]
    clear ih
    go_enter Try.func52, Try.ntmps52
    go_wp2
    go_quiet (fail)
    go_wp2
    go_ret2
    exact ⟨rfl, ⟨hf2.os, hf2.tape, hf2.output, hf2.size, hf2.block⟩, hs2⟩
  simp only [if_neg k1]
  have k1' : (kd == 1) = false := by simpa using k1
  by_cases k2 : kd = 2
  · subst k2
    simp only [if_true]
    clear ih
    go_enter Try.func52, Try.ntmps52
    go_wp2
    go_ret2
    exact ⟨rfl, hf2, hs2⟩
  simp only [if_neg k2]
  have k2' : (kd == 2) = false := by simpa using k2
  by_cases k4 : kd = 4
  · subst k4
    simp only [if_true]
    by_cases hl : xs.length < 1 ∨ xs.length > 8
    · simp only [if_pos hl]
      clear ih
      go_enter Try.func52, Try.ntmps52
      go_wp2
      all_goals
        go_ret2
        exact ⟨rfl, hf2, hs2⟩
    simp only [if_neg hl]
    go_enter Try.func52, Try.ntmps52
    go_wp2
    have hB2 := hf2.below hB hb
    obtain ⟨W2, hW2⟩ : ∃ W, W = ((w.setCell ⟨b, 0, none⟩ (.int .i64 (s + 1))).alloc (.cells #[.int .i64 4, .string nm, .int .i64 nt, .slice A xs.length c] 24)) := ⟨_, rfl⟩
    have he : (w.setCell ⟨b, 0, none⟩ (.int .i64 (s + 1))).heap.size = w.heap.size := by simp [World.setCell]
    have nb : W2.heap[w.heap.size]? = some (.cells #[.int .i64 4, .string nm, .int .i64 nt, .slice A xs.length c] 24 (0, 0)) := by rw [hW2, ← he]; exact blk_new _ _
    have z1 : W2.cell? ⟨w.heap.size, 1, none⟩ = some (.string nm) := blk_cell nb 1
    have z2 : w.heap.size < W2.heap.size := blk_lt nb
    clear he nb
    rw [← hW2] at hf2 hs2 hB2 ⊢
    clear hW2
    go_loopw [6, 51] (fun v i wr => ∃ (k : Nat) (d q : Int), k ≤ xs.length ∧ v = .int .i64 d ∧ i = .int .i64 k ∧ measL xs (deep + 1) 0 (s + 1) = measL (xs.drop k) (deep + 1) d q ∧ 0 ≤ d ∧ d + (deep + 1) ≤ 101 ∧ 0 ≤ q ∧ q ≤ 2000 ∧ CntAt wr b q ∧ Fg b W2 wr)
      (fun _ i _ => xs.length - (intOf i).toNat)
    case atStart => exact ⟨0, 0, s + 1, Nat.zero_le _, rfl, rfl, rfl, by omega, by omega, by omega, by omega, hs2, Fg.refl _ _⟩
    case round =>
      obtain ⟨k, d, q, hk, rfl, rfl, hm, hd1, hd2, hq1, hq2, hcq, hfq⟩ := hrel
      have hBq := hfq.below hB2 hb
      have hbw : w.heap.size ≠ b := by omega
      by_cases hlt : k < xs.length
      · obtain ⟨ad, A3, c3, rfl, y0, y1, y2, y3, l3, g3⟩ := at_T24 hC (k : Int) (by omega) (by omega)
        have hrd : rd_T24 xs (k : Int) = xs[k] := by simp [rd_T24, List.getD_eq_getElem?_getD, List.getElem?_eq_getElem hlt]
        simp only [Int.toNat_natCast, hrd] at y0 y1 y2 y3 l3 g3
        replace y0 := (hBq.cell (World.block_lt_of_cell? w0 _ y0)).trans y0
        replace y1 := (hBq.cell (World.block_lt_of_cell? w0 _ y1)).trans y1
        replace y2 := (hBq.cell (World.block_lt_of_cell? w0 _ y2)).trans y2
        replace y3 := (hBq.cell (World.block_lt_of_cell? w0 _ y3)).trans y3
        rw [List.drop_eq_getElem_cons hlt] at hm
        have hz : SizeOf.sizeOf xs[k] < n := by rw [← hn]; exact sz_mem (t := ⟨4, nm, nt, xs⟩) (List.getElem_mem hlt)
        generalize xs[k] = a at y0 y1 y2 y3 l3 g3 hm hz
        have hi := ih _ hz a rfl (deep + 1) q w0 (wr.alloc (.cells #[.int .i64 a.f0, .string a.f1, .int .i64 a.f2, .slice A3 a.f3.length c3] 24)) b c3 A3 g3 l3 (below_alloc hBq _) hb (hcq.alloc _) hq1 hq2 (by omega) (by omega)
        have hmb := meas_b a (deep + 1) q hq2 (by omega)
        rw [measL_cons] at hm
        generalize hr : meas a (deep + 1) q = r at hi hm hmb
        obtain ⟨r1, r2, r3⟩ := r
        simp only at hi hm
        clear ih
        go_wp2_with fail
        refine hi.mono ?_
        rintro e w5 ⟨rfl, f5, c5⟩
        have f6 := (hfq.alloc (.cells #[.int .i64 a.f0, .string a.f1, .int .i64 a.f2, .slice A3 a.f3.length c3] 24)).trans f5
        have hr3 := hmb.lo
        have hr1 := hmb.d
        have hr4 := hmb.ok
        simp only at hr3 hr1 hr4
        clear hi f5 hmb
        cases r2 with
        | true =>
          have hr5 := hr4 rfl
          simp only [if_true] at hm
          clear hr4
          go_wp2
          go_roundw
          case rel => exact ⟨k + 1, max d r1, r3, by omega, by congr 1; split <;> omega, by go_num, hm, by omega, by omega, by omega, by omega, c5, f6⟩
          case measure => simp [intOf]; omega
        | false =>
          simp only [Bool.false_eq_true, if_false] at hm
          clear hr4
          go_wp2
          all_goals
            go_ret2
            exact ⟨rfl, hf2.trans f6, c5⟩
      · obtain rfl : k = xs.length := by omega
        rw [List.drop_of_length_le (Nat.le_refl _)] at hm
        rw [measL_nil] at hm
        have hw1 : IntKind.i64.wrap (d + 1) = d + 1 := by rw [IntKind.wrap_i64]; omega
        have z3 : wr.cell? ⟨w.heap.size, 1, none⟩ = some (.string nm) := (World.cell?_of_block (hfq.block _ z2 hbw)).trans z1
        replace hfq := hf2.trans hfq
        go_wp2
        go_quiet (fail)
        go_wp2
        all_goals
          go_ret2
          exact ⟨rfl, ⟨hfq.os, hfq.tape, hfq.output, hfq.size, hfq.block⟩, hcq⟩
  simp only [if_neg k4]
  have k4' : (kd == 4) = false := by simpa using k4
  by_cases k3 : kd = 3
  · subst k3
    simp only [if_true]
    clear ih
    go_enter Try.func52, Try.ntmps52
    go_wp2
    go_quiet (fail)
    go_wp2
    go_ret2
    exact ⟨rfl, ⟨hf2.os, hf2.tape, hf2.output, hf2.size, hf2.block⟩, hs2⟩
  simp only [if_neg k3]
  have k3' : (kd == 3) = false := by simpa using k3
  clear ih
  go_enter Try.func52, Try.ntmps52
  go_wp2
  go_ret2
  exact ⟨rfl, hf2, hs2⟩

end Go.Proofs.Ytpnkaggkedepeaa


/- right, Check, Size, Depth. -/
namespace Go.Proofs.Ytpnkaggkedepeaa
set_option linter.unusedVariables false
open Go.RowKit Go.Proofs.YtpnkaggkedepeaaW.PrintWords Go.Proofs.YtpnkaggkedepeaaW.PrintLast Go.Proofs.YtpnkaggkedepeaaW.PrintMore Go.Proofs.Ytpnkaggkedepeaa.PTermTells

/-- Is a term right? -/
def okT (t : S24) : Bool := (meas t 1 0).2.1
/-- Its size; 0: it isn't right. -/
def sizeT (t : S24) : Int := if okT t = true then (meas t 1 0).2.2 else 0
/-- Its depth; 0: it isn't right. -/
def depthT (t : S24) : Int := if okT t = true then (meas t 1 0).1 else 0

theorem C_rd {w : World} {A : Option Addr} {n : Nat} {xs : List S24} (h : Kd.C k24 w A n xs) (k : Nat) (hk : k < xs.length) (hn : n = xs.length) :
    ∃ ad A3 c3, A = some ad ∧ w.cell? (ad.add (k * 4)) = some (.int .i64 xs[k].f0) ∧ w.cell? ⟨(ad.add (k * 4)).block, (ad.add (k * 4)).off + 1, none⟩ = some (.string xs[k].f1) ∧
      w.cell? ⟨(ad.add (k * 4)).block, (ad.add (k * 4)).off + 2, none⟩ = some (.int .i64 xs[k].f2) ∧ w.cell? ⟨(ad.add (k * 4)).block, (ad.add (k * 4)).off + 3, none⟩ = some (.slice A3 xs[k].f3.length c3) ∧
      xs[k].f3.length ≤ c3 ∧ Kd.C k24 w A3 xs[k].f3.length xs[k].f3 := by
  obtain ⟨ad, A3, c3, e, y0, y1, y2, y3, l3, g3⟩ := at_T24 h (k : Int) (by omega) (by omega)
  have hrd : rd_T24 xs (k : Int) = xs[k] := by simp [rd_T24, List.getD_eq_getElem?_getD, List.getElem?_eq_getElem hk]
  simp only [Int.toNat_natCast, hrd] at y0 y1 y2 y3 l3 g3
  exact ⟨ad, A3, c3, e, y0, y1, y2, y3, l3, g3⟩

theorem C_one {W : World} {g c : Nat} {A : Option Addr} {t : S24} (hb : W.heap[g]? = some (.cells #[.int .i64 t.f0, .string t.f1, .int .i64 t.f2, .slice A t.f3.length c] 24 (0, 0))) (hc : t.f3.length ≤ c) (hC : Kd.C k24 W A t.f3.length t.f3) :
    Kd.C k24 W (some ⟨g, 0, none⟩) 1 [t] := by
  refine ⟨rfl, by decide, fun _ => ⟨_, rfl, fun j p hj => ?_⟩⟩
  cases j with
  | zero =>
    obtain rfl : t = p := by simpa using hj
    refine ⟨_, rfl, k24_mk W t hc hC, fun i u hu => ?_⟩
    have hs : k24.sz = 4 := rfl
    rw [hs]
    have := blk_cell hb i
    rw [show (⟨g, 0, none⟩ : Addr).add (0 * 4 + i) = ⟨g, i, none⟩ by simp [Addr.add] <;> omega, this]
    simpa using hu
  | succ j => simp at hj

theorem C_two {W : World} {g c c' : Nat} {A A' : Option Addr} {t u : S24} (hb : W.heap[g]? = some (.cells #[.int .i64 t.f0, .string t.f1, .int .i64 t.f2, .slice A t.f3.length c, .int .i64 u.f0, .string u.f1, .int .i64 u.f2, .slice A' u.f3.length c'] 24 (0, 0)))
    (hc : t.f3.length ≤ c) (hC : Kd.C k24 W A t.f3.length t.f3) (hc' : u.f3.length ≤ c') (hC' : Kd.C k24 W A' u.f3.length u.f3) :
    Kd.C k24 W (some ⟨g, 0, none⟩) 2 [t, u] := by
  refine ⟨rfl, by decide, fun _ => ⟨_, rfl, fun j p hj => ?_⟩⟩
  have hs : k24.sz = 4 := rfl
  rw [hs]
  match j with
  | 0 =>
    obtain rfl : t = p := by simpa using hj
    refine ⟨_, rfl, k24_mk W t hc hC, fun i v hu => ?_⟩
    have := blk_cell hb i
    rw [show (⟨g, 0, none⟩ : Addr).add (0 * 4 + i) = ⟨g, i, none⟩ by simp [Addr.add] <;> omega, this]
    match i with
    | 0 | 1 | 2 | 3 => simpa using hu
    | i + 4 => simp at hu
  | 1 =>
    obtain rfl : u = p := by simpa using hj
    refine ⟨_, rfl, k24_mk W u hc' hC', fun i v hu => ?_⟩
    have := blk_cell hb (4 + i)
    rw [show (⟨g, 0, none⟩ : Addr).add (1 * 4 + i) = ⟨g, 4 + i, none⟩ by simp [Addr.add] <;> omega, this]
    match i with
    | 0 | 1 | 2 | 3 => simpa using hu
    | i + 4 => simp at hu
  | j + 2 => simp at hj

set_option maxHeartbeats 4000000 in
set_option maxRecDepth 100000 in
theorem right_any (ts : List S24) (w : World) (A : Option Addr) (c : Nat) (hC : Kd.C k24 w A ts.length ts) (hn : ts.length < 1000000) :
    Calls Try.prog 51 #[.slice A ts.length c] w fun e w' => e = .returned (.bool (ts.all okT)) ∧ Below w.heap.size w w' := by
  go_enter Try.func51, Try.ntmps51
  go_wp2
  go_loopw [10] (fun i wr => ∃ k : Nat, k ≤ ts.length ∧ i = .int .i64 k ∧ ts.all okT = (ts.drop k).all okT ∧ Below w.heap.size w wr)
    (fun i _ => ts.length - (intOf i).toNat)
  case atStart => exact ⟨0, Nat.zero_le _, rfl, rfl, Below.refl _ _⟩
  case round =>
    obtain ⟨k, hk, rfl, ha, hb⟩ := hrel
    by_cases hlt : k < ts.length
    · obtain ⟨ad, A3, c3, rfl, y0, y1, y2, y3, l3, g3⟩ := C_rd hC k hlt rfl
      replace y0 := (hb.cell (World.block_lt_of_cell? w _ y0)).trans y0
      replace y1 := (hb.cell (World.block_lt_of_cell? w _ y1)).trans y1
      replace y2 := (hb.cell (World.block_lt_of_cell? w _ y2)).trans y2
      replace y3 := (hb.cell (World.block_lt_of_cell? w _ y3)).trans y3
      rw [List.drop_eq_getElem_cons hlt, List.all_cons] at ha
      generalize ts[k] = t at y0 y1 y2 y3 l3 g3 ha
      have hb1 := below_alloc hb (.cells #[.int .i64 t.f0, .string t.f1, .int .i64 t.f2, .slice A3 t.f3.length c3] 24)
      have hb2 := below_alloc hb1 (.cells #[.int .i64 0] 3)
      have hm := measure_any _ t rfl 1 0 w _ (wr.heap.size + 1) c3 A3 g3 l3 hb2 (by have := hb.size; omega) (by have := blk_new (wr.alloc (.cells #[.int .i64 t.f0, .string t.f1, .int .i64 t.f2, .slice A3 t.f3.length c3] 24)) (.cells #[.int .i64 0] 3); simpa [CntAt] using this) (by omega) (by omega) (by omega) (by omega)
      change Calls _ _ _ _ (fun e w' => e = .returned (.tuple #[.int .i64 (meas t 1 0).1, .bool (okT t)]) ∧ _) at hm
      have hss := hb.size
      generalize hr : okT t = r at hm ha
      clear hb1
      go_wp2_with fail
      refine hm.mono ?_
      rintro e w5 ⟨rfl, f5, c5⟩
      have hb5 := f5.below hb2 (by omega)
      clear hm f5 c5 hb2
      cases r with
      | true =>
        rw [Bool.true_and] at ha
        go_wp2
        go_roundw
        case rel => exact ⟨k + 1, by omega, by go_num, ha, hb5⟩
        case measure => simp [intOf]; omega
      | false =>
        rw [Bool.false_and] at ha
        go_wp2
        go_ret
        exact ⟨by rw [ha]; rfl, hb5⟩
    · obtain rfl : k = ts.length := by omega
      rw [List.drop_of_length_le (Nat.le_refl _), List.all_nil] at ha
      go_wp2
      go_ret
      exact ⟨by rw [ha]; rfl, hb⟩

/-- right of one term: the call as the code makes it, a slice of one behind the term's box. -/
theorem right_one (t : S24) (w : World) (A : Option Addr) (c : Nat) (hC : Kd.C k24 w A t.f3.length t.f3) (hc : t.f3.length ≤ c) :
    Calls Try.prog 51 #[.slice (some ⟨w.heap.size + 1, 0, none⟩) 1 1] ((w.alloc (.cells #[.int .i64 t.f0, .string t.f1, .int .i64 t.f2, .slice A t.f3.length c] 24)).alloc (.cells #[.int .i64 t.f0, .string t.f1, .int .i64 t.f2, .slice A t.f3.length c] 24)) fun e w' => e = .returned (.bool (okT t)) ∧ Below w.heap.size w w' := by
  have hb := blk_new (w.alloc (.cells #[.int .i64 t.f0, .string t.f1, .int .i64 t.f2, .slice A t.f3.length c] 24)) (.cells #[.int .i64 t.f0, .string t.f1, .int .i64 t.f2, .slice A t.f3.length c] 24)
  rw [show (w.alloc (.cells #[.int .i64 t.f0, .string t.f1, .int .i64 t.f2, .slice A t.f3.length c] 24)).heap.size = w.heap.size + 1 by simp] at hb
  have h := right_any [t] ((w.alloc (.cells #[.int .i64 t.f0, .string t.f1, .int .i64 t.f2, .slice A t.f3.length c] 24)).alloc (.cells #[.int .i64 t.f0, .string t.f1, .int .i64 t.f2, .slice A t.f3.length c] 24)) (some ⟨w.heap.size + 1, 0, none⟩) 1 (C_one hb hc (Kd.C_alloc (Kd.C_alloc hC _) _)) (by simp)
  refine h.mono fun e w' ⟨he, hw⟩ => ⟨by rw [he]; simp, below_then (below_alloc (below_alloc (Below.refl _ _) _) _) (by simp; omega) hw⟩

set_option maxHeartbeats 4000000 in
set_option maxRecDepth 100000 in
theorem check_any (t : S24) (w : World) (A : Option Addr) (c : Nat) (hC : Kd.C k24 w A t.f3.length t.f3) (hc : t.f3.length ≤ c) :
    Calls Try.prog 15 #[.agg #[.int .i64 t.f0, .string t.f1, .int .i64 t.f2, .slice A t.f3.length c]] w fun e w' => e = .returned (.int .i64 (if okT t = true then 0 else 70)) ∧ Below w.heap.size w w' := by
  have hr := right_one t w A c hC hc
  generalize okT t = r at hr ⊢
  go_enter Try.func15, Try.ntmps15
  go_wp2_with fail
  refine hr.mono ?_
  rintro e w1 ⟨rfl, hb⟩
  cases r with
  | true =>
    go_wp2
    go_ret
    exact ⟨rfl, hb⟩
  | false =>
    go_wp2
    go_ret
    exact ⟨rfl, hb⟩

/-- measure as its callers call it: behind the term's box, with a count of one's own. -/
theorem measure_one (t : S24) (w : World) (A : Option Addr) (c : Nat) (hC : Kd.C k24 w A t.f3.length t.f3) (hc : t.f3.length ≤ c) :
    Calls Try.prog 52 #[.agg #[.int .i64 t.f0, .string t.f1, .int .i64 t.f2, .slice A t.f3.length c], .int .i64 1, .pointer (some ⟨w.heap.size + 1, 0, none⟩)] ((w.alloc (.cells #[.int .i64 t.f0, .string t.f1, .int .i64 t.f2, .slice A t.f3.length c] 24)).alloc (.cells #[.int .i64 0] 3)) fun e w' =>
      e = .returned (.tuple #[.int .i64 (meas t 1 0).1, .bool (okT t)]) ∧ Below w.heap.size w w' ∧ CntAt w' (w.heap.size + 1) (meas t 1 0).2.2 := by
  have hb := below_alloc (below_alloc (Below.refl w.heap.size w) (.cells #[.int .i64 t.f0, .string t.f1, .int .i64 t.f2, .slice A t.f3.length c] 24)) (.cells #[.int .i64 0] 3)
  have hm := measure_any _ t rfl 1 0 w _ (w.heap.size + 1) c A hC hc hb (by omega) (by have := blk_new (w.alloc (.cells #[.int .i64 t.f0, .string t.f1, .int .i64 t.f2, .slice A t.f3.length c] 24)) (.cells #[.int .i64 0] 3); simpa [CntAt] using this) (by omega) (by omega) (by omega) (by omega)
  exact hm.mono fun e w' ⟨he, hf, hc⟩ => ⟨he, hf.below hb (by omega), hc⟩

set_option maxHeartbeats 4000000 in
set_option maxRecDepth 100000 in
theorem size_any (t : S24) (w : World) (A : Option Addr) (c : Nat) (hC : Kd.C k24 w A t.f3.length t.f3) (hc : t.f3.length ≤ c) :
    Calls Try.prog 16 #[.agg #[.int .i64 t.f0, .string t.f1, .int .i64 t.f2, .slice A t.f3.length c]] w fun e w' => e = .returned (.int .i64 (sizeT t)) ∧ Below w.heap.size w w' := by
  have hr := measure_one t w A c hC hc
  unfold sizeT
  generalize okT t = r at hr ⊢
  generalize meas t 1 0 = q at hr ⊢
  go_enter Try.func16, Try.ntmps16
  go_wp2_with fail
  refine hr.mono ?_
  rintro e w1 ⟨rfl, hb, hcn⟩
  have x0 := blk_cell hcn 0
  cases r with
  | true =>
    go_wp2
    go_ret
    exact ⟨rfl, hb⟩
  | false =>
    go_wp2
    go_ret
    exact ⟨rfl, hb⟩

set_option maxHeartbeats 4000000 in
set_option maxRecDepth 100000 in
theorem depth_any (t : S24) (w : World) (A : Option Addr) (c : Nat) (hC : Kd.C k24 w A t.f3.length t.f3) (hc : t.f3.length ≤ c) :
    Calls Try.prog 17 #[.agg #[.int .i64 t.f0, .string t.f1, .int .i64 t.f2, .slice A t.f3.length c]] w fun e w' => e = .returned (.int .i64 (depthT t)) ∧ Below w.heap.size w w' := by
  have hr := measure_one t w A c hC hc
  unfold depthT
  generalize okT t = r at hr ⊢
  generalize meas t 1 0 = q at hr ⊢
  go_enter Try.func17, Try.ntmps17
  go_wp2_with fail
  refine hr.mono ?_
  rintro e w1 ⟨rfl, hb, hcn⟩
  cases r with
  | true =>
    go_wp2
    go_ret
    exact ⟨rfl, hb⟩
  | false =>
    go_wp2
    go_ret
    exact ⟨rfl, hb⟩

end Go.Proofs.Ytpnkaggkedepeaa


/- vars in plain words and its walk. -/
namespace Go.Proofs.Ytpnkaggkedepeaa
set_option linter.unusedVariables false
open Go.RowKit Go.Proofs.YtpnkaggkedepeaaW.PrintWords Go.Proofs.YtpnkaggkedepeaaW.PrintLast Go.Proofs.YtpnkaggkedepeaaW.PrintMore Go.Proofs.Ytpnkaggkedepeaa.PTermTells

mutual
/-- A term's variables behind some. -/
def varsT : S24 → List Int → List Int
  | ⟨kd, nm, nt, xs⟩, out => if kd = 1 then (if nt ∈ out then out else out ++ [nt]) else if kd = 4 then varsL xs out else out
def varsL : List S24 → List Int → List Int
  | [], out => out
  | a :: r, out => varsL r (varsT a out)
end
theorem varsL_nil (out : List Int) : varsL [] out = out := by rw [varsL]
theorem varsL_cons (a : S24) (r : List S24) (out : List Int) : varsL (a :: r) out = varsL r (varsT a out) := by rw [varsL]

mutual
/-- How many symbols a term has. -/
def nodes : S24 → Nat
  | ⟨kd, nm, nt, xs⟩ => 1 + (if kd = 4 then nodesL xs else 0)
def nodesL : List S24 → Nat
  | [] => 0
  | a :: r => nodes a + nodesL r
end
theorem nodesL_nil : nodesL [] = 0 := by rw [nodesL]
theorem nodesL_cons (a : S24) (r : List S24) : nodesL (a :: r) = nodes a + nodesL r := by rw [nodesL]

mutual
theorem meas_nodes : ∀ (t : S24) (deep s : Int), (meas t deep s).2.1 = true → (meas t deep s).2.2 = s + nodes t
  | ⟨kd, nm, nt, xs⟩, deep, s => by
    unfold meas nodes
    by_cases h1 : s + 1 > 2000 ∨ deep > 100
    · rw [if_pos h1]; simp
    rw [if_neg h1]
    by_cases h2 : kd = 1
    · rw [if_pos h2, if_neg (by omega)]; intro _; rfl
    rw [if_neg h2]
    by_cases h3 : kd = 2
    · rw [if_pos h3, if_neg (by omega)]; intro _; rfl
    rw [if_neg h3]
    by_cases h4 : kd = 4
    · rw [if_pos h4, if_pos h4]
      by_cases h5 : xs.length < 1 ∨ xs.length > 8
      · rw [if_pos h5]; simp
      rw [if_neg h5]
      by_cases h6 : (measL xs (deep + 1) 0 (s + 1)).2.1 = true
      · simp only [h6, if_true]
        intro _
        have := measL_nodes xs (deep + 1) 0 (s + 1) h6
        omega
      · simp only [h6]; simp
    rw [if_neg h4, if_neg h4]
    by_cases h5 : kd = 3
    · rw [if_pos h5]; intro _; rfl
    rw [if_neg h5]; simp
theorem measL_nodes : ∀ (xs : List S24) (deep d s : Int), (measL xs deep d s).2.1 = true → (measL xs deep d s).2.2 = s + nodesL xs
  | [], deep, d, s => by rw [measL_nil, nodesL_nil]; intro _; simp
  | a :: r, deep, d, s => by
    rw [measL_cons, nodesL_cons]
    by_cases h6 : (meas a deep s).2.1 = true
    · rw [if_pos h6]
      intro h
      have h1 := meas_nodes a deep s h6
      have h2 := measL_nodes r deep _ _ h
      omega
    · rw [if_neg h6]; simp
end
theorem nodes_ok {t : S24} (h : okT t = true) : nodes t ≤ 2000 := by
  have h1 := meas_nodes t 1 0 h
  have h2 := (meas_b t 1 0 (by omega) (by omega)).ok h
  omega
theorem sizeT_ok {t : S24} (h : okT t = true) : sizeT t = nodes t := by
  unfold sizeT
  rw [if_pos h, meas_nodes t 1 0 h]
  omega

mutual
theorem varsT_len : ∀ (t : S24) (out : List Int), (varsT t out).length ≤ out.length + nodes t
  | ⟨kd, nm, nt, xs⟩, out => by
    unfold varsT nodes
    by_cases h1 : kd = 1
    · rw [if_pos h1]; split <;> simp
    rw [if_neg h1]
    by_cases h4 : kd = 4
    · rw [if_pos h4, if_pos h4]
      have := varsL_len xs out
      omega
    · rw [if_neg h4, if_neg h4]; omega
theorem varsL_len : ∀ (xs : List S24) (out : List Int), (varsL xs out).length ≤ out.length + nodesL xs
  | [], out => by rw [varsL_nil, nodesL_nil]; omega
  | a :: r, out => by
    rw [varsL_cons, nodesL_cons]
    have h1 := varsT_len a out
    have h2 := varsL_len r (varsT a out)
    omega
end

theorem index_l0 (xs : List Int) (m : Int) (hl : xs.length < 1000000) : ∀ (d k i : Nat), i + d = xs.length → d < k →
    ∃ r, slices_Index_int64_int64.l0 k xs m (xs.length : Int) (i : Int) = some r ∧ (r ≥ 0 ↔ m ∈ xs.drop i) := by
  intro d
  induction d with
  | zero =>
    intro k i hi hk
    obtain ⟨k, rfl⟩ : ∃ q, k = q + 1 := ⟨k - 1, by omega⟩
    simp only [slices_Index_int64_int64.l0]
    rw [if_neg (by omega), List.drop_of_length_le (by omega)]
    exact ⟨_, rfl, by simp⟩
  | succ d ih =>
    intro k i hi hk
    obtain ⟨k, rfl⟩ : ∃ q, k = q + 1 := ⟨k - 1, by omega⟩
    have hw : wrap64 ((i : Int) + 1) = ((i + 1 : Nat) : Int) := by unfold wrap64; omega
    have hr : rd xs (i : Int) = xs[i]'(by omega) := by simp [rd, List.getElem?_eq_getElem (show i < xs.length by omega)]
    simp only [slices_Index_int64_int64.l0]
    rw [if_pos (by omega), if_pos (by omega), if_pos (by omega), hr, hw, List.drop_eq_getElem_cons (show i < xs.length by omega)]
    by_cases he : m = xs[i]'(by omega)
    · rw [if_pos he]
      exact ⟨_, rfl, by rw [List.mem_cons]; exact ⟨fun _ => .inl he, fun _ => by omega⟩⟩
    · rw [if_neg he]
      obtain ⟨r, h1, h2⟩ := ih k (i + 1) (by omega) (by omega)
      exact ⟨r, h1, by rw [h2, List.mem_cons]; exact ⟨.inr, fun h => h.resolve_left he⟩⟩

theorem contains_pure (xs : List Int) (m : Int) (hl : xs.length < 1000000) : slices_Contains_int64_int64.f (xs.length + 1) xs m = some (decide (m ∈ xs)) := by
  obtain ⟨r, h1, h2⟩ := index_l0 xs m hl xs.length (xs.length + 1) 0 (by omega) (by omega)
  unfold slices_Contains_int64_int64.f slices_Index_int64_int64.f
  rw [show ((0 : Nat) : Int) = 0 from rfl] at h1
  rw [h1, Option.bind_some]
  rw [List.drop_zero] at h2
  congr 1
  exact decide_eq_decide.2 h2

theorem below_grown {B : Nat} {w wr w' : World} (h : Below B w wr) {row : Option Nat} (hg : wr.grownBy w' row) (hr : ∀ k, row = some k → B ≤ k) (hB : B ≤ w.heap.size) : Below B w w' :=
  ⟨hg.os.trans h.os, hg.tape.trans h.tape, hg.output.trans h.output, Nat.le_trans h.size hg.size,
   fun k hk => (hg.block k (by have := h.size; omega) (fun e => by have := hr k e.symm; omega)).trans (h.block k hk)⟩

/-- A row of numbers of one's own. -/
def OutAt (w : World) (base : Nat) (v : Value) (xs : List Int) : Prop := w.ownsRow base 2 1 v xs.length (xs.map (Value.int .i64))

theorem OutAt.reads {w : World} {base : Nat} {v : Value} {xs : List Int} (h : OutAt w base v xs) : ∃ A c, v = .slice A xs.length c ∧ xs.length ≤ c ∧ Kd.C (Kd.int .i64) w A xs.length xs :=
  Kd.R_reads (Kd.R_of_own (ok := fun _ => True) h (fun _ _ => trivial))
theorem OutAt.none (w : World) (base : Nat) : OutAt w base (.slice none 0 0) [] := World.ownsRow_nil _ _ _ _

set_option maxHeartbeats 4000000 in
set_option maxRecDepth 100000 in
theorem vars_any : ∀ (n : Nat) (t : S24), SizeOf.sizeOf t = n → ∀ (w0 w : World) (c : Nat) (A : Option Addr) (v : Value) (out : List Int), Kd.C k24 w0 A t.f3.length t.f3 → t.f3.length ≤ c → Below w0.heap.size w0 w → OutAt w w0.heap.size v out → out.length + nodes t < 100000 →
    Calls Try.prog 53 #[.agg #[.int .i64 t.f0, .string t.f1, .int .i64 t.f2, .slice A t.f3.length c], v] w fun e w' => ∃ v', e = .returned v' ∧ OutAt w' w0.heap.size v' (varsT t out) ∧ Below w0.heap.size w0 w' := by
  intro n
  induction n using Nat.strongRecOn with
  | _ n ih =>
  intro t hn w0 w c A v out hC hc hB ho hl
  obtain ⟨i0, hi, hz0, hz1, hz2⟩ := info_parts info2
  obtain ⟨kd, nm, nt, xs⟩ := t
  simp only at hC hc ⊢
  have hsz := hB.size
  have hBa := below_alloc hB (.cells #[.int .i64 kd, .string nm, .int .i64 nt, .slice A xs.length c] 24)
  have hoa : OutAt (w.alloc (.cells #[.int .i64 kd, .string nm, .int .i64 nt, .slice A xs.length c] 24)) w0.heap.size v out := ho.alloc _
  have ccon := fun (W : World) (A1 : Option Addr) (c1 : Nat) (hC1 : Kd.C (Kd.int .i64) W A1 out.length out) (hc1 : out.length ≤ c1) => slices_Contains_int64_int64.calls (out.length + 1) A1 c1 out nt _ W hC1 hc1 (contains_pure out nt (by omega))
  unfold varsT
  by_cases k1 : kd = 1
  · subst k1
    simp only [if_true]
    obtain ⟨A1, c1, rfl, hc1, C1⟩ := hoa.reads
    have hcall := ccon _ A1 c1 C1 hc1
    clear ih ccon
    by_cases hm : nt ∈ out
    · rw [decide_eq_true hm] at hcall
      rw [if_pos hm]
      go_enter Try.func53, Try.ntmps53
      go_wp2_with fail
      refine hcall.mono ?_
      rintro e w1 ⟨rfl, nd, rfl⟩
      go_wp2
      go_ret
      exact ⟨_, rfl, hoa, ⟨hBa.os, hBa.tape, hBa.output, hBa.size, hBa.block⟩⟩
    · rw [decide_eq_false hm] at hcall
      rw [if_neg hm]
      have hlt : out.length < 100000 := by omega
      have hba := hBa.size
      go_enter Try.func53, Try.ntmps53
      go_wp2_with fail
      refine hcall.mono ?_
      rintro e w1 ⟨rfl, nd, rfl⟩
      have hoW : OutAt ((w.alloc (.cells #[.int .i64 1, .string nm, .int .i64 nt, .slice A xs.length c] 24)).drewN nd) w0.heap.size (.slice A1 out.length c1) out := hoa
      have hBW : Below w0.heap.size w0 ((w.alloc (.cells #[.int .i64 1, .string nm, .int .i64 nt, .slice A xs.length c] 24)).drewN nd) := ⟨hBa.os, hBa.tape, hBa.output, hBa.size, hBa.block⟩
      have x2 : ((w.alloc (.cells #[.int .i64 1, .string nm, .int .i64 nt, .slice A xs.length c] 24)).drewN nd).cell? ⟨w.heap.size, 2, none⟩ = some (.int .i64 nt) := by simp
      have hsW := hBW.size
      generalize (w.alloc (.cells #[.int .i64 1, .string nm, .int .i64 nt, .slice A xs.length c] 24)).drewN nd = W at hoW hBW x2 hsW ⊢
      clear hoa hBa hba C1 ho
      go_wp2_with (first
        | (at_builtin; refine wpList_append_own_at _ rfl _ _ 30 rfl w0.heap.size 2 i0 (.int .i64 0) 1 8 Try.underlying30 hi hz0 hz1 hz2 rfl (by decide) (.slice A1 out.length c1) _ _ rfl (hoW.alloc _) ⟨W.heap.size, 0, none⟩ 1 1 [.int .i64 nt] rfl rfl (cell_one_new _ _ _) (ints_oneCell .i64 [nt]) (by unfold maxLen; omega) (by omega) (by simp; omega) ?_
           intro v' w6 hown6 hgrow6 _ _))
      go_ret
      exact ⟨_, rfl, by unfold OutAt; simpa using hown6, below_grown (below_alloc hBW _) hgrow6 (fun k hk => (World.ownsRow.lt hoW k hk).1) (Nat.le_refl _)⟩
  simp only [if_neg k1]
  have k1' : (kd == 1) = false := by simpa using k1
  by_cases k4 : kd = 4
  · subst k4
    simp only [if_true]
    clear ccon
    have hn4 : nodes ⟨4, nm, nt, xs⟩ = 1 + nodesL xs := by rw [nodes, if_pos rfl]
    rw [hn4] at hl
    have hz : ∀ a ∈ xs, SizeOf.sizeOf a < n := fun a ha => by rw [← hn]; exact sz_mem (t := ⟨4, nm, nt, xs⟩) ha
    clear hn hn4
    go_enter Try.func53, Try.ntmps53
    have hmx := hC.2.1
    go_wp2
    go_loopw [1, 28] (fun v i wr => ∃ (k : Nat) (o : List Int), k ≤ xs.length ∧ i = .int .i64 k ∧ varsL xs out = varsL (xs.drop k) o ∧ OutAt wr w0.heap.size v o ∧ o.length + nodesL (xs.drop k) < 100000 ∧ Below w0.heap.size w0 wr)
      (fun _ i _ => xs.length - (intOf i).toNat)
    case atStart => exact ⟨0, out, Nat.zero_le _, rfl, rfl, hoa, by rw [List.drop_zero]; omega, hBa⟩
    case round =>
      obtain ⟨k, o, hk, rfl, hv, how, hnl, hbr⟩ := hrel
      by_cases hlt : k < xs.length
      · obtain ⟨ad, A3, c3, rfl, y0, y1, y2, y3, l3, g3⟩ := C_rd hC k hlt rfl
        replace y0 := (hbr.cell (World.block_lt_of_cell? w0 _ y0)).trans y0
        replace y1 := (hbr.cell (World.block_lt_of_cell? w0 _ y1)).trans y1
        replace y2 := (hbr.cell (World.block_lt_of_cell? w0 _ y2)).trans y2
        replace y3 := (hbr.cell (World.block_lt_of_cell? w0 _ y3)).trans y3
        rw [List.drop_eq_getElem_cons hlt, varsL_cons] at hv
        rw [List.drop_eq_getElem_cons hlt, nodesL_cons] at hnl
        have hza := hz _ (List.getElem_mem hlt)
        generalize xs[k] = a at y0 y1 y2 y3 l3 g3 hv hnl hza
        have hcall := ih _ hza a rfl w0 (wr.alloc (.cells #[.int .i64 a.f0, .string a.f1, .int .i64 a.f2, .slice A3 a.f3.length c3] 24)) c3 A3 _ o g3 l3 (below_alloc hbr _) (how.alloc _) (by omega)
        have hvl := varsT_len a o
        clear ih
        go_wp2_with fail
        refine hcall.mono ?_
        rintro e w5 ⟨v5, rfl, ho5, hb5⟩
        clear hcall
        go_wp2
        go_roundw
        case rel => exact ⟨k + 1, _, by omega, by go_num, hv, ho5, by omega, hb5⟩
        case measure => simp [intOf]; omega
      · obtain rfl : k = xs.length := by omega
        rw [List.drop_of_length_le (Nat.le_refl _), varsL_nil] at hv
        go_wp2
        go_ret
        exact ⟨u1, rfl, by rw [hv]; exact how, hbr⟩
  · simp only [if_neg k4]
    have k4' : (kd == 4) = false := by simpa using k4
    clear ih ccon
    go_enter Try.func53, Try.ntmps53
    go_wp2
    go_ret
    exact ⟨_, rfl, hoa, hBa⟩

end Go.Proofs.Ytpnkaggkedepeaa


/- order in plain words and its walk. -/
namespace Go.Proofs.Ytpnkaggkedepeaa
set_option linter.unusedVariables false
open Go.RowKit Go.Proofs.YtpnkaggkedepeaaW.PrintWords Go.Proofs.YtpnkaggkedepeaaW.PrintLast Go.Proofs.YtpnkaggkedepeaaW.PrintMore Go.Proofs.Ytpnkaggkedepeaa.PTermTells Go.Extern

/-- strings.Compare. -/
def cmpS (a b : ByteArray) : Int := Lib.compareBytes a.data.toList b.data.toList
/-- cmp.Compare of numbers. -/
def cmpI (a b : Int) : Int := if a < b then -1 else if a > b then 1 else 0

theorem cmpI_pure (a b : Int) : cmp_Compare_int.f a b = some (cmpI a b) := by
  simp [cmp_Compare_int.f, cmp_isNaN_int.f, cmpI]
  split
  · rfl
  · split <;> rfl
theorem cmpI64_pure (a b : Int) : cmp_Compare_int64.f a b = some (cmpI a b) := by
  simp [cmp_Compare_int64.f, cmp_isNaN_int64.f, cmpI]
  split
  · rfl
  · split <;> rfl

theorem compareString_any (a b : ByteArray) (w : World) : Calls Try.prog 85 #[.string a, .string b] w fun e w' => e = .returned (.int .i64 (cmpS a b)) ∧ w' = w := by
  have h := @run_callFunc_extern Try.prog 91 _ BytealgCompare.compare Try.func91 (by kernel_rfl) (by kernel_rfl) (by kernel_rfl) (by kernel_rfl)
  have h2 := @Lib.run_compareString Try.prog a b
  go_enter Try.func85, Try.ntmps85
  go_wp2
  go_ret
  exact ⟨rfl, rfl⟩
theorem compare_any (a b : ByteArray) (w : World) : Calls Try.prog 70 #[.string a, .string b] w fun e w' => e = .returned (.int .i64 (cmpS a b)) ∧ w' = w := by
  have h := compareString_any a b
  go_enter Try.func70, Try.ntmps70
  go_wp2_with (first | (go_at_call 85; refine (h _).mono ?_; rintro e w' ⟨rfl, rfl⟩))
  go_ret
  exact ⟨rfl, rfl⟩

theorem compareI_any_nan (x : Int) (w : World) : Calls Try.prog 83 #[.int .i64 x] w fun e w' => e = .returned (.bool false) ∧ w' = w := by
  go_enter Try.func83, Try.ntmps83
  go_wp2
  go_ret
  exact ⟨rfl, rfl⟩
theorem compareI_any (x y : Int) (w : World) : Calls Try.prog 68 #[.int .i64 x, .int .i64 y] w fun e w' => e = .returned (.int .i64 (cmpI x y)) ∧ w' = w := by
  have h := compareI_any_nan
  unfold cmpI
  by_cases h1 : x < y
  · rw [if_pos h1]
    go_enter Try.func68, Try.ntmps68
    go_wp2_with (first | (go_at_call 83; refine (h _ _).mono ?_; rintro e w' ⟨rfl, rfl⟩))
    all_goals
      go_ret
      exact ⟨rfl, rfl⟩
  · rw [if_neg h1]
    by_cases h2 : x > y
    · rw [if_pos h2]
      go_enter Try.func68, Try.ntmps68
      go_wp2_with (first | (go_at_call 83; refine (h _ _).mono ?_; rintro e w' ⟨rfl, rfl⟩))
      all_goals
        go_ret
        exact ⟨rfl, rfl⟩
    · rw [if_neg h2]
      go_enter Try.func68, Try.ntmps68
      go_wp2_with (first | (go_at_call 83; refine (h _ _).mono ?_; rintro e w' ⟨rfl, rfl⟩))
      all_goals
        go_ret
        exact ⟨rfl, rfl⟩

theorem compareL_any_nan (x : Int) (w : World) : Calls Try.prog 84 #[.int .i64 x] w fun e w' => e = .returned (.bool false) ∧ w' = w := by
  go_enter Try.func84, Try.ntmps84
  go_wp2
  go_ret
  exact ⟨rfl, rfl⟩
theorem compareL_any (x y : Int) (w : World) : Calls Try.prog 69 #[.int .i64 x, .int .i64 y] w fun e w' => e = .returned (.int .i64 (cmpI x y)) ∧ w' = w := by
  have h := compareL_any_nan
  unfold cmpI
  by_cases h1 : x < y
  · rw [if_pos h1]
    go_enter Try.func69, Try.ntmps69
    go_wp2_with (first | (go_at_call 84; refine (h _ _).mono ?_; rintro e w' ⟨rfl, rfl⟩))
    all_goals
      go_ret
      exact ⟨rfl, rfl⟩
  · rw [if_neg h1]
    by_cases h2 : x > y
    · rw [if_pos h2]
      go_enter Try.func69, Try.ntmps69
      go_wp2_with (first | (go_at_call 84; refine (h _ _).mono ?_; rintro e w' ⟨rfl, rfl⟩))
      all_goals
        go_ret
        exact ⟨rfl, rfl⟩
    · rw [if_neg h2]
      go_enter Try.func69, Try.ntmps69
      go_wp2_with (first | (go_at_call 84; refine (h _ _).mono ?_; rintro e w' ⟨rfl, rfl⟩))
      all_goals
        go_ret
        exact ⟨rfl, rfl⟩

mutual
/-- The order of right terms. -/
def ordT : S24 → S24 → Int
  | ⟨kd, nm, nt, xs⟩, u =>
    if kd ≠ u.f0 then cmpI kd u.f0
    else if kd = 1 ∨ kd = 2 then cmpI nt u.f2
    else if kd = 3 then cmpS nm u.f1
    else if cmpI xs.length u.f3.length ≠ 0 then cmpI xs.length u.f3.length
    else if cmpS nm u.f1 ≠ 0 then cmpS nm u.f1
    else ordL xs u.f3
def ordL : List S24 → List S24 → Int
  | [], [] => 0
  | [], _ :: _ => -1
  | _ :: _, [] => 1
  | a :: r, b :: s => if ordT a b ≠ 0 then ordT a b else ordL r s
end

theorem ordL_cons (a b : S24) (r s : List S24) : ordL (a :: r) (b :: s) = if ordT a b ≠ 0 then ordT a b else ordL r s := by rw [ordL]

/-- What order is asked of a term that stands ahead. -/
def OrdOK (a : S24) : Prop := ∀ (b : S24) (w : World) (A A' : Option Addr) (c c' : Nat), Kd.C k24 w A a.f3.length a.f3 → a.f3.length ≤ c → Kd.C k24 w A' b.f3.length b.f3 → b.f3.length ≤ c' →
  Calls Try.prog 54 #[.agg #[.int .i64 a.f0, .string a.f1, .int .i64 a.f2, .slice A a.f3.length c], .agg #[.int .i64 b.f0, .string b.f1, .int .i64 b.f2, .slice A' b.f3.length c']] w fun e w' =>
    e = .returned (.int .i64 (ordT a b)) ∧ Below w.heap.size w w'

set_option maxHeartbeats 4000000 in
set_option maxRecDepth 100000 in
theorem compareFunc_any (xs ys : List S24) (h : ∀ a ∈ xs, OrdOK a) (w : World) (A A' : Option Addr) (c c' : Nat) (hC : Kd.C k24 w A xs.length xs) (hc : xs.length ≤ c) (hC' : Kd.C k24 w A' ys.length ys) (hc' : ys.length ≤ c') :
    Calls Try.prog 72 #[.slice A xs.length c, .slice A' ys.length c', .func (.func 54) #[] #[]] w fun e w' => e = .returned (.int .i64 (ordL xs ys)) ∧ Below w.heap.size w w' := by
  have hmx := hC.2.1
  have hmy := hC'.2.1
  go_enter Try.func72, Try.ntmps72
  go_wp2
  go_loopw [13] (fun i wr => ∃ k : Nat, k ≤ xs.length ∧ k ≤ ys.length ∧ i = .int .i64 k ∧ ordL xs ys = ordL (xs.drop k) (ys.drop k) ∧ Below w.heap.size w wr)
    (fun i _ => xs.length - (intOf i).toNat)
  case atStart => exact ⟨0, Nat.zero_le _, Nat.zero_le _, rfl, rfl, Below.refl _ _⟩
  case round =>
    obtain ⟨k, hk, hk', rfl, ho, hb⟩ := hrel
    by_cases hlt : k < xs.length
    · obtain ⟨ad, A3, c3, rfl, y0, y1, y2, y3, l3, g3⟩ := C_rd hC k hlt rfl
      replace y0 := (hb.cell (World.block_lt_of_cell? w _ y0)).trans y0
      replace y1 := (hb.cell (World.block_lt_of_cell? w _ y1)).trans y1
      replace y2 := (hb.cell (World.block_lt_of_cell? w _ y2)).trans y2
      replace y3 := (hb.cell (World.block_lt_of_cell? w _ y3)).trans y3
      rw [List.drop_eq_getElem_cons hlt] at ho
      have hx := h _ (List.getElem_mem hlt)
      generalize xs[k] = a at y0 y1 y2 y3 l3 g3 ho hx
      by_cases hlt' : k < ys.length
      · obtain ⟨ad', A4, c4, rfl, z0, z1, z2, z3, l4, g4⟩ := C_rd hC' k hlt' rfl
        have hb1 := below_alloc hb (.cells #[.int .i64 a.f0, .string a.f1, .int .i64 a.f2, .slice A3 a.f3.length c3] 24)
        replace z0 := (hb1.cell (World.block_lt_of_cell? w _ z0)).trans z0
        replace z1 := (hb1.cell (World.block_lt_of_cell? w _ z1)).trans z1
        replace z2 := (hb1.cell (World.block_lt_of_cell? w _ z2)).trans z2
        replace z3 := (hb1.cell (World.block_lt_of_cell? w _ z3)).trans z3
        rw [List.drop_eq_getElem_cons hlt', ordL_cons] at ho
        generalize ys[k] = b at z0 z1 z2 z3 l4 g4 ho
        have hb2 := below_alloc hb1 (.cells #[.int .i64 b.f0, .string b.f1, .int .i64 b.f2, .slice A4 b.f3.length c4] 24)
        have hcall := hx b _ A3 A4 c3 c4 (Kd.C_below g3 hb2) l3 (Kd.C_below g4 hb2) l4
        generalize hr : ordT a b = r at hcall ho
        clear hx hb1
        have hsz := hb.size
        have hsb := hb2.size
        go_wp2_with fail
        refine hcall.mono ?_
        rintro e w5 ⟨rfl, b5⟩
        have hb5 := below_then hb2 hsb b5
        clear hcall b5 hb2
        by_cases h0 : r = 0
        · rw [if_neg (by omega)] at ho
          have h0' : (r != 0) = false := by simp [h0]
          clear h0
          go_wp2
          go_roundw
          case rel => exact ⟨k + 1, by omega, by omega, by go_num, ho, hb5⟩
          case measure => simp [intOf]; omega
        · rw [if_pos h0] at ho
          have h0' : (r != 0) = true := by simpa using h0
          clear h0
          go_wp2
          go_ret
          exact ⟨by rw [ho]; rfl, hb5⟩
      · have hbx := below_alloc hb (.cells #[.int .i64 a.f0, .string a.f1, .int .i64 a.f2, .slice A3 a.f3.length c3] 24)
        rw [List.drop_of_length_le (show ys.length ≤ k by omega)] at ho
        have ho' : ordL xs ys = 1 := by rw [ho, ordL]
        clear hx ho
        go_wp2
        go_ret
        exact ⟨by rw [ho']; rfl, hbx⟩
    · obtain rfl : k = xs.length := by omega
      rw [List.drop_of_length_le (Nat.le_refl _)] at ho
      by_cases hl : xs.length < ys.length
      · have ho' : ordL xs ys = -1 := by
          rw [ho, List.drop_eq_getElem_cons hl, ordL]
        clear ho
        go_wp2
        go_ret
        exact ⟨by rw [ho']; rfl, hb⟩
      · have ho' : ordL xs ys = 0 := by
          rw [ho, List.drop_of_length_le (by omega), ordL]
        clear ho
        go_wp2
        go_ret
        exact ⟨by rw [ho']; rfl, hb⟩

end Go.Proofs.Ytpnkaggkedepeaa


/- The walk of order; Same, Order. -/
namespace Go.Proofs.Ytpnkaggkedepeaa
set_option linter.unusedVariables false
open Go.RowKit Go.Proofs.YtpnkaggkedepeaaW.PrintWords Go.Proofs.YtpnkaggkedepeaaW.PrintLast Go.Proofs.YtpnkaggkedepeaaW.PrintMore Go.Proofs.Ytpnkaggkedepeaa.PTermTells Go.Extern

theorem or_pure (x y : Int) : cmp_Or_int.f 3 [x, y] = some (if x ≠ 0 then x else y) := by
  unfold cmp_Or_int.f
  have hw0 : wrap64 ((0 : Int) + 1) = 1 := by unfold wrap64; omega
  have hw1 : wrap64 ((1 : Int) + 1) = 2 := by unfold wrap64; omega
  have r0 : rd [x, y] 0 = x := by simp [rd]
  have r1 : rd [x, y] 1 = y := by simp [rd]
  simp only [cmp_Or_int.l0, List.length_cons, List.length_nil, r0, r1, hw0, hw1]
  by_cases hx : x = 0
  · by_cases hy : y = 0
    · subst hx hy; simp
    · subst hx; simp [hy]
  · simp [hx]

theorem C_ints2 {W : World} {g : Nat} {x y : Int} (hb : W.heap[g]? = some (.cells #[.int .i64 x, .int .i64 y] 3 (0, 0))) : Kd.C (Kd.int .i64) W (some ⟨g, 0, none⟩) 2 [x, y] := by
  refine ⟨rfl, by decide, fun _ => ⟨_, rfl, fun j p hj => ?_⟩⟩
  match j with
  | 0 =>
    obtain rfl : x = p := by simpa using hj
    refine ⟨[.int .i64 x], rfl, rfl, fun i v hu => ?_⟩
    have := blk_cell hb i
    have hs : (Kd.int .i64).sz = 1 := rfl
    rw [hs, show (⟨g, 0, none⟩ : Addr).add (0 * 1 + i) = ⟨g, i, none⟩ by simp [Addr.add] <;> omega, this]
    match i with
    | 0 => simpa using hu
    | i + 1 => simp at hu
  | 1 =>
    obtain rfl : y = p := by simpa using hj
    refine ⟨[.int .i64 y], rfl, rfl, fun i v hu => ?_⟩
    have := blk_cell hb (1 + i)
    have hs : (Kd.int .i64).sz = 1 := rfl
    rw [hs, show (⟨g, 0, none⟩ : Addr).add (1 * 1 + i) = ⟨g, 1 + i, none⟩ by simp [Addr.add] <;> omega, this]
    match i with
    | 0 => simpa using hu
    | i + 1 => simp at hu
  | j + 2 => simp at hj

set_option maxHeartbeats 1000000 in
set_option maxRecDepth 100000 in
theorem order_any : ∀ (n : Nat) (a : S24), SizeOf.sizeOf a = n → OrdOK a := by
  intro n
  induction n using Nat.strongRecOn with
  | _ n ih =>
  intro a hn b w A A' c c' hC hc hC' hc'
  obtain ⟨kd, nm, nt, xs⟩ := a
  obtain ⟨kd', nm', nt', ys⟩ := b
  simp only at hC hc hC' hc' ⊢
  have hmx := hC.2.1
  have hmy := hC'.2.1
  have cI := fun (x y : Int) W => cmp_Compare_int.calls x y _ W (cmpI_pure x y)
  have cL := fun (x y : Int) W => cmp_Compare_int64.calls x y _ W (cmpI64_pure x y)
  have cS := fun (x y : ByteArray) W => compare_any x y W
  have hB : Below w.heap.size w ((w.alloc (.cells #[.int .i64 kd, .string nm, .int .i64 nt, .slice A xs.length c] 24)).alloc (.cells #[.int .i64 kd', .string nm', .int .i64 nt', .slice A' ys.length c'] 24)) := below_alloc (below_alloc (Below.refl _ _) _) _
  unfold ordT
  by_cases k1 : kd = kd'
  · subst k1
    simp only [ne_eq, not_true, if_false]
    by_cases k2 : kd = 1 ∨ kd = 2
    · rw [if_pos k2]
      clear ih
      rcases k2 with rfl | rfl
      · skip
        go_enter Try.func54, Try.ntmps54
        go_wp2_with fail
        refine (cL _ _ _).mono ?_
        rintro e w1 ⟨rfl, nd, rfl⟩
        go_wp2
        go_ret
        exact ⟨rfl, ⟨hB.os, hB.tape, hB.output, hB.size, hB.block⟩⟩
      · skip
        go_enter Try.func54, Try.ntmps54
        go_wp2_with fail
        refine (cL _ _ _).mono ?_
        rintro e w1 ⟨rfl, nd, rfl⟩
        go_wp2
        go_ret
        exact ⟨rfl, ⟨hB.os, hB.tape, hB.output, hB.size, hB.block⟩⟩
    · rw [if_neg k2]
      have k3 : (kd == 1) = false := by simp; omega
      have k4 : (kd == 2) = false := by simp; omega
      by_cases k5 : kd = 3
      · rw [if_pos k5]
        clear ih
        subst k5
        go_enter Try.func54, Try.ntmps54
        go_wp2_with fail
        refine (cS _ _ _).mono ?_
        rintro e w1 ⟨rfl, rfl⟩
        go_wp2
        go_ret
        exact ⟨rfl, hB⟩
      · rw [if_neg k5]
        have k5' : (kd == 3) = false := by simpa using k5
        have hcf := fun W (hW : Below w.heap.size w W) => compareFunc_any xs ys (fun a ha => ih _ (by rw [← hn]; exact sz_mem (t := ⟨kd, nm, nt, xs⟩) ha) a rfl) W A A' c c' (Kd.C_below hC hW) hc (Kd.C_below hC' hW) hc'
        clear ih hn
        obtain ⟨fin, hfin⟩ : ∃ f, f = (if cmpI (xs.length : Int) (ys.length : Int) ≠ 0 then cmpI (xs.length : Int) (ys.length : Int) else if cmpS nm nm' ≠ 0 then cmpS nm nm' else ordL xs ys) := ⟨_, rfl⟩
        simp only [ne_eq] at hfin
        rw [← hfin]
        have HF := Lib.hid hfin
        clear hfin
        go_enter Try.func54, Try.ntmps54
        go_wp2_with fail
        have x1 : ((w.alloc (.cells #[.int .i64 kd, .string nm, .int .i64 nt, .slice A xs.length c] 24)).alloc (.cells #[.int .i64 kd, .string nm', .int .i64 nt', .slice A' ys.length c'] 24)).cell? ⟨w.heap.size, 1, none⟩ = some (.string nm) := by simp
        have x3 : ((w.alloc (.cells #[.int .i64 kd, .string nm, .int .i64 nt, .slice A xs.length c] 24)).alloc (.cells #[.int .i64 kd, .string nm', .int .i64 nt', .slice A' ys.length c'] 24)).cell? ⟨w.heap.size, 3, none⟩ = some (.slice A xs.length c) := by simp
        have y1 : ((w.alloc (.cells #[.int .i64 kd, .string nm, .int .i64 nt, .slice A xs.length c] 24)).alloc (.cells #[.int .i64 kd, .string nm', .int .i64 nt', .slice A' ys.length c'] 24)).cell? ⟨w.heap.size + 1, 1, none⟩ = some (.string nm') := by simp
        have y3 : ((w.alloc (.cells #[.int .i64 kd, .string nm, .int .i64 nt, .slice A xs.length c] 24)).alloc (.cells #[.int .i64 kd, .string nm', .int .i64 nt', .slice A' ys.length c'] 24)).cell? ⟨w.heap.size + 1, 3, none⟩ = some (.slice A' ys.length c') := by simp
        have hsz : ((w.alloc (.cells #[.int .i64 kd, .string nm, .int .i64 nt, .slice A xs.length c] 24)).alloc (.cells #[.int .i64 kd, .string nm', .int .i64 nt', .slice A' ys.length c'] 24)).heap.size = w.heap.size + 2 := by simp
        generalize ((w.alloc (.cells #[.int .i64 kd, .string nm, .int .i64 nt, .slice A xs.length c] 24)).alloc (.cells #[.int .i64 kd, .string nm', .int .i64 nt', .slice A' ys.length c'] 24)) = W at hB x1 x3 y1 y3 hsz ⊢
        refine wp_region_still_tail 12 (by kernel_rfl) (by kernel_rfl) ?_
        simp only [List.take_succ_cons, List.take_zero, List.drop_succ_cons, List.drop_zero]
        repeat still_step
        still_call (compareI_any _ _ _)
        repeat still_step
        still_call (compare_any _ _ _)
        repeat still_step
        try refine wpStill_nil ?_
        change wpList _ _ _ _ _ W.drew
        have hB2 : Below w.heap.size w W.drew := ⟨hB.os, hB.tape, hB.output, hB.size, hB.block⟩
        replace x1 : W.drew.cell? ⟨w.heap.size, 1, none⟩ = some (.string nm) := x1
        replace x3 : W.drew.cell? ⟨w.heap.size, 3, none⟩ = some (.slice A xs.length c) := x3
        replace y3 : W.drew.cell? ⟨w.heap.size + 1, 3, none⟩ = some (.slice A' ys.length c') := y3
        replace hsz : W.drew.heap.size = w.heap.size + 2 := hsz
        clear hB y1 x1
        generalize W.drew = W2 at hB2 x3 y3 hsz ⊢
        have HF := HF.out
        generalize cmpI (xs.length : Int) (ys.length : Int) = p at HF ⊢
        generalize cmpS nm nm' = q at HF ⊢
        have HF := Lib.hid HF
        have hor : Calls Try.prog 71 #[.slice (some ⟨W2.heap.size, 0, none⟩) 2 2] (W2.alloc (.cells #[.int .i64 p, .int .i64 q] 3)) _ := cmp_Or_int.calls 3 (some ⟨W2.heap.size, 0, none⟩) 2 [p, q] _ (W2.alloc (.cells #[.int .i64 p, .int .i64 q] 3)) (C_ints2 (blk_new _ _)) (Nat.le_refl _) (or_pure p q)
        generalize hr : (if p ≠ 0 then p else q) = r at hor
        have hB3 := below_alloc hB2 (.cells #[.int .i64 p, .int .i64 q] 3)
        have xs3 : (W2.alloc (.cells #[.int .i64 p, .int .i64 q] 3)).cell? ⟨w.heap.size, 3, none⟩ = some (.slice A xs.length c) := (World.cell?_alloc_lt _ _ _ (by show w.heap.size < _; omega)).trans x3
        have ys3 : (W2.alloc (.cells #[.int .i64 p, .int .i64 q] 3)).cell? ⟨w.heap.size + 1, 3, none⟩ = some (.slice A' ys.length c') := (World.cell?_alloc_lt _ _ _ (by show w.heap.size + 1 < _; omega)).trans y3
        clear x3 y3 cI cL cS hsz
        go_wp2_with fail
        refine hor.mono ?_
        rintro e w5 ⟨rfl, nd, rfl⟩
        clear hor hB2
        generalize hW3 : (W2.alloc (.cells #[.int .i64 p, .int .i64 q] 3)) = W3 at hB3 xs3 ys3 ⊢
        have hB4 : Below w.heap.size w (W3.drewN nd) := ⟨hB3.os, hB3.tape, hB3.output, hB3.size, hB3.block⟩
        replace xs3 : (W3.drewN nd).cell? ⟨w.heap.size, 3, none⟩ = some (.slice A xs.length c) := xs3
        replace ys3 : (W3.drewN nd).cell? ⟨w.heap.size + 1, 3, none⟩ = some (.slice A' ys.length c') := ys3
        clear hB3 hW3
        generalize W3.drewN nd = W4 at hB4 xs3 ys3 ⊢
        have hc4 := hcf W4 hB4
        clear hcf
        by_cases h0 : r = 0
        · have hv : fin = ordL xs ys := by
            rw [HF.out]
            by_cases hp : p = 0
            · rw [if_neg (by simp [hp])] at hr ⊢
              rw [if_neg (by simp; omega)]
            · rw [if_pos hp] at hr; omega
          subst h0
          clear hr
          go_wp2_with fail
          refine hc4.mono ?_
          rintro e w6 ⟨rfl, b6⟩
          have hb6 := below_then hB4 hB4.size b6
          go_wp2
          go_ret
          exact ⟨by rw [hv]; rfl, hb6⟩
        · have hv : fin = r := by
            rw [HF.out]
            by_cases hp : p = 0
            · rw [if_neg (by simp [hp])] at hr ⊢
              rw [if_pos (by omega), hr]
            · rw [if_pos hp] at hr ⊢; exact hr
          have h0' : (r != 0) = true := by simpa using h0
          clear hr h0
          go_wp2
          go_ret
          exact ⟨by rw [hv]; rfl, hB4⟩
  · simp only [ne_eq, k1, not_false_eq_true, if_true]
    have k1' : (kd != kd') = true := by simpa using k1
    clear ih
    go_enter Try.func54, Try.ntmps54
    go_wp2_with fail
    refine (cI _ _ _).mono ?_
    rintro e w1 ⟨rfl, nd, rfl⟩
    go_wp2
    go_ret
    exact ⟨rfl, ⟨hB.os, hB.tape, hB.output, hB.size, hB.block⟩⟩

end Go.Proofs.Ytpnkaggkedepeaa


/- Same, Order of terms. -/
namespace Go.Proofs.Ytpnkaggkedepeaa
set_option linter.unusedVariables false
open Go.RowKit Go.Proofs.YtpnkaggkedepeaaW.PrintWords Go.Proofs.YtpnkaggkedepeaaW.PrintLast Go.Proofs.YtpnkaggkedepeaaW.PrintMore Go.Proofs.Ytpnkaggkedepeaa.PTermTells Go.Extern

theorem order_ok (a : S24) : OrdOK a := order_any _ a rfl

theorem right_two (a b : S24) (w : World) (A A' : Option Addr) (c c' : Nat) (hC : Kd.C k24 w A a.f3.length a.f3) (hc : a.f3.length ≤ c) (hC' : Kd.C k24 w A' b.f3.length b.f3) (hc' : b.f3.length ≤ c') :
    Calls Try.prog 51 #[.slice (some ⟨w.heap.size + 1 + 1, 0, none⟩) 2 2] (((w.alloc (.cells #[.int .i64 a.f0, .string a.f1, .int .i64 a.f2, .slice A a.f3.length c] 24)).alloc (.cells #[.int .i64 b.f0, .string b.f1, .int .i64 b.f2, .slice A' b.f3.length c'] 24)).alloc (.cells #[.int .i64 a.f0, .string a.f1, .int .i64 a.f2, .slice A a.f3.length c, .int .i64 b.f0, .string b.f1, .int .i64 b.f2, .slice A' b.f3.length c'] 24)) fun e w' => e = .returned (.bool (okT a && okT b)) ∧ Below w.heap.size w w' ∧
      w'.cell? ⟨w.heap.size, 0, none⟩ = some (.int .i64 a.f0) ∧ w'.cell? ⟨w.heap.size, 1, none⟩ = some (.string a.f1) ∧ w'.cell? ⟨w.heap.size, 2, none⟩ = some (.int .i64 a.f2) ∧ w'.cell? ⟨w.heap.size, 3, none⟩ = some (.slice A a.f3.length c) ∧
      w'.cell? ⟨w.heap.size + 1, 0, none⟩ = some (.int .i64 b.f0) ∧ w'.cell? ⟨w.heap.size + 1, 1, none⟩ = some (.string b.f1) ∧ w'.cell? ⟨w.heap.size + 1, 2, none⟩ = some (.int .i64 b.f2) ∧ w'.cell? ⟨w.heap.size + 1, 3, none⟩ = some (.slice A' b.f3.length c') := by
  have hb := blk_new ((w.alloc (.cells #[.int .i64 a.f0, .string a.f1, .int .i64 a.f2, .slice A a.f3.length c] 24)).alloc (.cells #[.int .i64 b.f0, .string b.f1, .int .i64 b.f2, .slice A' b.f3.length c'] 24)) (.cells #[.int .i64 a.f0, .string a.f1, .int .i64 a.f2, .slice A a.f3.length c, .int .i64 b.f0, .string b.f1, .int .i64 b.f2, .slice A' b.f3.length c'] 24)
  rw [show ((w.alloc (.cells #[.int .i64 a.f0, .string a.f1, .int .i64 a.f2, .slice A a.f3.length c] 24)).alloc (.cells #[.int .i64 b.f0, .string b.f1, .int .i64 b.f2, .slice A' b.f3.length c'] 24)).heap.size = w.heap.size + 1 + 1 by simp] at hb
  have h := right_any [a, b] (((w.alloc (.cells #[.int .i64 a.f0, .string a.f1, .int .i64 a.f2, .slice A a.f3.length c] 24)).alloc (.cells #[.int .i64 b.f0, .string b.f1, .int .i64 b.f2, .slice A' b.f3.length c'] 24)).alloc (.cells #[.int .i64 a.f0, .string a.f1, .int .i64 a.f2, .slice A a.f3.length c, .int .i64 b.f0, .string b.f1, .int .i64 b.f2, .slice A' b.f3.length c'] 24)) (some ⟨w.heap.size + 1 + 1, 0, none⟩) 2 (C_two hb hc (Kd.C_alloc (Kd.C_alloc (Kd.C_alloc hC _) _) _) hc' (Kd.C_alloc (Kd.C_alloc (Kd.C_alloc hC' _) _) _)) (by simp)
  refine h.mono fun e w' ⟨he, hw⟩ => ⟨by rw [he]; simp, below_then (below_alloc (below_alloc (below_alloc (Below.refl _ _) _) _) _) (by simp; omega) hw, ?_⟩
  have k1 := blk_below (blk_alloc (blk_alloc (blk_new w (.cells #[.int .i64 a.f0, .string a.f1, .int .i64 a.f2, .slice A a.f3.length c] 24)) (.cells #[.int .i64 b.f0, .string b.f1, .int .i64 b.f2, .slice A' b.f3.length c'] 24)) (.cells #[.int .i64 a.f0, .string a.f1, .int .i64 a.f2, .slice A a.f3.length c, .int .i64 b.f0, .string b.f1, .int .i64 b.f2, .slice A' b.f3.length c'] 24)) hw
  have k2 := blk_new (w.alloc (.cells #[.int .i64 a.f0, .string a.f1, .int .i64 a.f2, .slice A a.f3.length c] 24)) (.cells #[.int .i64 b.f0, .string b.f1, .int .i64 b.f2, .slice A' b.f3.length c'] 24)
  rw [show (w.alloc (.cells #[.int .i64 a.f0, .string a.f1, .int .i64 a.f2, .slice A a.f3.length c] 24)).heap.size = w.heap.size + 1 by simp] at k2
  have k2 := blk_below (blk_alloc k2 (.cells #[.int .i64 a.f0, .string a.f1, .int .i64 a.f2, .slice A a.f3.length c, .int .i64 b.f0, .string b.f1, .int .i64 b.f2, .slice A' b.f3.length c'] 24)) hw
  exact ⟨blk_cell k1 0, blk_cell k1 1, blk_cell k1 2, blk_cell k1 3, blk_cell k2 0, blk_cell k2 1, blk_cell k2 2, blk_cell k2 3⟩

set_option maxHeartbeats 1000000 in
set_option maxRecDepth 100000 in
theorem same_any (a b : S24) (w : World) (A A' : Option Addr) (c c' : Nat) (hC : Kd.C k24 w A a.f3.length a.f3) (hc : a.f3.length ≤ c) (hC' : Kd.C k24 w A' b.f3.length b.f3) (hc' : b.f3.length ≤ c') :
    Calls Try.prog 19 #[.agg #[.int .i64 a.f0, .string a.f1, .int .i64 a.f2, .slice A a.f3.length c], .agg #[.int .i64 b.f0, .string b.f1, .int .i64 b.f2, .slice A' b.f3.length c']] w fun e w' =>
      e = .returned (.bool (okT a && okT b && decide (ordT a b = 0))) ∧ Below w.heap.size w w' := by
  have hr := right_two a b w A A' c c' hC hc hC' hc'
  obtain ⟨o, hoo⟩ : ∃ o, o = ordT a b := ⟨_, rfl⟩
  rw [← hoo]
  have HO := Lib.hid hoo
  clear hoo
  generalize (okT a && okT b) = r at hr ⊢
  go_enter Try.func19, Try.ntmps19
  go_wp2_with fail
  refine hr.mono ?_
  rintro e w1 ⟨rfl, h1, x0, x1, x2, x3, y0, y1, y2, y3⟩
  clear hr
  cases r with
  | false =>
    go_wp2
    go_ret
    exact ⟨rfl, h1⟩
  | true =>
    have ho := order_ok a b w1 A A' c c' (Kd.C_below hC h1) hc (Kd.C_below hC' h1) hc'
    rw [← HO.out] at ho
    go_wp2_with fail
    refine ho.mono ?_
    rintro e w2 ⟨rfl, h2⟩
    have h3 := below_then h1 h1.size h2
    by_cases h0 : o = 0
    · subst h0
      clear ho
      go_wp2
      go_ret
      exact ⟨rfl, h3⟩
    · have h0' : (o == 0) = false := by simpa using h0
      have h1' := decide_eq_false h0
      clear ho h0
      go_wp2
      go_ret
      exact ⟨by rw [h1']; rfl, h3⟩

set_option maxHeartbeats 1000000 in
set_option maxRecDepth 100000 in
theorem order_of (a b : S24) (w : World) (A A' : Option Addr) (c c' : Nat) (hC : Kd.C k24 w A a.f3.length a.f3) (hc : a.f3.length ≤ c) (hC' : Kd.C k24 w A' b.f3.length b.f3) (hc' : b.f3.length ≤ c') :
    Calls Try.prog 20 #[.agg #[.int .i64 a.f0, .string a.f1, .int .i64 a.f2, .slice A a.f3.length c], .agg #[.int .i64 b.f0, .string b.f1, .int .i64 b.f2, .slice A' b.f3.length c']] w fun e w' =>
      e = .returned (.int .i64 (if (okT a && okT b) = true then ordT a b else 0)) ∧ Below w.heap.size w w' := by
  have hr := right_two a b w A A' c c' hC hc hC' hc'
  generalize (okT a && okT b) = r at hr ⊢
  go_enter Try.func20, Try.ntmps20
  go_wp2_with fail
  refine hr.mono ?_
  rintro e w1 ⟨rfl, h1, x0, x1, x2, x3, y0, y1, y2, y3⟩
  clear hr
  cases r with
  | false =>
    go_wp2
    go_ret
    exact ⟨rfl, h1⟩
  | true =>
    have ho := order_ok a b w1 A A' c c' (Kd.C_below hC h1) hc (Kd.C_below hC' h1) hc'
    go_wp2_with fail
    refine ho.mono ?_
    rintro e w2 ⟨rfl, h2⟩
    have h3 := below_then h1 h1.size h2
    go_wp2
    go_ret
    exact ⟨rfl, h3⟩

end Go.Proofs.Ytpnkaggkedepeaa
