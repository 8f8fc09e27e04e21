/- The walk of back: a range over an iterator. -/
import Derived.Test.YtjhhacighfpdbaaHpS
import Derived.RangeFuncNested
import Derived.RangeFuncBound
import Derived.RangeFuncCalls
import Derived.RangeFuncLeaves
import Derived.RangeFuncBox
import Derived.Shelf.Abstract
import Derived.Shelf.RegionOpen
import Derived.RegionIn
import Derived.StillTailTactics
import Derived.WalkKit
import Derived.OwnWalkIn
import Derived.TacticsInMore
import Derived.LoopNIn
import Derived.LoopIn
namespace Go.Proofs.Ytjhhacighfpdbaa
set_option linter.unusedVariables false
open Go.RowKit Go.Shelf Go.Proofs.YtjhhacighfpdbaaW.PrintWords Go.Proofs.YtjhhacighfpdbaaW.PrintLast Go.Proofs.YtjhhacighfpdbaaW.PrintMore Go.Proofs.Ytjhhacighfpdbaa.PHeapShares
attribute [local go_sem] Oper.semAt_some

def upto {α : Type} (f : Nat → α) (k : Nat) : List α := (List.range k).map f
theorem upto_succ {α : Type} (f : Nat → α) (k : Nat) : upto f (k + 1) = upto f k ++ [f k] := by simp [upto, List.range_succ]
theorem upto_length {α : Type} (f : Nat → α) (k : Nat) : (upto f k).length = k := by simp [upto]

/-- A note with its place. -/
abbrev NtI (L : Nat) := { p : Nat × Nt // p.2.1 < L }
def encI {L : Nat} (x : NtI L) : Array Value := #[.int .i64 x.1.1, .agg #[.int .i64 x.1.2.1, .int .i64 x.1.2.2.kd, .string x.1.2.2.nm, .int .i64 x.1.2.2.n, .int .i64 x.1.2.2.a, .int .i64 x.1.2.2.ar]]
/-- Blocks that stay. -/
def KpS (K : Nat → Prop) (W W' : World) : Prop := ∀ k, K k → W'.heap[k]? = W.heap[k]?

/-- A note at its place. -/
structure SeenN (W : World) (g o : Nat) (p : Nt) : Prop where
  d0 : W.cell? ⟨g, o, none⟩ = some (.int .i64 p.1)
  d1 : W.cell? ⟨g, o + 1, none⟩ = some (.int .i64 p.2.kd)
  d2 : W.cell? ⟨g, o + 2, none⟩ = some (.string p.2.nm)
  d3 : W.cell? ⟨g, o + 3, none⟩ = some (.int .i64 p.2.n)
  d4 : W.cell? ⟨g, o + 4, none⟩ = some (.int .i64 p.2.a)
  d5 : W.cell? ⟨g, o + 5, none⟩ = some (.int .i64 p.2.ar)
theorem cell_same {W W' : World} {g o : Nat} {v : Value} (h : W'.heap[g]? = W.heap[g]?) (hc : W.cell? ⟨g, o, none⟩ = some v) : W'.cell? ⟨g, o, none⟩ = some v := by
  rw [← hc]; simp only [World.cell?, h]
theorem SeenN.same {W W' : World} {g o : Nat} {p : Nt} (h : SeenN W g o p) (hb : W'.heap[g]? = W.heap[g]?) : SeenN W' g o p :=
  ⟨cell_same hb h.d0, cell_same hb h.d1, cell_same hb h.d2, cell_same hb h.d3, cell_same hb h.d4, cell_same hb h.d5⟩

set_option maxRecDepth 100000 in
set_option maxHeartbeats 2000000 in
theorem back1_in (F : Fence) (n : Nat) (h7 : F.fn 70) (hro : F.round = none) (hn : 1 ≤ n) (l bs L : Nat) (A : Option Addr) (len cap : Nat) (f : Nat → NtI L) (K : Nat → Prop) (hKb : K bs) (hlen : len ≤ 65536)
    (J Jx : List (NtI L) → World → Prop)
    (hY : ∀ pre x W, J pre W → pre.length < len → YieldAt F (n - 1) Try.prog l (encI x) W fun e W' =>
      (e = .returned (.bool true) ∧ J (pre ++ [x]) W' ∧ KpS K W W') ∨ (e = .returned (.bool false) ∧ Jx (pre ++ [x]) W'))
    (W : World) (hBs : W.cell? ⟨bs, 0, none⟩ = some (.slice A len cap)) (hc : ∀ j, j < len → ∃ g o, A = some ⟨g, o, none⟩ ∧ K g ∧ (f j).1.1 = j ∧ SeenN W g (o + j * 6) (f j).1.2) (h0 : J [] W) :
    CallsIn F n Try.prog 70 #[.func (.yield l) #[] #[], .pointer (some ⟨bs, 0, none⟩)] W fun e W' => (∃ v, e = .returned v) ∧
      ((∃ ys, ys = upto (fun i => f (len - 1 - i)) len ∧ J ys W') ∨ (∃ pre, True ∧ Jx pre W')) := by
  refine callsIn_of_wp Try.func70 rfl h7 ?_ hro
  simp only [Try.ntmps70, List.size_toArray, List.length_cons, List.length_nil, Nat.reduceAdd, Nat.reduceSub, Array.replicate_succ, Array.replicate_zero, List.push_toArray, List.append_toArray, List.nil_append, List.cons_append]
  gi_wp2
  gi_loopw [3] (fun i wr => ∃ k : Nat, k ≤ len ∧ i = .int .i64 ((len : Int) - 1 - k) ∧ J (upto (fun i => f (len - 1 - i)) k) wr ∧ KpS K W wr)
    (fun i _ => (intOf i + 1).toNat)
  case atStart => exact ⟨0, Nat.zero_le _, by simp, h0, fun k _ => rfl⟩
  case round =>
    obtain ⟨k, hk, rfl, hJs, hnx⟩ := hrel
    by_cases hlt : k < len
    · obtain ⟨g, o, rfl, hKg, hfj, hs⟩ := hc (len - 1 - k) (by omega)
      have hs' := hs.same (hnx g hKg)
      have hb' := cell_same (hnx bs hKb) hBs
      obtain ⟨fn, tmps, assign, body, hy, hR⟩ := hY _ (f (len - 1 - k)) wr hJs (by rw [upto_length]; exact hlt)
      have ez : ((len : Int) - 1 - (k : Int)) = ((len - 1 - k : Nat) : Int) := by omega
      rw [ez]
      have ei : encI (f (len - 1 - k)) = #[.int .i64 ((len - 1 - k : Nat) : Int), .agg #[.int .i64 (f (len - 1 - k)).1.2.1, .int .i64 (f (len - 1 - k)).1.2.2.kd, .string (f (len - 1 - k)).1.2.2.nm, .int .i64 (f (len - 1 - k)).1.2.2.n, .int .i64 (f (len - 1 - k)).1.2.2.a, .int .i64 (f (len - 1 - k)).1.2.2.ar]] := by unfold encI; rw [hfj]
      rw [ei] at hy
      have hup := upto_succ (fun i => f (len - 1 - i)) k
      obtain ⟨q, hq⟩ : ∃ q, len - 1 - k = q := ⟨_, rfl⟩
      have hql : q < len := by omega
      have hqz : q ≤ 65536 := by omega
      have Hup := Lib.hid hup
      have Hq := Lib.hid hq
      clear hfj ei ez hc hup
      rw [hq] at hy hs' hR ⊢
      have d0 := hs'.d0
      have d1 := hs'.d1
      have d2 := hs'.d2
      have d3 := hs'.d3
      have d4 := hs'.d4
      have d5 := hs'.d5
      clear hq hs
      gi_wp2
      refine hR.mono ?_
      rintro e W3 (⟨rfl, hJ3, hk3⟩ | ⟨rfl, hJx3⟩)
      · gi_wp2
        go_roundw
        case rel => exact ⟨k + 1, by omega, by (have := Hq.out; congr 1; omega), by rw [Hup.out]; have h := Hq.out; subst h; exact hJ3, fun j hj => (hk3 j hj).trans (hnx j hj)⟩
        case measure => simp [intOf]
      · gi_wp2
        refine bodyPost_ret (results_none rfl _ _ _) rfl ?_
        exact ⟨⟨_, rfl⟩, .inr ⟨_, trivial, hJx3⟩⟩
    · obtain rfl : k = len := by omega
      have e1 : decide ((0 : Int) ≤ (k : Int) - 1 - k) = false := decide_eq_false (by omega)
      gi_wp2
      go_end0
      exact ⟨⟨_, rfl⟩, .inl ⟨_, rfl, hJs⟩⟩

theorem back1_stops (F : Fence) (n : Nat) (h7 : F.fn 70) (hro : F.round = none) (hn : 1 ≤ n) (bs L : Nat) (A : Option Addr) (len cap : Nat) (f : Nat → NtI L) (K : Nat → Prop) (hKb : K bs) (hlen : len ≤ 65536) (w : World) (hbs : bs < w.heap.size) (hKl : ∀ k, K k → k < w.heap.size)
    (hBs : w.cell? ⟨bs, 0, none⟩ = some (.slice A len cap)) (hc : ∀ j, j < len → ∃ g o, A = some ⟨g, o, none⟩ ∧ K g ∧ (f j).1.1 = j ∧ SeenN w g (o + j * 6) (f j).1.2) :
    SeqStopsK F n Try.prog 70 #[.pointer (some ⟨bs, 0, none⟩)] encI (KpS K) (fun ys => ys = upto (fun i => f (len - 1 - i)) len) (fun _ => True) len w := fun l J Jx W hW _ _ hY h0 => by
  refine back1_in F n h7 hro hn l bs L A len cap f K hKb hlen J Jx hY W ((hW.cell (p := ⟨bs, 0, none⟩) hbs).trans hBs) (fun j hj => ?_) h0
  obtain ⟨g, o, e1, e2, e3, e4⟩ := hc j hj
  exact ⟨g, o, e1, e2, e3, e4.same (hW.block g (hKl g e2))⟩

set_option maxHeartbeats 1000000 in
theorem backward_in (F : Fence) (n : Nat) (h5 : F.fn 56) (hro : F.round = none) (a : Option Addr) (len cap : Nat) (w : World) :
    CallsIn F n Try.prog 56 #[.slice a len cap] w fun e w' => e = .returned (.func (.func 70) #[] #[.pointer (some ⟨w.heap.size, 0, none⟩)]) ∧ w' = w.alloc (.cells #[.slice a len cap] 55) := by
  refine callsIn_of_wp Try.func56 rfl h5 ?_ hro
  simp only [Try.ntmps56, List.size_toArray, List.length_cons, List.length_nil, Nat.reduceAdd, Nat.reduceSub, Array.replicate_succ, Array.replicate_zero, List.push_toArray, List.append_toArray, List.nil_append, List.cons_append]
  gi_wp2
  go_ret
  exact ⟨rfl, rfl⟩

/-- What back does. -/
def BackPost (w : World) (hb : Nat) (S : Nat → Prop) (H : Hp) (m : Nat) (e : Ending) (w' : World) : Prop :=
  e = .returned (.tuple #[]) ∧ HpTo w hb S { H with C := backC H.C (H.N.drop m), N := H.N.take m } w'

/-- A note is taken back. -/
def putN {L : Nat} (C : List Cl) (x : NtI L) : List Cl := C.set x.1.2.1 x.1.2.2
theorem putN_len {L : Nat} : ∀ (xs : List (NtI L)) (C : List Cl), (xs.foldl putN C).length = C.length
  | [], C => rfl
  | x :: r, C => by rw [List.foldl_cons, putN_len r]; simp [putN]
theorem upto_back {L : Nat} (f : Nat → NtI L) (D : List Nt) (C : List Cl) (hf : ∀ j (hj : j < D.length), (f j).1.2 = D[j]) : (upto (fun i => f (D.length - 1 - i)) D.length).foldl putN C = backC C D := by
  have h : (upto (fun i => f (D.length - 1 - i)) D.length).map (fun x => x.1.2) = D.reverse := by
    refine List.ext_getElem (by simp [upto]) fun i h1 h2 => ?_
    simp only [upto, List.map_map, List.getElem_map, List.getElem_range, Function.comp, List.getElem_reverse]
    exact hf _ _
  have h2 : ∀ (xs : List (NtI L)) (C : List Cl), xs.foldl putN C = (xs.map (fun x => x.1.2)).foldl (fun C n => C.set n.1 n.2) C := fun xs => by
    induction xs with
    | nil => intro C; rfl
    | cons a r ih => intro C; simp only [List.foldl_cons, List.map_cons, ih]; rfl
  rw [h2, h, List.foldl_reverse]
  rfl

theorem set5_far (w : World) (g o : Nat) (a b c d e : Value) (k : Nat) (hk : k ≠ g) : (((((w.setCell ⟨g, o, none⟩ a).setCell ⟨g, o + 1, none⟩ b).setCell ⟨g, o + 2, none⟩ c).setCell ⟨g, o + 3, none⟩ d).setCell ⟨g, o + 4, none⟩ e).heap[k]? = w.heap[k]? := by
  have h1 : ∀ (w : World) (o : Nat) (u : Value), (w.setCell ⟨g, o, none⟩ u).heap[k]? = w.heap[k]? := fun w o u => Below.heap_setCell w ⟨g, o, none⟩ u k hk
  rw [h1, h1, h1, h1, h1]
theorem set5_keeps (w : World) (g o : Nat) (a b c d e : Value) : KeepsOthers w (((((w.setCell ⟨g, o, none⟩ a).setCell ⟨g, o + 1, none⟩ b).setCell ⟨g, o + 2, none⟩ c).setCell ⟨g, o + 3, none⟩ d).setCell ⟨g, o + 4, none⟩ e) :=
  ((((KeepsOthers.setCell _ _ _).trans (KeepsOthers.setCell _ _ _)).trans (KeepsOthers.setCell _ _ _)).trans (KeepsOthers.setCell _ _ _)).trans (KeepsOthers.setCell _ _ _)

theorem Fs.drewF {S : Nat → Prop} {w w1 : World} (h : Fs S w w1) : Fs S w w1.drew := ⟨h.os, h.tape, h.output, h.size, h.block⟩
theorem HpV.drewF {S : Nat → Prop} {w : World} {hb : Nat} {H : Hp} {vc vn vm : Value} (h : HpV w hb S H vc vn vm) : HpV w.drew hb S H vc vn vm := h.step (fun _ _ => rfl) (Nat.le_refl _)

theorem HpV.neCbox {S : Nat → Prop} {w : World} {hb g cap : Nat} {H : Hp} {vn vm : Value} {cs : Array Value} {t : TypeId} (h : HpV w hb S H (.slice (some ⟨g, 0, none⟩) H.C.length cap) vn vm) (hg : w.heap[g]? = some (.cells cs t (0, 0))) (hne : 66 ≠ t) : False := own_ne h.rc hg hne rfl
theorem drew_heap (w : World) : w.drew.heap = w.heap := rfl
theorem body_close {S : Nat → Prop} {W : World} {hb g cap x : Nat} {H : Hp} {vn vm : Value} (h : HpV W hb S H (.slice (some ⟨g, 0, none⟩) H.C.length cap) vn vm) (hx : x < H.C.length) (c : Cl) :
    KeepsOthers W (((((W.setCell ⟨g, x * 5, none⟩ (.int .i64 c.kd)).setCell ⟨g, x * 5 + 1, none⟩ (.string c.nm)).setCell ⟨g, x * 5 + 2, none⟩ (.int .i64 c.n)).setCell ⟨g, x * 5 + 3, none⟩ (.int .i64 c.a)).setCell ⟨g, x * 5 + 4, none⟩ (.int .i64 c.ar)).drew ∧
    (∀ k, k ≠ g → (((((W.setCell ⟨g, x * 5, none⟩ (.int .i64 c.kd)).setCell ⟨g, x * 5 + 1, none⟩ (.string c.nm)).setCell ⟨g, x * 5 + 2, none⟩ (.int .i64 c.n)).setCell ⟨g, x * 5 + 3, none⟩ (.int .i64 c.a)).setCell ⟨g, x * 5 + 4, none⟩ (.int .i64 c.ar)).drew.heap[k]? = W.heap[k]?) ∧
    HpV (((((W.setCell ⟨g, x * 5, none⟩ (.int .i64 c.kd)).setCell ⟨g, x * 5 + 1, none⟩ (.string c.nm)).setCell ⟨g, x * 5 + 2, none⟩ (.int .i64 c.n)).setCell ⟨g, x * 5 + 3, none⟩ (.int .i64 c.a)).setCell ⟨g, x * 5 + 4, none⟩ (.int .i64 c.ar)).drew hb S { H with C := H.C.set x c } (.slice (some ⟨g, 0, none⟩) H.C.length cap) vn vm ∧
    Fs S W (((((W.setCell ⟨g, x * 5, none⟩ (.int .i64 c.kd)).setCell ⟨g, x * 5 + 1, none⟩ (.string c.nm)).setCell ⟨g, x * 5 + 2, none⟩ (.int .i64 c.n)).setCell ⟨g, x * 5 + 3, none⟩ (.int .i64 c.a)).setCell ⟨g, x * 5 + 4, none⟩ (.int .i64 c.ar)).drew := by
  obtain ⟨h1, h2⟩ := HpV.putC h hx c
  have k1 := set5_keeps W g (x * 5) (.int .i64 c.kd) (.string c.nm) (.int .i64 c.n) (.int .i64 c.a) (.int .i64 c.ar)
  have k2 := set5_far W g (x * 5) (.int .i64 c.kd) (.string c.nm) (.int .i64 c.n) (.int .i64 c.a) (.int .i64 c.ar)
  refine ⟨?_, ?_, ?_, ?_⟩
  · exact k1.trans (KeepsOthers.drew _)
  · intro k hk; rw [drew_heap]; exact k2 k hk
  · exact h1.drewF
  · exact h2.drewF

/-- Between two rounds. -/
def BackI (w : World) (hb : Nat) (S : Nat → Prop) (H : Hp) (vc vn vm : Value) {L : Nat} (pre : List (NtI L)) (W : World) : Prop :=
  HpV W hb S { H with C := pre.foldl putN H.C } vc vn vm ∧ Fs S w W ∧ W.heap[w.heap.size]? = some (.cells #[.pointer (some ⟨hb, 0, none⟩)] 25 (0, 0)) ∧ w.heap.size + 1 < W.heap.size
theorem backI_own {w : World} {hb : Nat} {S : Nat → Prop} {H : Hp} {vc vn vm : Value} {B L : Nat} (hS : ∀ k, S k → k < w.heap.size) (hB : w.heap.size + 1 < B) : OwnFrom B (BackI w hb S H vc vn vm (L := L)) := fun s W W' row ⟨h1, h2, h3, h4⟩ hg hr => by
  have hne : ∀ k, k < B → some k ≠ row := fun k hk e => by have := (hr k e.symm).1; omega
  exact ⟨h1.step (fun k hk => hg.block k (h1.Sl k hk) (hne k (by have := hS k hk; omega))) hg.size,
    ⟨hg.os.trans h2.os, hg.tape.trans h2.tape, hg.output.trans h2.output, Nat.le_trans h2.size hg.size, fun k hk hn => (hg.block k (Nat.lt_of_lt_of_le hk h2.size) (hne k (by omega))).trans (h2.block k hk hn)⟩,
    (hg.block _ (blk_lt h3) (hne _ (by omega))).trans h3, Nat.lt_of_lt_of_le h4 hg.size⟩

/-- What the round's code stands at. -/
def BackA (w : World) (hb m : Nat) {L : Nat} (x : NtI L) (a' : Act) (W : World) : Prop :=
  ∃ (Bx : Nat) (t9 t11 : Value), w.heap.size + 1 < Bx ∧ W.heap[Bx]? = some (.cells #[.int .i64 x.1.2.1, .int .i64 x.1.2.2.kd, .string x.1.2.2.nm, .int .i64 x.1.2.2.n, .int .i64 x.1.2.2.a, .int .i64 x.1.2.2.ar] 99 (0, 0)) ∧
    a' = { tmps := #[.pointer (some ⟨hb, 0, none⟩), .int .i64 m, .pointer (some ⟨w.heap.size, 0, none⟩), undef, undef, .pointer (some ⟨Bx, 0, none⟩), .pointer (some ⟨hb, 0, none⟩), .pointer (some ⟨hb, 0, none⟩), .pointer (some ⟨hb, 3, none⟩), t9, .int .i64 m, t11,
      .func (.func 70) #[] #[.pointer (some ⟨w.heap.size + 1, 0, none⟩)], .int .i64 x.1.1, .agg #[.int .i64 x.1.2.1, .int .i64 x.1.2.2.kd, .string x.1.2.2.nm, .int .i64 x.1.2.2.n, .int .i64 x.1.2.2.a, .int .i64 x.1.2.2.ar], undef, undef, undef, undef, undef, undef, undef, undef, undef, undef, undef, undef, undef, undef, undef, undef, undef, undef], defers := [] }
theorem backA_own {w : World} {hb m L : Nat} (x : NtI L) (a' : Act) (B : Nat) : OwnFrom B (fun (_ : Unit) W => BackA w hb m x a' W) := fun _ X Y row hs hg hr => by
  obtain ⟨Bx, t9, t11, h1, h2, h3⟩ := hs
  refine ⟨Bx, t9, t11, h1, (hg.block Bx (blk_lt h2) (fun e => ?_)).trans h2, h3⟩
  obtain ⟨_, o, ho, hc⟩ := hr Bx e.symm
  rw [h2] at ho
  cases ho
  cases hc

/-- Operations that neither call nor defer. -/
def dataOp : Op → Bool
  | .move _ => true
  | .assign _ => true
  | .load _ _ => true
  | .store _ _ _ => true
  | .fieldAddr _ _ _ => true
  | .indexAddr _ _ _ => true
  | .slice _ _ _ _ _ => true
  | .binOp _ _ _ _ _ => true
  | _ => false
/-- A pointer that is looked at for nil. -/
def nilOp : Op → Bool
  | .nilCheck _ => true
  | _ => false
theorem upon_plain {P : Program} {F : Fence} {n : Nat} {o : Oper} {a : Act} {K K' : Act → World → Prop} {Q : Exit → Act → World → Prop} {r : Result Next} (hK : ∀ a w, K a w → K' a w)
    (hr : (∃ v w, r = .ok (.value v) w) ∨ (∃ w, r = .ok .skip w) ∨ ∃ h w, r = .halt h w) (h : o.upon P a K Q r) : o.uponIn F n P a K' Q r := by
  rcases hr with ⟨v, w, rfl⟩ | ⟨w, rfl⟩ | ⟨x, w, rfl⟩
  · exact hK _ _ h
  · exact hK _ _ h
  · cases x <;> first | exact h | exact h.elim
theorem vals_plain {P : Program} {w : World} (s : Sem Value) : (∃ v w', (s >>= fun x => pure (Next.value x)).run P w = .ok (.value v) w') ∨ (∃ w', (s >>= fun x => pure (Next.value x)).run P w = .ok .skip w') ∨ ∃ h w', (s >>= fun x => pure (Next.value x)).run P w = .halt h w' := by
  rw [Sem.run_bind]
  cases s.run P w with
  | ok v w' => exact .inl ⟨v, w', rfl⟩
  | halt h w' => exact .inr (.inr ⟨h, w', rfl⟩)
theorem skip_plain {P : Program} {w : World} (s : Sem Unit) : (∃ v w', (s >>= fun _ => pure Next.skip).run P w = .ok (.value v) w') ∨ (∃ w', (s >>= fun _ => pure Next.skip).run P w = .ok .skip w') ∨ ∃ h w', (s >>= fun _ => pure Next.skip).run P w = .halt h w' := by
  rw [Sem.run_bind]
  cases s.run P w with
  | ok v w' => exact .inr (.inl ⟨w', rfl⟩)
  | halt h w' => exact .inr (.inr ⟨h, w', rfl⟩)
theorem exec_plain {P : Program} {w : World} (ρ : Operand → Value) (o : Oper) (h : dataOp o.op = true) : (∃ v w', (execOp ρ o).run P w = .ok (.value v) w') ∨ (∃ w', (execOp ρ o).run P w = .ok .skip w') ∨ ∃ h w', (execOp ρ o).run P w = .halt h w' := by
  cases ho : o.op <;> rw [ho] at h <;> first | (cases h; done) | skip
  all_goals (unfold execOp; rw [ho]; first | exact .inl ⟨_, _, rfl⟩ | exact vals_plain _ | exact skip_plain _)

/-- A value, a skip, or a halt. -/
def Plain3 (r : Result Next) : Prop := (∃ v w, r = .ok (.value v) w) ∨ (∃ w, r = .ok .skip w) ∨ ∃ h w, r = .halt h w
theorem plain_bind {α : Type} {P : Program} {w : World} (s : Sem α) (f : α → Sem Next) (h : ∀ x w, Plain3 ((f x).run P w)) : Plain3 ((s >>= f).run P w) := by
  rw [Sem.run_bind]
  cases s.run P w with
  | ok v w' => exact h v w'
  | halt h w' => exact .inr (.inr ⟨h, w', rfl⟩)
theorem plain_panic {P : Program} {w : World} : Plain3 ((runtimePanic (α := Next) .nilDeref).run P w) := by
  unfold runtimePanic
  refine plain_bind _ _ fun x w => ?_
  exact .inr (.inr ⟨_, _, rfl⟩)
theorem exec_nil {P : Program} {w : World} (ρ : Operand → Value) (o : Oper) (h : nilOp o.op = true) : Plain3 ((execOp ρ o).run P w) := by
  cases ho : o.op <;> rw [ho] at h <;> first | (cases h; done) | skip
  unfold execOp
  rw [ho]
  simp only
  split
  · exact plain_panic
  · exact plain_panic
  · exact plain_panic
  · split
    · exact plain_panic
    · refine plain_bind _ _ fun x w => ?_
      refine plain_bind _ _ fun x w => ?_
      split
      · refine plain_bind _ _ fun x w => ?_
        exact .inl ⟨_, _, rfl⟩
      · exact .inl ⟨_, _, rfl⟩
    · exact .inl ⟨_, _, rfl⟩
  · exact .inl ⟨_, _, rfl⟩
theorem exec_op3 {P : Program} {w : World} (ρ : Operand → Value) (o : Oper) (h : (dataOp o.op || nilOp o.op) = true) : Plain3 ((execOp ρ o).run P w) := by
  rcases Bool.or_eq_true_iff.1 h with h | h
  · exact exec_plain ρ o h
  · exact exec_nil ρ o h
theorem op3_call {o : Oper} (h : (dataOp o.op || nilOp o.op) = true) : (∀ c, o.op ≠ .call c) ∧ ∀ c, o.op ≠ .defer c := by
  constructor <;> intro c e <;> rw [e] at h <;> cases h
theorem wp_op3 {P : Program} {F : Fence} {n : Nat} {o : Oper} {a : Act} {w : World} {K K' : Act → World → Prop} {Q : Exit → Act → World → Prop} (hd : (dataOp o.op || nilOp o.op) = true) (hK : ∀ a w, K a w → K' a w) (h : o.wp P a w K Q) : o.wpIn F n P a w K' Q := by
  obtain ⟨h1, h2⟩ := op3_call hd
  refine ⟨fun f hf => ?_, ?_⟩
  · unfold Oper.about at hf
    split at hf
    · rename_i c hc; exact absurd hc (h1 c)
    · cases hf
  · rw [Oper.semAt_eq _ _ _ h2]
    exact upon_plain hK (exec_op3 _ _ hd) h
theorem wp_any3 {P : Program} {F : Fence} {n : Nat} {md : Region.Mode} {ops : Array Oper} {Q : Exit → Act → World → Prop} (hlo : ¬ LetsOut Q) (hd : ∀ (i : Nat) (o : Oper), ops[i]? = some o → (dataOp o.op || nilOp o.op) = true) : ∀ (fuel : Nat) (listed : Array Bool) (a : Act) (w : World), wpAny P md ops Q fuel listed a w → wpAnyIn F n P md ops Q fuel listed a w
  | 0, _, _, _, h => h
  | fuel + 1, listed, a, w, h => by
    refine ⟨h.1, fun i hi => ?_⟩
    have h2 := h.2 i hi
    unfold wpOp at h2
    unfold wpOpIn
    cases ho : ops[i]? with
    | none => rw [ho] at h2; exact wp_any3 hlo hd fuel _ _ _ h2
    | some o =>
      rw [ho] at h2
      simp only at h2 ⊢
      have hdo := hd i o ho
      by_cases hw : Region.wanted o (yielded ops a.tmps) = true
      · rw [if_pos hw] at h2 ⊢
        rcases h2 with h2 | ⟨_, h2⟩
        · exact wp_op3 hdo (fun a w => wp_any3 hlo hd fuel _ a w) h2
        · exact absurd h2 hlo
      · rw [if_neg hw] at h2 ⊢
        refine ⟨fun f hf => ?_, wp_any3 hlo hd fuel _ _ _ h2⟩
        unfold Oper.about at hf
        split at hf
        · rename_i c hc; exact absurd hc ((op3_call hdo).1 c)
        · cases hf

/-- A region of reads ahead of one store, inside a fence: walked in the order of its text. -/
theorem wpIn_still_data {P : Program} {F : Fence} {k id : Nat} {Q : Exit → Act → World → Prop} {a : Act} {w : World} {l : List Oper} (n : Nat) (hm : P.follows .mixedOrders = true) (hlo : ¬ LetsOut Q) (hd : (l.all fun o => dataOp o.op || nilOp o.op) = true) (hB : Region.lexTailB .any l.toArray n = true)
    (h : wpStill P l.toArray { w with drawn := w.drawn + 1 } (fun a' => wpList P l.toArray Q (l.drop n) a' { w with drawn := w.drawn + 1 }) (l.take n) a) : (Code.region id l.toArray true).wpIn F k P Q a w := by
  refine wpIn_region_any hm (wp_any3 hlo (fun i o ho => List.all_eq_true.1 hd o (List.mem_of_getElem? (by simpa using ho))) _ _ _ _ ?_)
  have hb := hB
  unfold Region.lexTailB at hb
  simp only [Bool.and_eq_true, decide_eq_true_eq] at hb
  have hn : n < l.length := by simpa using hb.1.1.1.2
  have e1 : (l.take n).length = n := List.length_take_of_le (Nat.le_of_lt hn)
  have e2 : (l.drop n).length = l.toArray.size - n := by rw [List.length_drop, List.size_toArray]
  have e3 : n + (l.toArray.size - n) = l.toArray.size := by rw [List.size_toArray]; omega
  have first := wpAnyL_lex (md := .any) (n := n) (g := l.toArray.size - n) hb.1.1.1.1 hb.1.1.2 hb.1.2 hb.1.1.1.2 (l.take n) 0 (Array.replicate l.toArray.size false) a
    (fun j hj => by rw [e1] at hj; simp [hj]) (by rw [e1, Nat.zero_add])
    ⟨by simp, fun _ _ _ hl => (by rw [getD_replicate_false] at hl; cases hl), fun _ _ ht => getD_in (by simpa using ht) (getD_replicate_false _ _)⟩ (by rw [e1]; exact hb.2) h
  have whole := wpAny_of_head (n := n) (Q' := Q) (g := l.toArray.size - n) (fun listed a' hL => by
    have := wpAny_of_seq (md := .any) (Q' := Q) (l.drop n) n listed a' _ (fun j => by rw [List.getElem?_drop]; simp) (by rw [e2]; exact hL.1) hL.2
    rw [e2] at this
    exact this) _ _ _ first
  rw [e1, e3] at whole
  exact whole

/-- The body of the range over a function in a code. -/
def rfBody : Code → Option Code
  | .rangeFunc _ _ _ b => some b
  | .seq a b => (rfBody a).or (rfBody b)
  | .block _ c => rfBody c
  | _ => none

theorem HpV.shrink {S P : Nat → Prop} {w : World} {hb : Nat} {H : Hp} {vc vn vm : Value} (h : HpV w hb (fun k => S k ∨ P k) H vc vn vm) (hP : ∀ k, P k → S k) : HpV w hb S H vc vn vm :=
  ⟨h.blk, h.rc, h.rn, h.rm, h.lc, h.ln, h.lm, h.tr, h.mo, h.Sh.elim id (hP _), fun k e => (h.Sc k e).elim id (hP k), fun k e => (h.Sn k e).elim id (hP k), fun k e => (h.Sm k e).elim id (hP k), fun k hk => h.Sl k (.inl hk)⟩
theorem own_cut {w : World} {b e sz n m c : Nat} {A : Option Addr} {α : Type} (enc : α → List Value) (hsz : ∀ x, (enc x).length = sz) {xs : List α} (h : w.ownsRow b e sz (.slice A n c) n (xs.flatMap enc)) (hn : n = xs.length) (hm : m ≤ n) : w.ownsRow b e sz (.slice A m c) m ((xs.take m).flatMap enc) := by
  have hl := flat_len enc sz hsz
  refine ⟨by rw [hl, List.length_take, Nat.min_eq_left (by omega)], ?_⟩
  rcases h.2 with ⟨h1, h2⟩ | ⟨g, cap, cur, h1, h2, h3, h4, h5, h6, h7⟩
  · left
    cases h1
    exact ⟨by congr 1; omega, by omega⟩
  · right
    cases h1
    refine ⟨g, c, cur, rfl, h2, h3, by omega, h5, h6, ?_⟩
    have : cur.toList.take (m * sz) = (cur.toList.take (n * sz)).take (m * sz) := by rw [List.take_take, Nat.min_eq_left (Nat.mul_le_mul_right _ hm)]
    rw [this, h7]
    refine List.ext_getElem? fun p => ?_
    have hms : m * sz ≤ xs.length * sz := Nat.mul_le_mul_right _ (by omega)
    by_cases hp : p < m * sz
    · have hz : 0 < sz := by rcases Nat.eq_zero_or_pos sz with h | h; subst h; omega; exact h
      have hq : p / sz < m := Nat.div_lt_of_lt_mul (by rw [Nat.mul_comm]; exact hp)
      have hpq : p = p / sz * sz + p % sz := by rw [Nat.mul_comm]; exact (Nat.div_add_mod p sz).symm
      have hr := Nat.mod_lt p hz
      rw [List.getElem?_take, if_pos hp, hpq, flat_get enc sz hsz xs _ _ (by omega) hr, flat_get enc sz hsz (xs.take m) _ _ (by rw [List.length_take]; omega) hr, List.getElem_take]
    · rw [List.getElem?_eq_none (by rw [List.length_take, hl]; omega), List.getElem?_eq_none (by rw [hl, List.length_take]; rw [Nat.min_eq_left (by omega)]; omega)]

theorem back_fin {W : World} {hb m cn D : Nat} {S : Nat → Prop} {H : Hp} {vc vm : Value} {A : Option Addr} (h : HpV W hb S H vc (.slice A H.N.length cn) vm) (hm : m ≤ H.N.length) (hD : ¬ S D) (o : Obj) :
    HpV ((W.setCell ⟨hb, 3, none⟩ (.slice A m cn)).drew.putObj D o) hb S { H with N := H.N.take m } vc (.slice A m cn) vm ∧ Fs S W (W.setCell ⟨hb, 3, none⟩ (.slice A m cn)).drew := by
  have hl : (H.N.take m).length = m := by rw [List.length_take, Nat.min_eq_left hm]
  have hb1 : ∀ k, (Value.slice A m cn).ownBlock = some k → (Value.slice A H.N.length cn).ownBlock = some k := fun k e => by cases A <;> exact e
  obtain ⟨h1, h2, _⟩ := HpV.setN (u := .slice A m cn) (X := H.N.take m) h (World.grownBy.refl W _) (by rw [hl]; exact own_cut cellsN (fun _ => rfl) h.rn rfl hm) (fun k e => .inl (hb1 k e)) (by have := h.ln; omega)
  have h3 := (h1.shrink fun k e => h.Sn k (hb1 k e)).drewF
  exact ⟨h3.step (fun k hk => World.putObj_heap_other (fun e => hD (e ▸ hk))) (by simp [World.putObj]), h2.drewF⟩

set_option maxHeartbeats 4000000 in
set_option maxRecDepth 100000 in
theorem back_body (F : Fence) (n : Nat) (hn : 6 ≤ n) (cd : Code) (hcd : Try.f36.body.bind rfBody = some cd) (w W : World) (hb m l L B : Nat) (S : Nat → Prop) (H : Hp) (vc vn vm : Value) (K : Nat → Prop) (hK : ∀ g, vc.ownBlock = some g → ¬ K g) (pre : List (NtI L)) (x : NtI L) (a' : Act) (hLl : L = H.C.length)
    (hI : BackI w hb S H vc vn vm pre W) (hA : BackA w hb m x a' W) : cd.wpIn (F.inRound l) (n - 1 - 1) Try.prog (ownPostG B (KpS K) (BackI w hb S H vc vn vm (L := L)) (fun _ _ _ => False) (pre ++ [x]) W) a' W := by
  simp only [Try.f36, Option.bind_some, rfBody, Option.or_some, Option.or_none, Option.some.injEq, Option.getD_none] at hcd
  subst hcd
  obtain ⟨i1, i2, i3, i4⟩ := hI
  obtain ⟨Bx, t9, t11, hBx, kB, rfl⟩ := hA
  obtain ⟨⟨xi, xa, xc⟩, hxl⟩ := x
  have hplen := putN_len pre H.C
  simp only at hxl kB ⊢
  obtain ⟨cx, hcx⟩ : ∃ cx, (pre.foldl putN H.C)[xa]? = some cx := ⟨_, List.getElem?_eq_getElem (by omega)⟩
  obtain ⟨g, cap, hg, j1, j2, j3, j4, j5, j6⟩ := i1.cell hcx
  cases hg
  have w2 := i1.c2
  have wb := blk_cell i3 0
  have n0 := blk_cell kB 0
  have n1 := blk_cell kB 1
  have n2 := blk_cell kB 2
  have n3 := blk_cell kB 3
  have n4 := blk_cell kB 4
  have n5 := blk_cell kB 5
  have b0 := j5.d0
  have b1 := j5.d1
  have b2 := j5.d2
  have b3 := j5.d3
  have b4 := j5.d4
  have p0 := j6 (xa * 5)
  have p1 := j6 (xa * 5 + 1)
  have p2 := j6 (xa * 5 + 2)
  have p3 := j6 (xa * 5 + 3)
  have p4 := j6 (xa * 5 + 4)
  have hlc := i1.lc
  simp only at hlc j4 w2
  generalize hX : pre.foldl putN H.C = X at hlc j4 w2 hcx hplen i1 hK
  have HX := Lib.hid hX
  have Hplen := Lib.hid hplen
  have HLl := Lib.hid hLl
  have Hcx := Lib.hid hcx
  clear j6 hplen hLl hcx j1 hX kB
  have Hi3 := Lib.hid i3
  clear i3
  generalize hQ : ownPostG B (KpS K) _ _ _ W = Q
  have HQ := Lib.hid hQ
  clear hQ
  have hmo : Try.prog.follows .mixedOrders = true := by kernel_rfl
  have hlo : ¬ LetsOut Q := by rw [← HQ.out]; rintro ⟨_, _, h⟩; exact h
  gi_wp2
  refine wpIn_still_data 9 hmo hlo (by kernel_rfl) (by kernel_rfl) ?_
  simp only [List.take_succ_cons, List.take_zero, List.drop_succ_cons, List.drop_zero]
  repeat still_step
  try refine wpStill_nil ?_
  go_wp2
  have hx1 : xa < ({ H with C := X } : Hp).C.length := j4
  obtain ⟨q1, q2, q3, q4⟩ := body_close i1 hx1 xc
  have hQ2 : ∀ a' W', KeepsFrom B W W' → KpS K W W' → BackI w hb S H (.slice (some ⟨g, 0, none⟩) X.length cap) vn vm (L := L) (pre ++ [⟨(xi, xa, xc), hxl⟩]) W' → Q .normal a' W' := fun a' W' h1 h2 h3 => by rw [← HQ.out]; exact ⟨h1, h2, h3⟩
  refine hQ2 _ _ (q1.from _) (fun k hk => q2 k (fun e => hK g rfl (e ▸ hk))) ⟨?_, i2.trans q4 fun k h => .inl h, (q2 _ (fun e => ?_)).trans Hi3.out, ?_⟩
  · rw [List.foldl_append, HX.out]
    exact q3
  · have hh := Hi3.out
    rw [e] at hh
    exact i1.neCbox hh (by decide)
  · exact Nat.lt_of_lt_of_le i4 q1.size

set_option maxHeartbeats 1000000 in
set_option maxRecDepth 100000 in
theorem back_in (F : Fence) (n : Nat) (h1 : F.fn 36) (h2 : F.fn 56) (h3 : F.fn 70) (hro : F.round = none) (hn : 6 ≤ n)
    (w : World) (hb : Nat) (S : Nat → Prop) (H : Hp) (m : Nat) (h : HpAt w hb S H) (hm : m ≤ H.N.length) (hN : ∀ p ∈ H.N.drop m, p.1 < H.C.length) :
    CallsIn F n Try.prog 36 #[.pointer (some ⟨hb, 0, none⟩), .int .i64 m] w (BackPost w hb S H m) := by
  obtain ⟨vc, vn, vm, hv⟩ := h
  obtain ⟨A, cn, rfl⟩ : ∃ A c, vn = .slice A H.N.length c := own_slice hv.rn
  have hcn : H.N.length ≤ cn := own_cap hv.rn
  have hln := hv.ln
  have h1n : 1 ≤ n := by omega
  have hv2 := (hv.alloc (.cells #[.pointer (some ⟨hb, 0, none⟩)] 25))
  have c3 := hv2.c3
  have hbl := blk_lt hv.blk
  have hel : ∀ j, j < H.N.length - m → ∃ g, A = some ⟨g, 0, none⟩ ∧ g < w.heap.size ∧ SeenN w g ((m + j) * 6) (H.N.getD (m + j) (0, zCl)) := fun j hj => by
    have hjl : m + j < H.N.length := by omega
    have hrn := hv.rn
    rcases hv.rn.2 with ⟨_, h0⟩ | ⟨g, cap, cur, he, _, hg, _, _, _⟩
    · omega
    · cases he
      refine ⟨g, rfl, blk_lt hg, ?_⟩
      have hc : ∀ i, i < 6 → w.cell? ⟨g, (m + j) * 6 + i, none⟩ = (cellsN (H.N.getD (m + j) (0, zCl)))[i]? := fun i hi => by
        rw [World.ownsRow.cellAt hrn ((m + j) * 6 + i) (by omega), flat_get cellsN 6 (fun _ => rfl) H.N (m + j) i hjl hi]
        simp [List.getD_eq_getElem?_getD, List.getElem?_eq_getElem hjl]
      exact ⟨hc 0 (by omega), hc 1 (by omega), hc 2 (by omega), hc 3 (by omega), hc 4 (by omega), hc 5 (by omega)⟩
  have hLp : ∀ j, j < H.N.length - m → (H.N.getD (m + j) (0, zCl)).1 < H.C.length := fun j hj => by
    have hjl : m + j < H.N.length := by omega
    simp only [List.getD_eq_getElem?_getD, List.getElem?_eq_getElem hjl, Option.getD_some]
    exact hN _ (List.mem_of_getElem (i := j) (h := by simp; omega) (by simp))
  -- the notes with their places
  obtain ⟨L, f, hL, hf1, hf2⟩ : ∃ (L : Nat) (f : Nat → NtI L), (0 < H.N.length - m → L = H.C.length) ∧ (∀ j, j < H.N.length - m → (f j).1.1 = j) ∧ ∀ j, j < H.N.length - m → (f j).1.2 = H.N.getD (m + j) (0, zCl) := by
    by_cases hz : 0 < H.N.length - m
    · exact ⟨H.C.length, fun j => if hj : j < H.N.length - m then ⟨(j, H.N.getD (m + j) (0, zCl)), hLp j hj⟩ else ⟨(0, H.N.getD (m + 0) (0, zCl)), hLp 0 hz⟩, fun _ => rfl, fun j hj => by simp [hj], fun j hj => by simp [hj]⟩
    · exact ⟨1, fun _ => ⟨(0, (0, zCl)), by simp⟩, fun h => absurd h hz, fun j hj => by omega, fun j hj => by omega⟩
  have hdl : (H.N.drop m).length = H.N.length - m := by simp
  have hback : (upto (fun i => f (H.N.length - m - 1 - i)) (H.N.length - m)).foldl putN H.C = backC H.C (H.N.drop m) := by
    have := upto_back f (H.N.drop m) H.C (fun j hj => by
      rw [hf2 j (by omega)]
      have hjl : m + j < H.N.length := by omega
      simp [List.getD_eq_getElem?_getD, List.getElem?_eq_getElem hjl])
    rw [hdl] at this
    exact this
  refine callsIn_of_wp_marks Try.func36 rfl h1 ?_ hro
  simp only [Try.ntmps36, List.size_toArray, List.length_cons, List.length_nil, Nat.reduceAdd, Nat.reduceSub, Array.replicate_succ, Array.replicate_zero, List.push_toArray, List.append_toArray, List.nil_append, List.cons_append]
  have Hback := Lib.hid hback
  have Hf1 := Lib.hid hf1
  have Hf2 := Lib.hid hf2
  have HL := Lib.hid hL
  have Hdl := Lib.hid hdl
  have Hel := Lib.hid hel
  clear hback hf1 hf2 hL hdl hel hLp
  gi_wp2_with (gi_at_call 56; refine (backward_in F (n - 1) h2 hro _ _ _ _).mono ?_; rintro e w' ⟨rfl, rfl⟩)
  · obtain rfl : m = cn := (show cn = m by assumption).symm
    have hbx : ((w.alloc (.cells #[.pointer (some ⟨hb, 0, none⟩)] 25))).heap[w.heap.size]? = some (.cells #[.pointer (some ⟨hb, 0, none⟩)] 25 (0, 0)) := blk_new w _
    have hI0 : BackI w hb S H vc (.slice A H.N.length m) vm ([] : List (NtI L)) ((w.alloc (.cells #[.pointer (some ⟨hb, 0, none⟩)] 25)).alloc (.cells #[.slice (A) (H.N.length - m) 0] 55)) := ⟨hv2.alloc _, ((Fs.refl S w).alloc _).alloc _, blk_alloc hbx _, by simp⟩
    have hbs := blk_cell (blk_new (w.alloc (.cells #[.pointer (some ⟨hb, 0, none⟩)] 25)) (.cells #[.slice (A) (H.N.length - m) 0] 55)) 0
    rw [World.size_alloc] at hbs
    have hB0 : Below w.heap.size w ((w.alloc (.cells #[.pointer (some ⟨hb, 0, none⟩)] 25)).alloc (.cells #[.slice (A) (H.N.length - m) 0] 55)) := below_alloc (below_alloc (Below.refl _ _) _) _
    have hsz : ((w.alloc (.cells #[.pointer (some ⟨hb, 0, none⟩)] 25)).alloc (.cells #[.slice (A) (H.N.length - m) 0] 55)).heap.size = w.heap.size + 2 := by simp
    have hel2 : ∀ j, j < H.N.length - m → ∃ g o, A = some ⟨g, o, none⟩ ∧ (g = w.heap.size + 1 ∨ (Value.slice A H.N.length m).ownBlock = some g) ∧ (f j).1.1 = j ∧ SeenN ((w.alloc (.cells #[.pointer (some ⟨hb, 0, none⟩)] 25)).alloc (.cells #[.slice (A) (H.N.length - m) 0] 55)) g (o + j * 6) (f j).1.2 := fun j hj => by omega
    generalize ((w.alloc (.cells #[.pointer (some ⟨hb, 0, none⟩)] 25)).alloc (.cells #[.slice (A) (H.N.length - m) 0] 55)) = W0 at hI0 hbs hB0 hsz hel2 ⊢
    refine wpIn_rangeFunc_ownH hro h1n (gf := 70) (lb := #[.pointer (some ⟨w.heap.size + 1, 0, none⟩)]) rfl h3 (enters_of Try.func70 (by kernel_rfl) rfl)
      (back1_stops F (n - 1) h3 hro (by omega) (w.heap.size + 1) L (A) (H.N.length - m) 0 f (fun k => k = w.heap.size + 1 ∨ (Value.slice A H.N.length m).ownBlock = some k) (.inl rfl) (by omega) W0 (by omega) (fun k hk => by rcases hk with h | h; omega; have := hv.Sl k (hv.Sn k h); omega) hbs hel2)
      (fun h k j hj => (k j hj).trans (h j hj)) (fun W l o o' hl hWl hc hw' k hk => (belowK_b (w := W0) (Nat.le_refl _) W l o o' hl hWl hc hw').block k (by rcases hk with h | h; omega; have := hv.Sl k (hv.Sn k h); omega)) (Below.refl _ _) (fun _ => rfl)
      (BackI w hb S H vc (.slice A H.N.length m) vm (L := L)) (fun _ _ _ => False) (backI_own hv.Sl (by omega)) (fun _ _ _ _ _ hs _ _ => hs) hI0 (BackA w hb m) (fun x a' => backA_own x a' _)
      ?assign ?body ?done ?stop
    case assign =>
      rintro l pre x W K ⟨i1, i2, i3, i4⟩ hK
      simp only [encI]
      gi_wp2
      refine hK _ _ ((KeepsOthers.alloc _ _).from _) (fun k hk => (Below.heap_alloc W _ k (by rcases hk with h | h; omega; have := i1.Sl k (i1.Sn k h); omega))) ⟨i1.alloc _, i2.alloc _, blk_alloc i3 _, by rw [World.size_alloc]; omega⟩ ⟨W.heap.size, _, _, by omega, blk_new W _, rfl⟩
    case body =>
      rintro l pre x a' W hl _ hI hA hlt
      exact back_body F n hn _ rfl w W hb m l L _ S H _ _ _ _ (fun g hg hk => by
        rcases hk with h | h
        · have := hv.Sl g (hv.Sc g hg); omega
        · exact hv.neCN g hg h) pre x a' (HL.out (by omega)) hI hA
    case done =>
      rintro D ys W hD rfl ⟨i1, i2, i3, i4⟩ hK
      rw [Hback.out] at i1
      have hlo : ¬ LetsOut (bodyPostM F n Try.prog Try.f36 (BackPost w hb S H m)) := by rintro ⟨_, _, h⟩; exact absurd h.1 (by intro e; cases e)
      have hmc : m ≤ m := Nat.le_refl _
      have hDS : ¬ S D := fun h => by have := hv.Sl D h; omega
      obtain ⟨fin1, fin2⟩ := back_fin (m := m) i1 hm hDS (.deferred none)
      have hK2 := ((KeepsOthers.setCell W ⟨hb, 3, none⟩ (.slice A m m)).trans (KeepsOthers.drew _)).same D _ hK rfl
      have w3 := i1.c3
      have f3 : W.frozen? ⟨hb, 3, none⟩ = false := blk_frozen i1.blk 3
      have wb := blk_cell i3 0
      have hmo : Try.prog.follows .mixedOrders = true := by kernel_rfl
      gi_wp2
      refine wpIn_still_data 9 hmo hlo (by kernel_rfl) (by kernel_rfl) ?_
      simp only [List.take_succ_cons, List.take_zero, List.drop_succ_cons, List.drop_zero]
      repeat still_step
      try refine wpStill_nil ?_
      go_wp2
      refine ⟨by simp, .inl ⟨_, _, rfl, run_takeDeferred hK2, ?_⟩⟩
      refine ⟨_, results_none rfl _ _ _, rfl, S, ⟨_, _, _, fin1⟩, ?_, fun k h => .inl h⟩
      have hbl2 := belowK_b (w := W0) (Nat.le_refl _) (W.setCell ⟨hb, 3, none⟩ (.slice A m m)).drew D _ (.deferred none) hD hK2 rfl rfl
      have hF := i2.trans fin2 (fun k h => .inl h)
      exact ⟨hbl2.os.trans hF.os, hbl2.tape.trans hF.tape, hbl2.output.trans hF.output, Nat.le_trans hF.size hbl2.size, fun k hk hn => (World.putObj_heap_other (by omega)).trans (hF.block k hk hn)⟩
    case stop =>
      rintro D c pre W _ _ h _
      exact h.elim
  · rename_i hcm
    have hbx : ((w.alloc (.cells #[.pointer (some ⟨hb, 0, none⟩)] 25))).heap[w.heap.size]? = some (.cells #[.pointer (some ⟨hb, 0, none⟩)] 25 (0, 0)) := blk_new w _
    have hI0 : BackI w hb S H vc (.slice A H.N.length cn) vm ([] : List (NtI L)) ((w.alloc (.cells #[.pointer (some ⟨hb, 0, none⟩)] 25)).alloc (.cells #[.slice (Option.map (fun x => x.add (m * 6)) A) (H.N.length - m) (cn - m)] 55)) := ⟨hv2.alloc _, ((Fs.refl S w).alloc _).alloc _, blk_alloc hbx _, by simp⟩
    have hbs := blk_cell (blk_new (w.alloc (.cells #[.pointer (some ⟨hb, 0, none⟩)] 25)) (.cells #[.slice (Option.map (fun x => x.add (m * 6)) A) (H.N.length - m) (cn - m)] 55)) 0
    rw [World.size_alloc] at hbs
    have hB0 : Below w.heap.size w ((w.alloc (.cells #[.pointer (some ⟨hb, 0, none⟩)] 25)).alloc (.cells #[.slice (Option.map (fun x => x.add (m * 6)) A) (H.N.length - m) (cn - m)] 55)) := below_alloc (below_alloc (Below.refl _ _) _) _
    have hsz : ((w.alloc (.cells #[.pointer (some ⟨hb, 0, none⟩)] 25)).alloc (.cells #[.slice (Option.map (fun x => x.add (m * 6)) A) (H.N.length - m) (cn - m)] 55)).heap.size = w.heap.size + 2 := by simp
    have hel2 : ∀ j, j < H.N.length - m → ∃ g o, Option.map (fun x => x.add (m * 6)) A = some ⟨g, o, none⟩ ∧ (g = w.heap.size + 1 ∨ (Value.slice A H.N.length cn).ownBlock = some g) ∧ (f j).1.1 = j ∧ SeenN ((w.alloc (.cells #[.pointer (some ⟨hb, 0, none⟩)] 25)).alloc (.cells #[.slice (Option.map (fun x => x.add (m * 6)) A) (H.N.length - m) (cn - m)] 55)) g (o + j * 6) (f j).1.2 := fun j hj => by
      obtain ⟨g, rfl, hgl, hs⟩ := Hel.out j hj
      refine ⟨g, m * 6, by simp [add_plain], .inr rfl, Hf1.out j hj, ?_⟩
      rw [Hf2.out j hj, ← Nat.add_mul]
      exact hs.same (hB0.block g hgl)
    generalize ((w.alloc (.cells #[.pointer (some ⟨hb, 0, none⟩)] 25)).alloc (.cells #[.slice (Option.map (fun x => x.add (m * 6)) A) (H.N.length - m) (cn - m)] 55)) = W0 at hI0 hbs hB0 hsz hel2 ⊢
    refine wpIn_rangeFunc_ownH hro h1n (gf := 70) (lb := #[.pointer (some ⟨w.heap.size + 1, 0, none⟩)]) rfl h3 (enters_of Try.func70 (by kernel_rfl) rfl)
      (back1_stops F (n - 1) h3 hro (by omega) (w.heap.size + 1) L (Option.map (fun x => x.add (m * 6)) A) (H.N.length - m) (cn - m) f (fun k => k = w.heap.size + 1 ∨ (Value.slice A H.N.length cn).ownBlock = some k) (.inl rfl) (by omega) W0 (by omega) (fun k hk => by rcases hk with h | h; omega; have := hv.Sl k (hv.Sn k h); omega) hbs hel2)
      (fun h k j hj => (k j hj).trans (h j hj)) (fun W l o o' hl hWl hc hw' k hk => (belowK_b (w := W0) (Nat.le_refl _) W l o o' hl hWl hc hw').block k (by rcases hk with h | h; omega; have := hv.Sl k (hv.Sn k h); omega)) (Below.refl _ _) (fun _ => rfl)
      (BackI w hb S H vc (.slice A H.N.length cn) vm (L := L)) (fun _ _ _ => False) (backI_own hv.Sl (by omega)) (fun _ _ _ _ _ hs _ _ => hs) hI0 (BackA w hb m) (fun x a' => backA_own x a' _)
      ?assign ?body ?done ?stop
    case assign =>
      rintro l pre x W K ⟨i1, i2, i3, i4⟩ hK
      simp only [encI]
      gi_wp2
      refine hK _ _ ((KeepsOthers.alloc _ _).from _) (fun k hk => (Below.heap_alloc W _ k (by rcases hk with h | h; omega; have := i1.Sl k (i1.Sn k h); omega))) ⟨i1.alloc _, i2.alloc _, blk_alloc i3 _, by rw [World.size_alloc]; omega⟩ ⟨W.heap.size, _, _, by omega, blk_new W _, rfl⟩
    case body =>
      rintro l pre x a' W hl _ hI hA hlt
      exact back_body F n hn _ rfl w W hb m l L _ S H _ _ _ _ (fun g hg hk => by
        rcases hk with h | h
        · have := hv.Sl g (hv.Sc g hg); omega
        · exact hv.neCN g hg h) pre x a' (HL.out (by omega)) hI hA
    case done =>
      rintro D ys W hD rfl ⟨i1, i2, i3, i4⟩ hK
      rw [Hback.out] at i1
      have hlo : ¬ LetsOut (bodyPostM F n Try.prog Try.f36 (BackPost w hb S H m)) := by rintro ⟨_, _, h⟩; exact absurd h.1 (by intro e; cases e)
      have hmc : m ≤ cn := by omega
      have hDS : ¬ S D := fun h => by have := hv.Sl D h; omega
      obtain ⟨fin1, fin2⟩ := back_fin (m := m) i1 hm hDS (.deferred none)
      have hK2 := ((KeepsOthers.setCell W ⟨hb, 3, none⟩ (.slice A m cn)).trans (KeepsOthers.drew _)).same D _ hK rfl
      have w3 := i1.c3
      have f3 : W.frozen? ⟨hb, 3, none⟩ = false := blk_frozen i1.blk 3
      have wb := blk_cell i3 0
      have hmo : Try.prog.follows .mixedOrders = true := by kernel_rfl
      gi_wp2
      refine wpIn_still_data 9 hmo hlo (by kernel_rfl) (by kernel_rfl) ?_
      simp only [List.take_succ_cons, List.take_zero, List.drop_succ_cons, List.drop_zero]
      repeat still_step
      try refine wpStill_nil ?_
      go_wp2
      refine ⟨by simp, .inl ⟨_, _, rfl, run_takeDeferred hK2, ?_⟩⟩
      refine ⟨_, results_none rfl _ _ _, rfl, S, ⟨_, _, _, fin1⟩, ?_, fun k h => .inl h⟩
      have hbl2 := belowK_b (w := W0) (Nat.le_refl _) (W.setCell ⟨hb, 3, none⟩ (.slice A m cn)).drew D _ (.deferred none) hD hK2 rfl rfl
      have hF := i2.trans fin2 (fun k h => .inl h)
      exact ⟨hbl2.os.trans hF.os, hbl2.tape.trans hF.tape, hbl2.output.trans hF.output, Nat.le_trans hF.size hbl2.size, fun k hk hn => (World.putObj_heap_other (by omega)).trans (hF.block k hk hn)⟩
    case stop =>
      rintro D c pre W _ _ h _
      exact h.elim


theorem back_any (w : World) (hb : Nat) (S : Nat → Prop) (H : Hp) (m : Nat) (h : HpAt w hb S H) (hm : m ≤ H.N.length) (hN : ∀ p ∈ H.N.drop m, p.1 < H.C.length) :
    Calls Try.prog 36 #[.pointer (some ⟨hb, 0, none⟩), .int .i64 m] w (BackPost w hb S H m) :=
  (callsIn_wide (n := 6)).1 (back_in Fence.wide 6 trivial trivial trivial rfl (Nat.le_refl _) w hb S H m h hm hN)

end Go.Proofs.Ytjhhacighfpdbaa
