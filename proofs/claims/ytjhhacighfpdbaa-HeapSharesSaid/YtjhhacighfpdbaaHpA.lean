/- A heap in memory; the walks of walk, set. -/
import Derived.Test.YtjhhacighfpdbaaHpL
import Derived.RegionTactic
import Derived.Deep.RegionHeld3
namespace Go.Proofs.Ytjhhacighfpdbaa
set_option linter.unusedVariables false
open Go.RowKit Go.Maps Go.Proofs.YtjhhacighfpdbaaW.PrintWords Go.Proofs.YtjhhacighfpdbaaW.PrintLast Go.Proofs.YtjhhacighfpdbaaW.PrintMore Go.Proofs.Ytjhhacighfpdbaa.PHeapShares Go.Extern

section
variable {α : Type} (enc : α → List Value) (sz : Nat) (hsz : ∀ x, (enc x).length = sz)
include hsz
theorem flat_len : ∀ xs : List α, (xs.flatMap enc).length = xs.length * sz
  | [] => by simp
  | a :: r => by rw [List.flatMap_cons, List.length_append, hsz, flat_len r, List.length_cons, Nat.succ_mul, Nat.add_comm]
theorem flat_get : ∀ (xs : List α) (i j : Nat) (hi : i < xs.length), j < sz → (xs.flatMap enc)[i * sz + j]? = (enc xs[i])[j]?
  | a :: r, 0, j, hi, hj => by rw [List.flatMap_cons, List.getElem?_append_left (by rw [hsz]; omega)]; simp
  | a :: r, i + 1, j, hi, hj => by
    rw [List.flatMap_cons, List.getElem?_append_right (by rw [hsz, Nat.succ_mul]; omega), hsz, Nat.succ_mul, show i * sz + sz + j - sz = i * sz + j by omega, flat_get r i j (by simpa using hi) hj]
    simp
end

/-- A cell's, a note's, a mark's model cells. -/
def cellsC (c : Cl) : List Value := [.int .i64 c.kd, .string c.nm, .int .i64 c.n, .int .i64 c.a, .int .i64 c.ar]
def cellsN (p : Nt) : List Value := [.int .i64 p.1, .int .i64 p.2.kd, .string p.2.nm, .int .i64 p.2.n, .int .i64 p.2.a, .int .i64 p.2.ar]
def cellsM (p : Nat × Nat) : List Value := [.int .i64 p.1, .int .i64 p.2]

theorem flat_set5 (C : List Cl) (i : Nat) (c : Cl) (hi : i < C.length) :
    (C.set i c).flatMap cellsC = (((((C.flatMap cellsC).set (i * 5) (.int .i64 c.kd)).set (i * 5 + 1) (.string c.nm)).set (i * 5 + 2) (.int .i64 c.n)).set (i * 5 + 3) (.int .i64 c.a)).set (i * 5 + 4) (.int .i64 c.ar) := by
  have hl := flat_len cellsC 5 (fun _ => rfl)
  refine List.ext_getElem? fun p => ?_
  by_cases hp : p < C.length * 5
  · obtain ⟨q, j, hj, rfl⟩ : ∃ q j, j < 5 ∧ p = q * 5 + j := ⟨p / 5, p % 5, Nat.mod_lt _ (by omega), by omega⟩
    have hq : q < C.length := by omega
    rw [flat_get cellsC 5 (fun _ => rfl) _ q j (by simpa using hq) hj]
    have h0 := flat_get cellsC 5 (fun _ => rfl) C q j hq hj
    have hlen : q * 5 + j < (C.flatMap cellsC).length := by rw [hl]; omega
    simp only [List.getElem?_set, List.length_set, hl, List.getElem_set]
    by_cases e : i = q
    · subst e
      rw [if_pos rfl]
      have : j = 0 ∨ j = 1 ∨ j = 2 ∨ j = 3 ∨ j = 4 := by omega
      rcases this with rfl | rfl | rfl | rfl | rfl
      · simp [cellsC]; omega
      · simp [cellsC]; omega
      · simp [cellsC]; omega
      · simp [cellsC]; omega
      · simp [cellsC]; omega
    · rw [if_neg e, if_neg (by omega), if_neg (by omega), if_neg (by omega), if_neg (by omega), if_neg (by omega)]
      exact h0.symm
  · rw [List.getElem?_eq_none (by rw [hl]; simp; omega), List.getElem?_eq_none (by simp [hl]; omega)]

/-- What a heap is. -/
structure Hp where
  most : Int
  trail : Int
  C : List Cl
  N : List Nt
  M : List (Nat × Nat)

/-- The heap lies in block hb, its rows are vc, vn, vm; all in blocks of S. -/
structure HpV (w : World) (hb : Nat) (S : Nat → Prop) (H : Hp) (vc vn vm : Value) : Prop where
  blk : w.heap[hb]? = some (.cells #[.int .i64 H.most, .int .i64 H.trail, vc, vn, vm] 58 (0, 0))
  rc : w.ownsRow 0 66 5 vc H.C.length (H.C.flatMap cellsC)
  rn : w.ownsRow 0 99 6 vn H.N.length (H.N.flatMap cellsN)
  rm : w.ownsRow 0 73 2 vm H.M.length (H.M.flatMap cellsM)
  lc : H.C.length ≤ 65536
  ln : H.N.length ≤ 65536
  lm : H.M.length ≤ 1000000
  tr : 0 ≤ H.trail ∧ H.trail ≤ 65536
  mo : 0 ≤ H.most ∧ H.most ≤ 65536
  Sh : S hb
  Sc : ∀ k, vc.ownBlock = some k → S k
  Sn : ∀ k, vn.ownBlock = some k → S k
  Sm : ∀ k, vm.ownBlock = some k → S k
  Sl : ∀ k, S k → k < w.heap.size

def HpAt (w : World) (hb : Nat) (S : Nat → Prop) (H : Hp) : Prop := ∃ vc vn vm, HpV w hb S H vc vn vm

/-- Nothing that was there has turned but blocks of S. -/
structure Fs (S : Nat → Prop) (w w' : World) : Prop where
  os : w'.os = w.os
  tape : w'.tape = w.tape
  output : w'.output = w.output
  size : w.heap.size ≤ w'.heap.size
  block : ∀ k, k < w.heap.size → ¬ S k → w'.heap[k]? = w.heap[k]?

/-- The heap is H' now, and nothing else has turned. -/
def HpTo (w : World) (hb : Nat) (S : Nat → Prop) (H' : Hp) (w' : World) : Prop := ∃ S', HpAt w' hb S' H' ∧ Fs S w w' ∧ ∀ k, S' k → S k ∨ w.heap.size ≤ k

variable {S : Nat → Prop} {w w1 w2 : World} {hb : Nat} {H : Hp} {vc vn vm : Value}

theorem Fs.refl (S : Nat → Prop) (w : World) : Fs S w w := ⟨rfl, rfl, rfl, Nat.le_refl _, fun _ _ _ => rfl⟩
theorem Fs.trans {S' : Nat → Prop} (h : Fs S w w1) (k : Fs S' w1 w2) (hs : ∀ k, S' k → S k ∨ w.heap.size ≤ k) : Fs S w w2 :=
  ⟨k.os.trans h.os, k.tape.trans h.tape, k.output.trans h.output, Nat.le_trans h.size k.size, fun i hi hn => (k.block i (Nat.lt_of_lt_of_le hi h.size) (fun hS => by rcases hs i hS with h1 | h1; exact hn h1; omega)).trans (h.block i hi hn)⟩
theorem Fs.of_below (h : Below w.heap.size w w1) : Fs S w w1 := ⟨h.os, h.tape, h.output, h.size, fun k hk _ => h.block k hk⟩
theorem Fs.alloc (h : Fs S w w1) (o : Obj) : Fs S w (w1.alloc o) := h.trans (S' := S) (.of_below (below_alloc (Below.refl _ _) o)) (fun _ h => .inl h)
theorem Fs.drewN (h : Fs S w w1) (n : Nat) : Fs S w (w1.drewN n) := ⟨h.os, h.tape, h.output, h.size, h.block⟩
theorem Fs.blk {g : Nat} {o : Obj} (h : Fs S w w1) (hb : w.heap[g]? = some o) (hg : ¬ S g) : w1.heap[g]? = some o := (h.block g (blk_lt hb) hg).trans hb
theorem Fs.below {B : Nat} {w0 : World} (h : Fs S w w1) (hB : Below B w0 w) (hS : ∀ k, S k → B ≤ k) (hs : B ≤ w.heap.size) : Below B w0 w1 :=
  ⟨h.os.trans hB.os, h.tape.trans hB.tape, h.output.trans hB.output, Nat.le_trans hB.size h.size, fun k hk => (h.block k (Nat.lt_of_lt_of_le hk hs) (fun hS' => by have := hS k hS'; omega)).trans (hB.block k hk)⟩

theorem own_step {b e s n : Nat} {v : Value} {xs : List Value} (h : w.ownsRow b e s v n xs) (hb : ∀ k, v.ownBlock = some k → w1.heap[k]? = w.heap[k]?) : w1.ownsRow b e s v n xs := by
  refine ⟨h.1, ?_⟩
  rcases h.2 with h1 | ⟨g, cap, cur, rfl, h2, h3, h4⟩
  · exact .inl h1
  · exact .inr ⟨g, cap, cur, rfl, h2, (hb g rfl).trans h3, h4⟩

theorem HpV.step (h : HpV w hb S H vc vn vm) (hk : ∀ k, S k → w1.heap[k]? = w.heap[k]?) (hs : w.heap.size ≤ w1.heap.size) : HpV w1 hb S H vc vn vm :=
  ⟨(hk hb h.Sh).trans h.blk, own_step h.rc fun k e => hk k (h.Sc k e), own_step h.rn fun k e => hk k (h.Sn k e), own_step h.rm fun k e => hk k (h.Sm k e), h.lc, h.ln, h.lm, h.tr, h.mo, h.Sh, h.Sc, h.Sn, h.Sm, fun k hS => Nat.lt_of_lt_of_le (h.Sl k hS) hs⟩
theorem HpV.below (h : HpV w hb S H vc vn vm) (hB : Below w.heap.size w w1) : HpV w1 hb S H vc vn vm := h.step (fun k hS => hB.block k (h.Sl k hS)) hB.size
theorem HpV.alloc (h : HpV w hb S H vc vn vm) (o : Obj) : HpV (w.alloc o) hb S H vc vn vm := h.below (below_alloc (Below.refl _ _) o)
theorem HpV.drewN (h : HpV w hb S H vc vn vm) (n : Nat) : HpV (w.drewN n) hb S H vc vn vm := h.below (pw_below_drewN (Below.refl _ _) n)
theorem HpAt.below (h : HpAt w hb S H) (hB : Below w.heap.size w w1) : HpAt w1 hb S H := by obtain ⟨a, b, c, h⟩ := h; exact ⟨a, b, c, h.below hB⟩
theorem HpAt.alloc (h : HpAt w hb S H) (o : Obj) : HpAt (w.alloc o) hb S H := h.below (below_alloc (Below.refl _ _) o)
theorem HpAt.drewN (h : HpAt w hb S H) (n : Nat) : HpAt (w.drewN n) hb S H := h.below (pw_below_drewN (Below.refl _ _) n)
theorem HpAt.step (h : HpAt w hb S H) (hk : ∀ k, S k → w1.heap[k]? = w.heap[k]?) (hs : w.heap.size ≤ w1.heap.size) : HpAt w1 hb S H := by obtain ⟨a, b, c, h⟩ := h; exact ⟨a, b, c, h.step hk hs⟩
theorem HpAt.lt (h : HpAt w hb S H) : ∀ k, S k → k < w.heap.size := by obtain ⟨a, b, c, h⟩ := h; exact h.Sl
theorem HpAt.to (h : HpAt w1 hb S H) (hf : Fs S w w1) : HpTo w hb S H w1 := ⟨S, h, hf, fun _ h => .inl h⟩
theorem HpTo.after {H' : Hp} {S' : Nat → Prop} (h : HpTo w1 hb S' H' w2) (hf : Fs S w w1) (hs : ∀ k, S' k → S k ∨ w.heap.size ≤ k) : HpTo w hb S H' w2 := by
  obtain ⟨S2, h1, h2, h3⟩ := h
  exact ⟨S2, h1, hf.trans h2 hs, fun k hk => by
    rcases h3 k hk with h | h
    · exact hs k h
    · exact .inr (Nat.le_trans hf.size h)⟩

theorem HpV.c0 (h : HpV w hb S H vc vn vm) : w.cell? ⟨hb, 0, none⟩ = some (.int .i64 H.most) := blk_cell h.blk 0
theorem HpV.c1 (h : HpV w hb S H vc vn vm) : w.cell? ⟨hb, 1, none⟩ = some (.int .i64 H.trail) := blk_cell h.blk 1
theorem HpV.c2 (h : HpV w hb S H vc vn vm) : w.cell? ⟨hb, 2, none⟩ = some vc := blk_cell h.blk 2
theorem HpV.c3 (h : HpV w hb S H vc vn vm) : w.cell? ⟨hb, 3, none⟩ = some vn := blk_cell h.blk 3
theorem HpV.c4 (h : HpV w hb S H vc vn vm) : w.cell? ⟨hb, 4, none⟩ = some vm := blk_cell h.blk 4

/-- What lies at a cell's place. -/
structure Seen1 (w : World) (g x : Nat) (c : Cl) : Prop where
  d0 : w.cell? ⟨g, x * 5, none⟩ = some (.int .i64 c.kd)
  d1 : w.cell? ⟨g, x * 5 + 1, none⟩ = some (.string c.nm)
  d2 : w.cell? ⟨g, x * 5 + 2, none⟩ = some (.int .i64 c.n)
  d3 : w.cell? ⟨g, x * 5 + 3, none⟩ = some (.int .i64 c.a)
  d4 : w.cell? ⟨g, x * 5 + 4, none⟩ = some (.int .i64 c.ar)

theorem HpV.cell (h : HpV w hb S H vc vn vm) {x : Nat} {c : Cl} (hx : H.C[x]? = some c) : ∃ g cap, vc = .slice (some ⟨g, 0, none⟩) H.C.length cap ∧ H.C.length ≤ cap ∧ cap ≤ maxLen ∧ g < w.heap.size ∧ x < H.C.length ∧ Seen1 w g x c ∧ ∀ j, w.frozen? ⟨g, j, none⟩ = false := by
  obtain ⟨hxl, rfl⟩ := List.getElem?_eq_some_iff.1 hx
  have hrc := h.rc
  rcases h.rc.2 with ⟨_, h0⟩ | ⟨g, cap, cur, rfl, _, hg, h1, h2, _⟩
  · omega
  · refine ⟨g, cap, rfl, h1, h2, blk_lt hg, hxl, ?_, fun j => World.ownsRow.frozenAt hrc j⟩
    have hc : ∀ j, j < 5 → w.cell? ⟨g, x * 5 + j, none⟩ = (cellsC H.C[x])[j]? := fun j hj => by
      rw [World.ownsRow.cellAt hrc (x * 5 + j) (by omega)]
      exact flat_get cellsC 5 (fun _ => rfl) H.C x j hxl hj
    exact ⟨hc 0 (by omega), hc 1 (by omega), hc 2 (by omega), hc 3 (by omega), hc 4 (by omega)⟩

/-- So many steps on from an address. -/
inductive WalkL (C : List Cl) : Nat → Nat → Nat → Prop
  | here (x : Nat) (c : Cl) (h : C[x]? = some c) (hk : c.kd ≠ 1) : WalkL C 1 x x
  | on (n x b y : Nat) (c : Cl) (h : C[x]? = some c) (hk : c.kd = 1) (ha : c.a = b) (hw : WalkL C n b y) : WalkL C (n + 1) x y
theorem Walk.len {C : List Cl} {x y : Nat} (h : Walk C x y) : ∃ n, WalkL C n x y := by
  induction h with
  | here x c h hk => exact ⟨1, .here x c h hk⟩
  | on x b y c h hk ha hw ih => obtain ⟨n, h1⟩ := ih; exact ⟨n + 1, .on n x b y c h hk ha h1⟩

set_option maxHeartbeats 1000000 in
theorem walk_any {a a' : Nat} (w : World) (hb : Nat) (S : Nat → Prop) (H : Hp) (h : HpAt w hb S H) (hw : Walk H.C a a') :
    Calls Try.prog 53 #[.pointer (some ⟨hb, 0, none⟩), .int .i64 a] w fun e w' => e = .returned (.int .i64 a') ∧ w = w' := by
  obtain ⟨n, hn⟩ := hw.len
  obtain ⟨vc, vn, vm, h⟩ := h
  have hlc := h.lc
  go_enter Try.func53, Try.ntmps53
  go_wp2
  go_loopg [1] n (fun kq i wr => ∃ x : Nat, i = .int .i64 x ∧ WalkL H.C kq x a' ∧ wr = w)
  case atStart => exact ⟨a, rfl, hn, rfl⟩
  case round =>
    obtain ⟨x, rfl, hx, rfl⟩ := hrel
    cases hx with
    | here _ c hc hk =>
      obtain ⟨g, cap, rfl, h1, h2, h3, h4, h5, h6⟩ := h.cell hc
      have c2 := h.c2
      have d0 := h5.d0
      have e0 : (c.kd == 1) = false := by simpa using hk
      go_wp2
      go_ret
      exact ⟨rfl, rfl⟩
    | on k _ b _ c hc hk ha hw =>
      obtain ⟨g, cap, rfl, h1, h2, h3, h4, h5, h6⟩ := h.cell hc
      have c2 := h.c2
      have d0 := h5.d0
      have d3 := h5.d3
      have e0 : (c.kd == 1) = true := by simpa using hk
      rw [ha] at d3
      go_wp2
      go_roundg k
      case measure => omega
      case rel => exact ⟨b, rfl, hw, rfl⟩

end Go.Proofs.Ytjhhacighfpdbaa
