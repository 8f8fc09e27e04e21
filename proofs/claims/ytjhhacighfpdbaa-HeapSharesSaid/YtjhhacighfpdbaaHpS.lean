/- A heap's rows, changed. -/
import Derived.Test.YtjhhacighfpdbaaHpA
namespace Go.Proofs.Ytjhhacighfpdbaa
set_option linter.unusedVariables false
open Go.RowKit Go.Maps Go.Proofs.YtjhhacighfpdbaaW.PrintWords Go.Proofs.YtjhhacighfpdbaaW.PrintLast Go.Proofs.YtjhhacighfpdbaaW.PrintMore Go.Proofs.Ytjhhacighfpdbaa.PHeapShares Go.Extern

variable {S : Nat → Prop} {w w1 w2 : World} {hb : Nat} {H : Hp} {vc vn vm : Value}

theorem HpV.neC (h : HpV w hb S H vc vn vm) : some hb ≠ vc.ownBlock := own_ne h.rc h.blk (by decide)
theorem HpV.neN (h : HpV w hb S H vc vn vm) : some hb ≠ vn.ownBlock := own_ne h.rn h.blk (by decide)
theorem HpV.neM (h : HpV w hb S H vc vn vm) : some hb ≠ vm.ownBlock := own_ne h.rm h.blk (by decide)
theorem HpV.neCN (h : HpV w hb S H vc vn vm) : ∀ k, vc.ownBlock = some k → vn.ownBlock ≠ some k := fun k e1 e2 => by
  rcases own_type_ne h.rc h.rn (by decide) with h0 | h0 <;> simp_all
theorem HpV.neCM (h : HpV w hb S H vc vn vm) : ∀ k, vc.ownBlock = some k → vm.ownBlock ≠ some k := fun k e1 e2 => by
  rcases own_type_ne h.rc h.rm (by decide) with h0 | h0 <;> simp_all
theorem HpV.neNC (h : HpV w hb S H vc vn vm) : ∀ k, vn.ownBlock = some k → vc.ownBlock ≠ some k := fun k e1 e2 => by
  rcases own_type_ne h.rn h.rc (by decide) with h0 | h0 <;> simp_all
theorem HpV.neNM (h : HpV w hb S H vc vn vm) : ∀ k, vn.ownBlock = some k → vm.ownBlock ≠ some k := fun k e1 e2 => by
  rcases own_type_ne h.rn h.rm (by decide) with h0 | h0 <;> simp_all
theorem HpV.neMC (h : HpV w hb S H vc vn vm) : ∀ k, vm.ownBlock = some k → vc.ownBlock ≠ some k := fun k e1 e2 => by
  rcases own_type_ne h.rm h.rc (by decide) with h0 | h0 <;> simp_all
theorem HpV.neMN (h : HpV w hb S H vc vn vm) : ∀ k, vm.ownBlock = some k → vn.ownBlock ≠ some k := fun k e1 e2 => by
  rcases own_type_ne h.rm h.rn (by decide) with h0 | h0 <;> simp_all

/-- The row C is another now. -/
theorem HpV.setC {u : Value} {X : List Cl} (h : HpV w hb S H vc vn vm) (hg : w.grownBy w2 vc.ownBlock) (ho : w2.ownsRow 0 66 5 u X.length (X.flatMap cellsC)) (hn : ∀ k, u.ownBlock = some k → vc.ownBlock = some k ∨ w.heap.size ≤ k) (hl : X.length ≤ 65536) :
    HpV (w2.setCell ⟨hb, 2, none⟩ u) hb (fun k => S k ∨ u.ownBlock = some k) { H with C := X } u vn vm ∧ Fs S w (w2.setCell ⟨hb, 2, none⟩ u) ∧ (∀ k, (S k ∨ u.ownBlock = some k) → S k ∨ w.heap.size ≤ k) := by
  have hblk : w2.heap[hb]? = some (.cells #[.int .i64 H.most, .int .i64 H.trail, vc, vn, vm] 58 (0, 0)) := blk_grown h.blk hg h.neC
  refine ⟨⟨?_, ?_, ?_, ?_, hl, h.ln, h.lm, h.tr, h.mo, .inl h.Sh, fun k e => .inr e, fun k e => .inl (h.Sn k e), fun k e => .inl (h.Sm k e), fun k hk => ?_⟩, ⟨hg.os, hg.tape, hg.output, by simpa [World.setCell] using hg.size, fun k hk hS => ?_⟩, fun k hk => ?_⟩
  · have := blk_set hblk 2 u
    simpa using this
  · exact own_setCell ho (own_ne ho hblk (by decide)) u
  · exact own_step h.rn fun k e => (Below.heap_setCell w2 ⟨hb, 2, none⟩ u k (fun e2 => h.neN (by rw [e, e2]))).trans (hg.block k (World.ownsRow.lt h.rn k e).2 (fun e2 => h.neNC k e e2.symm))
  · exact own_step h.rm fun k e => (Below.heap_setCell w2 ⟨hb, 2, none⟩ u k (fun e2 => h.neM (by rw [e, e2]))).trans (hg.block k (World.ownsRow.lt h.rm k e).2 (fun e2 => h.neMC k e e2.symm))
  · simp only [World.setCell, Array.size_modify]
    rcases hk with hk | hk
    · exact Nat.lt_of_lt_of_le (h.Sl k hk) hg.size
    · exact (World.ownsRow.lt ho k hk).2
  · have hkb : k ≠ hb := fun e => hS (e ▸ h.Sh)
    exact (Below.heap_setCell w2 ⟨hb, 2, none⟩ u k hkb).trans (hg.block k hk (fun e => hS (h.Sc k e.symm)))
  · rcases hk with hk | hk
    · exact .inl hk
    · rcases hn k hk with h1 | h1
      · exact .inl (h.Sc k h1)
      · exact .inr h1

/-- The row N is another now. -/
theorem HpV.setN {u : Value} {X : List Nt} (h : HpV w hb S H vc vn vm) (hg : w.grownBy w2 vn.ownBlock) (ho : w2.ownsRow 0 99 6 u X.length (X.flatMap cellsN)) (hn : ∀ k, u.ownBlock = some k → vn.ownBlock = some k ∨ w.heap.size ≤ k) (hl : X.length ≤ 65536) :
    HpV (w2.setCell ⟨hb, 3, none⟩ u) hb (fun k => S k ∨ u.ownBlock = some k) { H with N := X } vc u vm ∧ Fs S w (w2.setCell ⟨hb, 3, none⟩ u) ∧ (∀ k, (S k ∨ u.ownBlock = some k) → S k ∨ w.heap.size ≤ k) := by
  have hblk : w2.heap[hb]? = some (.cells #[.int .i64 H.most, .int .i64 H.trail, vc, vn, vm] 58 (0, 0)) := blk_grown h.blk hg h.neN
  refine ⟨⟨?_, ?_, ?_, ?_, h.lc, hl, h.lm, h.tr, h.mo, .inl h.Sh, fun k e => .inl (h.Sc k e), fun k e => .inr e, fun k e => .inl (h.Sm k e), fun k hk => ?_⟩, ⟨hg.os, hg.tape, hg.output, by simpa [World.setCell] using hg.size, fun k hk hS => ?_⟩, fun k hk => ?_⟩
  · have := blk_set hblk 3 u
    simpa using this
  · exact own_step h.rc fun k e => (Below.heap_setCell w2 ⟨hb, 3, none⟩ u k (fun e2 => h.neC (by rw [e, e2]))).trans (hg.block k (World.ownsRow.lt h.rc k e).2 (fun e2 => h.neCN k e e2.symm))
  · exact own_setCell ho (own_ne ho hblk (by decide)) u
  · exact own_step h.rm fun k e => (Below.heap_setCell w2 ⟨hb, 3, none⟩ u k (fun e2 => h.neM (by rw [e, e2]))).trans (hg.block k (World.ownsRow.lt h.rm k e).2 (fun e2 => h.neMN k e e2.symm))
  · simp only [World.setCell, Array.size_modify]
    rcases hk with hk | hk
    · exact Nat.lt_of_lt_of_le (h.Sl k hk) hg.size
    · exact (World.ownsRow.lt ho k hk).2
  · have hkb : k ≠ hb := fun e => hS (e ▸ h.Sh)
    exact (Below.heap_setCell w2 ⟨hb, 3, none⟩ u k hkb).trans (hg.block k hk (fun e => hS (h.Sn k e.symm)))
  · rcases hk with hk | hk
    · exact .inl hk
    · rcases hn k hk with h1 | h1
      · exact .inl (h.Sn k h1)
      · exact .inr h1

/-- The row M is another now. -/
theorem HpV.setM {u : Value} {X : List (Nat × Nat)} (h : HpV w hb S H vc vn vm) (hg : w.grownBy w2 vm.ownBlock) (ho : w2.ownsRow 0 73 2 u X.length (X.flatMap cellsM)) (hn : ∀ k, u.ownBlock = some k → vm.ownBlock = some k ∨ w.heap.size ≤ k) (hl : X.length ≤ 1000000) :
    HpV (w2.setCell ⟨hb, 4, none⟩ u) hb (fun k => S k ∨ u.ownBlock = some k) { H with M := X } vc vn u ∧ Fs S w (w2.setCell ⟨hb, 4, none⟩ u) ∧ (∀ k, (S k ∨ u.ownBlock = some k) → S k ∨ w.heap.size ≤ k) := by
  have hblk : w2.heap[hb]? = some (.cells #[.int .i64 H.most, .int .i64 H.trail, vc, vn, vm] 58 (0, 0)) := blk_grown h.blk hg h.neM
  refine ⟨⟨?_, ?_, ?_, ?_, h.lc, h.ln, hl, h.tr, h.mo, .inl h.Sh, fun k e => .inl (h.Sc k e), fun k e => .inl (h.Sn k e), fun k e => .inr e, fun k hk => ?_⟩, ⟨hg.os, hg.tape, hg.output, by simpa [World.setCell] using hg.size, fun k hk hS => ?_⟩, fun k hk => ?_⟩
  · have := blk_set hblk 4 u
    simpa using this
  · exact own_step h.rc fun k e => (Below.heap_setCell w2 ⟨hb, 4, none⟩ u k (fun e2 => h.neC (by rw [e, e2]))).trans (hg.block k (World.ownsRow.lt h.rc k e).2 (fun e2 => h.neCM k e e2.symm))
  · exact own_step h.rn fun k e => (Below.heap_setCell w2 ⟨hb, 4, none⟩ u k (fun e2 => h.neN (by rw [e, e2]))).trans (hg.block k (World.ownsRow.lt h.rn k e).2 (fun e2 => h.neNM k e e2.symm))
  · exact own_setCell ho (own_ne ho hblk (by decide)) u
  · simp only [World.setCell, Array.size_modify]
    rcases hk with hk | hk
    · exact Nat.lt_of_lt_of_le (h.Sl k hk) hg.size
    · exact (World.ownsRow.lt ho k hk).2
  · have hkb : k ≠ hb := fun e => hS (e ▸ h.Sh)
    exact (Below.heap_setCell w2 ⟨hb, 4, none⟩ u k hkb).trans (hg.block k hk (fun e => hS (h.Sm k e.symm)))
  · rcases hk with hk | hk
    · exact .inl hk
    · rcases hn k hk with h1 | h1
      · exact .inl (h.Sm k h1)
      · exact .inr h1

/-- A cell is written over. -/
theorem HpV.putC {g cap x : Nat} (h : HpV w hb S H (.slice (some ⟨g, 0, none⟩) H.C.length cap) vn vm) (hx : x < H.C.length) (c : Cl) :
    HpV (((((w.setCell ⟨g, x * 5, none⟩ (.int .i64 c.kd)).setCell ⟨g, x * 5 + 1, none⟩ (.string c.nm)).setCell ⟨g, x * 5 + 2, none⟩ (.int .i64 c.n)).setCell ⟨g, x * 5 + 3, none⟩ (.int .i64 c.a)).setCell ⟨g, x * 5 + 4, none⟩ (.int .i64 c.ar)) hb S { H with C := H.C.set x c } (.slice (some ⟨g, 0, none⟩) H.C.length cap) vn vm ∧
    Fs S w (((((w.setCell ⟨g, x * 5, none⟩ (.int .i64 c.kd)).setCell ⟨g, x * 5 + 1, none⟩ (.string c.nm)).setCell ⟨g, x * 5 + 2, none⟩ (.int .i64 c.n)).setCell ⟨g, x * 5 + 3, none⟩ (.int .i64 c.a)).setCell ⟨g, x * 5 + 4, none⟩ (.int .i64 c.ar)) := by
  have hfar : ∀ k, k ≠ g → (((((w.setCell ⟨g, x * 5, none⟩ (.int .i64 c.kd)).setCell ⟨g, x * 5 + 1, none⟩ (.string c.nm)).setCell ⟨g, x * 5 + 2, none⟩ (.int .i64 c.n)).setCell ⟨g, x * 5 + 3, none⟩ (.int .i64 c.a)).setCell ⟨g, x * 5 + 4, none⟩ (.int .i64 c.ar)).heap[k]? = w.heap[k]? := fun k hk => by
    have h1 : ∀ (w : World) (o : Nat) (u : Value), (w.setCell ⟨g, o, none⟩ u).heap[k]? = w.heap[k]? := fun w o u => Below.heap_setCell w ⟨g, o, none⟩ u k hk
    rw [h1, h1, h1, h1, h1]
  have hgS : S g := h.Sc g rfl
  have key : ∀ W : World, (∀ k, k ≠ g → W.heap[k]? = w.heap[k]?) → W.ownsRow 0 66 5 (.slice (some ⟨g, 0, none⟩) H.C.length cap) H.C.length ((H.C.set x c).flatMap cellsC) → W.heap.size = w.heap.size → W.os = w.os → W.tape = w.tape → W.output = w.output →
      HpV W hb S { H with C := H.C.set x c } (.slice (some ⟨g, 0, none⟩) H.C.length cap) vn vm ∧ Fs S w W := fun W hfar hrow hos h1 h2 h3 =>
    ⟨⟨(hfar hb fun e => h.neC (by rw [e]; rfl)).trans h.blk, by rw [List.length_set]; exact hrow, own_step h.rn fun k e => hfar k (fun e2 => h.neNC k e (by rw [e2]; rfl)), own_step h.rm fun k e => hfar k (fun e2 => h.neMC k e (by rw [e2]; rfl)), by rw [List.length_set]; exact h.lc, h.ln, h.lm, h.tr, h.mo, h.Sh, h.Sc, h.Sn, h.Sm, fun k hk => by rw [hos]; exact h.Sl k hk⟩, ⟨h1, h2, h3, by rw [hos]; exact Nat.le_refl _, fun k hk hS => hfar k fun e => hS (e ▸ hgS)⟩⟩
  have hs : ∀ (w : World) (o : Nat) (u : Value), (w.setCell ⟨g, o, none⟩ u).heap.size = w.heap.size ∧ (w.setCell ⟨g, o, none⟩ u).os = w.os ∧ (w.setCell ⟨g, o, none⟩ u).tape = w.tape ∧ (w.setCell ⟨g, o, none⟩ u).output = w.output := fun w o u => ⟨by simp [World.setCell], rfl, rfl, rfl⟩
  refine key _ hfar ?_ ?_ ?_ ?_ ?_
  rotate_left
  · rw [(hs _ _ _).1, (hs _ _ _).1, (hs _ _ _).1, (hs _ _ _).1, (hs _ _ _).1]
  · rw [(hs _ _ _).2.1, (hs _ _ _).2.1, (hs _ _ _).2.1, (hs _ _ _).2.1, (hs _ _ _).2.1]
  · rw [(hs _ _ _).2.2.1, (hs _ _ _).2.2.1, (hs _ _ _).2.2.1, (hs _ _ _).2.2.1, (hs _ _ _).2.2.1]
  · rw [(hs _ _ _).2.2.2, (hs _ _ _).2.2.2, (hs _ _ _).2.2.2, (hs _ _ _).2.2.2, (hs _ _ _).2.2.2]
  have r1 := (World.ownsRow.stored h.rc (x * 5) (.int .i64 c.kd)).1
  have r2 := (World.ownsRow.stored r1 (x * 5 + 1) (.string c.nm)).1
  have r3 := (World.ownsRow.stored r2 (x * 5 + 2) (.int .i64 c.n)).1
  have r4 := (World.ownsRow.stored r3 (x * 5 + 3) (.int .i64 c.a)).1
  have r5 := (World.ownsRow.stored r4 (x * 5 + 4) (.int .i64 c.ar)).1
  have e := flat_set5 H.C x c hx
  rw [e]
  exact r5

end Go.Proofs.Ytjhhacighfpdbaa
