/- The walks of Undo, Keep. -/
import Derived.Test.YtjhhacighfpdbaaHpI
namespace Go.Proofs.Ytjhhacighfpdbaa
set_option linter.unusedVariables false
open Go.RowKit Go.Maps Go.Proofs.YtjhhacighfpdbaaW.PrintWords Go.Proofs.YtjhhacighfpdbaaW.PrintLast Go.Proofs.YtjhhacighfpdbaaW.PrintMore Go.Proofs.Ytjhhacighfpdbaa.PHeapShares Go.Extern

theorem HpV.cutC {w : World} {hb m cn : Nat} {S : Nat → Prop} {H : Hp} {vn vm : Value} {A : Option Addr} (h : HpV w hb S H (.slice A H.C.length cn) vn vm) (hm : m ≤ H.C.length) :
    HpV (w.setCell ⟨hb, 2, none⟩ (.slice A m cn)) hb S { H with C := H.C.take m } (.slice A m cn) vn vm ∧ Fs S w (w.setCell ⟨hb, 2, none⟩ (.slice A m cn)) := by
  have hl : (H.C.take m).length = m := by rw [List.length_take, Nat.min_eq_left hm]
  have hb1 : ∀ k, (Value.slice A m cn).ownBlock = some k → (Value.slice A H.C.length cn).ownBlock = some k := fun k e => by cases A <;> exact e
  obtain ⟨h1, h2, _⟩ := HpV.setC (u := .slice A m cn) (X := H.C.take m) h (World.grownBy.refl w _) (by rw [hl]; exact own_cut cellsC (fun _ => rfl) h.rc rfl hm) (fun k e => .inl (hb1 k e)) (by have := h.lc; omega)
  exact ⟨h1.shrink fun k e => h.Sc k (hb1 k e), h2⟩
theorem HpV.cutM {w : World} {hb m cn : Nat} {S : Nat → Prop} {H : Hp} {vc vn : Value} {A : Option Addr} (h : HpV w hb S H vc vn (.slice A H.M.length cn)) (hm : m ≤ H.M.length) :
    HpV (w.setCell ⟨hb, 4, none⟩ (.slice A m cn)) hb S { H with M := H.M.take m } vc vn (.slice A m cn) ∧ Fs S w (w.setCell ⟨hb, 4, none⟩ (.slice A m cn)) := by
  have hl : (H.M.take m).length = m := by rw [List.length_take, Nat.min_eq_left hm]
  have hb1 : ∀ k, (Value.slice A m cn).ownBlock = some k → (Value.slice A H.M.length cn).ownBlock = some k := fun k e => by cases A <;> exact e
  obtain ⟨h1, h2, _⟩ := HpV.setM (u := .slice A m cn) (X := H.M.take m) h (World.grownBy.refl w _) (by rw [hl]; exact own_cut cellsM (fun _ => rfl) h.rm rfl hm) (fun k e => .inl (hb1 k e)) (by have := h.lm; omega)
  exact ⟨h1.shrink fun k e => h.Sm k (hb1 k e), h2⟩

def KeepPost (w : World) (hb : Nat) (S : Nat → Prop) (H : Hp) (m : Nat) (e : Ending) (w' : World) : Prop := e = .returned (.int .i64 0) ∧ HpTo w hb S { H with M := H.M.take (m - 1) } w'

set_option maxHeartbeats 1000000 in
theorem Keep_any (w : World) (hb : Nat) (S : Nat → Prop) (H : Hp) (m : Nat) (hp : HpAt w hb S H) (h1 : 1 ≤ m) (h2 : m ≤ H.M.length) :
    Calls Try.prog 15 #[.pointer (some ⟨hb, 0, none⟩), .int .i64 m] w (KeepPost w hb S H m) := by
  obtain ⟨vc, vn, vm, hv⟩ := hp
  obtain ⟨A3, c3, rfl⟩ : ∃ A c, vm = .slice A H.M.length c := own_slice hv.rm
  have hcap : H.M.length ≤ c3 := own_cap hv.rm
  have hlm := hv.lm
  have x4 := hv.c4
  have f4 : w.frozen? ⟨hb, 4, none⟩ = false := blk_frozen hv.blk 4
  obtain ⟨k, rfl⟩ : ∃ k, m = k + 1 := ⟨m - 1, by omega⟩
  have e1 : decide (((k + 1 : Nat) : Int) < 1) = false := decide_eq_false (by omega)
  have e2 : decide ((H.M.length : Int) < ((k + 1 : Nat) : Int)) = false := decide_eq_false (by omega)
  have ek : ((k + 1 : Nat) : Int) = (k : Int) + 1 := by push_cast; rfl
  rw [ek] at e1 e2 ⊢
  clear ek
  have hkc : k ≤ c3 := by omega
  have hfin := hv.cutM (m := k) (by omega)
  have hto : KeepPost w hb S H (k + 1) (.returned (.int .i64 0)) (w.setCell ⟨hb, 4, none⟩ (.slice A3 k c3)) := ⟨rfl, S, ⟨_, _, _, hfin.1⟩, hfin.2, fun k h => .inl h⟩
  clear hfin
  go_enter Try.func15, Try.ntmps15
  go_wp2
  go_ret
  exact hto

/-- No such mark. -/
theorem Undo_bad (w : World) (hb : Nat) (S : Nat → Prop) (H : Hp) (m : Nat) (hp : HpAt w hb S H) (h1 : 1 ≤ m) (h2 : H.M.length < m) (h3 : m ≤ 2000000) :
    Calls Try.prog 14 #[.pointer (some ⟨hb, 0, none⟩), .int .i64 m] w fun e w' => e = .returned (.int .i64 1) ∧ w = w' := by
  obtain ⟨vc, vn, vm, hv⟩ := hp
  obtain ⟨A3, c3, rfl⟩ : ∃ A c, vm = .slice A H.M.length c := own_slice hv.rm
  have x4 := hv.c4
  have e1 : decide ((m : Int) < 1) = false := decide_eq_false (by omega)
  have e2 : decide ((H.M.length : Int) < (m : Int)) = true := decide_eq_true (by omega)
  go_enter Try.func14, Try.ntmps14
  go_wp2
  go_ret
  exact ⟨rfl, rfl⟩

def UndoPost (w : World) (hb : Nat) (S : Nat → Prop) (H : Hp) (m c n : Nat) (e : Ending) (w' : World) : Prop :=
  e = .returned (.int .i64 0) ∧ HpTo w hb S { H with C := (backC H.C (H.N.drop n)).take c, N := H.N.take n, M := H.M.take m } w'

set_option maxHeartbeats 2000000 in
set_option maxRecDepth 100000 in
theorem Undo_any (w : World) (hb : Nat) (S : Nat → Prop) (H : Hp) (m c n : Nat) (hp : HpAt w hb S H) (h1 : 1 ≤ m) (h2 : m ≤ H.M.length) (hm : H.M[m - 1]? = some (c, n)) (hc : c ≤ H.C.length) (hn : n ≤ H.N.length) (hN : ∀ p ∈ H.N.drop n, p.1 < H.C.length) :
    Calls Try.prog 14 #[.pointer (some ⟨hb, 0, none⟩), .int .i64 m] w (UndoPost w hb S H m c n) := by
  have hp0 := hp
  obtain ⟨vc, vn, vm, hv⟩ := hp
  obtain ⟨A3, c3, rfl⟩ : ∃ A c, vm = .slice A H.M.length c := own_slice hv.rm
  have hcap : H.M.length ≤ c3 := own_cap hv.rm
  have hlm := hv.lm
  have hlc := hv.lc
  have hln := hv.ln
  have x4 := hv.c4
  obtain ⟨k, rfl⟩ : ∃ k, m = k + 1 := ⟨m - 1, by omega⟩
  rw [Nat.add_sub_cancel] at hm
  obtain ⟨g, hg, hgl, z0, z1⟩ : ∃ g, A3 = some ⟨g, 0, none⟩ ∧ g < w.heap.size ∧ w.cell? ⟨g, k * 2, none⟩ = some (.int .i64 c) ∧ w.cell? ⟨g, k * 2 + 1, none⟩ = some (.int .i64 n) := by
    obtain ⟨hk, hkm⟩ := List.getElem?_eq_some_iff.1 hm
    have hrm := hv.rm
    rcases hv.rm.2 with ⟨_, h0⟩ | ⟨g, cap, cur, he, _, hg, _, _, _⟩
    · omega
    · cases he
      have hcc : ∀ i, i < 2 → w.cell? ⟨g, k * 2 + i, none⟩ = (cellsM (c, n))[i]? := fun i hi => by
        rw [World.ownsRow.cellAt hrm (k * 2 + i) (by omega), flat_get cellsM 2 (fun _ => rfl) H.M k i hk hi, hkm]
      exact ⟨g, rfl, blk_lt hg, hcc 0 (by omega), hcc 1 (by omega)⟩
  subst hg
  have e1 : decide (((k + 1 : Nat) : Int) < 1) = false := decide_eq_false (by omega)
  have e2 : decide ((H.M.length : Int) < ((k + 1 : Nat) : Int)) = false := decide_eq_false (by omega)
  have ek : ((k + 1 : Nat) : Int) = (k : Int) + 1 := by push_cast; rfl
  rw [ek] at e1 e2 ⊢
  clear ek
  have hkl : k < H.M.length := by omega
  have hbk := back_any (w.alloc (.cells #[.int .i64 c, .int .i64 n] 73)) hb S H n (hp0.alloc _) hn hN
  have kB := blk_new w (.cells #[.int .i64 c, .int .i64 n] 73)
  have hf1 : Fs S w (w.alloc (.cells #[.int .i64 c, .int .i64 n] 73)) := (Fs.refl S w).alloc _
  have hSB : ¬ S w.heap.size := fun h => Nat.lt_irrefl _ (hv.Sl _ h)
  go_enter Try.func14, Try.ntmps14
  go_wp2_with fail
  refine hbk.mono ?_
  rintro e w2 ⟨rfl, S2, hp2, hf2, hS2⟩
  have kB2 := hf2.blk kB hSB
  have hfw := hf1.trans hf2 (fun k h => .inl h)
  have hSw : ∀ k, S2 k → S k ∨ w.heap.size ≤ k := fun k hk => (hS2 k hk).imp_right (Nat.le_trans hf1.size)
  clear hbk z0 z1 x4 kB hf1
  obtain ⟨vc, vn, vm, hv2⟩ := hp2
  obtain ⟨A2, c2, rfl⟩ : ∃ A c, vc = .slice A (backC H.C (H.N.drop n)).length c := own_slice hv2.rc
  obtain ⟨A4, c4, rfl⟩ : ∃ A c, vm = .slice A H.M.length c := own_slice hv2.rm
  have hcap2 : (backC H.C (H.N.drop n)).length ≤ c2 := own_cap hv2.rc
  have hcap4 : H.M.length ≤ c4 := own_cap hv2.rm
  have hbl := backC_len H.C (H.N.drop n)
  obtain ⟨hv3, hf3⟩ := hv2.cutC (m := c) (by show c ≤ (backC H.C (H.N.drop n)).length; rw [hbl]; exact hc)
  obtain ⟨hv4, hf4⟩ := hv3.cutM (m := k + 1) h2
  have hto : HpTo w hb S { H with C := (backC H.C (H.N.drop n)).take c, N := H.N.take n, M := H.M.take (k + 1) } ((w2.setCell ⟨hb, 2, none⟩ (.slice A2 c c2)).setCell ⟨hb, 4, none⟩ (.slice A4 (k + 1) c4)).drew :=
    ⟨S2, ⟨_, _, _, hv4.drewF⟩, ((hfw.trans hf3 hSw).trans hf4 hSw).drewF, hSw⟩
  have y2 := hv2.c2
  have f2 : w2.frozen? ⟨hb, 2, none⟩ = false := blk_frozen hv2.blk 2
  have y0 := blk_cell kB2 0
  have y4 := hv3.drewF.c4
  have f4 : (w2.setCell ⟨hb, 2, none⟩ (.slice A2 c c2)).drew.frozen? ⟨hb, 4, none⟩ = false := blk_frozen hv3.drewF.blk 4
  have hcc2 : c ≤ c2 := by rw [hbl] at hcap2; omega
  have hkc4 : k + 1 ≤ c4 := by omega
  have Hbl := Lib.hid hbl
  clear hbl hv4 hf4 hv3 hf3
  go_wp2
  go_still_tail 10, (by kernel_rfl)
  go_wp2
  go_ret
  exact ⟨rfl, hto⟩

end Go.Proofs.Ytjhhacighfpdbaa
