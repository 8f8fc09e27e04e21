/- tame walked; V. -/
import Derived.Test.YtpnkaggkedepeaaTmQe
namespace Go.Proofs.Ytpnkaggkedepeaa
set_option linter.unusedVariables false
open Go.RowKit Go.Maps Go.Proofs.YtpnkaggkedepeaaW.PrintWords Go.Proofs.YtpnkaggkedepeaaW.PrintLast Go.Proofs.YtpnkaggkedepeaaW.PrintMore Go.Proofs.Ytpnkaggkedepeaa.PTermTells Go.Extern

def tameT (ts : List S24) : Bool := ts.all fun t => decide (nodes t ≤ 100)
set_option maxHeartbeats 4000000 in
set_option maxRecDepth 100000 in
theorem tame_any (ts : List S24) (w0 W : World) (A : Option Addr) (c : Nat) (hC : Kd.C k24 w0 A ts.length ts) (hB0 : Below w0.heap.size w0 W) (hwf : ∀ t ∈ ts, wfT t) :
    Calls Try.prog 35 #[.slice A ts.length c] W fun e w' => e = .returned (.bool (tameT ts)) ∧ Below w0.heap.size w0 w' := by
  have hmx := hC.2.1
  go_enter Try.func35, Try.ntmps35
  go_wp2
  go_loopw [7] (fun i wr => ∃ k : Nat, k ≤ ts.length ∧ i = .int .i64 k ∧ tameT ts = tameT (ts.drop k) ∧ Below w0.heap.size w0 wr)
    (fun i _ => ts.length - (intOf i).toNat)
  case atStart => exact ⟨0, Nat.zero_le _, rfl, rfl, hB0⟩
  case round =>
    obtain ⟨k, hk, rfl, ho, hb⟩ := hrel
    by_cases hlt : k < ts.length
    · obtain ⟨ad, A3, c3, rfl, y0, y1, y2, y3, l3, g3⟩ := C_rd hC k hlt rfl
      replace y0 := (hb.cell (World.block_lt_of_cell? w0 _ y0)).trans y0
      replace y1 := (hb.cell (World.block_lt_of_cell? w0 _ y1)).trans y1
      replace y2 := (hb.cell (World.block_lt_of_cell? w0 _ y2)).trans y2
      replace y3 := (hb.cell (World.block_lt_of_cell? w0 _ y3)).trans y3
      have L3 : Lies w0 ts[k] A3 c3 := ⟨g3, l3, hwf _ (List.getElem_mem hlt)⟩
      rw [List.drop_eq_getElem_cons hlt] at ho
      generalize ts[k] = a at y0 y1 y2 y3 l3 g3 ho L3
      have hb1 := below_alloc hb (.cells #[.int .i64 a.f0, .string a.f1, .int .i64 a.f2, .slice A3 a.f3.length c3] 24)
      have hcall := rsize_at L3 hb1 (most := 100) (by decide) (by decide)
      obtain ⟨m, hm⟩ : ∃ m : Int, m = min (nodes a : Int) (100 + 1) := ⟨_, rfl⟩
      have hcut : tameT (a :: ts.drop (k + 1)) = if m > 100 then false else tameT (ts.drop (k + 1)) := by
        unfold tameT
        rw [List.all_cons]
        by_cases h : nodes a ≤ 100
        · rw [decide_eq_true h, if_neg (by omega)]; rfl
        · rw [decide_eq_false h, if_pos (by omega)]; rfl
      rw [hcut] at ho
      rw [← hm] at hcall
      clear hm hcut hb1 L3 g3 l3
      go_wp2_with fail
      refine hcall.mono ?_
      rintro e w5 ⟨rfl, hb5⟩
      clear hcall hb y0 y1 y2 y3
      by_cases hgt : m > 100
      · rw [if_pos hgt] at ho
        go_wp2
        go_ret
        exact ⟨by rw [ho]; rfl, hb5⟩
      · rw [if_neg hgt] at ho
        go_wp2
        go_roundw
        case rel => exact ⟨k + 1, by omega, by go_num, ho, hb5⟩
        case measure => simp [intOf]; omega
    · have hf : k = ts.length := by omega
      subst hf
      rw [List.drop_of_length_le (Nat.le_refl _)] at ho
      clear hlt hk
      go_wp2
      go_ret
      exact ⟨by rw [ho]; rfl, hb⟩
end Go.Proofs.Ytpnkaggkedepeaa
