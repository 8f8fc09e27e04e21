/- spoil walked. -/
import Derived.Test.YtpnkaggkedepeaaTmSp
import Derived.Test.YtpnkaggkedepeaaTmQe
namespace Go.Proofs.Ytpnkaggkedepeaa
set_option linter.unusedVariables false
open Go.RowKit Go.Maps Go.Proofs.YtpnkaggkedepeaaW.PrintWords Go.Proofs.YtpnkaggkedepeaaW.PrintLast Go.Proofs.YtpnkaggkedepeaaW.PrintMore Go.Proofs.Ytpnkaggkedepeaa.PTermTells Go.Extern

/-- A row of bindings of one's own. -/
theorem sp_binds {P : Nat → Prop} {W : World} {base : Nat} {ok : Nat → Prop} {v : Value} {xs : List S50} (h : Kd.R k50 50 W base ok v xs) (hP : ∀ k, ok k → (∃ cells, W.heap[k]? = some (.cells cells 24 (0, 0))) → P k) :
    v = .slice none 0 0 ∨ ∃ g cap cur, v = .slice (some ⟨g, 0, none⟩) xs.length cap ∧ W.heap[g]? = some (.cells cur 50 (0, 0)) ∧ xs.length ≤ cap ∧ xs.length ≤ maxLen ∧ ∃ n, ∀ i, i < xs.length →
      ∃ (q a b : Int) (s : ByteArray) (u : Value), cur[i * 5]? = some (.int .i64 q) ∧ cur[i * 5 + 1]? = some (.int .i64 a) ∧ cur[i * 5 + 2]? = some (.string s) ∧ cur[i * 5 + 3]? = some (.int .i64 b) ∧ cur[i * 5 + 4]? = some u ∧ Sp P W n u := by
  obtain ⟨hok, inner, ho, hl, hrep⟩ := h
  rcases ho.2 with ⟨rfl, -⟩ | ⟨g, cap, cur, rfl, hbg, hg, hnc, hcm, hcs, htake⟩
  · exact .inl rfl
  · have hsz : k50.sz = 5 := rfl
    rw [hsz] at hl hrep htake hcs
    refine .inr ⟨g, cap, cur, rfl, hg, hnc, Nat.le_trans hnc hcm, ?_⟩
    have hel : ∀ i, i < xs.length → ∃ (q a b : Int) (s : ByteArray) (u : Value), (cur[i * 5]? = some (.int .i64 q) ∧ cur[i * 5 + 1]? = some (.int .i64 a) ∧ cur[i * 5 + 2]? = some (.string s) ∧ cur[i * 5 + 3]? = some (.int .i64 b) ∧ cur[i * 5 + 4]? = some u) ∧ ∃ n, Sp P W n u := fun i hi => by
      obtain ⟨c0, c1, e0, h0, m, hm⟩ := hrep i xs[i] (List.getElem?_eq_getElem hi)
      have h0' : c0 = [.int .i64 xs[i].f0] := h0
      obtain ⟨v, ev, hv⟩ := sp_made (P := P) m _ _ _ hm (fun k hk => hP k hk.1)
      have hc : ∀ j, j < 5 → cur[i * 5 + j]? = ((inner.drop (i * 5)).take 5)[j]? := fun j hj => by
        rw [List.getElem?_take, if_pos hj, List.getElem?_drop, ← htake, List.getElem?_take, if_pos (by omega), Array.getElem?_toList]
      rw [e0, h0', ev] at hc
      exact ⟨_, _, _, _, v, ⟨hc 0 (by omega), hc 1 (by omega), hc 2 (by omega), hc 3 (by omega), hc 4 (by omega)⟩, hv⟩
    have hx : ∀ i, ∃ u : Value, i < xs.length → (∃ (q a b : Int) (s : ByteArray), cur[i * 5]? = some (.int .i64 q) ∧ cur[i * 5 + 1]? = some (.int .i64 a) ∧ cur[i * 5 + 2]? = some (.string s) ∧ cur[i * 5 + 3]? = some (.int .i64 b) ∧ cur[i * 5 + 4]? = some u) ∧ ∃ n, Sp P W n u := fun i => by
      by_cases hi : i < xs.length
      · obtain ⟨q, a, b, s, u, h, hu⟩ := hel i hi
        exact ⟨u, fun _ => ⟨⟨q, a, b, s, h⟩, hu⟩⟩
      · exact ⟨.slice none 0 0, fun h => absurd h hi⟩
    obtain ⟨n, hn⟩ := Sp.all (P := P) (W := W) (vs := fun i => (hx i).choose) xs.length fun i hi => ((hx i).choose_spec hi).2
    refine ⟨n, fun i hi => ?_⟩
    obtain ⟨q, a, b, s, h0, h1, h2, h3, h4⟩ := ((hx i).choose_spec hi).1
    exact ⟨q, a, b, s, _, h0, h1, h2, h3, h4, hn i hi⟩

set_option maxHeartbeats 4000000 in
set_option maxRecDepth 100000 in
theorem spoil_any (P : Nat → Prop) : ∀ (n : Nat) (v : Value) (kd nt : Int) (nm : ByteArray) (W : World), Sp P W n v → (∀ k, P k → k < W.heap.size) →
    Calls Try.prog 45 #[.agg #[.int .i64 kd, .string nm, .int .i64 nt, v]] W fun e w' => e = .returned (.tuple #[]) ∧ SpF P W w' := by
  have hnone : ∀ (kd nt : Int) (nm : ByteArray) (W : World), Calls Try.prog 45 #[.agg #[.int .i64 kd, .string nm, .int .i64 nt, .slice none 0 0]] W fun e w' => e = .returned (.tuple #[]) ∧ SpF P W w' := fun kd nt nm W => by
    go_enter Try.func45, Try.ntmps45
    go_wp2
    go_loopw [6] (fun i wr => i = .int .i64 0 ∧ wr = W.alloc (.cells #[.int .i64 kd, .string nm, .int .i64 nt, .slice none 0 0] 24)) (fun i _ => 0)
    case atStart => exact ⟨rfl, rfl⟩
    case round =>
      obtain ⟨rfl, rfl⟩ := hrel
      go_wp2
      go_end0
      exact ⟨rfl, .of_below (below_alloc (Below.refl _ W) _)⟩
  intro n
  induction n with
  | zero =>
    intro v kd nt nm W h hP
    cases h
    exact hnone kd nt nm W
  | succ n ih =>
    intro v kd nt nm W h hP
    generalize hm : n + 1 = m at h
    cases h with
    | none => exact hnone kd nt nm W
    | row n' g len c cur kds nts nms vs hPg hg hs hc hcm hcell hv =>
      obtain rfl : n = n' := by omega
      have h0 : Sp P W (n + 1) (.slice (some ⟨g, 0, none⟩) len c) := .row n g len c cur kds nts nms vs hPg hg hs hc hcm hcell hv
      have hln : len ≤ 9223372036854775807 := by have := Nat.le_trans hc hcm; unfold maxLen at this; exact this
      have hF0 : SpF P W (W.alloc (.cells #[.int .i64 kd, .string nm, .int .i64 nt, .slice (some ⟨g, 0, none⟩) len c] 24)) := .of_below (below_alloc (Below.refl _ W) _)
      have hb0 := blk_new W (.cells #[.int .i64 kd, .string nm, .int .i64 nt, .slice (some ⟨g, 0, none⟩) len c] 24)
      clear hcell hv hg hs
      have hPW : ¬ P W.heap.size := fun h => by have := hP _ h; omega
      go_enter Try.func45, Try.ntmps45
      go_wp2
      go_loopw [6] (fun i wr => ∃ k : Nat, k ≤ len ∧ i = .int .i64 k ∧ SpF P W wr ∧ wr.heap[W.heap.size]? = some (.cells #[.int .i64 kd, .string nm, .int .i64 nt, .slice (some ⟨g, 0, none⟩) len c] 24 (0, 0))) (fun i _ => len - (intOf i).toNat)
      case atStart => exact ⟨0, Nat.zero_le _, rfl, hF0, hb0⟩
      case round =>
        obtain ⟨k, hk, rfl, hF, hb⟩ := hrel
        have hbl := blk_lt hb
        have z3 := blk_cell hb 3
        by_cases hlt : k < len
        · have hx := h0.step hF
          generalize hm2 : n + 1 = m2 at hx
          cases hx with
          | row n2 _ _ _ cur2 kd2 nt2 nm2 vs2 hP2 hg2 hs2 hc2 hcm2 hcell2 hv2 =>
          obtain rfl : n = n2 := by omega
          obtain ⟨e0, e1, e2, e3⟩ := hcell2 k hlt
          have y0 := (blk_cell hg2 (k * 4)).trans e0
          have y1 := (blk_cell hg2 (k * 4 + 1)).trans e1
          have y2 := (blk_cell hg2 (k * 4 + 2)).trans e2
          have y3 := (blk_cell hg2 (k * 4 + 3)).trans e3
          have hcall := ih _ (kd2 k) (nt2 k) (nm2 k) wr (hv2 k hlt) (fun q hq => by have := hP q hq; have := hF.size; omega)
          obtain ⟨u, hu⟩ : ∃ u, vs2 k = u := ⟨_, rfl⟩
          rw [hu] at y3 hcall
          go_wp2_with fail
          refine hcall.mono ?_
          rintro e w5 ⟨rfl, hF5⟩
          have hF1 := hF.trans hF5
          have hb5 := hF5.blk hb hPW
          obtain ⟨cur3, hg3, hs3, -⟩ := hF5.upd g cur2 hP2 hg2
          clear z3 y0 y1 y2 y3 e0 e1 e2 e3 hcall hcell2 hv2 hF hF5 hb
          have hbl5 := blk_lt hb5
          have z3 := blk_cell hb5 3
          have hgt : k * 4 + 4 ≤ cur3.size := by omega
          have hgl := blk_lt hg3
          have y0 := (blk_cell hg3 (k * 4)).trans (Array.getElem?_eq_getElem (show k * 4 < cur3.size by omega))
          have y1 := (blk_cell hg3 (k * 4 + 1)).trans (Array.getElem?_eq_getElem (show k * 4 + 1 < cur3.size by omega))
          have y2 := (blk_cell hg3 (k * 4 + 2)).trans (Array.getElem?_eq_getElem (show k * 4 + 2 < cur3.size by omega))
          have y3 := (blk_cell hg3 (k * 4 + 3)).trans (Array.getElem?_eq_getElem (show k * 4 + 3 < cur3.size by omega))
          have fb := fun i => blk_frozen hg3 i
          go_wp2
          go_roundw
          case rel => exact ⟨k + 1, by omega, by go_num, hF1.trans (.set4 hP2 hg3 hgt), (SpF.set4 hP2 hg3 hgt).blk hb5 hPW⟩
          case measure => simp [intOf]; omega
        · have hf : k = len := by omega
          subst hf
          clear hlt hk
          go_wp2
          go_end0
          exact ⟨rfl, hF⟩
end Go.Proofs.Ytpnkaggkedepeaa
