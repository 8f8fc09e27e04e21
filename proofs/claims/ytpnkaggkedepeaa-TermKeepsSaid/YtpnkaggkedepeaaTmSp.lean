/- Rows of terms that may be written over, and what writes over them: spoil. -/
import Derived.Test.YtpnkaggkedepeaaTmGe
namespace Go.Proofs.Ytpnkaggkedepeaa
set_option linter.unusedVariables false
open Go.RowKit Go.Maps Go.Proofs.YtpnkaggkedepeaaW.PrintWords Go.Proofs.YtpnkaggkedepeaaW.PrintLast Go.Proofs.YtpnkaggkedepeaaW.PrintMore Go.Proofs.Ytpnkaggkedepeaa.PTermTells Go.Extern

/-- What a number's cells are that spoil writes. -/
def Num77 (cur : Array Value) (i : Nat) : Prop := cur[i * 4]? = some (.int .i64 2) ∧ cur[i * 4 + 1]? = some (.string ⟨#[]⟩) ∧ cur[i * 4 + 2]? = some (.int .i64 77) ∧ cur[i * 4 + 3]? = some (.slice none 0 0)

/-- The rows of terms within a value are all of blocks in P, nested at most n deep. -/
inductive Sp (P : Nat → Prop) (W : World) : Nat → Value → Prop
  | none (n : Nat) : Sp P W n (.slice none 0 0)
  | row (n g len c : Nat) (cur : Array Value) (kd nt : Nat → Int) (nm : Nat → ByteArray) (vs : Nat → Value)
      (hP : P g) (hg : W.heap[g]? = some (.cells cur 24 (0, 0))) (hs : len * 4 ≤ cur.size) (hc : len ≤ c) (hm : c ≤ maxLen)
      (h : ∀ i, i < len → cur[i * 4]? = some (.int .i64 (kd i)) ∧ cur[i * 4 + 1]? = some (.string (nm i)) ∧ cur[i * 4 + 2]? = some (.int .i64 (nt i)) ∧ cur[i * 4 + 3]? = some (vs i))
      (hv : ∀ i, i < len → Sp P W n (vs i)) : Sp P W (n + 1) (.slice (some ⟨g, 0, .none⟩) len c)

/-- Only rows of P have been written over, with numbers. -/
structure SpF (P : Nat → Prop) (W W' : World) : Prop where
  os : W'.os = W.os
  tape : W'.tape = W.tape
  output : W'.output = W.output
  size : W.heap.size ≤ W'.heap.size
  block : ∀ k, k < W.heap.size → ¬ P k → W'.heap[k]? = W.heap[k]?
  upd : ∀ g cur, P g → W.heap[g]? = some (.cells cur 24 (0, 0)) → ∃ cur', W'.heap[g]? = some (.cells cur' 24 (0, 0)) ∧ cur'.size = cur.size ∧ ∀ i, (∀ j, j < 4 → cur'[i * 4 + j]? = cur[i * 4 + j]?) ∨ Num77 cur' i

variable {P : Nat → Prop}
theorem SpF.refl (W : World) : SpF P W W := ⟨rfl, rfl, rfl, Nat.le_refl _, fun _ _ _ => rfl, fun g cur _ h => ⟨cur, h, rfl, fun i => .inl fun _ _ => rfl⟩⟩
theorem SpF.trans {W W1 W2 : World} (h : SpF P W W1) (k : SpF P W1 W2) : SpF P W W2 := by
  refine ⟨k.os.trans h.os, k.tape.trans h.tape, k.output.trans h.output, Nat.le_trans h.size k.size, fun i hi hp => (k.block i (Nat.lt_of_lt_of_le hi h.size) hp).trans (h.block i hi hp), fun g cur hP hg => ?_⟩
  obtain ⟨c1, h1, s1, u1⟩ := h.upd g cur hP hg
  obtain ⟨c2, h2, s2, u2⟩ := k.upd g c1 hP h1
  refine ⟨c2, h2, s2.trans s1, fun i => ?_⟩
  rcases u2 i with e | e
  · rcases u1 i with e1 | e1
    · exact .inl fun j hj => (e j hj).trans (e1 j hj)
    · refine .inr ⟨?_, ?_, ?_, ?_⟩
      · exact (e 0 (by omega)).trans e1.1
      · exact (e 1 (by omega)).trans e1.2.1
      · exact (e 2 (by omega)).trans e1.2.2.1
      · exact (e 3 (by omega)).trans e1.2.2.2
  · exact .inr e
theorem SpF.of_below {W W' : World} (h : Below W.heap.size W W') : SpF P W W' :=
  ⟨h.os, h.tape, h.output, h.size, fun k hk _ => h.block k hk, fun g cur _ hg => ⟨cur, (h.block g (blk_lt hg)).trans hg, rfl, fun i => .inl fun _ _ => rfl⟩⟩
theorem SpF.below {b : World} {W W' : World} (h : SpF P W W') (hb : Below b.heap.size b W) (hP : ∀ k, P k → b.heap.size ≤ k) : Below b.heap.size b W' :=
  ⟨h.os.trans hb.os, h.tape.trans hb.tape, h.output.trans hb.output, Nat.le_trans hb.size h.size, fun k hk => (h.block k (Nat.lt_of_lt_of_le hk hb.size) (fun hp => by have := hP k hp; omega)).trans (hb.block k hk)⟩
theorem SpF.blk {W W' : World} (h : SpF P W W') {g : Nat} {o : Obj} (hg : W.heap[g]? = some o) (hp : ¬ P g) : W'.heap[g]? = some o := (h.block g (blk_lt hg) hp).trans hg
theorem SpF.set4 {W : World} {g k : Nat} {cur : Array Value} (hP : P g) (hg : W.heap[g]? = some (.cells cur 24 (0, 0))) (hk : k * 4 + 4 ≤ cur.size) :
    SpF P W ((((W.setCell ⟨g, k * 4, none⟩ (.int .i64 2)).setCell ⟨g, k * 4 + 1, none⟩ (.string ⟨#[]⟩)).setCell ⟨g, k * 4 + 2, none⟩ (.int .i64 77)).setCell ⟨g, k * 4 + 3, none⟩ (.slice none 0 0)) := by
  have h1 := heap_setCell_same W g (k * 4) cur 24 (.int .i64 2) hg
  have h2 := heap_setCell_same _ g (k * 4 + 1) _ 24 (.string ⟨#[]⟩) h1
  have h3 := heap_setCell_same _ g (k * 4 + 2) _ 24 (.int .i64 77) h2
  have h4 := heap_setCell_same _ g (k * 4 + 3) _ 24 (.slice none 0 0) h3
  have hfar : ∀ i, i ≠ g → ((((W.setCell ⟨g, k * 4, none⟩ (.int .i64 2)).setCell ⟨g, k * 4 + 1, none⟩ (.string ⟨#[]⟩)).setCell ⟨g, k * 4 + 2, none⟩ (.int .i64 77)).setCell ⟨g, k * 4 + 3, none⟩ (.slice none 0 0)).heap[i]? = W.heap[i]? := fun i hi =>
    (Below.heap_setCell _ _ _ i hi).trans ((Below.heap_setCell _ _ _ i hi).trans ((Below.heap_setCell _ _ _ i hi).trans (Below.heap_setCell _ _ _ i hi)))
  refine ⟨rfl, rfl, rfl, by simp [World.setCell], fun i hi hp => hfar i (fun e => hp (e ▸ hP)), fun i ci hi hgi => ?_⟩
  by_cases e : i = g
  · subst e
    rw [hg] at hgi
    obtain rfl : cur = ci := by injection hgi with hgi; injection hgi
    refine ⟨_, h4, by simp, fun q => ?_⟩
    by_cases eq : q = k
    · subst eq
      refine .inr ⟨?_, ?_, ?_, ?_⟩ <;> simp [Array.getElem?_setIfInBounds] <;> omega
    · refine .inl fun j hj => ?_
      simp only [Array.getElem?_setIfInBounds]
      rw [if_neg (by omega), if_neg (by omega), if_neg (by omega), if_neg (by omega)]
  · exact ⟨ci, (hfar i e).trans hgi, rfl, fun q => .inl fun _ _ => rfl⟩

theorem Sp.step {W W' : World} (hF : SpF P W W') {n : Nat} {v : Value} (h : Sp P W n v) : Sp P W' n v := by
  induction h with
  | none n => exact .none n
  | row n g len c cur kd nt nm vs hP hg hs hc hm hcell hv ih =>
    obtain ⟨c1, h1, s1, u1⟩ := hF.upd g cur hP hg
    have hx : ∀ i, ∃ (a b : Int) (s : ByteArray) (v : Value), i < len → (c1[i * 4]? = some (.int .i64 a) ∧ c1[i * 4 + 1]? = some (.string s) ∧ c1[i * 4 + 2]? = some (.int .i64 b) ∧ c1[i * 4 + 3]? = some v) ∧ Sp P W' n v := fun i => by
      by_cases hi : i < len
      · rcases u1 i with e | e
        · obtain ⟨y0, y1, y2, y3⟩ := hcell i hi
          exact ⟨kd i, nt i, nm i, vs i, fun _ => ⟨⟨(e 0 (by omega)).trans y0, (e 1 (by omega)).trans y1, (e 2 (by omega)).trans y2, (e 3 (by omega)).trans y3⟩, ih i hi⟩⟩
        · exact ⟨2, 77, ⟨#[]⟩, .slice .none 0 0, fun _ => ⟨e, .none n⟩⟩
      · exact ⟨0, 0, ⟨#[]⟩, .slice .none 0 0, fun h => absurd h hi⟩
    refine .row n g len c c1 (fun i => (hx i).choose) (fun i => (hx i).choose_spec.choose) (fun i => (hx i).choose_spec.choose_spec.choose) (fun i => (hx i).choose_spec.choose_spec.choose_spec.choose) hP h1 (by omega) hc hm ?_ ?_
    · exact fun i hi => ((hx i).choose_spec.choose_spec.choose_spec.choose_spec hi).1
    · exact fun i hi => ((hx i).choose_spec.choose_spec.choose_spec.choose_spec hi).2
theorem Sp.mono {W : World} {n m : Nat} {v : Value} (h : Sp P W n v) (hnm : n ≤ m) : Sp P W m v := by
  induction h generalizing m with
  | none n => exact .none m
  | row n g len c cur kd nt nm vs hP hg hs hc hm hcell hv ih =>
    cases m with
    | zero => omega
    | succ m => exact .row m g len c cur kd nt nm vs hP hg hs hc hm hcell fun i hi => ih i hi (by omega)
theorem Sp.all {W : World} {vs : Nat → Value} : ∀ (len : Nat), (∀ i, i < len → ∃ n, Sp P W n (vs i)) → ∃ n, ∀ i, i < len → Sp P W n (vs i)
  | 0, _ => ⟨0, fun i hi => absurd hi (Nat.not_lt_zero _)⟩
  | len + 1, h => by
    obtain ⟨n, hn⟩ := Sp.all len fun i hi => h i (by omega)
    obtain ⟨m, hm⟩ := h len (by omega)
    refine ⟨max n m, fun i hi => ?_⟩
    by_cases e : i = len
    · subst e; exact hm.mono (Nat.le_max_right _ _)
    · exact (hn i (by omega)).mono (Nat.le_max_left _ _)

/-- A term's cells as they are made: its row's value alone is what matters. -/
theorem sp_made {W : World} {base : Nat} : ∀ (m : Nat) (ok : Nat → Prop) (t : S24) (cs : List Value), (Kd.upto F24 4 [24] m).M W base ok t cs → (∀ k, ok k → (∃ cells, W.heap[k]? = some (.cells cells 24 (0, 0))) → P k) →
    ∃ v, cs = [.int .i64 t.f0, .string t.f1, .int .i64 t.f2, v] ∧ ∃ n, Sp P W n v
  | 0, _, _, _, h, _ => h.elim
  | m + 1, ok, t, cs, h, hP => by
    obtain ⟨c0, c1, rfl, h0, d0, d1, rfl, h1, e0, e1, rfl, h2, v, rfl, hr⟩ := h
    have h0' : c0 = [.int .i64 t.f0] := h0
    have h1' : d0 = [.string t.f1] := h1
    have h2' : e0 = [.int .i64 t.f2] := h2
    subst h0' h1' h2'
    refine ⟨v, rfl, ?_⟩
    obtain ⟨hok, inner, ho, hl, hrep⟩ := hr
    rcases ho.2 with ⟨rfl, -⟩ | ⟨g, cap, cur, rfl, hbg, hg, hnc, hcm, hcs, htake⟩
    · exact ⟨0, .none 0⟩
    · have hsz : (Kd.upto F24 4 [24] m).sz = 4 := sz24 m
      rw [hsz] at hl hrep htake hcs
      replace htake : cur.toList.take (t.f3.length * 4) = inner := htake
      replace hnc : t.f3.length ≤ cap := hnc
      have hel : ∀ i, i < t.f3.length → ∃ (a b : Int) (s : ByteArray) (v : Value), (cur[i * 4]? = some (.int .i64 a) ∧ cur[i * 4 + 1]? = some (.string s) ∧ cur[i * 4 + 2]? = some (.int .i64 b) ∧ cur[i * 4 + 3]? = some v) ∧ ∃ n, Sp P W n v := fun i hi => by
        obtain ⟨v, ev, hv⟩ := sp_made m _ _ _ (hrep i t.f3[i] (List.getElem?_eq_getElem hi)) (fun k hk => hP k hk.1)
        have hc : ∀ j, j < 4 → cur[i * 4 + j]? = ((inner.drop (i * 4)).take 4)[j]? := fun j hj => by
          rw [List.getElem?_take, if_pos hj, List.getElem?_drop, ← htake, List.getElem?_take, if_pos (by omega), Array.getElem?_toList]
        rw [ev] at hc
        exact ⟨_, _, _, v, ⟨hc 0 (by omega), hc 1 (by omega), hc 2 (by omega), hc 3 (by omega)⟩, hv⟩
      have hx : ∀ i, ∃ (a b : Int) (s : ByteArray) (v : Value), i < t.f3.length → (cur[i * 4]? = some (.int .i64 a) ∧ cur[i * 4 + 1]? = some (.string s) ∧ cur[i * 4 + 2]? = some (.int .i64 b) ∧ cur[i * 4 + 3]? = some v) ∧ ∃ n, Sp P W n v := fun i => by
        by_cases hi : i < t.f3.length
        · obtain ⟨a, b, s, v, h⟩ := hel i hi
          exact ⟨a, b, s, v, fun _ => h⟩
        · exact ⟨0, 0, ⟨#[]⟩, .slice none 0 0, fun h => absurd h hi⟩
      obtain ⟨n, hn⟩ := Sp.all (P := P) (W := W) (vs := fun i => (hx i).choose_spec.choose_spec.choose_spec.choose) t.f3.length fun i hi => ((hx i).choose_spec.choose_spec.choose_spec.choose_spec hi).2
      refine ⟨n + 1, .row n g _ cap cur (fun i => (hx i).choose) (fun i => (hx i).choose_spec.choose) (fun i => (hx i).choose_spec.choose_spec.choose) (fun i => (hx i).choose_spec.choose_spec.choose_spec.choose) (hP g (hok g rfl) ⟨cur, hg⟩) hg (by rw [hcs]; exact Nat.mul_le_mul_right _ hnc) hnc hcm ?_ hn⟩
      exact fun i hi => ((hx i).choose_spec.choose_spec.choose_spec.choose_spec hi).1
/-- A row of terms of one's own. -/
theorem sp_row {W : World} {base : Nat} {ok : Nat → Prop} {v : Value} {xs : List S24} (h : Kd.R k24 24 W base ok v xs) (hP : ∀ k, ok k → (∃ cells, W.heap[k]? = some (.cells cells 24 (0, 0))) → P k) : ∃ n, Sp P W n v := by
  obtain ⟨hok, inner, ho, hl, hrep⟩ := h
  rcases ho.2 with ⟨rfl, -⟩ | ⟨g, cap, cur, rfl, hbg, hg, hnc, hcm, hcs, htake⟩
  · exact ⟨0, .none 0⟩
  · have hsz : k24.sz = 4 := rfl
    rw [hsz] at hl hrep htake hcs
    have hel : ∀ i, i < xs.length → ∃ (a b : Int) (s : ByteArray) (v : Value), (cur[i * 4]? = some (.int .i64 a) ∧ cur[i * 4 + 1]? = some (.string s) ∧ cur[i * 4 + 2]? = some (.int .i64 b) ∧ cur[i * 4 + 3]? = some v) ∧ ∃ n, Sp P W n v := fun i hi => by
      obtain ⟨m, hm⟩ := hrep i xs[i] (List.getElem?_eq_getElem hi)
      obtain ⟨v, ev, hv⟩ := sp_made (P := P) m _ _ _ hm (fun k hk => hP k hk.1)
      have hc : ∀ j, j < 4 → cur[i * 4 + j]? = ((inner.drop (i * 4)).take 4)[j]? := fun j hj => by
        rw [List.getElem?_take, if_pos hj, List.getElem?_drop, ← htake, List.getElem?_take, if_pos (by omega), Array.getElem?_toList]
      rw [ev] at hc
      exact ⟨_, _, _, v, ⟨hc 0 (by omega), hc 1 (by omega), hc 2 (by omega), hc 3 (by omega)⟩, hv⟩
    have hx : ∀ i, ∃ (a b : Int) (s : ByteArray) (v : Value), i < xs.length → (cur[i * 4]? = some (.int .i64 a) ∧ cur[i * 4 + 1]? = some (.string s) ∧ cur[i * 4 + 2]? = some (.int .i64 b) ∧ cur[i * 4 + 3]? = some v) ∧ ∃ n, Sp P W n v := fun i => by
      by_cases hi : i < xs.length
      · obtain ⟨a, b, s, v, h⟩ := hel i hi
        exact ⟨a, b, s, v, fun _ => h⟩
      · exact ⟨0, 0, ⟨#[]⟩, .slice none 0 0, fun h => absurd h hi⟩
    obtain ⟨n, hn⟩ := Sp.all (P := P) (W := W) (vs := fun i => (hx i).choose_spec.choose_spec.choose_spec.choose) xs.length fun i hi => ((hx i).choose_spec.choose_spec.choose_spec.choose_spec hi).2
    refine ⟨n + 1, .row n g _ cap cur (fun i => (hx i).choose) (fun i => (hx i).choose_spec.choose) (fun i => (hx i).choose_spec.choose_spec.choose) (fun i => (hx i).choose_spec.choose_spec.choose_spec.choose) (hP g (hok g rfl) ⟨cur, hg⟩) hg (by rw [hcs]; exact Nat.mul_le_mul_right _ hnc) hnc hcm ?_ hn⟩
    exact fun i hi => ((hx i).choose_spec.choose_spec.choose_spec.choose_spec hi).1
end Go.Proofs.Ytpnkaggkedepeaa
