/- The document's List, Items, SameAll and Like in plain words, from a world on. -/
import Derived.Test.YtpnkaggkedepeaaTmQf
import Derived.Test.YtpnkaggkedepeaaPTermTellsr21
namespace Go.Proofs.Ytpnkaggkedepeaa
set_option linter.unusedVariables false
open Go.RowKit Go.Maps Go.Proofs.YtpnkaggkedepeaaW.PrintWords Go.Proofs.YtpnkaggkedepeaaW.PrintLast Go.Proofs.YtpnkaggkedepeaaW.PrintMore Go.Proofs.Ytpnkaggkedepeaa.PTermTells Go.Extern

/-- A row that is read, as it is handed to a printed function. -/
theorem V_of_C {W : World} {base c : Nat} {A : Option Addr} {xs : List S24} (h : Kd.C k24 W A xs.length xs) (hl : xs.length ≤ c) : Kd.V k24 24 W base (fun _ => True) (.slice A xs.length c) xs :=
  ⟨A, c, rfl, hl, fun W' hW => C24_cells (fun a v hv => by
    have hb := hW a.block trivial (World.block_lt_of_cell? W a hv)
    unfold World.cell? at hv ⊢
    rw [hb]
    exact hv) _ xs rfl A h⟩

theorem sw64 (n : Int) (h1 : -1000000 ≤ n) (h2 : n ≤ 100000000) : wrap64 n = n := by unfold wrap64; omega
theorem eta24 (a : S24) : (⟨a.f0, a.f1, a.f2, a.f3⟩ : S24) = a := by cases a; rfl
theorem rd_at {xs : List S24} {m : Nat} (h : m < xs.length) : rd_T24 xs (m : Int) = xs[m] := by simp [rd_T24, List.getD_eq_getElem?_getD, List.getElem?_eq_getElem h]

theorem list_l0 (ts : List S24) (hts : ts.length < 1000000) : ∀ (m k : Nat) (u : S24), m ≤ ts.length → m < k →
    pythiaref07_List.l0 k ts ((m : Int) - 1) u.f0 u.f1 u.f2 u.f3 = some ((listT (ts.take m) u).f0, (listT (ts.take m) u).f1, (listT (ts.take m) u).f2, (listT (ts.take m) u).f3)
  | _, 0, _, _, h => absurd h (Nat.not_lt_zero _)
  | 0, k + 1, u, _, _ => by
    rw [pythiaref07_List.l0, if_neg (by omega)]
    rfl
  | m + 1, k + 1, u, hm, hk => by
    have hlt : m < ts.length := by omega
    rw [pythiaref07_List.l0, if_pos (by omega), if_pos (by omega), if_pos (by omega)]
    have e1 : ((m + 1 : Nat) : Int) - 1 = (m : Int) := by omega
    rw [e1, rd_at hlt, sw64 ((m : Int) - 1) (by omega) (by omega)]
    have ih := list_l0 ts hts m k (consT ts[m] u) (by omega) (by omega)
    rw [List.take_succ_eq_append_getElem hlt]
    have e2 : listT (ts.take m ++ [ts[m]]) u = listT (ts.take m) (consT ts[m] u) := by unfold listT; rw [List.foldr_append]; rfl
    rw [e2, eta24, eta24]
    unfold pythiaref07_C.f
    simp only [Option.bind_some]
    exact ih
theorem items_l0 : ∀ (n : Nat) (t : S24) (k : Nat) (acc : List S24), nodes t ≤ n → n < k → acc.length + n < 1000000 →
    pythiaref07_Items.l0 k acc t.f0 t.f1 t.f2 t.f3 = some (acc ++ (itemsL t).1, (itemsL t).2.f0, (itemsL t).2.f1, (itemsL t).2.f2, (itemsL t).2.f3)
  | _, _, 0, _, _, h, _ => absurd h (Nat.not_lt_zero _)
  | 0, t, k + 1, acc, h, _, _ => by have := nodes_pos t; omega
  | n + 1, ⟨kd, nm, nt, xs⟩, k + 1, acc, hn, hk, ha => by
    rw [pythiaref07_Items.l0]
    simp only
    by_cases h : kd = 4 ∧ nm.toList = [46] ∧ xs.length = 2
    · obtain ⟨rfl, h2, h3⟩ := h
      match xs, h3 with
      | [a, b], _ =>
        rw [nodes, if_pos rfl, nodesL_cons, nodesL_cons] at hn
        rw [itemsL_cons h2, if_pos rfl, if_pos h2, if_pos (by simp), if_pos (by simp), if_pos (by omega), if_pos (by simp)]
        rw [show rd_T24 [a, b] 0 = a from rfl, show rd_T24 [a, b] 1 = b from rfl, eta24]
        have ih := items_l0 n b k (acc ++ [a]) (by omega) (by omega) (by rw [List.length_append, List.length_singleton]; omega)
        rw [List.append_assoc, List.singleton_append] at ih
        exact ih
    · rw [itemsL_end (t := ⟨kd, nm, nt, xs⟩) h]
      by_cases h1 : kd = 4
      · rw [if_pos h1]
        by_cases h2 : nm.toList = [46]
        · rw [if_pos h2, if_neg (fun e => h ⟨h1, h2, by omega⟩)]; simp
        · rw [if_neg h2]; simp
      · rw [if_neg h1]; simp
theorem sameAll_l0 (xs ys : List S24) (B : Nat) (hl : xs.length = ys.length) (hx : xs.length < 1000000) (h : ∀ (i : Nat) (h1 : i < xs.length) (h2 : i < ys.length), shT xs[i] = true ∧ shT ys[i] = true ∧ ordT xs[i] ys[i] = 0 ∧ 3 * nodes xs[i] ≤ B) :
    ∀ (k m i : Nat), m + i = xs.length → B + m < k → pythiaref07_SameAll.l0 k xs ys (i : Int) = some true := by
  intro k
  induction k with
  | zero => intro m i _ hk; omega
  | succ k ih =>
    intro m i e hk
    rw [pythiaref07_SameAll.l0]
    by_cases h1 : i < xs.length
    · have h2 : i < ys.length := by omega
      obtain ⟨s1, s2, ho, hB⟩ := h i h1 h2
      rw [if_pos (by omega), if_pos (by omega), if_pos (by omega), rd_at h1, rd_at h2]
      have hs : pythiaref07_Same.f k xs[i].f0 xs[i].f1 xs[i].f2 xs[i].f3 ys[i].f0 ys[i].f1 ys[i].f2 ys[i].f3 = some true := by
        generalize xs[i] = a at s1 ho hB ⊢
        generalize ys[i] = b at s2 ho ⊢
        unfold pythiaref07_Same.f
        rw [order_pure _ a b (Nat.lt_succ_self _) s1 s2 k (by omega), ho]
        rfl
      rw [hs, sw64 ((i : Int) + 1) (by omega) (by omega)]
      have := ih (m - 1) (i + 1) (by omega) (by omega)
      rw [show ((i + 1 : Nat) : Int) = (i : Int) + 1 from by omega] at this
      simp only [Option.bind_some, if_true]
      exact this
    · rw [if_neg (by omega)]

section
variable {w0 W : World} {t u : S24} {A A' : Option Addr} {c c' : Nat}
theorem rlist_at (ts : List S24) (hC : Kd.C k24 w0 A ts.length ts) (hl : ts.length ≤ c) (hts : ts.length < 1000000) (hw : ∀ x ∈ ts, wfT x) (k : Lies w0 t A' c') (hB : Below w0.heap.size w0 W) :
    Calls Try.prog 41 #[.slice A ts.length c, .agg #[.int .i64 t.f0, .string t.f1, .int .i64 t.f2, .slice A' t.f3.length c']] W fun e w' => ∃ (A1 : Option Addr) (c1 : Nat),
      e = .returned (.agg #[.int .i64 (listT ts t).f0, .string (listT ts t).f1, .int .i64 (listT ts t).f2, .slice A1 (listT ts t).f3.length c1]) ∧ Lies w' (listT ts t) A1 c1 ∧ Below w0.heap.size w0 w' := by
  have hp : pythiaref07_List.f (ts.length + 1) ts t.f0 t.f1 t.f2 t.f3 = some ((listT ts t).f0, (listT ts t).f1, (listT ts t).f2, (listT ts t).f3) := by
    unfold pythiaref07_List.f
    rw [sw64 ((ts.length : Int) - 1) (by omega) (by omega), list_l0 ts hts ts.length _ t (Nat.le_refl _) (Nat.lt_succ_self _), List.take_length]
  refine (pythiaref07_List.calls _ _ A c ts _ _ _ _ A' c' t.f3 _ _ _ _ W (V_of_C (Kd.C_below hC hB) hl) (V_of_C (k.at hB).C k.le) hp).mono fun e w' ⟨v, a, hv, b⟩ => ?_
  obtain ⟨A1, c1, rfl⟩ := Kd.V_slice hv
  have h3 := Kd.V_reads' hv
  exact ⟨A1, c1, a, ⟨h3.2.2, h3.2.1, wfT_list ts t hw k.wf⟩, below_step hB b⟩
theorem ritems_at (h : Lies w0 t A c) (hn : nodes t < 100000) (hB : Below w0.heap.size w0 W) :
    Calls Try.prog 42 #[.agg #[.int .i64 t.f0, .string t.f1, .int .i64 t.f2, .slice A t.f3.length c]] W fun e w' => ∃ (A1 : Option Addr) (c1 : Nat) (A2 : Option Addr) (c2 : Nat),
      e = .returned (.tuple #[.slice A1 (itemsL t).1.length c1, .agg #[.int .i64 (itemsL t).2.f0, .string (itemsL t).2.f1, .int .i64 (itemsL t).2.f2, .slice A2 (itemsL t).2.f3.length c2]]) ∧
      (itemsL t).1.length ≤ c1 ∧ Kd.C k24 w' A1 (itemsL t).1.length (itemsL t).1 ∧ Lies w' (itemsL t).2 A2 c2 ∧ Below w0.heap.size w0 w' := by
  have hp : pythiaref07_Items.f (nodes t + 1) t.f0 t.f1 t.f2 t.f3 = some ((itemsL t).1, (itemsL t).2.f0, (itemsL t).2.f1, (itemsL t).2.f2, (itemsL t).2.f3) := by
    unfold pythiaref07_Items.f
    rw [items_l0 (nodes t) t _ [] (Nat.le_refl _) (Nat.lt_succ_self _) (by simp; omega), List.nil_append]
  refine (pythiaref07_Items.calls _ _ _ _ _ A c t.f3 _ _ _ _ _ W (V_of_C (h.at hB).C h.le) hp).mono fun e w' ⟨v, v4, a, hv, hv4, b⟩ => ?_
  obtain ⟨A1, c1, rfl⟩ := Kd.N_slice hv
  obtain ⟨A2, c2, rfl⟩ := Kd.V_slice hv4
  have h1 := Kd.N_reads' hv
  have h2 := Kd.V_reads' hv4
  exact ⟨A1, c1, A2, c2, a, h1.2.1, h1.2.2, ⟨h2.2.2, h2.2.1, (items_wf t h.wf).2⟩, below_step hB b⟩
theorem rsameAll_at {xs ys : List S24} (hx : Kd.C k24 W A xs.length xs) (hxl : xs.length ≤ c) (hy : Kd.C k24 W A' ys.length ys) (hyl : ys.length ≤ c') (hl : xs.length = ys.length) (hlt : xs.length < 1000000)
    (B : Nat) (h : ∀ (i : Nat) (h1 : i < xs.length) (h2 : i < ys.length), shT xs[i] = true ∧ shT ys[i] = true ∧ ordT xs[i] ys[i] = 0 ∧ 3 * nodes xs[i] ≤ B) :
    Calls Try.prog 43 #[.slice A xs.length c, .slice A' ys.length c'] W fun e w' => e = .returned (.bool true) ∧ Below W.heap.size W w' :=
  pythiaref07_SameAll.calls (B + xs.length + 1) A c xs A' c' ys true W hx hxl hy hyl (by
    unfold pythiaref07_SameAll.f
    rw [if_pos (by omega)]
    exact sameAll_l0 xs ys B hl hlt h _ xs.length 0 rfl (by omega))
end

set_option maxHeartbeats 4000000 in
set_option maxRecDepth 100000 in
theorem rlike_at {W : World} {t u : S24} {A A' : Option Addr} {c c' : Nat} (h : Lies W t A c) (k : Lies W u A' c') (hl : (t.f0 = 0 ∧ u.f0 = 0) ∨ (t.f0 ≠ 0 ∧ u.f0 ≠ 0 ∧ shT t = true ∧ shT u = true ∧ ordT t u = 0)) :
    Calls Try.prog 38 #[.agg #[.int .i64 t.f0, .string t.f1, .int .i64 t.f2, .slice A t.f3.length c], .agg #[.int .i64 u.f0, .string u.f1, .int .i64 u.f2, .slice A' u.f3.length c']] W fun e w' => e = .returned (.bool true) ∧ Below W.heap.size W w' := by
  have hB2 := below_alloc (below_alloc (Below.refl W.heap.size W) (.cells #[.int .i64 t.f0, .string t.f1, .int .i64 t.f2, .slice A t.f3.length c] 24)) (.cells #[.int .i64 u.f0, .string u.f1, .int .i64 u.f2, .slice A' u.f3.length c'] 24)
  have kA := blk_alloc (blk_new W (.cells #[.int .i64 t.f0, .string t.f1, .int .i64 t.f2, .slice A t.f3.length c] 24)) (.cells #[.int .i64 u.f0, .string u.f1, .int .i64 u.f2, .slice A' u.f3.length c'] 24)
  have kB := blk_new (W.alloc (.cells #[.int .i64 t.f0, .string t.f1, .int .i64 t.f2, .slice A t.f3.length c] 24)) (.cells #[.int .i64 u.f0, .string u.f1, .int .i64 u.f2, .slice A' u.f3.length c'] 24)
  rw [World.size_alloc] at kB
  rcases hl with ⟨h1, h2⟩ | ⟨h1, h2, s1, s2, ho⟩
  · clear h k
    obtain ⟨kd, nm, nt, xs⟩ := t
    obtain ⟨kd', nm', nt', ys⟩ := u
    simp only at h1 h2 hB2 kA kB ⊢
    subst h1
    subst h2
    have p0 := blk_cell kA 0
    have p4 := blk_cell kB 0
    go_enter Try.func38, Try.ntmps38
    go_wp2
    go_ret
    exact ⟨rfl, hB2⟩
  · have hcall := rsame_at h k hB2 s1 s2
    rw [ho] at hcall
    have e1 : (t.f0 == 0) = false := by simpa using h1
    have e2 : (u.f0 == 0) = false := by simpa using h2
    have p0 := blk_cell kA 0
    have p1 := blk_cell kA 1
    have p2 := blk_cell kA 2
    have p3 := blk_cell kA 3
    have p4 := blk_cell kB 0
    have p5 := blk_cell kB 1
    have p6 := blk_cell kB 2
    have p7 := blk_cell kB 3
    clear h k s1 s2 ho
    go_enter Try.func38, Try.ntmps38
    go_wp2_with fail
    refine hcall.mono ?_
    rintro e w5 ⟨rfl, hb⟩
    go_wp2
    go_ret
    exact ⟨rfl, hb⟩
end Go.Proofs.Ytpnkaggkedepeaa
