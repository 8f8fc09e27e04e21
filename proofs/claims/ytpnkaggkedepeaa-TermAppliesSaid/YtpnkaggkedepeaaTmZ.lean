/- alive: the document's examples, in plain words. -/
import Derived.Test.YtpnkaggkedepeaaTmGe
import Derived.Test.YtpnkaggkedepeaaPTermTellsr10
namespace Go.Proofs.Ytpnkaggkedepeaa
set_option linter.unusedVariables false
open Go.RowKit Go.Maps Go.Proofs.YtpnkaggkedepeaaW.PrintWords Go.Proofs.YtpnkaggkedepeaaW.PrintLast Go.Proofs.YtpnkaggkedepeaaW.PrintMore Go.Proofs.Ytpnkaggkedepeaa.PTermTells Go.Extern

/-- A variable, an atom, an integer, a compound term f(..). -/
def vT (n : Int) : S24 := ⟨1, ⟨#[]⟩, n, []⟩
def aT (n : ByteArray) : S24 := ⟨3, n, 0, []⟩
def iT (n : Int) : S24 := ⟨2, ⟨#[]⟩, n, []⟩
def cT (n : ByteArray) (l : List S24) : S24 := ⟨4, n, 0, l⟩

theorem perm_two {ord : List Int} {x y : Int} (hn : ord.Nodup) (h : ∀ v, v ∈ ord ↔ v ∈ [x, y]) (hxy : x ≠ y) : ord = [x, y] ∨ ord = [y, x] := by
  match ord, hn, h with
  | [], _, h => have := (h x).2 (by simp); simp at this
  | [p], _, h =>
    have h1 := (h x).2 (by simp); have h2 := (h y).2 (by simp)
    simp at h1 h2; exact absurd (h1.trans h2.symm) hxy
  | [p, q], hn, h =>
    have h1 := (h p).1 (by simp); have h2 := (h q).1 (by simp)
    simp at h1 h2 hn
    rcases h1 with rfl | rfl <;> rcases h2 with rfl | rfl <;> simp_all
  | p :: q :: r :: s, hn, h =>
    have h1 := (h p).1 (by simp); have h2 := (h q).1 (by simp); have h3 := (h r).1 (by simp)
    simp at h1 h2 h3 hn
    exfalso
    rcases h1 with rfl | rfl <;> rcases h2 with rfl | rfl <;> rcases h3 with rfl | rfl <;> simp_all
theorem perm_one {ord : List Int} {x : Int} (hn : ord.Nodup) (h : ∀ v, v ∈ ord ↔ v ∈ [x]) : ord = [x] := by
  match ord, hn, h with
  | [], _, h => have := (h x).2 (by simp); simp at this
  | [p], _, h => have h1 := (h p).1 (by simp); simp at h1; rw [h1]
  | p :: q :: r, hn, h =>
    have h1 := (h p).1 (by simp); have h2 := (h q).1 (by simp)
    simp at h1 h2 hn
    exact absurd (h1.trans h2.symm) hn.1.1

theorem V_c (n : Int) (w : World) : Calls Try.prog 44 #[.int .i64 n] w fun e w' => e = .returned (.agg #[.int .i64 1, .string ⟨#[]⟩, .int .i64 n, .slice none 0 0]) ∧ Below w.heap.size w w' := by
  go_enter Try.func44, Try.ntmps44
  go_wp2
  exact bodyPost_ret (v := .agg #[.int .i64 1, .string ⟨#[]⟩, .int .i64 n, .slice none 0 0]) (by simp [results, Try.f44, go_sem]) rfl ⟨rfl, below_alloc (Below.refl _ _) _⟩
theorem N_c (n : Int) (w : World) : Calls Try.prog 49 #[.int .i64 n] w fun e w' => e = .returned (.agg #[.int .i64 2, .string ⟨#[]⟩, .int .i64 n, .slice none 0 0]) ∧ Below w.heap.size w w' := by
  go_enter Try.func49, Try.ntmps49
  go_wp2
  exact bodyPost_ret (v := .agg #[.int .i64 2, .string ⟨#[]⟩, .int .i64 n, .slice none 0 0]) (by simp [results, Try.f49, go_sem]) rfl ⟨rfl, below_alloc (Below.refl _ _) _⟩
theorem A_c (n : ByteArray) (w : World) : Calls Try.prog 46 #[.string n] w fun e w' => e = .returned (.agg #[.int .i64 3, .string n, .int .i64 0, .slice none 0 0]) ∧ Below w.heap.size w w' := by
  go_enter Try.func46, Try.ntmps46
  go_wp2
  exact bodyPost_ret (v := .agg #[.int .i64 3, .string n, .int .i64 0, .slice none 0 0]) (by simp [results, Try.f46, go_sem]) rfl ⟨rfl, below_alloc (Below.refl _ _) _⟩
theorem C_c (n : ByteArray) (A : Option Addr) (l c : Nat) (w : World) : Calls Try.prog 47 #[.string n, .slice A l c] w fun e w' => e = .returned (.agg #[.int .i64 4, .string n, .int .i64 0, .slice A l c]) ∧ Below w.heap.size w w' := by
  go_enter Try.func47, Try.ntmps47
  go_wp2
  exact bodyPost_ret (v := .agg #[.int .i64 4, .string n, .int .i64 0, .slice A l c]) (by simp [results, Try.f47, go_sem]) rfl ⟨rfl, below_alloc (Below.refl _ _) _⟩
theorem x_c (n : Int) (w : World) : Calls Try.prog 48 #[.int .i64 n] w fun e w' => e = .returned (.agg #[.int .i64 1, .string ⟨#[]⟩, .int .i64 n, .slice none 0 0]) ∧ Below w.heap.size w w' := by
  go_enter Try.func48, Try.ntmps48
  go_wp2_with fail
  refine (V_c n _).mono ?_
  rintro e w1 ⟨rfl, hb⟩
  have hBw := below_step (below_alloc (Below.refl w.heap.size w) _) hb
  have kR := blk_below (blk_new w (.cells #[.int .i64 0, .string ⟨#[]⟩, .int .i64 0, .slice none 0 0] 24)) hb
  clear hb
  have f0 := blk_frozen kR 0
  have f1 := blk_frozen kR 1
  have f2 := blk_frozen kR 2
  have f3 := blk_frozen kR 3
  have q0 := blk_cell kR 0
  have q1 := blk_cell kR 1
  have q2 := blk_cell kR 2
  have q3 := blk_cell kR 3
  go_wp2
  obtain ⟨c0, c1, c2, c3, hRF, hBF⟩ := box_ret0 (xs := []) (v := .slice none 0 0) 1 ⟨#[]⟩ n kR (Kd.R_nil k24 24 w1 w.heap.size (fun _ => False)) (fun j hj => hj.elim) hBw (Nat.le_refl _)
  exact bodyPost_ret (v := .agg #[.int .i64 1, .string ⟨#[]⟩, .int .i64 n, .slice none 0 0]) (by simp [results, Try.f48, go_sem, c0, c1, c2, c3]) rfl ⟨rfl, hBF⟩

theorem lies_nil (w : World) (k : Int) (n : ByteArray) (i : Int) (hi : I64 i) : Lies w ⟨k, n, i, []⟩ none 0 :=
  ⟨⟨rfl, by simp, fun h => absurd h (by simp)⟩, Nat.le_refl _, by rw [wfT]; exact ⟨hi, by rw [wfL]; trivial⟩⟩
theorem Lies.below {w w' : World} {t : S24} {A : Option Addr} {c : Nat} (h : Lies w t A c) (hB : Below w.heap.size w w') : Lies w' t A c := ⟨Kd.C_below h.C hB, h.le, h.wf⟩
theorem Lies.alloc {w : World} {t : S24} {A : Option Addr} {c : Nat} (h : Lies w t A c) (o : Obj) : Lies (w.alloc o) t A c := h.below (below_alloc (Below.refl _ _) _)

theorem C_three {W : World} {g c c' c2 : Nat} {A A' A2 : Option Addr} {t u x : S24} (hb : W.heap[g]? = some (.cells #[.int .i64 t.f0, .string t.f1, .int .i64 t.f2, .slice A t.f3.length c, .int .i64 u.f0, .string u.f1, .int .i64 u.f2, .slice A' u.f3.length c', .int .i64 x.f0, .string x.f1, .int .i64 x.f2, .slice A2 x.f3.length c2] 24 (0, 0)))
    (hc : t.f3.length ≤ c) (hC : Kd.C k24 W A t.f3.length t.f3) (hc' : u.f3.length ≤ c') (hC' : Kd.C k24 W A' u.f3.length u.f3) (hc2 : x.f3.length ≤ c2) (hC2 : Kd.C k24 W A2 x.f3.length x.f3) :
    Kd.C k24 W (some ⟨g, 0, none⟩) 3 [t, u, x] := by
  refine ⟨rfl, by decide, fun _ => ⟨_, rfl, fun j p hj => ?_⟩⟩
  have hs : k24.sz = 4 := rfl
  rw [hs]
  match j with
  | 0 =>
    obtain rfl : t = p := by simpa using hj
    refine ⟨_, rfl, k24_mk W t hc hC, fun i v hu => ?_⟩
    have := blk_cell hb i
    rw [show (⟨g, 0, none⟩ : Addr).add (0 * 4 + i) = ⟨g, i, none⟩ by simp [Addr.add] <;> omega, this]
    match i with
    | 0 | 1 | 2 | 3 => simpa using hu
    | i + 4 => simp at hu
  | 1 =>
    obtain rfl : u = p := by simpa using hj
    refine ⟨_, rfl, k24_mk W u hc' hC', fun i v hu => ?_⟩
    have := blk_cell hb (4 + i)
    rw [show (⟨g, 0, none⟩ : Addr).add (1 * 4 + i) = ⟨g, 4 + i, none⟩ by simp [Addr.add] <;> omega, this]
    match i with
    | 0 | 1 | 2 | 3 => simpa using hu
    | i + 4 => simp at hu
  | 2 =>
    obtain rfl : x = p := by simpa using hj
    refine ⟨_, rfl, k24_mk W x hc2 hC2, fun i v hu => ?_⟩
    have := blk_cell hb (8 + i)
    rw [show (⟨g, 0, none⟩ : Addr).add (2 * 4 + i) = ⟨g, 8 + i, none⟩ by simp [Addr.add] <;> omega, this]
    match i with
    | 0 | 1 | 2 | 3 => simpa using hu
    | i + 4 => simp at hu
  | j + 3 => simp at hj

theorem lies_one {W : World} {g : Nat} {t : S24} {A : Option Addr} {c : Nat} (n : ByteArray) (hb : W.heap[g]? = some (.cells #[.int .i64 t.f0, .string t.f1, .int .i64 t.f2, .slice A t.f3.length c] 24 (0, 0))) (ht : Lies W t A c) : Lies W (cT n [t]) (some ⟨g, 0, none⟩) 1 :=
  ⟨C_one hb ht.le ht.C, Nat.le_refl _, by unfold cT; rw [wfT]; exact ⟨by unfold I64; decide, by rw [wfL_cons]; exact ⟨ht.wf, by rw [wfL]; trivial⟩⟩⟩
theorem lies_two {W : World} {g : Nat} {t u : S24} {A A' : Option Addr} {c c' : Nat} (n : ByteArray) (hb : W.heap[g]? = some (.cells #[.int .i64 t.f0, .string t.f1, .int .i64 t.f2, .slice A t.f3.length c, .int .i64 u.f0, .string u.f1, .int .i64 u.f2, .slice A' u.f3.length c'] 24 (0, 0))) (ht : Lies W t A c) (hu : Lies W u A' c') : Lies W (cT n [t, u]) (some ⟨g, 0, none⟩) 2 :=
  ⟨C_two hb ht.le ht.C hu.le hu.C, Nat.le_refl _, by unfold cT; rw [wfT]; exact ⟨by unfold I64; decide, by rw [wfL_cons, wfL_cons]; exact ⟨ht.wf, hu.wf, by rw [wfL]; trivial⟩⟩⟩
theorem lies_three {W : World} {g : Nat} {t u x : S24} {A A' A2 : Option Addr} {c c' c2 : Nat} (n : ByteArray) (hb : W.heap[g]? = some (.cells #[.int .i64 t.f0, .string t.f1, .int .i64 t.f2, .slice A t.f3.length c, .int .i64 u.f0, .string u.f1, .int .i64 u.f2, .slice A' u.f3.length c', .int .i64 x.f0, .string x.f1, .int .i64 x.f2, .slice A2 x.f3.length c2] 24 (0, 0))) (ht : Lies W t A c) (hu : Lies W u A' c') (hx : Lies W x A2 c2) : Lies W (cT n [t, u, x]) (some ⟨g, 0, none⟩) 3 :=
  ⟨C_three hb ht.le ht.C hu.le hu.C hx.le hx.C, Nat.le_refl _, by unfold cT; rw [wfT]; exact ⟨by unfold I64; decide, by rw [wfL_cons, wfL_cons, wfL_cons]; exact ⟨ht.wf, hu.wf, hx.wf, by rw [wfL]; trivial⟩⟩⟩

theorem solve1 : SolveOK 20 20 10 10 (cT ⟨#[102]⟩ [vT 1, aT ⟨#[98]⟩]) (cT ⟨#[102]⟩ [aT ⟨#[97]⟩, vT 2]) ([⟨1, aT ⟨#[97]⟩⟩, ⟨2, aT ⟨#[98]⟩⟩], true, 0) := by
  unfold SolveOK
  rw [if_neg (by decide)]
  refine ⟨[(1, aT ⟨#[97]⟩), (2, aT ⟨#[98]⟩)], true, by kernel_rfl, ?_⟩
  rw [if_neg (by decide)]
  refine ⟨false, ?_, ?_⟩
  · intro ord hn h
    rcases perm_two (x := 1) (y := 2) hn h (by decide) with rfl | rfl
    · exact ⟨_, by rfl⟩
    · exact ⟨_, by rfl⟩
  · rw [if_neg (by decide)]
    exact ⟨_, by rfl, rfl⟩
theorem solve2 : SolveOK 20 20 10 10 (vT 2) (vT 1) ([⟨2, vT 1⟩], true, 0) := by
  unfold SolveOK
  rw [if_neg (by decide)]
  refine ⟨[(2, vT 1)], true, by kernel_rfl, ?_⟩
  rw [if_neg (by decide)]
  refine ⟨false, ?_, ?_⟩
  · intro ord hn h
    obtain rfl := perm_one (x := 2) hn h
    exact ⟨_, by rfl⟩
  · rw [if_neg (by decide)]
    exact ⟨_, by rfl, rfl⟩
theorem solve3 : SolveOK 20 20 10 10 (vT 1) (cT ⟨#[102]⟩ [vT 1]) ([], false, 0) := by
  unfold SolveOK
  rw [if_neg (by decide)]
  refine ⟨[(1, cT ⟨#[102]⟩ [vT 1])], true, by kernel_rfl, ?_⟩
  rw [if_neg (by decide)]
  refine ⟨true, ?_, ?_⟩
  · intro ord hn h
    obtain rfl := perm_one (x := 1) hn h
    exact ⟨_, by rfl⟩
  · rw [if_pos rfl]

theorem blk_new2 {g : Nat} (w : World) (o : Obj) (h : g = w.heap.size) : (w.alloc o).heap[g]? = some o := by rw [h]; exact blk_new w o
theorem size_drew1 (w : World) : w.drew.heap.size = w.heap.size := rfl
theorem list_ex (W : World) (g : Nat) (hb : W.heap[g]? = some (.cells #[.int .i64 3, .string ⟨#[97]⟩, .int .i64 0, .slice none 0 0, .int .i64 3, .string ⟨#[98]⟩, .int .i64 0, .slice none 0 0] 24 (0, 0))) :
    Calls Try.prog 29 #[.slice (some ⟨g, 0, none⟩) 2 2, .agg #[.int .i64 3, .string ⟨#[91, 93]⟩, .int .i64 0, .slice none 0 0]] W fun e w' => ∃ v,
      e = .returned (.tuple #[.agg #[.int .i64 4, .string ⟨#[46]⟩, .int .i64 0, v], .int .i64 0]) ∧ Kd.R k24 24 w' W.heap.size (fun _ => True) v [aT ⟨#[97]⟩, cT ⟨#[46]⟩ [aT ⟨#[98]⟩, aT ⟨#[91, 93]⟩]] ∧ Below W.heap.size W w' := by
  have hlA : listA [aT ⟨#[97]⟩, aT ⟨#[98]⟩] (aT ⟨#[91, 93]⟩) = (⟨4, ⟨#[46]⟩, 0, [aT ⟨#[97]⟩, cT ⟨#[46]⟩ [aT ⟨#[98]⟩, aT ⟨#[91, 93]⟩]]⟩, 0) := by kernel_rfl
  have h := list_any [aT ⟨#[97]⟩, aT ⟨#[98]⟩] (aT ⟨#[91, 93]⟩) W (some ⟨g, 0, none⟩) 2 (C_two (t := aT ⟨#[97]⟩) (u := aT ⟨#[98]⟩) (c := 0) (c' := 0) (A := none) (A' := none) hb (Nat.le_refl _) (lies_nil _ 3 ⟨#[97]⟩ 0 (by unfold I64; decide)).C (Nat.le_refl _) (lies_nil _ 3 ⟨#[98]⟩ 0 (by unfold I64; decide)).C)
    (fun t ht => by simp only [List.mem_cons, List.not_mem_nil, or_false] at ht; rcases ht with rfl | rfl <;> exact (lies_nil W _ _ 0 (by unfold I64; decide)).wf) none 0 (lies_nil _ 3 ⟨#[91, 93]⟩ 0 (by unfold I64; decide))
  rw [hlA] at h
  exact h

theorem wfT_r3 : wfT (cT ⟨#[102]⟩ [vT 1, vT 2, vT 1]) := by
  unfold cT vT; simp only [wfT, wfL]; unfold I64; decide
theorem wfT_l5 : wfT (cT ⟨#[46]⟩ [aT ⟨#[97]⟩, cT ⟨#[46]⟩ [aT ⟨#[98]⟩, aT ⟨#[91, 93]⟩]]) := by
  unfold cT aT; simp only [wfT, wfL]; unfold I64; decide
theorem rsame_ex (W : World) (A A' : Option Addr) (c c' : Nat) (h1 : Kd.C k24 W A 3 [vT 1, vT 2, vT 1]) (h1' : 3 ≤ c) (h2 : Kd.C k24 W A' 3 [vT 1, vT 2, vT 1]) (h2' : 3 ≤ c') :
    Calls Try.prog 40 #[.agg #[.int .i64 4, .string ⟨#[102]⟩, .int .i64 0, .slice A 3 c], .agg #[.int .i64 4, .string ⟨#[102]⟩, .int .i64 0, .slice A' 3 c']] W fun e w' => e = .returned (.bool true) ∧ Below W.heap.size W w' :=
  pythiaref07_Same.calls 20 4 ⟨#[102]⟩ 0 A c [vT 1, vT 2, vT 1] 4 ⟨#[102]⟩ 0 A' c' [vT 1, vT 2, vT 1] true W h1 h1' h2 h2' (by kernel_rfl)
theorem order_ex1 (W : World) : Calls Try.prog 20 #[.agg #[.int .i64 1, .string ⟨#[]⟩, .int .i64 9, .slice none 0 0], .agg #[.int .i64 2, .string ⟨#[]⟩, .int .i64 3, .slice none 0 0]] W fun e w' => e = .returned (.int .i64 (-1)) ∧ Below W.heap.size W w' := by
  have h := order_of (vT 9) (iT 3) W none none 0 0 (lies_nil W 1 ⟨#[]⟩ 9 (by unfold I64; decide)).C (Nat.le_refl _) (lies_nil W 2 ⟨#[]⟩ 3 (by unfold I64; decide)).C (Nat.le_refl _)
  rw [show (if (okT (vT 9) && okT (iT 3)) = true then ordT (vT 9) (iT 3) else 0) = -1 by kernel_rfl] at h
  exact h
theorem order_ex2 (W : World) (g g' : Nat) (h1 : W.heap[g]? = some (.cells #[.int .i64 3, .string ⟨#[97]⟩, .int .i64 0, .slice none 0 0] 24 (0, 0))) (h2 : W.heap[g']? = some (.cells #[.int .i64 3, .string ⟨#[97]⟩, .int .i64 0, .slice none 0 0, .int .i64 3, .string ⟨#[97]⟩, .int .i64 0, .slice none 0 0] 24 (0, 0))) :
    Calls Try.prog 20 #[.agg #[.int .i64 4, .string ⟨#[103]⟩, .int .i64 0, .slice (some ⟨g, 0, none⟩) 1 1], .agg #[.int .i64 4, .string ⟨#[102]⟩, .int .i64 0, .slice (some ⟨g', 0, none⟩) 2 2]] W fun e w' => e = .returned (.int .i64 (-1)) ∧ Below W.heap.size W w' := by
  have l0 := lies_nil W 3 ⟨#[97]⟩ 0 (by unfold I64; decide)
  have l1 := lies_one ⟨#[103]⟩ h1 l0
  have l2 := lies_two ⟨#[102]⟩ h2 l0 l0
  have h := order_of (cT ⟨#[103]⟩ [aT ⟨#[97]⟩]) (cT ⟨#[102]⟩ [aT ⟨#[97]⟩, aT ⟨#[97]⟩]) W _ _ _ _ l1.C l1.le l2.C l2.le
  rw [show (if (okT (cT ⟨#[103]⟩ [aT ⟨#[97]⟩]) && okT (cT ⟨#[102]⟩ [aT ⟨#[97]⟩, aT ⟨#[97]⟩])) = true then ordT (cT ⟨#[103]⟩ [aT ⟨#[97]⟩]) (cT ⟨#[102]⟩ [aT ⟨#[97]⟩, aT ⟨#[97]⟩]) else 0) = -1 by kernel_rfl] at h
  exact h
theorem size_ex (W : World) (A : Option Addr) (c : Nat) (h1 : Kd.C k24 W A 2 [aT ⟨#[97]⟩, cT ⟨#[46]⟩ [aT ⟨#[98]⟩, aT ⟨#[91, 93]⟩]]) (h2 : 2 ≤ c) :
    Calls Try.prog 16 #[.agg #[.int .i64 4, .string ⟨#[46]⟩, .int .i64 0, .slice A 2 c]] W fun e w' => e = .returned (.int .i64 5) ∧ Below W.heap.size W w' := by
  have h := size_any (cT ⟨#[46]⟩ [aT ⟨#[97]⟩, cT ⟨#[46]⟩ [aT ⟨#[98]⟩, aT ⟨#[91, 93]⟩]]) W A c h1 h2
  rw [show sizeT (cT ⟨#[46]⟩ [aT ⟨#[97]⟩, cT ⟨#[46]⟩ [aT ⟨#[98]⟩, aT ⟨#[91, 93]⟩]]) = 5 by kernel_rfl] at h
  exact h
theorem depth_ex (W : World) (A : Option Addr) (c : Nat) (h1 : Kd.C k24 W A 2 [aT ⟨#[97]⟩, cT ⟨#[46]⟩ [aT ⟨#[98]⟩, aT ⟨#[91, 93]⟩]]) (h2 : 2 ≤ c) :
    Calls Try.prog 17 #[.agg #[.int .i64 4, .string ⟨#[46]⟩, .int .i64 0, .slice A 2 c]] W fun e w' => e = .returned (.int .i64 3) ∧ Below W.heap.size W w' := by
  have h := depth_any (cT ⟨#[46]⟩ [aT ⟨#[97]⟩, cT ⟨#[46]⟩ [aT ⟨#[98]⟩, aT ⟨#[91, 93]⟩]]) W A c h1 h2
  rw [show depthT (cT ⟨#[46]⟩ [aT ⟨#[97]⟩, cT ⟨#[46]⟩ [aT ⟨#[98]⟩, aT ⟨#[91, 93]⟩]]) = 3 by kernel_rfl] at h
  exact h
theorem vars_ex (W : World) (A : Option Addr) (c : Nat) (h1 : Kd.C k24 W A 3 [vT 1, vT 2, vT 1]) (h2 : 3 ≤ c) :
    Calls Try.prog 18 #[.agg #[.int .i64 4, .string ⟨#[102]⟩, .int .i64 0, .slice A 3 c]] W fun e w' => ∃ A' c', e = .returned (.slice A' 2 c') ∧ Below W.heap.size W w' := by
  refine (vars_of (cT ⟨#[102]⟩ [vT 1, vT 2, vT 1]) W A c h1 h2).mono ?_
  rintro e w' ⟨v, rfl, ho, hb⟩
  rw [show varsOf (cT ⟨#[102]⟩ [vT 1, vT 2, vT 1]) = [1, 2] by kernel_rfl] at ho
  obtain ⟨A', c', rfl, _⟩ := ho.reads
  exact ⟨A', c', rfl, hb⟩
theorem same_ex (W : World) (A A' : Option Addr) (c c' : Nat) (h1 : Kd.C k24 W A 3 [vT 1, vT 2, vT 1]) (h1' : 3 ≤ c) (h2 : Kd.C k24 W A' 3 [vT 1, vT 2, vT 1]) (h2' : 3 ≤ c') :
    Calls Try.prog 19 #[.agg #[.int .i64 4, .string ⟨#[102]⟩, .int .i64 0, .slice A 3 c], .agg #[.int .i64 4, .string ⟨#[102]⟩, .int .i64 0, .slice A' 3 c']] W fun e w' => e = .returned (.bool true) ∧ Below W.heap.size W w' := by
  have h := same_any (cT ⟨#[102]⟩ [vT 1, vT 2, vT 1]) (cT ⟨#[102]⟩ [vT 1, vT 2, vT 1]) W A A' c c' h1 h1' h2 h2'
  rw [show (okT (cT ⟨#[102]⟩ [vT 1, vT 2, vT 1]) && okT (cT ⟨#[102]⟩ [vT 1, vT 2, vT 1]) && decide (ordT (cT ⟨#[102]⟩ [vT 1, vT 2, vT 1]) (cT ⟨#[102]⟩ [vT 1, vT 2, vT 1]) = 0)) = true by kernel_rfl] at h
  exact h
theorem check_ex (W : World) (A : Option Addr) (c : Nat) (h1 : Kd.C k24 W A 3 [vT 1, vT 2, vT 1]) (h2 : 3 ≤ c) :
    Calls Try.prog 15 #[.agg #[.int .i64 4, .string ⟨#[102]⟩, .int .i64 0, .slice A 3 c]] W fun e w' => e = .returned (.int .i64 0) ∧ Below W.heap.size W w' := by
  have h := check_any (cT ⟨#[102]⟩ [vT 1, vT 2, vT 1]) W A c h1 h2
  rw [show (if okT (cT ⟨#[102]⟩ [vT 1, vT 2, vT 1]) = true then (0 : Int) else 70) = 0 by kernel_rfl] at h
  exact h
theorem variant_ex (W : World) (A : Option Addr) (c g : Nat) (h1 : Kd.C k24 W A 3 [vT 1, vT 2, vT 1]) (h2 : 3 ≤ c)
    (h3 : W.heap[g]? = some (.cells #[.int .i64 1, .string ⟨#[]⟩, .int .i64 4, .slice none 0 0, .int .i64 1, .string ⟨#[]⟩, .int .i64 5, .slice none 0 0, .int .i64 1, .string ⟨#[]⟩, .int .i64 4, .slice none 0 0] 24 (0, 0))) :
    Calls Try.prog 21 #[.agg #[.int .i64 4, .string ⟨#[102]⟩, .int .i64 0, .slice A 3 c], .agg #[.int .i64 4, .string ⟨#[102]⟩, .int .i64 0, .slice (some ⟨g, 0, none⟩) 3 3]] W fun e w' => e = .returned (.bool true) ∧ Below W.heap.size W w' := by
  have l2 := lies_three ⟨#[102]⟩ h3 (lies_nil W 1 ⟨#[]⟩ 4 (by unfold I64; decide)) (lies_nil W 1 ⟨#[]⟩ 5 (by unfold I64; decide)) (lies_nil W 1 ⟨#[]⟩ 4 (by unfold I64; decide))
  have h := variant_any (cT ⟨#[102]⟩ [vT 1, vT 2, vT 1]) (cT ⟨#[102]⟩ [vT 4, vT 5, vT 4]) W A _ c _ h1 h2 l2.C l2.le wfT_r3 l2.wf
  rw [show variantT (cT ⟨#[102]⟩ [vT 1, vT 2, vT 1]) (cT ⟨#[102]⟩ [vT 4, vT 5, vT 4]) = true by kernel_rfl] at h
  exact h

set_option maxRecDepth 100000 in
set_option maxHeartbeats 40000000 in
theorem alive_any (w : World) : Calls Try.prog 13 #[] w fun e w' => e = .returned (.bool true) ∧ Below w.heap.size w w' := by
  go_enter Try.func13, Try.ntmps13
  go_wp2_with fail
  refine (A_c ⟨#[97]⟩ _).mono ?_
  rintro e w1 ⟨rfl, hb1⟩
  go_wp2_with fail
  refine (A_c ⟨#[98]⟩ _).mono ?_
  rintro e w2 ⟨rfl, hb2⟩
  have hB2 := below_step (below_step (Below.refl w.heap.size w) hb1) hb2
  clear hb1 hb2
  go_upto_region 2 with (fail)
  have hB3 := below_alloc (below_alloc hB2 (.cells #[.int .i64 3, .string ⟨#[97]⟩, .int .i64 0, .slice none 0 0] 24)) (.cells #[.int .i64 3, .string ⟨#[98]⟩, .int .i64 0, .slice none 0 0] 24)
  have ka := blk_alloc (blk_new w2 (.cells #[.int .i64 3, .string ⟨#[97]⟩, .int .i64 0, .slice none 0 0] 24)) (.cells #[.int .i64 3, .string ⟨#[98]⟩, .int .i64 0, .slice none 0 0] 24)
  have kb := blk_new (w2.alloc (.cells #[.int .i64 3, .string ⟨#[97]⟩, .int .i64 0, .slice none 0 0] 24)) (.cells #[.int .i64 3, .string ⟨#[98]⟩, .int .i64 0, .slice none 0 0] 24)
  rw [World.size_alloc] at kb
  generalize (w2.alloc (.cells #[.int .i64 3, .string ⟨#[97]⟩, .int .i64 0, .slice none 0 0] 24)).alloc (.cells #[.int .i64 3, .string ⟨#[98]⟩, .int .i64 0, .slice none 0 0] 24) = W3 at hB3 ka kb ⊢
  generalize w2.heap.size = ga at *
  have hS : ∀ W', Below W3.heap.size W3 W' → (fun W : World => W.cell? ⟨ga, 0, none⟩ = some (.int .i64 3) ∧ W.cell? ⟨ga, 1, none⟩ = some (.string ⟨#[97]⟩) ∧ W.cell? ⟨ga, 2, none⟩ = some (.int .i64 0) ∧ W.cell? ⟨ga, 3, none⟩ = some (.slice none 0 0) ∧
      W.cell? ⟨ga + 1, 0, none⟩ = some (.int .i64 3) ∧ W.cell? ⟨ga + 1, 1, none⟩ = some (.string ⟨#[98]⟩) ∧ W.cell? ⟨ga + 1, 2, none⟩ = some (.int .i64 0) ∧ W.cell? ⟨ga + 1, 3, none⟩ = some (.slice none 0 0)) W' := fun W' hW' => by
    have k1 := blk_below ka hW'
    have k2 := blk_below kb hW'
    exact ⟨blk_cell k1 0, blk_cell k1 1, blk_cell k1 2, blk_cell k1 3, blk_cell k2 0, blk_cell k2 1, blk_cell k2 2, blk_cell k2 3⟩
  have d3 : Below W3.heap.size W3 W3.drew := (Below.refl _ W3).drew
  have T1 := Lib.hid trivial
  have T2 := Lib.hid trivial
  have T3 := Lib.hid trivial
  have T4 := Lib.hid trivial
  have T5 := Lib.hid trivial
  go_region_held3 (fun W : World => W.cell? ⟨ga, 0, none⟩ = some (.int .i64 3) ∧ W.cell? ⟨ga, 1, none⟩ = some (.string ⟨#[97]⟩) ∧ W.cell? ⟨ga, 2, none⟩ = some (.int .i64 0) ∧ W.cell? ⟨ga, 3, none⟩ = some (.slice none 0 0) ∧
      W.cell? ⟨ga + 1, 0, none⟩ = some (.int .i64 3) ∧ W.cell? ⟨ga + 1, 1, none⟩ = some (.string ⟨#[98]⟩) ∧ W.cell? ⟨ga + 1, 2, none⟩ = some (.int .i64 0) ∧ W.cell? ⟨ga + 1, 3, none⟩ = some (.slice none 0 0)) (first | exact hS _ (by assumption) | exact hS _ (below_alloc (by assumption) _))
    (first
      | (go_at_call 48; clear T1; refine (x_c 1 _).mono ?_; rintro e w4 ⟨rfl, hb4⟩; have d4 := below_step d3 hb4)
      | (go_at_call 47; clear T2; refine (C_c ⟨#[102]⟩ _ _ _ _).mono ?_; rintro e w5 ⟨rfl, hb5⟩; have d5 := below_step (below_alloc d4 _) hb5; have k5 := blk_below (blk_new _ _) hb5)
      | (go_at_call 48; clear T3; refine (x_c 2 _).mono ?_; rintro e w6 ⟨rfl, hb6⟩; have d6 := below_step d5 hb6; have k6 := blk_below k5 hb6)
      | (go_at_call 47; clear T4; refine (C_c ⟨#[102]⟩ _ _ _ _).mono ?_; rintro e w7 ⟨rfl, hb7⟩; have d7 := below_step (below_alloc d6 _) hb7; have k7 := blk_below (blk_new _ _) hb7; have k8 := blk_below (blk_alloc k6 _) hb7)
      | (go_at_call 31; clear T5; refine (solve_of 20 20 10 10 _ _ _ solve1 (by decide) _ _ _ _ _ (lies_two _ k8 (lies_nil _ 1 ⟨#[]⟩ 1 (by unfold I64; decide)) (lies_nil _ 3 ⟨#[98]⟩ 0 (by unfold I64; decide))) (lies_two _ k7 (lies_nil _ 3 ⟨#[97]⟩ 0 (by unfold I64; decide)) (lies_nil _ 1 ⟨#[]⟩ 2 (by unfold I64; decide)))).mono ?_; rintro e w8 ⟨vs1, rfl, hR8, hb8⟩; have d8 := below_step d7 hb8))
  obtain ⟨A8, c8, rfl, hc8, C8⟩ := Kd.R_reads hR8
  obtain ⟨ad8, A80, c80, rfl, r0, r1, r2, r3, r4, r5, r6⟩ := C50_rd C8 0 (by decide) rfl
  obtain ⟨_, A81, c81, e8, s0, s1, s2, s3, s4, s5, s6⟩ := C50_rd C8 1 (by decide) rfl
  cases e8
  have B8 := below_step hB3 d8
  have ka8 := blk_below ka d8
  have kb8 := blk_below kb d8
  clear hS d8 d7 d6 d5 d4 d3 hb4 hb5 hb6 hb7 hb8 k5 k6 k7 k8 ka kb hB3 hB2 hR8 r4 r5 r6 s4 s5 s6
  go_wp2_with fail
  refine (x_c 2 _).mono ?_
  rintro e w9 ⟨rfl, hb9⟩
  go_wp2_with fail
  refine (x_c 1 _).mono ?_
  rintro e w10 ⟨rfl, hb10⟩
  have d10 := below_step hb9 hb10
  clear hb9 hb10
  go_wp2_with fail
  refine (solve_of 20 20 10 10 _ _ _ solve2 (by decide) w10 none none 0 0 (lies_nil _ 1 ⟨#[]⟩ 2 (by unfold I64; decide)) (lies_nil _ 1 ⟨#[]⟩ 1 (by unfold I64; decide))).mono ?_
  rintro e w11 ⟨v11, rfl, hR11, hb11⟩
  obtain ⟨A11, c11, rfl, hc11, C11⟩ := Kd.R_reads hR11
  obtain ⟨ad11, A110, c110, rfl, t0, t1, t2, t3, t4, t5, t6⟩ := C50_rd C11 0 (by decide) rfl
  have d11 := below_step d10 hb11
  clear hb11 d10 hR11 t4 t5 t6
  go_wp2_with fail
  refine (x_c 1 _).mono ?_
  rintro e w12 ⟨rfl, hb12⟩
  go_wp2_with fail
  refine (x_c 1 _).mono ?_
  rintro e w13 ⟨rfl, hb13⟩
  go_wp2_with fail
  refine (C_c ⟨#[102]⟩ _ _ _ _).mono ?_
  rintro e w14 ⟨rfl, hb14⟩
  have k14 := blk_below (blk_new _ _) hb14
  have d14 := below_step (below_alloc (below_step hb12 hb13) _) hb14
  clear hb12 hb13 hb14
  go_wp2_with fail
  refine (solve_of 20 20 10 10 _ _ _ solve3 (by decide) w14 none _ 0 _ (lies_nil _ 1 ⟨#[]⟩ 1 (by unfold I64; decide)) (lies_one _ k14 (lies_nil _ 1 ⟨#[]⟩ 1 (by unfold I64; decide)))).mono ?_
  rintro e w15 ⟨v15, rfl, hR15, hb15⟩
  have d15 := below_step d14 hb15
  clear hb15 k14 d14 hR15
  go_wp2_with fail
  refine (x_c 7 _).mono ?_
  rintro e w16 ⟨rfl, hb16⟩
  go_wp2_with fail
  refine (x_c 3 _).mono ?_
  rintro e w17 ⟨rfl, hb17⟩
  go_wp2_with fail
  refine (x_c 7 _).mono ?_
  rintro e w18 ⟨rfl, hb18⟩
  go_wp2_with fail
  refine (C_c ⟨#[102]⟩ _ _ _ _).mono ?_
  rintro e w19 ⟨rfl, hb19⟩
  have k19 := blk_below (blk_new _ _) hb19
  have d19 := below_step (below_alloc (below_step (below_step (below_step d15 hb16) hb17) hb18) _) hb19
  clear hb16 hb17 hb18 hb19 d15
  have l19 := lies_three ⟨#[102]⟩ k19 (lies_nil _ 1 ⟨#[]⟩ 7 (by unfold I64; decide)) (lies_nil _ 1 ⟨#[]⟩ 3 (by unfold I64; decide)) (lies_nil _ 1 ⟨#[]⟩ 7 (by unfold I64; decide))
  have hrn := rename_any _ 1 _ _ _ l19.C l19.le l19.wf (by unfold I64; decide)
  rw [show renT (cT ⟨#[102]⟩ [⟨1, ⟨#[]⟩, 7, []⟩, ⟨1, ⟨#[]⟩, 3, []⟩, ⟨1, ⟨#[]⟩, 7, []⟩]) 1 = (cT ⟨#[102]⟩ [vT 1, vT 2, vT 1], 3, 0) by kernel_rfl] at hrn
  clear l19 k19
  go_wp2_with fail
  refine hrn.mono ?_
  rintro e w20 ⟨v20, rfl, hR20, hb20⟩
  obtain ⟨A20, c20, rfl, hc20, C20⟩ := Kd.R_reads hR20
  have d20 := below_step d19 hb20
  clear hrn hR20 d19 hb20
  have d11' := d20
  have dA := below_step d11 d20
  clear d20
  obtain ⟨b8, o8, sp8⟩ := ad8
  obtain rfl : sp8 = none := by have := World.cell?_spot r0; simpa [Addr.add] using this
  obtain ⟨b11, o11, sp11⟩ := ad11
  obtain rfl : sp11 = none := by have := World.cell?_spot t0; simpa [Addr.add] using this
  have e1 : w20.cell? ⟨b8, o8 + 1 + 1, none⟩ = some (.string ⟨#[97]⟩) := (dA.cell (World.block_lt_of_cell? w8 ⟨b8, o8 + 1 + 1, none⟩ r2)).trans r2
  have e2 : w20.cell? ⟨b8, o8 + 5, none⟩ = some (.int .i64 2) := (dA.cell (World.block_lt_of_cell? w8 ⟨b8, o8 + 5, none⟩ (by simpa [Addr.add] using s0))).trans (by simpa [Addr.add] using s0)
  have e3 : w20.cell? ⟨b11, o11, none⟩ = some (.int .i64 2) := (d11'.cell (World.block_lt_of_cell? w11 ⟨b11, o11, none⟩ (by simpa [Addr.add] using t0))).trans (by simpa [Addr.add] using t0)
  have e4 : w20.cell? ⟨b11, o11 + 1 + 2, none⟩ = some (.int .i64 1) := (d11'.cell (World.block_lt_of_cell? w11 ⟨b11, o11 + 1 + 2, none⟩ t3)).trans t3
  have g1 := World.block_lt_of_cell? w20 _ e1
  have g3 := World.block_lt_of_cell? w20 _ e3
  simp only at g1 g3
  clear r0 r1 r2 r3 s0 s1 s2 s3 t0 t1 t2 t3 d11'
  go_wp2_with fail
  clear e1 e2 e3 e4 g1 g3
  have k20 := blk_new w20 (.cells #[.int .i64 (cT ⟨#[102]⟩ [vT 1, vT 2, vT 1]).f0, .string (cT ⟨#[102]⟩ [vT 1, vT 2, vT 1]).f1, .int .i64 (cT ⟨#[102]⟩ [vT 1, vT 2, vT 1]).f2, .slice A20 (cT ⟨#[102]⟩ [vT 1, vT 2, vT 1]).f3.length c20] 24)
  have C21 := Kd.C_alloc C20 (.cells #[.int .i64 (cT ⟨#[102]⟩ [vT 1, vT 2, vT 1]).f0, .string (cT ⟨#[102]⟩ [vT 1, vT 2, vT 1]).f1, .int .i64 (cT ⟨#[102]⟩ [vT 1, vT 2, vT 1]).f2, .slice A20 (cT ⟨#[102]⟩ [vT 1, vT 2, vT 1]).f3.length c20] 24)
  have B21 := below_alloc (below_step B8 dA) (.cells #[.int .i64 (cT ⟨#[102]⟩ [vT 1, vT 2, vT 1]).f0, .string (cT ⟨#[102]⟩ [vT 1, vT 2, vT 1]).f1, .int .i64 (cT ⟨#[102]⟩ [vT 1, vT 2, vT 1]).f2, .slice A20 (cT ⟨#[102]⟩ [vT 1, vT 2, vT 1]).f3.length c20] 24)
  have ka21 := blk_alloc (blk_below ka8 dA) (.cells #[.int .i64 (cT ⟨#[102]⟩ [vT 1, vT 2, vT 1]).f0, .string (cT ⟨#[102]⟩ [vT 1, vT 2, vT 1]).f1, .int .i64 (cT ⟨#[102]⟩ [vT 1, vT 2, vT 1]).f2, .slice A20 (cT ⟨#[102]⟩ [vT 1, vT 2, vT 1]).f3.length c20] 24)
  have kb21 := blk_alloc (blk_below kb8 dA) (.cells #[.int .i64 (cT ⟨#[102]⟩ [vT 1, vT 2, vT 1]).f0, .string (cT ⟨#[102]⟩ [vT 1, vT 2, vT 1]).f1, .int .i64 (cT ⟨#[102]⟩ [vT 1, vT 2, vT 1]).f2, .slice A20 (cT ⟨#[102]⟩ [vT 1, vT 2, vT 1]).f3.length c20] 24)
  clear B8 dA ka8 kb8 C20
  have l20 : wfT (cT ⟨#[102]⟩ [vT 1, vT 2, vT 1]) := by
    unfold cT vT; rw [wfT, wfL_cons, wfL_cons, wfL_cons, wfL, wfT, wfT, wfL]; unfold I64; decide
  generalize w20.alloc (.cells #[.int .i64 (cT ⟨#[102]⟩ [vT 1, vT 2, vT 1]).f0, .string (cT ⟨#[102]⟩ [vT 1, vT 2, vT 1]).f1, .int .i64 (cT ⟨#[102]⟩ [vT 1, vT 2, vT 1]).f2, .slice A20 (cT ⟨#[102]⟩ [vT 1, vT 2, vT 1]).f3.length c20] 24) = w21 at k20 C21 B21 ka21 kb21 ⊢
  generalize w20.heap.size = gr at *
  have hS : ∀ W', Below w21.heap.size w21 W' → (fun W : World => W.cell? ⟨ga, 0, none⟩ = some (.int .i64 3) ∧ W.cell? ⟨ga, 1, none⟩ = some (.string ⟨#[97]⟩) ∧ W.cell? ⟨ga, 2, none⟩ = some (.int .i64 0) ∧ W.cell? ⟨ga, 3, none⟩ = some (.slice none 0 0) ∧
      W.cell? ⟨ga + 1, 0, none⟩ = some (.int .i64 3) ∧ W.cell? ⟨ga + 1, 1, none⟩ = some (.string ⟨#[98]⟩) ∧ W.cell? ⟨ga + 1, 2, none⟩ = some (.int .i64 0) ∧ W.cell? ⟨ga + 1, 3, none⟩ = some (.slice none 0 0)) W' := fun W' hW' => by
    have k1 := blk_below ka21 hW'
    have k2 := blk_below kb21 hW'
    exact ⟨blk_cell k1 0, blk_cell k1 1, blk_cell k1 2, blk_cell k1 3, blk_cell k2 0, blk_cell k2 1, blk_cell k2 2, blk_cell k2 3⟩
  have d21 : Below w21.heap.size w21 w21.drew := (Below.refl _ w21).drew
  go_cut [15, 16] from 19 to 136 (fun l15 l16 wx => ∃ g A c, l15 = .pointer (some ⟨g, 0, none⟩) ∧ l16 = .int .i64 0 ∧ wx.heap[g]? = some (.cells #[.int .i64 4, .string ⟨#[46]⟩, .int .i64 0, .slice A 2 c] 24 (0, 0)) ∧
      Kd.C k24 wx A 2 [aT ⟨#[97]⟩, cT ⟨#[46]⟩ [aT ⟨#[98]⟩, aT ⟨#[91, 93]⟩]] ∧ 2 ≤ c ∧ Below w21.heap.size w21 wx)
  case first =>
    go_region_held3 (fun W : World => W.cell? ⟨ga, 0, none⟩ = some (.int .i64 3) ∧ W.cell? ⟨ga, 1, none⟩ = some (.string ⟨#[97]⟩) ∧ W.cell? ⟨ga, 2, none⟩ = some (.int .i64 0) ∧ W.cell? ⟨ga, 3, none⟩ = some (.slice none 0 0) ∧
      W.cell? ⟨ga + 1, 0, none⟩ = some (.int .i64 3) ∧ W.cell? ⟨ga + 1, 1, none⟩ = some (.string ⟨#[98]⟩) ∧ W.cell? ⟨ga + 1, 2, none⟩ = some (.int .i64 0) ∧ W.cell? ⟨ga + 1, 3, none⟩ = some (.slice none 0 0)) ((refine hS _ ?_; repeat (first | assumption | exact Below.refl _ _ | apply below_alloc | apply below_drew1 | refine below_set ?_ ?_ | exact Nat.le_refl _ | exact d22.size | exact Nat.le_trans d22.size (Nat.le_succ _) | exact Nat.le_succ _)))
      (first
        | (go_at_call 46; refine (A_c ⟨#[91, 93]⟩ _).mono ?_; rintro e w22 ⟨rfl, hb22⟩; have d22 : Below w21.heap.size w21 w22 := below_step (by repeat (first | exact d21 | exact Below.refl _ _ | apply below_alloc | apply below_drew1)) hb22)
        | (go_at_call 29; refine (list_ex _ _ ?hb).mono ?_; (case hb => (with_reducible (repeat (first | refine blk_drew ?_ | exact blk_new _ _ | refine blk_new2 _ _ ?_ | refine blk_alloc ?_ _ | refine blk_below ?_ hb22))); (try simp)); rintro e w23 ⟨v23, rfl, hR23, hb23⟩; obtain ⟨A23, c23, rfl, hc23, C23⟩ := Kd.R_reads hR23; have C23' : Kd.C k24 w23 A23 2 [aT ⟨#[97]⟩, cT ⟨#[46]⟩ [aT ⟨#[98]⟩, aT ⟨#[91, 93]⟩]] := C23; have d23 : Below w21.heap.size w21 w23 := below_step (by repeat (first | exact d22 | exact d21 | exact Below.refl _ _ | apply below_alloc | apply below_drew1)) hb23; (try (have kz := blk_below (blk_new _ _) hb23; (try simp only [size_drew1] at kz); (try simp only [World.size_alloc] at kz); (try simp only [size_drew1] at kz); (try simp only [World.size_alloc] at kz); have fz0 := blk_frozen kz 0; have fz1 := blk_frozen kz 1; have fz2 := blk_frozen kz 2; have fz3 := blk_frozen kz 3; have qz0 := blk_cell kz 0; have qz1 := blk_cell kz 1; have qz2 := blk_cell kz 2; have qz3 := blk_cell kz 3; have lz := blk_lt kz)); (try (have kz := blk_below (blk_alloc (blk_new _ _) _) hb23; (try simp only [size_drew1] at kz); (try simp only [World.size_alloc] at kz); (try simp only [size_drew1] at kz); (try simp only [World.size_alloc] at kz); have fz0 := blk_frozen kz 0; have fz1 := blk_frozen kz 1; have fz2 := blk_frozen kz 2; have fz3 := blk_frozen kz 3; have qz0 := blk_cell kz 0; have qz1 := blk_cell kz 1; have qz2 := blk_cell kz 2; have qz3 := blk_cell kz 3; have lz := blk_lt kz)); (try (have kz := blk_below (blk_below (blk_new _ _) hb22) hb23; (try simp only [size_drew1] at kz); (try simp only [World.size_alloc] at kz); (try simp only [size_drew1] at kz); (try simp only [World.size_alloc] at kz); have fz0 := blk_frozen kz 0; have fz1 := blk_frozen kz 1; have fz2 := blk_frozen kz 2; have fz3 := blk_frozen kz 3; have qz0 := blk_cell kz 0; have qz1 := blk_cell kz 1; have qz2 := blk_cell kz 2; have qz3 := blk_cell kz 3; have lz := blk_lt kz)); (try (have kz := blk_below (blk_below (blk_drew (blk_new _ _)) hb22) hb23; (try simp only [size_drew1] at kz); (try simp only [World.size_alloc] at kz); (try simp only [size_drew1] at kz); (try simp only [World.size_alloc] at kz); have fz0 := blk_frozen kz 0; have fz1 := blk_frozen kz 1; have fz2 := blk_frozen kz 2; have fz3 := blk_frozen kz 3; have qz0 := blk_cell kz 0; have qz1 := blk_cell kz 1; have qz2 := blk_cell kz 2; have qz3 := blk_cell kz 3; have lz := blk_lt kz)); (try (have kz := blk_below (blk_below (blk_alloc (blk_new _ _) _) hb22) hb23; (try simp only [size_drew1] at kz); (try simp only [World.size_alloc] at kz); (try simp only [size_drew1] at kz); (try simp only [World.size_alloc] at kz); have fz0 := blk_frozen kz 0; have fz1 := blk_frozen kz 1; have fz2 := blk_frozen kz 2; have fz3 := blk_frozen kz 3; have qz0 := blk_cell kz 0; have qz1 := blk_cell kz 1; have qz2 := blk_cell kz 2; have qz3 := blk_cell kz 3; have lz := blk_lt kz)); (try (have kz := blk_below (blk_below (blk_drew (blk_alloc (blk_new _ _) _)) hb22) hb23; (try simp only [size_drew1] at kz); (try simp only [World.size_alloc] at kz); (try simp only [size_drew1] at kz); (try simp only [World.size_alloc] at kz); have fz0 := blk_frozen kz 0; have fz1 := blk_frozen kz 1; have fz2 := blk_frozen kz 2; have fz3 := blk_frozen kz 3; have qz0 := blk_cell kz 0; have qz1 := blk_cell kz 1; have qz2 := blk_cell kz 2; have qz3 := blk_cell kz 3; have lz := blk_lt kz)); (try (have kz := blk_below (blk_alloc (blk_below (blk_new _ _) hb22) _) hb23; (try simp only [size_drew1] at kz); (try simp only [World.size_alloc] at kz); (try simp only [size_drew1] at kz); (try simp only [World.size_alloc] at kz); have fz0 := blk_frozen kz 0; have fz1 := blk_frozen kz 1; have fz2 := blk_frozen kz 2; have fz3 := blk_frozen kz 3; have qz0 := blk_cell kz 0; have qz1 := blk_cell kz 1; have qz2 := blk_cell kz 2; have qz3 := blk_cell kz 3; have lz := blk_lt kz)); (try (have kz := blk_below (blk_alloc (blk_below (blk_drew (blk_new _ _)) hb22) _) hb23; (try simp only [size_drew1] at kz); (try simp only [World.size_alloc] at kz); (try simp only [size_drew1] at kz); (try simp only [World.size_alloc] at kz); have fz0 := blk_frozen kz 0; have fz1 := blk_frozen kz 1; have fz2 := blk_frozen kz 2; have fz3 := blk_frozen kz 3; have qz0 := blk_cell kz 0; have qz1 := blk_cell kz 1; have qz2 := blk_cell kz 2; have qz3 := blk_cell kz 3; have lz := blk_lt kz))))
    all_goals go_wp2_with fail
    all_goals go_meet
    all_goals (case rel =>
      refine ⟨_, A23, c23, rfl, rfl, ?_, ?_, hc23, ?_⟩
      · first
        | with_reducible exact blk_new _ _
        | exact res_box (by with_reducible assumption) _ _ _ _
      · first
        | with_reducible exact Kd.C_alloc C23' _
        | (refine (Kd.R_reads' (R_set4 (Kd.R_bound hR23) ?_ _ _ _ _)).2.2; intro j hj; have h1 := hj.2.1; have h2 := hb22.size; (try simp only [World.size_alloc] at h1); (try simp only [size_drew1] at h2); (try simp only [World.size_alloc] at h2); omega)
      · repeat (first | with_reducible exact d23 | with_reducible refine below_alloc ?_ _ | with_reducible refine below_set ?_ ?_ | exact Nat.le_refl _ | exact d22.size | exact Nat.le_trans d22.size (Nat.le_succ _) | exact Nat.le_succ _))
  case rest =>
  obtain ⟨g15, A15, c15, rfl, rfl, h15, C15, l15, B15⟩ := hcut
  have ka15 := blk_below ka21 B15
  have kr15 := blk_below k20 B15
  have Cr15 : Kd.C k24 wc A20 3 [vT 1, vT 2, vT 1] := Kd.C_below C21 B15
  have Bw15 := below_step B21 B15
  have lr20 := hc20
  clear ka21 k20 C21 hS d21 B15 B21 kb21 hc20 hc8 hc11 C8 C11
  simp only [cT] at kr15 lr20
  have q0 := blk_cell h15 0
  have q1 := blk_cell h15 1
  have q2 := blk_cell h15 2
  have q3 := blk_cell h15 3
  have w15 : wfT (cT ⟨#[46]⟩ [aT ⟨#[97]⟩, cT ⟨#[46]⟩ [aT ⟨#[98]⟩, aT ⟨#[91, 93]⟩]]) := by
    unfold cT aT; simp only [wfT, wfL]; unfold I64; decide
  have hit := items_any (cT ⟨#[46]⟩ [aT ⟨#[97]⟩, cT ⟨#[46]⟩ [aT ⟨#[98]⟩, aT ⟨#[91, 93]⟩]]) wc A15 c15 C15 l15 w15
  rw [show itemsT (cT ⟨#[46]⟩ [aT ⟨#[97]⟩, cT ⟨#[46]⟩ [aT ⟨#[98]⟩, aT ⟨#[91, 93]⟩]]) = ([aT ⟨#[97]⟩, aT ⟨#[98]⟩], aT ⟨#[91, 93]⟩) by kernel_rfl] at hit
  go_wp2_with fail
  refine hit.mono ?_
  rintro e w24 ⟨v24, u24, rfl, hR24, hR24', hb24⟩
  clear hit q0 q1 q2 q3
  obtain ⟨A24, c24, rfl, hc24, C24⟩ := Kd.R_reads hR24
  obtain ⟨A25, c25, rfl, hc25, C25⟩ := Kd.R_reads hR24'
  have Bw24 := below_step Bw15 hb24
  have ka24 := blk_below ka15 hb24
  have kr24 := blk_below kr15 hb24
  have kl24 := blk_below h15 hb24
  have Cr24 : Kd.C k24 w24 A20 3 [vT 1, vT 2, vT 1] := Kd.C_below Cr15 hb24
  have Cl24 : Kd.C k24 w24 A15 2 [aT ⟨#[97]⟩, cT ⟨#[46]⟩ [aT ⟨#[98]⟩, aT ⟨#[91, 93]⟩]] := Kd.C_below C15 hb24
  clear ka15 kr15 h15 Cr15 C15 Bw15 hb24 hR24 hR24' C24 C25
  go_upto_region 10 with (fail)
  simp only [aT] at hc25
  have Bw25 := below_alloc Bw24 (.cells #[.int .i64 (aT ⟨#[91, 93]⟩).f0, .string (aT ⟨#[91, 93]⟩).f1, .int .i64 (aT ⟨#[91, 93]⟩).f2, .slice A25 (aT ⟨#[91, 93]⟩).f3.length c25] 24)
  have ka25 := blk_alloc ka24 (.cells #[.int .i64 (aT ⟨#[91, 93]⟩).f0, .string (aT ⟨#[91, 93]⟩).f1, .int .i64 (aT ⟨#[91, 93]⟩).f2, .slice A25 (aT ⟨#[91, 93]⟩).f3.length c25] 24)
  have kr25 := blk_alloc kr24 (.cells #[.int .i64 (aT ⟨#[91, 93]⟩).f0, .string (aT ⟨#[91, 93]⟩).f1, .int .i64 (aT ⟨#[91, 93]⟩).f2, .slice A25 (aT ⟨#[91, 93]⟩).f3.length c25] 24)
  have kl25 := blk_alloc kl24 (.cells #[.int .i64 (aT ⟨#[91, 93]⟩).f0, .string (aT ⟨#[91, 93]⟩).f1, .int .i64 (aT ⟨#[91, 93]⟩).f2, .slice A25 (aT ⟨#[91, 93]⟩).f3.length c25] 24)
  have ke25 := blk_new w24 (.cells #[.int .i64 (aT ⟨#[91, 93]⟩).f0, .string (aT ⟨#[91, 93]⟩).f1, .int .i64 (aT ⟨#[91, 93]⟩).f2, .slice A25 (aT ⟨#[91, 93]⟩).f3.length c25] 24)
  have Cr25 := Kd.C_alloc Cr24 (.cells #[.int .i64 (aT ⟨#[91, 93]⟩).f0, .string (aT ⟨#[91, 93]⟩).f1, .int .i64 (aT ⟨#[91, 93]⟩).f2, .slice A25 (aT ⟨#[91, 93]⟩).f3.length c25] 24)
  have Cl25 := Kd.C_alloc Cl24 (.cells #[.int .i64 (aT ⟨#[91, 93]⟩).f0, .string (aT ⟨#[91, 93]⟩).f1, .int .i64 (aT ⟨#[91, 93]⟩).f2, .slice A25 (aT ⟨#[91, 93]⟩).f3.length c25] 24)
  generalize w24.alloc (.cells #[.int .i64 (aT ⟨#[91, 93]⟩).f0, .string (aT ⟨#[91, 93]⟩).f1, .int .i64 (aT ⟨#[91, 93]⟩).f2, .slice A25 (aT ⟨#[91, 93]⟩).f3.length c25] 24) = w25 at Bw25 ka25 kr25 kl25 ke25 Cr25 Cl25 ⊢
  generalize w24.heap.size = g18 at *
  clear Bw24 ka24 kr24 kl24 Cr24 Cl24
  have hS : ∀ W', Below w25.heap.size w25 W' → (fun W : World => W.cell? ⟨ga, 0, none⟩ = some (.int .i64 3) ∧ W.cell? ⟨ga, 1, none⟩ = some (.string ⟨#[97]⟩) ∧ W.cell? ⟨ga, 2, none⟩ = some (.int .i64 0) ∧ W.cell? ⟨ga, 3, none⟩ = some (.slice none 0 0) ∧ W.cell? ⟨gr, 0, none⟩ = some (.int .i64 4) ∧ W.cell? ⟨gr, 1, none⟩ = some (.string ⟨#[102]⟩) ∧ W.cell? ⟨gr, 2, none⟩ = some (.int .i64 0) ∧ W.cell? ⟨gr, 3, none⟩ = some (.slice A20 3 c20) ∧ W.cell? ⟨g15, 0, none⟩ = some (.int .i64 4) ∧ W.cell? ⟨g15, 1, none⟩ = some (.string ⟨#[46]⟩) ∧ W.cell? ⟨g15, 2, none⟩ = some (.int .i64 0) ∧ W.cell? ⟨g15, 3, none⟩ = some (.slice A15 2 c15) ∧ W.cell? ⟨g18, 1, none⟩ = some (.string ⟨#[91, 93]⟩)) W' := fun W' hW' => by
    have k1 := blk_below ka25 hW'
    have k2 := blk_below kr25 hW'
    have k3 := blk_below kl25 hW'
    have k4 := blk_below ke25 hW'
    exact ⟨blk_cell k1 0, blk_cell k1 1, blk_cell k1 2, blk_cell k1 3, blk_cell k2 0, blk_cell k2 1, blk_cell k2 2, blk_cell k2 3, blk_cell k3 0, blk_cell k3 1, blk_cell k3 2, blk_cell k3 3, blk_cell k4 1⟩
  have d30 : Below w25.heap.size w25 w25.drew := (Below.refl _ w25).drew
  clear ka25 kr25 kl25 ke25
  have T1 := Lib.hid trivial
  have T2 := Lib.hid trivial
  have T3 := Lib.hid trivial
  have T4 := Lib.hid trivial
  have T5 := Lib.hid trivial
  have T6 := Lib.hid trivial
  have T7 := Lib.hid trivial
  have T8 := Lib.hid trivial
  have T9 := Lib.hid trivial
  have T10 := Lib.hid trivial
  have T11 := Lib.hid trivial
  have T12 := Lib.hid trivial
  have T13 := Lib.hid trivial
  have T14 := Lib.hid trivial
  have T15 := Lib.hid trivial
  have T16 := Lib.hid trivial
  have T17 := Lib.hid trivial
  have T18 := Lib.hid trivial
  have T19 := Lib.hid trivial
  have T20 := Lib.hid trivial
  have T21 := Lib.hid trivial
  conv => arg 2; arg 2; arg 1; simp only [List.append]
  clear T1 T2 T3 T4 T5 T6 T7 T8 T9 T10 T11 T12 T13 T14 T15 T16 T17 T18 T19 T20 T21
  refine wp_region_noPanic ?_
  refine wp_region_held_drew (S := (fun W : World => W.cell? ⟨ga, 0, none⟩ = some (.int .i64 3) ∧ W.cell? ⟨ga, 1, none⟩ = some (.string ⟨#[97]⟩) ∧ W.cell? ⟨ga, 2, none⟩ = some (.int .i64 0) ∧ W.cell? ⟨ga, 3, none⟩ = some (.slice none 0 0) ∧ W.cell? ⟨gr, 0, none⟩ = some (.int .i64 4) ∧ W.cell? ⟨gr, 1, none⟩ = some (.string ⟨#[102]⟩) ∧ W.cell? ⟨gr, 2, none⟩ = some (.int .i64 0) ∧ W.cell? ⟨gr, 3, none⟩ = some (.slice A20 3 c20) ∧ W.cell? ⟨g15, 0, none⟩ = some (.int .i64 4) ∧ W.cell? ⟨g15, 1, none⟩ = some (.string ⟨#[46]⟩) ∧ W.cell? ⟨g15, 2, none⟩ = some (.int .i64 0) ∧ W.cell? ⟨g15, 3, none⟩ = some (.slice A15 2 c15) ∧ W.cell? ⟨g18, 1, none⟩ = some (.string ⟨#[91, 93]⟩))) (by decide +kernel) ?_ (fun hHeld => ?_)
  · ((try dsimp only); (refine hS _ ?_; repeat (first | with_reducible assumption | refine below_alloc ?_ _)))
  refine wpAnyH_take (i := 0) (oi := _) (v := ?_) (by simp only [List.getElem?_toArray, List.getElem?_cons_zero]; rfl) (by decide +kernel) (by decide +kernel) (by decide +kernel) (fun _ _ _ h => h) (Or.inl ⟨by rfl, ?_⟩) (by assumption) ?_
  rotate_left
  · (intro w hSw; (try dsimp only at hSw); go_simp; try (with_reducible rfl))
  try simp only [Act.put, List.setIfInBounds_toArray, List.set_cons_zero, List.set_cons_succ]
  refine wpAnyH_ready (rs := [1]) (by decide +kernel) (by simp) ?_
  refine AllReadyH.cons (o := _) (by simp only [List.getElem?_toArray, List.getElem?_cons_succ, List.getElem?_cons_zero]; rfl) (fun K hK => ?_) AllReadyH.nil
  go_simp
  (refine (x_c 1 _).mono ?_; rintro e w31 ⟨rfl, hb31⟩; have d31 := below_step d30 hb31)
  go_wp2_with fail
  refine hK.out _ _ ?_ (fun hHeld2 => ?_)
  · ((try dsimp only); (refine hS _ ?_; repeat (first | with_reducible assumption | refine below_alloc ?_ _)))
  clear hK K hHeld
  have hHeld := hHeld2
  clear hHeld2
  try simp only [Act.put, List.setIfInBounds_toArray, List.set_cons_zero, List.set_cons_succ]
  refine wpAnyH_ready (rs := [2]) (by decide +kernel) (by simp) ?_
  refine AllReadyH.cons (o := _) (by simp only [List.getElem?_toArray, List.getElem?_cons_succ, List.getElem?_cons_zero]; rfl) (fun K hK => ?_) AllReadyH.nil
  go_simp
  (refine (x_c 2 _).mono ?_; rintro e w32 ⟨rfl, hb32⟩; have d32 := below_step d31 hb32)
  go_wp2_with fail
  refine hK.out _ _ ?_ (fun hHeld2 => ?_)
  · ((try dsimp only); (refine hS _ ?_; repeat (first | with_reducible assumption | refine below_alloc ?_ _)))
  clear hK K hHeld
  have hHeld := hHeld2
  clear hHeld2
  try simp only [Act.put, List.setIfInBounds_toArray, List.set_cons_zero, List.set_cons_succ]
  refine wpAnyH_ready (rs := [3]) (by decide +kernel) (by simp) ?_
  refine AllReadyH.cons (o := _) (by simp only [List.getElem?_toArray, List.getElem?_cons_succ, List.getElem?_cons_zero]; rfl) (fun K hK => ?_) AllReadyH.nil
  go_simp
  (refine (x_c 1 _).mono ?_; rintro e w33 ⟨rfl, hb33⟩; have d33 := below_step d32 hb33)
  go_wp2_with fail
  refine hK.out _ _ ?_ (fun hHeld2 => ?_)
  · ((try dsimp only); (refine hS _ ?_; repeat (first | with_reducible assumption | refine below_alloc ?_ _)))
  clear hK K hHeld
  have hHeld := hHeld2
  clear hHeld2
  try simp only [Act.put, List.setIfInBounds_toArray, List.set_cons_zero, List.set_cons_succ]
  refine wpAnyH_ready (rs := [4]) (by decide +kernel) (by simp) ?_
  refine AllReadyH.cons (o := _) (by simp only [List.getElem?_toArray, List.getElem?_cons_succ, List.getElem?_cons_zero]; rfl) (fun K hK => ?_) AllReadyH.nil
  go_simp
  refine hK.out _ _ ?_ (fun hHeld2 => ?_)
  · ((try dsimp only); (refine hS _ ?_; repeat (first | with_reducible assumption | refine below_alloc ?_ _)))
  clear hK K hHeld
  have hHeld := hHeld2
  clear hHeld2
  try simp only [Act.put, List.setIfInBounds_toArray, List.set_cons_zero, List.set_cons_succ]
  refine wpAnyH_ready (rs := [5]) (by decide +kernel) (by simp) ?_
  refine AllReadyH.cons (o := _) (by simp only [List.getElem?_toArray, List.getElem?_cons_succ, List.getElem?_cons_zero]; rfl) (fun K hK => ?_) AllReadyH.nil
  go_simp
  (refine (C_c ⟨#[102]⟩ _ _ _ _).mono ?_; rintro e w34 ⟨rfl, hb34⟩; have d34 := below_step (below_alloc d33 _) hb34; have k34 := blk_below (blk_new _ _) hb34)
  go_wp2_with fail
  refine hK.out _ _ ?_ (fun hHeld2 => ?_)
  · ((try dsimp only); (refine hS _ ?_; repeat (first | with_reducible assumption | refine below_alloc ?_ _)))
  clear hK K hHeld
  have hHeld := hHeld2
  clear hHeld2
  try simp only [Act.put, List.setIfInBounds_toArray, List.set_cons_zero, List.set_cons_succ]
  refine wpAnyH_ready (rs := [6]) (by decide +kernel) (by simp) ?_
  refine AllReadyH.cons (o := _) (by simp only [List.getElem?_toArray, List.getElem?_cons_succ, List.getElem?_cons_zero]; rfl) (fun K hK => ?_) AllReadyH.nil
  go_simp
  (refine (rsame_ex _ _ _ _ _ (Kd.C_below Cr25 d34) lr20 (lies_three ⟨#[102]⟩ k34 (lies_nil _ 1 ⟨#[]⟩ 1 (by unfold I64; decide)) (lies_nil _ 1 ⟨#[]⟩ 2 (by unfold I64; decide)) (lies_nil _ 1 ⟨#[]⟩ 1 (by unfold I64; decide))).C (Nat.le_refl _)).mono ?_; rintro e w35 ⟨rfl, hb35⟩; have d35 := below_step d34 hb35)
  go_wp2_with fail
  refine hK.out _ _ ?_ (fun hHeld2 => ?_)
  · ((try dsimp only); (refine hS _ ?_; repeat (first | with_reducible assumption | refine below_alloc ?_ _)))
  clear hK K hHeld
  have hHeld := hHeld2
  clear hHeld2
  try simp only [Act.put, List.setIfInBounds_toArray, List.set_cons_zero, List.set_cons_succ]
  refine wpAnyH_take (i := 7) (oi := _) (v := ?_) (by simp only [List.getElem?_toArray, List.getElem?_cons_succ, List.getElem?_cons_zero]; rfl) (by decide +kernel) (by decide +kernel) (by decide +kernel) (fun _ _ _ h => h) (Or.inl ⟨by rfl, ?_⟩) (by assumption) ?_
  rotate_left
  · (intro w hSw; (try dsimp only at hSw); go_simp; try (with_reducible rfl))
  try simp only [Act.put, List.setIfInBounds_toArray, List.set_cons_zero, List.set_cons_succ]
  refine wpAnyH_ready (rs := [8]) (by decide +kernel) (by simp) ?_
  refine AllReadyH.cons (o := _) (by simp only [List.getElem?_toArray, List.getElem?_cons_succ, List.getElem?_cons_zero]; rfl) (fun K hK => ?_) AllReadyH.nil
  go_simp
  (refine (x_c 9 _).mono ?_; rintro e w36 ⟨rfl, hb36⟩; have d36 := below_step d35 hb36)
  go_wp2_with fail
  refine hK.out _ _ ?_ (fun hHeld2 => ?_)
  · ((try dsimp only); (refine hS _ ?_; repeat (first | with_reducible assumption | refine below_alloc ?_ _)))
  clear hK K hHeld
  have hHeld := hHeld2
  clear hHeld2
  try simp only [Act.put, List.setIfInBounds_toArray, List.set_cons_zero, List.set_cons_succ]
  refine wpAnyH_ready (rs := [9]) (by decide +kernel) (by simp) ?_
  refine AllReadyH.cons (o := _) (by simp only [List.getElem?_toArray, List.getElem?_cons_succ, List.getElem?_cons_zero]; rfl) (fun K hK => ?_) AllReadyH.nil
  go_simp
  (refine (N_c 3 _).mono ?_; rintro e w37 ⟨rfl, hb37⟩; have d37 := below_step d36 hb37)
  go_wp2_with fail
  refine hK.out _ _ ?_ (fun hHeld2 => ?_)
  · ((try dsimp only); (refine hS _ ?_; repeat (first | with_reducible assumption | refine below_alloc ?_ _)))
  clear hK K hHeld
  have hHeld := hHeld2
  clear hHeld2
  try simp only [Act.put, List.setIfInBounds_toArray, List.set_cons_zero, List.set_cons_succ]
  refine wpAnyH_ready (rs := [10]) (by decide +kernel) (by simp) ?_
  refine AllReadyH.cons (o := _) (by simp only [List.getElem?_toArray, List.getElem?_cons_succ, List.getElem?_cons_zero]; rfl) (fun K hK => ?_) AllReadyH.nil
  go_simp
  (refine (order_ex1 _).mono ?_; rintro e w38 ⟨rfl, hb38⟩; have d38 := below_step d37 hb38)
  go_wp2_with fail
  refine hK.out _ _ ?_ (fun hHeld2 => ?_)
  · ((try dsimp only); (refine hS _ ?_; repeat (first | with_reducible assumption | refine below_alloc ?_ _)))
  clear hK K hHeld
  have hHeld := hHeld2
  clear hHeld2
  try simp only [Act.put, List.setIfInBounds_toArray, List.set_cons_zero, List.set_cons_succ]
  refine wpAnyH_take (i := 11) (oi := _) (v := ?_) (by simp only [List.getElem?_toArray, List.getElem?_cons_succ, List.getElem?_cons_zero]; rfl) (by decide +kernel) (by decide +kernel) (by decide +kernel) (fun _ _ _ h => h) (Or.inl ⟨by rfl, ?_⟩) (by assumption) ?_
  rotate_left
  · (intro w hSw; (try dsimp only at hSw); go_simp; try (with_reducible rfl))
  try simp only [Act.put, List.setIfInBounds_toArray, List.set_cons_zero, List.set_cons_succ]
  refine wpAnyH_take (i := 12) (oi := _) (v := ?_) (by simp only [List.getElem?_toArray, List.getElem?_cons_succ, List.getElem?_cons_zero]; rfl) (by decide +kernel) (by decide +kernel) (by decide +kernel) (fun _ _ _ h => h) (Or.inl ⟨by rfl, ?_⟩) (by assumption) ?_
  rotate_left
  · (intro w hSw; (try dsimp only at hSw); go_simp; try (with_reducible rfl))
  try simp only [Act.put, List.setIfInBounds_toArray, List.set_cons_zero, List.set_cons_succ]
  refine wpAnyH_take (i := 13) (oi := _) (v := ?_) (by simp only [List.getElem?_toArray, List.getElem?_cons_succ, List.getElem?_cons_zero]; rfl) (by decide +kernel) (by decide +kernel) (by decide +kernel) (fun _ _ _ h => h) (Or.inl ⟨by rfl, ?_⟩) (by assumption) ?_
  rotate_left
  · (intro w hSw; (try dsimp only at hSw); go_simp; try (with_reducible rfl))
  try simp only [Act.put, List.setIfInBounds_toArray, List.set_cons_zero, List.set_cons_succ]
  refine wpAnyH_take (i := 14) (oi := _) (v := ?_) (by simp only [List.getElem?_toArray, List.getElem?_cons_succ, List.getElem?_cons_zero]; rfl) (by decide +kernel) (by decide +kernel) (by decide +kernel) (fun _ _ _ h => h) (Or.inl ⟨by rfl, ?_⟩) (by assumption) ?_
  rotate_left
  · (intro w hSw; (try dsimp only at hSw); go_simp; try (with_reducible rfl))
  try simp only [Act.put, List.setIfInBounds_toArray, List.set_cons_zero, List.set_cons_succ]
  refine wpAnyH_take (i := 17) (oi := _) (v := ?_) (by simp only [List.getElem?_toArray, List.getElem?_cons_succ, List.getElem?_cons_zero]; rfl) (by decide +kernel) (by decide +kernel) (by decide +kernel) (fun _ _ _ h => h) (Or.inl ⟨by rfl, ?_⟩) (by assumption) ?_
  rotate_left
  · (intro w hSw; (try dsimp only at hSw); go_simp; try (with_reducible rfl))
  try simp only [Act.put, List.setIfInBounds_toArray, List.set_cons_zero, List.set_cons_succ]
  refine wpAnyH_take (i := 18) (oi := _) (v := ?_) (by simp only [List.getElem?_toArray, List.getElem?_cons_succ, List.getElem?_cons_zero]; rfl) (by decide +kernel) (by decide +kernel) (by decide +kernel) (fun _ _ _ h => h) (Or.inl ⟨by rfl, ?_⟩) (by assumption) ?_
  rotate_left
  · (intro w hSw; (try dsimp only at hSw); go_simp; try (with_reducible rfl))
  try simp only [Act.put, List.setIfInBounds_toArray, List.set_cons_zero, List.set_cons_succ]
  refine wpAnyH_ready (rs := [15, 19]) (by decide +kernel) (by simp) ?_
  refine AllReadyH.cons (o := _) (by simp only [List.getElem?_toArray, List.getElem?_cons_succ, List.getElem?_cons_zero]; rfl) (fun K hK => ?_) ?_
  · skip
    go_simp
    refine hK.out _ _ ?_ (fun hHeld2 => ?_)
    · ((try dsimp only); (refine hS _ ?_; repeat (first | with_reducible assumption | refine below_alloc ?_ _)))
    clear hK K hHeld
    have hHeld := hHeld2
    clear hHeld2
    try simp only [Act.put, List.setIfInBounds_toArray, List.set_cons_zero, List.set_cons_succ]
    refine wpAnyH_ready (rs := [16, 19]) (by decide +kernel) (by simp) ?_
    refine AllReadyH.cons (o := _) (by simp only [List.getElem?_toArray, List.getElem?_cons_succ, List.getElem?_cons_zero]; rfl) (fun K hK => ?_) ?_
    · skip
      go_simp
      (refine (C_c ⟨#[103]⟩ _ _ _ _).mono ?_; rintro e w39 ⟨rfl, hb39⟩; have d39 : Below w25.heap.size w25 w39 := below_step (by repeat (first | with_reducible assumption | with_reducible refine below_alloc ?_ _)) hb39; (first | (with_reducible have k38 := blk_below (blk_new w38 _) hb39) | ((with_reducible have k38 := blk_below (blk_alloc (blk_new w38 _) _) hb39); (have k39 := blk_below (blk_new2 (g := w38.heap.size + 1) (w38.alloc _) _ (by simp)) hb39))))
      go_wp2_with fail
      refine hK.out _ _ ?_ (fun hHeld2 => ?_)
      · ((try dsimp only); (refine hS _ ?_; repeat (first | with_reducible assumption | refine below_alloc ?_ _)))
      clear hK K hHeld
      have hHeld := hHeld2
      clear hHeld2
      try simp only [Act.put, List.setIfInBounds_toArray, List.set_cons_zero, List.set_cons_succ]
      refine wpAnyH_ready (rs := [19]) (by decide +kernel) (by simp) ?_
      refine AllReadyH.cons (o := _) (by simp only [List.getElem?_toArray, List.getElem?_cons_succ, List.getElem?_cons_zero]; rfl) (fun K hK => ?_) AllReadyH.nil
      go_simp
      refine hK.out _ _ ?_ (fun hHeld2 => ?_)
      · ((try dsimp only); (refine hS _ ?_; repeat (first | with_reducible assumption | refine below_alloc ?_ _)))
      clear hK K hHeld
      have hHeld := hHeld2
      clear hHeld2
      try simp only [Act.put, List.setIfInBounds_toArray, List.set_cons_zero, List.set_cons_succ]
      refine wpAnyH_ready (rs := [20]) (by decide +kernel) (by simp) ?_
      refine AllReadyH.cons (o := _) (by simp only [List.getElem?_toArray, List.getElem?_cons_succ, List.getElem?_cons_zero]; rfl) (fun K hK => ?_) AllReadyH.nil
      go_simp
      (refine (C_c ⟨#[102]⟩ _ _ _ _).mono ?_; rintro e w40 ⟨rfl, hb40⟩; have d40 : Below w25.heap.size w25 w40 := below_step (by repeat (first | with_reducible assumption | with_reducible refine below_alloc ?_ _)) hb40; (first | (with_reducible have k41 := blk_below k38 hb40) | (with_reducible have k41 := blk_below (blk_alloc k38 _) hb40)); (first | (with_reducible have k40 := blk_below k39 hb40) | (with_reducible have k40 := blk_below (blk_new w39 _) hb40)))
      go_wp2_with fail
      refine hK.out _ _ ?_ (fun hHeld2 => ?_)
      · ((try dsimp only); (refine hS _ ?_; repeat (first | with_reducible assumption | refine below_alloc ?_ _)))
      clear hK K hHeld
      have hHeld := hHeld2
      clear hHeld2
      try simp only [Act.put, List.setIfInBounds_toArray, List.set_cons_zero, List.set_cons_succ]
      refine wpAnyH_ready (rs := [21]) (by decide +kernel) (by simp) ?_
      refine AllReadyH.cons (o := _) (by simp only [List.getElem?_toArray, List.getElem?_cons_succ, List.getElem?_cons_zero]; rfl) (fun K hK => ?_) AllReadyH.nil
      go_simp
      ((first | refine (order_ex2 _ _ _ k41 k40).mono ?_ | refine (order_ex2 _ _ _ k40 k41).mono ?_); rintro e w41 ⟨rfl, hb41⟩; have d41 := below_step d40 hb41; clear k38 k40 k41)
      go_wp2_with fail
      refine hK.out _ _ ?_ (fun hHeld2 => ?_)
      · ((try dsimp only); (refine hS _ ?_; repeat (first | with_reducible assumption | refine below_alloc ?_ _)))
      clear hK K hHeld
      have hHeld := hHeld2
      clear hHeld2
      try simp only [Act.put, List.setIfInBounds_toArray, List.set_cons_zero, List.set_cons_succ]
      refine wpAnyH_take (i := 22) (oi := _) (v := ?_) (by simp only [List.getElem?_toArray, List.getElem?_cons_succ, List.getElem?_cons_zero]; rfl) (by decide +kernel) (by decide +kernel) (by decide +kernel) (fun _ _ _ h => h) (Or.inl ⟨by rfl, ?_⟩) (by assumption) ?_
      rotate_left
      · (intro w hSw; (try dsimp only at hSw); go_simp; try (with_reducible rfl))
      try simp only [Act.put, List.setIfInBounds_toArray, List.set_cons_zero, List.set_cons_succ]
      refine wpAnyH_take (i := 23) (oi := _) (v := ?_) (by simp only [List.getElem?_toArray, List.getElem?_cons_succ, List.getElem?_cons_zero]; rfl) (by decide +kernel) (by decide +kernel) (by decide +kernel) (fun _ _ _ h => h) (Or.inl ⟨by rfl, ?_⟩) (by assumption) ?_
      rotate_left
      · (intro w hSw; (try dsimp only at hSw); go_simp; try (with_reducible rfl))
      try simp only [Act.put, List.setIfInBounds_toArray, List.set_cons_zero, List.set_cons_succ]
      refine wpAnyH_take (i := 24) (oi := _) (v := ?_) (by simp only [List.getElem?_toArray, List.getElem?_cons_succ, List.getElem?_cons_zero]; rfl) (by decide +kernel) (by decide +kernel) (by decide +kernel) (fun _ _ _ h => h) (Or.inl ⟨by rfl, ?_⟩) (by assumption) ?_
      rotate_left
      · (intro w hSw; (try dsimp only at hSw); go_simp; try (with_reducible rfl))
      try simp only [Act.put, List.setIfInBounds_toArray, List.set_cons_zero, List.set_cons_succ]
      refine wpAnyH_take (i := 25) (oi := _) (v := ?_) (by simp only [List.getElem?_toArray, List.getElem?_cons_succ, List.getElem?_cons_zero]; rfl) (by decide +kernel) (by decide +kernel) (by decide +kernel) (fun _ _ _ h => h) (Or.inl ⟨by rfl, ?_⟩) (by assumption) ?_
      rotate_left
      · (intro w hSw; (try dsimp only at hSw); go_simp; try (with_reducible rfl))
      try simp only [Act.put, List.setIfInBounds_toArray, List.set_cons_zero, List.set_cons_succ]
      refine wpAnyH_take (i := 26) (oi := _) (v := ?_) (by simp only [List.getElem?_toArray, List.getElem?_cons_succ, List.getElem?_cons_zero]; rfl) (by decide +kernel) (by decide +kernel) (by decide +kernel) (fun _ _ _ h => h) (Or.inl ⟨by rfl, ?_⟩) (by assumption) ?_
      rotate_left
      · (intro w hSw; (try dsimp only at hSw); go_simp; try (with_reducible rfl))
      try simp only [Act.put, List.setIfInBounds_toArray, List.set_cons_zero, List.set_cons_succ]
      refine wpAnyH_take (i := 27) (oi := _) (v := ?_) (by simp only [List.getElem?_toArray, List.getElem?_cons_succ, List.getElem?_cons_zero]; rfl) (by decide +kernel) (by decide +kernel) (by decide +kernel) (fun _ _ _ h => h) (Or.inl ⟨by rfl, ?_⟩) (by assumption) ?_
      rotate_left
      · (intro w hSw; (try dsimp only at hSw); go_simp; try (with_reducible rfl))
      try simp only [Act.put, List.setIfInBounds_toArray, List.set_cons_zero, List.set_cons_succ]
      refine wpAnyH_take (i := 28) (oi := _) (v := ?_) (by simp only [List.getElem?_toArray, List.getElem?_cons_succ, List.getElem?_cons_zero]; rfl) (by decide +kernel) (by decide +kernel) (by decide +kernel) (fun _ _ _ h => h) (Or.inl ⟨by rfl, ?_⟩) (by assumption) ?_
      rotate_left
      · (intro w hSw; (try dsimp only at hSw); go_simp; try (with_reducible rfl))
      try simp only [Act.put, List.setIfInBounds_toArray, List.set_cons_zero, List.set_cons_succ]
      refine wpAnyH_take (i := 29) (oi := _) (v := ?_) (by simp only [List.getElem?_toArray, List.getElem?_cons_succ, List.getElem?_cons_zero]; rfl) (by decide +kernel) (by decide +kernel) (by decide +kernel) (fun _ _ _ h => h) (Or.inl ⟨by rfl, ?_⟩) (by assumption) ?_
      rotate_left
      · (intro w hSw; (try dsimp only at hSw); go_simp; try (with_reducible rfl))
      try simp only [Act.put, List.setIfInBounds_toArray, List.set_cons_zero, List.set_cons_succ]
      refine wpAnyH_take (i := 30) (oi := _) (v := ?_) (by simp only [List.getElem?_toArray, List.getElem?_cons_succ, List.getElem?_cons_zero]; rfl) (by decide +kernel) (by decide +kernel) (by decide +kernel) (fun _ _ _ h => h) (Or.inl ⟨by rfl, ?_⟩) (by assumption) ?_
      rotate_left
      · (intro w hSw; (try dsimp only at hSw); go_simp; try (with_reducible rfl))
      try simp only [Act.put, List.setIfInBounds_toArray, List.set_cons_zero, List.set_cons_succ]
      refine wpAnyH_take (i := 31) (oi := _) (v := ?_) (by simp only [List.getElem?_toArray, List.getElem?_cons_succ, List.getElem?_cons_zero]; rfl) (by decide +kernel) (by decide +kernel) (by decide +kernel) (fun _ _ _ h => h) (Or.inl ⟨by rfl, ?_⟩) (by assumption) ?_
      rotate_left
      · (intro w hSw; (try dsimp only at hSw); go_simp; try (with_reducible rfl))
      try simp only [Act.put, List.setIfInBounds_toArray, List.set_cons_zero, List.set_cons_succ]
      refine wpAnyH_take (i := 32) (oi := _) (v := ?_) (by simp only [List.getElem?_toArray, List.getElem?_cons_succ, List.getElem?_cons_zero]; rfl) (by decide +kernel) (by decide +kernel) (by decide +kernel) (fun _ _ _ h => h) (Or.inl ⟨by rfl, ?_⟩) (by assumption) ?_
      rotate_left
      · (intro w hSw; (try dsimp only at hSw); go_simp; try (with_reducible rfl))
      try simp only [Act.put, List.setIfInBounds_toArray, List.set_cons_zero, List.set_cons_succ]
      refine wpAnyH_take (i := 33) (oi := _) (v := ?_) (by simp only [List.getElem?_toArray, List.getElem?_cons_succ, List.getElem?_cons_zero]; rfl) (by decide +kernel) (by decide +kernel) (by decide +kernel) (fun _ _ _ h => h) (Or.inl ⟨by rfl, ?_⟩) (by assumption) ?_
      rotate_left
      · (intro w hSw; (try dsimp only at hSw); go_simp; try (with_reducible rfl))
      try simp only [Act.put, List.setIfInBounds_toArray, List.set_cons_zero, List.set_cons_succ]
      refine wpAnyH_take (i := 34) (oi := _) (v := ?_) (by simp only [List.getElem?_toArray, List.getElem?_cons_succ, List.getElem?_cons_zero]; rfl) (by decide +kernel) (by decide +kernel) (by decide +kernel) (fun _ _ _ h => h) (Or.inl ⟨by rfl, ?_⟩) (by assumption) ?_
      rotate_left
      · (intro w hSw; (try dsimp only at hSw); go_simp; try (with_reducible rfl))
      try simp only [Act.put, List.setIfInBounds_toArray, List.set_cons_zero, List.set_cons_succ]
      refine wpAnyH_take (i := 35) (oi := _) (v := ?_) (by simp only [List.getElem?_toArray, List.getElem?_cons_succ, List.getElem?_cons_zero]; rfl) (by decide +kernel) (by decide +kernel) (by decide +kernel) (fun _ _ _ h => h) (Or.inl ⟨by rfl, ?_⟩) (by assumption) ?_
      rotate_left
      · (intro w hSw; (try dsimp only at hSw); go_simp; try (with_reducible rfl))
      try simp only [Act.put, List.setIfInBounds_toArray, List.set_cons_zero, List.set_cons_succ]
      refine wpAnyH_take (i := 36) (oi := _) (v := ?_) (by simp only [List.getElem?_toArray, List.getElem?_cons_succ, List.getElem?_cons_zero]; rfl) (by decide +kernel) (by decide +kernel) (by decide +kernel) (fun _ _ _ h => h) (Or.inl ⟨by rfl, ?_⟩) (by assumption) ?_
      rotate_left
      · (intro w hSw; (try dsimp only at hSw); go_simp; try (with_reducible rfl))
      try simp only [Act.put, List.setIfInBounds_toArray, List.set_cons_zero, List.set_cons_succ]
      refine wpAnyH_take (i := 37) (oi := _) (v := ?_) (by simp only [List.getElem?_toArray, List.getElem?_cons_succ, List.getElem?_cons_zero]; rfl) (by decide +kernel) (by decide +kernel) (by decide +kernel) (fun _ _ _ h => h) (Or.inl ⟨by rfl, ?_⟩) (by assumption) ?_
      rotate_left
      · (intro w hSw; (try dsimp only at hSw); go_simp; try (with_reducible rfl))
      try simp only [Act.put, List.setIfInBounds_toArray, List.set_cons_zero, List.set_cons_succ]
      refine wpAnyH_take (i := 38) (oi := _) (v := ?_) (by simp only [List.getElem?_toArray, List.getElem?_cons_succ, List.getElem?_cons_zero]; rfl) (by decide +kernel) (by decide +kernel) (by decide +kernel) (fun _ _ _ h => h) (Or.inl ⟨by rfl, ?_⟩) (by assumption) ?_
      rotate_left
      · (intro w hSw; (try dsimp only at hSw); go_simp; try (with_reducible rfl))
      try simp only [Act.put, List.setIfInBounds_toArray, List.set_cons_zero, List.set_cons_succ]
      refine wpAnyH_take (i := 39) (oi := _) (v := ?_) (by simp only [List.getElem?_toArray, List.getElem?_cons_succ, List.getElem?_cons_zero]; rfl) (by decide +kernel) (by decide +kernel) (by decide +kernel) (fun _ _ _ h => h) (Or.inl ⟨by rfl, ?_⟩) (by assumption) ?_
      rotate_left
      · (intro w hSw; (try dsimp only at hSw); go_simp; try (with_reducible rfl))
      try simp only [Act.put, List.setIfInBounds_toArray, List.set_cons_zero, List.set_cons_succ]
      refine wpAnyH_ready (rs := [40]) (by decide +kernel) (by simp) ?_
      refine AllReadyH.cons (o := _) (by simp only [List.getElem?_toArray, List.getElem?_cons_succ, List.getElem?_cons_zero]; rfl) (fun K hK => ?_) AllReadyH.nil
      go_simp
      (refine (size_ex _ _ _ (Kd.C_below Cl25 d41) l15).mono ?_; rintro e w42 ⟨rfl, hb42⟩; have d42 := below_step d41 hb42)
      go_wp2_with fail
      refine hK.out _ _ ?_ (fun hHeld2 => ?_)
      · ((try dsimp only); (refine hS _ ?_; repeat (first | with_reducible assumption | refine below_alloc ?_ _)))
      clear hK K hHeld
      have hHeld := hHeld2
      clear hHeld2
      try simp only [Act.put, List.setIfInBounds_toArray, List.set_cons_zero, List.set_cons_succ]
      refine wpAnyH_take (i := 41) (oi := _) (v := ?_) (by simp only [List.getElem?_toArray, List.getElem?_cons_succ, List.getElem?_cons_zero]; rfl) (by decide +kernel) (by decide +kernel) (by decide +kernel) (fun _ _ _ h => h) (Or.inl ⟨by rfl, ?_⟩) (by assumption) ?_
      rotate_left
      · (intro w hSw; (try dsimp only at hSw); go_simp; try (with_reducible rfl))
      try simp only [Act.put, List.setIfInBounds_toArray, List.set_cons_zero, List.set_cons_succ]
      refine wpAnyH_take (i := 42) (oi := _) (v := ?_) (by simp only [List.getElem?_toArray, List.getElem?_cons_succ, List.getElem?_cons_zero]; rfl) (by decide +kernel) (by decide +kernel) (by decide +kernel) (fun _ _ _ h => h) (Or.inl ⟨by rfl, ?_⟩) (by assumption) ?_
      rotate_left
      · (intro w hSw; (try dsimp only at hSw); go_simp; try (with_reducible rfl))
      try simp only [Act.put, List.setIfInBounds_toArray, List.set_cons_zero, List.set_cons_succ]
      refine wpAnyH_take (i := 43) (oi := _) (v := ?_) (by simp only [List.getElem?_toArray, List.getElem?_cons_succ, List.getElem?_cons_zero]; rfl) (by decide +kernel) (by decide +kernel) (by decide +kernel) (fun _ _ _ h => h) (Or.inl ⟨by rfl, ?_⟩) (by assumption) ?_
      rotate_left
      · (intro w hSw; (try dsimp only at hSw); go_simp; try (with_reducible rfl))
      try simp only [Act.put, List.setIfInBounds_toArray, List.set_cons_zero, List.set_cons_succ]
      refine wpAnyH_take (i := 44) (oi := _) (v := ?_) (by simp only [List.getElem?_toArray, List.getElem?_cons_succ, List.getElem?_cons_zero]; rfl) (by decide +kernel) (by decide +kernel) (by decide +kernel) (fun _ _ _ h => h) (Or.inl ⟨by rfl, ?_⟩) (by assumption) ?_
      rotate_left
      · (intro w hSw; (try dsimp only at hSw); go_simp; try (with_reducible rfl))
      try simp only [Act.put, List.setIfInBounds_toArray, List.set_cons_zero, List.set_cons_succ]
      refine wpAnyH_ready (rs := [45]) (by decide +kernel) (by simp) ?_
      refine AllReadyH.cons (o := _) (by simp only [List.getElem?_toArray, List.getElem?_cons_succ, List.getElem?_cons_zero]; rfl) (fun K hK => ?_) AllReadyH.nil
      go_simp
      (refine (depth_ex _ _ _ (Kd.C_below Cl25 d42) l15).mono ?_; rintro e w43 ⟨rfl, hb43⟩; have d43 := below_step d42 hb43)
      go_wp2_with fail
      refine hK.out _ _ ?_ (fun hHeld2 => ?_)
      · ((try dsimp only); (refine hS _ ?_; repeat (first | with_reducible assumption | refine below_alloc ?_ _)))
      clear hK K hHeld
      have hHeld := hHeld2
      clear hHeld2
      try simp only [Act.put, List.setIfInBounds_toArray, List.set_cons_zero, List.set_cons_succ]
      refine wpAnyH_take (i := 46) (oi := _) (v := ?_) (by simp only [List.getElem?_toArray, List.getElem?_cons_succ, List.getElem?_cons_zero]; rfl) (by decide +kernel) (by decide +kernel) (by decide +kernel) (fun _ _ _ h => h) (Or.inl ⟨by rfl, ?_⟩) (by assumption) ?_
      rotate_left
      · (intro w hSw; (try dsimp only at hSw); go_simp; try (with_reducible rfl))
      try simp only [Act.put, List.setIfInBounds_toArray, List.set_cons_zero, List.set_cons_succ]
      refine wpAnyH_take (i := 47) (oi := _) (v := ?_) (by simp only [List.getElem?_toArray, List.getElem?_cons_succ, List.getElem?_cons_zero]; rfl) (by decide +kernel) (by decide +kernel) (by decide +kernel) (fun _ _ _ h => h) (Or.inl ⟨by rfl, ?_⟩) (by assumption) ?_
      rotate_left
      · (intro w hSw; (try dsimp only at hSw); go_simp; try (with_reducible rfl))
      try simp only [Act.put, List.setIfInBounds_toArray, List.set_cons_zero, List.set_cons_succ]
      refine wpAnyH_take (i := 48) (oi := _) (v := ?_) (by simp only [List.getElem?_toArray, List.getElem?_cons_succ, List.getElem?_cons_zero]; rfl) (by decide +kernel) (by decide +kernel) (by decide +kernel) (fun _ _ _ h => h) (Or.inl ⟨by rfl, ?_⟩) (by assumption) ?_
      rotate_left
      · (intro w hSw; (try dsimp only at hSw); go_simp; try (with_reducible rfl))
      try simp only [Act.put, List.setIfInBounds_toArray, List.set_cons_zero, List.set_cons_succ]
      refine wpAnyH_take (i := 49) (oi := _) (v := ?_) (by simp only [List.getElem?_toArray, List.getElem?_cons_succ, List.getElem?_cons_zero]; rfl) (by decide +kernel) (by decide +kernel) (by decide +kernel) (fun _ _ _ h => h) (Or.inl ⟨by rfl, ?_⟩) (by assumption) ?_
      rotate_left
      · (intro w hSw; (try dsimp only at hSw); go_simp; try (with_reducible rfl))
      try simp only [Act.put, List.setIfInBounds_toArray, List.set_cons_zero, List.set_cons_succ]
      refine wpAnyH_ready (rs := [50]) (by decide +kernel) (by simp) ?_
      refine AllReadyH.cons (o := _) (by simp only [List.getElem?_toArray, List.getElem?_cons_succ, List.getElem?_cons_zero]; rfl) (fun K hK => ?_) AllReadyH.nil
      go_simp
      (refine (vars_ex _ _ _ (Kd.C_below Cr25 d43) lr20).mono ?_; rintro e w44 ⟨A44, c44, rfl, hb44⟩; have d44 := below_step d43 hb44)
      go_wp2_with fail
      refine hK.out _ _ ?_ (fun hHeld2 => ?_)
      · ((try dsimp only); (refine hS _ ?_; repeat (first | with_reducible assumption | refine below_alloc ?_ _)))
      clear hK K hHeld
      have hHeld := hHeld2
      clear hHeld2
      try simp only [Act.put, List.setIfInBounds_toArray, List.set_cons_zero, List.set_cons_succ]
      refine wpAnyH_take (i := 51) (oi := _) (v := ?_) (by simp only [List.getElem?_toArray, List.getElem?_cons_succ, List.getElem?_cons_zero]; rfl) (by decide +kernel) (by decide +kernel) (by decide +kernel) (fun _ _ _ h => h) (Or.inl ⟨by rfl, ?_⟩) (by assumption) ?_
      rotate_left
      · (intro w hSw; (try dsimp only at hSw); go_simp; try (with_reducible rfl))
      try simp only [Act.put, List.setIfInBounds_toArray, List.set_cons_zero, List.set_cons_succ]
      refine wpAnyH_take (i := 52) (oi := _) (v := ?_) (by simp only [List.getElem?_toArray, List.getElem?_cons_succ, List.getElem?_cons_zero]; rfl) (by decide +kernel) (by decide +kernel) (by decide +kernel) (fun _ _ _ h => h) (Or.inl ⟨by rfl, ?_⟩) (by assumption) ?_
      rotate_left
      · (intro w hSw; (try dsimp only at hSw); go_simp; try (with_reducible rfl))
      try simp only [Act.put, List.setIfInBounds_toArray, List.set_cons_zero, List.set_cons_succ]
      refine wpAnyH_take (i := 53) (oi := _) (v := ?_) (by simp only [List.getElem?_toArray, List.getElem?_cons_succ, List.getElem?_cons_zero]; rfl) (by decide +kernel) (by decide +kernel) (by decide +kernel) (fun _ _ _ h => h) (Or.inl ⟨by rfl, ?_⟩) (by assumption) ?_
      rotate_left
      · (intro w hSw; (try dsimp only at hSw); go_simp; try (with_reducible rfl))
      try simp only [Act.put, List.setIfInBounds_toArray, List.set_cons_zero, List.set_cons_succ]
      refine wpAnyH_take (i := 54) (oi := _) (v := ?_) (by simp only [List.getElem?_toArray, List.getElem?_cons_succ, List.getElem?_cons_zero]; rfl) (by decide +kernel) (by decide +kernel) (by decide +kernel) (fun _ _ _ h => h) (Or.inl ⟨by rfl, ?_⟩) (by assumption) ?_
      rotate_left
      · (intro w hSw; (try dsimp only at hSw); go_simp; try (with_reducible rfl))
      try simp only [Act.put, List.setIfInBounds_toArray, List.set_cons_zero, List.set_cons_succ]
      refine wpAnyH_take (i := 55) (oi := _) (v := ?_) (by simp only [List.getElem?_toArray, List.getElem?_cons_succ, List.getElem?_cons_zero]; rfl) (by decide +kernel) (by decide +kernel) (by decide +kernel) (fun _ _ _ h => h) (Or.inl ⟨by rfl, ?_⟩) (by assumption) ?_
      rotate_left
      · (intro w hSw; (try dsimp only at hSw); go_simp; try (with_reducible rfl))
      try simp only [Act.put, List.setIfInBounds_toArray, List.set_cons_zero, List.set_cons_succ]
      refine wpAnyH_take (i := 56) (oi := _) (v := ?_) (by simp only [List.getElem?_toArray, List.getElem?_cons_succ, List.getElem?_cons_zero]; rfl) (by decide +kernel) (by decide +kernel) (by decide +kernel) (fun _ _ _ h => h) (Or.inl ⟨by rfl, ?_⟩) (by assumption) ?_
      rotate_left
      · (intro w hSw; (try dsimp only at hSw); go_simp; try (with_reducible rfl))
      try simp only [Act.put, List.setIfInBounds_toArray, List.set_cons_zero, List.set_cons_succ]
      refine wpAnyH_ready (rs := [57]) (by decide +kernel) (by simp) ?_
      refine AllReadyH.cons (o := _) (by simp only [List.getElem?_toArray, List.getElem?_cons_succ, List.getElem?_cons_zero]; rfl) (fun K hK => ?_) AllReadyH.nil
      go_simp
      (refine (same_ex _ _ _ _ _ (Kd.C_below Cr25 d44) lr20 (Kd.C_below Cr25 d44) lr20).mono ?_; rintro e w45 ⟨rfl, hb45⟩; have d45 := below_step d44 hb45)
      go_wp2_with fail
      refine hK.out _ _ ?_ (fun hHeld2 => ?_)
      · ((try dsimp only); (refine hS _ ?_; repeat (first | with_reducible assumption | refine below_alloc ?_ _)))
      clear hK K hHeld
      have hHeld := hHeld2
      clear hHeld2
      try simp only [Act.put, List.setIfInBounds_toArray, List.set_cons_zero, List.set_cons_succ]
      refine wpAnyH_take (i := 58) (oi := _) (v := ?_) (by simp only [List.getElem?_toArray, List.getElem?_cons_succ, List.getElem?_cons_zero]; rfl) (by decide +kernel) (by decide +kernel) (by decide +kernel) (fun _ _ _ h => h) (Or.inl ⟨by rfl, ?_⟩) (by assumption) ?_
      rotate_left
      · (intro w hSw; (try dsimp only at hSw); go_simp; try (with_reducible rfl))
      try simp only [Act.put, List.setIfInBounds_toArray, List.set_cons_zero, List.set_cons_succ]
      refine wpAnyH_take (i := 59) (oi := _) (v := ?_) (by simp only [List.getElem?_toArray, List.getElem?_cons_succ, List.getElem?_cons_zero]; rfl) (by decide +kernel) (by decide +kernel) (by decide +kernel) (fun _ _ _ h => h) (Or.inl ⟨by rfl, ?_⟩) (by assumption) ?_
      rotate_left
      · (intro w hSw; (try dsimp only at hSw); go_simp; try (with_reducible rfl))
      try simp only [Act.put, List.setIfInBounds_toArray, List.set_cons_zero, List.set_cons_succ]
      refine wpAnyH_take (i := 60) (oi := _) (v := ?_) (by simp only [List.getElem?_toArray, List.getElem?_cons_succ, List.getElem?_cons_zero]; rfl) (by decide +kernel) (by decide +kernel) (by decide +kernel) (fun _ _ _ h => h) (Or.inl ⟨by rfl, ?_⟩) (by assumption) ?_
      rotate_left
      · (intro w hSw; (try dsimp only at hSw); go_simp; try (with_reducible rfl))
      try simp only [Act.put, List.setIfInBounds_toArray, List.set_cons_zero, List.set_cons_succ]
      refine wpAnyH_ready (rs := [61]) (by decide +kernel) (by simp) ?_
      refine AllReadyH.cons (o := _) (by simp only [List.getElem?_toArray, List.getElem?_cons_succ, List.getElem?_cons_zero]; rfl) (fun K hK => ?_) AllReadyH.nil
      go_simp
      (refine (check_ex _ _ _ (Kd.C_below Cr25 d45) lr20).mono ?_; rintro e w46 ⟨rfl, hb46⟩; have d46 := below_step d45 hb46)
      go_wp2_with fail
      refine hK.out _ _ ?_ (fun hHeld2 => ?_)
      · ((try dsimp only); (refine hS _ ?_; repeat (first | with_reducible assumption | refine below_alloc ?_ _)))
      clear hK K hHeld
      have hHeld := hHeld2
      clear hHeld2
      try simp only [Act.put, List.setIfInBounds_toArray, List.set_cons_zero, List.set_cons_succ]
      refine wpAnyH_take (i := 62) (oi := _) (v := ?_) (by simp only [List.getElem?_toArray, List.getElem?_cons_succ, List.getElem?_cons_zero]; rfl) (by decide +kernel) (by decide +kernel) (by decide +kernel) (fun _ _ _ h => h) (Or.inl ⟨by rfl, ?_⟩) (by assumption) ?_
      rotate_left
      · (intro w hSw; (try dsimp only at hSw); go_simp; try (with_reducible rfl))
      try simp only [Act.put, List.setIfInBounds_toArray, List.set_cons_zero, List.set_cons_succ]
      refine wpAnyH_take (i := 63) (oi := _) (v := ?_) (by simp only [List.getElem?_toArray, List.getElem?_cons_succ, List.getElem?_cons_zero]; rfl) (by decide +kernel) (by decide +kernel) (by decide +kernel) (fun _ _ _ h => h) (Or.inl ⟨by rfl, ?_⟩) (by assumption) ?_
      rotate_left
      · (intro w hSw; (try dsimp only at hSw); go_simp; try (with_reducible rfl))
      try simp only [Act.put, List.setIfInBounds_toArray, List.set_cons_zero, List.set_cons_succ]
      refine wpAnyH_take (i := 64) (oi := _) (v := ?_) (by simp only [List.getElem?_toArray, List.getElem?_cons_succ, List.getElem?_cons_zero]; rfl) (by decide +kernel) (by decide +kernel) (by decide +kernel) (fun _ _ _ h => h) (Or.inl ⟨by rfl, ?_⟩) (by assumption) ?_
      rotate_left
      · (intro w hSw; (try dsimp only at hSw); go_simp; try (with_reducible rfl))
      try simp only [Act.put, List.setIfInBounds_toArray, List.set_cons_zero, List.set_cons_succ]
      refine wpAnyH_take (i := 65) (oi := _) (v := ?_) (by simp only [List.getElem?_toArray, List.getElem?_cons_succ, List.getElem?_cons_zero]; rfl) (by decide +kernel) (by decide +kernel) (by decide +kernel) (fun _ _ _ h => h) (Or.inl ⟨by rfl, ?_⟩) (by assumption) ?_
      rotate_left
      · (intro w hSw; (try dsimp only at hSw); go_simp; try (with_reducible rfl))
      try simp only [Act.put, List.setIfInBounds_toArray, List.set_cons_zero, List.set_cons_succ]
      refine wpAnyH_ready (rs := [66]) (by decide +kernel) (by simp) ?_
      refine AllReadyH.cons (o := _) (by simp only [List.getElem?_toArray, List.getElem?_cons_succ, List.getElem?_cons_zero]; rfl) (fun K hK => ?_) AllReadyH.nil
      go_simp
      (refine (x_c 4 _).mono ?_; rintro e w47 ⟨rfl, hb47⟩; have d47 := below_step d46 hb47)
      go_wp2_with fail
      refine hK.out _ _ ?_ (fun hHeld2 => ?_)
      · ((try dsimp only); (refine hS _ ?_; repeat (first | with_reducible assumption | refine below_alloc ?_ _)))
      clear hK K hHeld
      have hHeld := hHeld2
      clear hHeld2
      try simp only [Act.put, List.setIfInBounds_toArray, List.set_cons_zero, List.set_cons_succ]
      refine wpAnyH_ready (rs := [67]) (by decide +kernel) (by simp) ?_
      refine AllReadyH.cons (o := _) (by simp only [List.getElem?_toArray, List.getElem?_cons_succ, List.getElem?_cons_zero]; rfl) (fun K hK => ?_) AllReadyH.nil
      go_simp
      (refine (x_c 5 _).mono ?_; rintro e w48 ⟨rfl, hb48⟩; have d48 := below_step d47 hb48)
      go_wp2_with fail
      refine hK.out _ _ ?_ (fun hHeld2 => ?_)
      · ((try dsimp only); (refine hS _ ?_; repeat (first | with_reducible assumption | refine below_alloc ?_ _)))
      clear hK K hHeld
      have hHeld := hHeld2
      clear hHeld2
      try simp only [Act.put, List.setIfInBounds_toArray, List.set_cons_zero, List.set_cons_succ]
      refine wpAnyH_ready (rs := [68]) (by decide +kernel) (by simp) ?_
      refine AllReadyH.cons (o := _) (by simp only [List.getElem?_toArray, List.getElem?_cons_succ, List.getElem?_cons_zero]; rfl) (fun K hK => ?_) AllReadyH.nil
      go_simp
      (refine (x_c 4 _).mono ?_; rintro e w49 ⟨rfl, hb49⟩; have d49 := below_step d48 hb49)
      go_wp2_with fail
      refine hK.out _ _ ?_ (fun hHeld2 => ?_)
      · ((try dsimp only); (refine hS _ ?_; repeat (first | with_reducible assumption | refine below_alloc ?_ _)))
      clear hK K hHeld
      have hHeld := hHeld2
      clear hHeld2
      try simp only [Act.put, List.setIfInBounds_toArray, List.set_cons_zero, List.set_cons_succ]
      refine wpAnyH_ready (rs := [69]) (by decide +kernel) (by simp) ?_
      refine AllReadyH.cons (o := _) (by simp only [List.getElem?_toArray, List.getElem?_cons_succ, List.getElem?_cons_zero]; rfl) (fun K hK => ?_) AllReadyH.nil
      go_simp
      refine hK.out _ _ ?_ (fun hHeld2 => ?_)
      · ((try dsimp only); (refine hS _ ?_; repeat (first | with_reducible assumption | refine below_alloc ?_ _)))
      clear hK K hHeld
      have hHeld := hHeld2
      clear hHeld2
      try simp only [Act.put, List.setIfInBounds_toArray, List.set_cons_zero, List.set_cons_succ]
      refine wpAnyH_ready (rs := [70]) (by decide +kernel) (by simp) ?_
      refine AllReadyH.cons (o := _) (by simp only [List.getElem?_toArray, List.getElem?_cons_succ, List.getElem?_cons_zero]; rfl) (fun K hK => ?_) AllReadyH.nil
      go_simp
      (refine (C_c ⟨#[102]⟩ _ _ _ _).mono ?_; rintro e w50 ⟨rfl, hb50⟩; have d50 := below_step (below_alloc d49 _) hb50; have k50 := blk_below (blk_new _ _) hb50)
      go_wp2_with fail
      refine hK.out _ _ ?_ (fun hHeld2 => ?_)
      · ((try dsimp only); (refine hS _ ?_; repeat (first | with_reducible assumption | refine below_alloc ?_ _)))
      clear hK K hHeld
      have hHeld := hHeld2
      clear hHeld2
      try simp only [Act.put, List.setIfInBounds_toArray, List.set_cons_zero, List.set_cons_succ]
      refine wpAnyH_ready (rs := [71]) (by decide +kernel) (by simp) ?_
      refine AllReadyH.cons (o := _) (by simp only [List.getElem?_toArray, List.getElem?_cons_succ, List.getElem?_cons_zero]; rfl) (fun K hK => ?_) AllReadyH.nil
      go_simp
      (refine (variant_ex _ _ _ _ (Kd.C_below Cr25 d50) lr20 k50).mono ?_; rintro e w51 ⟨rfl, hb51⟩; have d51 := below_step d50 hb51)
      go_wp2_with fail
      refine hK.out _ _ ?_ (fun hHeld2 => ?_)
      · ((try dsimp only); (refine hS _ ?_; repeat (first | with_reducible assumption | refine below_alloc ?_ _)))
      clear hK K hHeld
      have hHeld := hHeld2
      clear hHeld2
      try simp only [Act.put, List.setIfInBounds_toArray, List.set_cons_zero, List.set_cons_succ]
      refine wpAnyH_take (i := 72) (oi := _) (v := ?_) (by simp only [List.getElem?_toArray, List.getElem?_cons_succ, List.getElem?_cons_zero]; rfl) (by decide +kernel) (by decide +kernel) (by decide +kernel) (fun _ _ _ h => h) (Or.inl ⟨by rfl, ?_⟩) (by assumption) ?_
      rotate_left
      · (intro w hSw; (try dsimp only at hSw); go_simp; try (with_reducible rfl))
      try simp only [Act.put, List.setIfInBounds_toArray, List.set_cons_zero, List.set_cons_succ]
      refine wpAnyH_take (i := 73) (oi := _) (v := ?_) (by simp only [List.getElem?_toArray, List.getElem?_cons_succ, List.getElem?_cons_zero]; rfl) (by decide +kernel) (by decide +kernel) (by decide +kernel) (fun _ _ _ h => h) (Or.inl ⟨by rfl, ?_⟩) (by assumption) ?_
      rotate_left
      · (intro w hSw; (try dsimp only at hSw); go_simp; try (with_reducible rfl))
      try simp only [Act.put, List.setIfInBounds_toArray, List.set_cons_zero]
      refine wpAnyH_done (by decide +kernel) ?_ _
      refine NoPanic.normal ?_
      go_wp2
      go_ret
      exact ⟨rfl, below_step Bw25 d51⟩
    refine AllReadyH.cons (o := _) (by simp only [List.getElem?_toArray, List.getElem?_cons_succ, List.getElem?_cons_zero]; rfl) (fun K hK => ?_) ?_
    · skip
      go_simp
      refine hK.out _ _ ?_ (fun hHeld2 => ?_)
      · ((try dsimp only); (refine hS _ ?_; repeat (first | with_reducible assumption | refine below_alloc ?_ _)))
      clear hK K hHeld
      have hHeld := hHeld2
      clear hHeld2
      try simp only [Act.put, List.setIfInBounds_toArray, List.set_cons_zero, List.set_cons_succ]
      refine wpAnyH_ready (rs := [16]) (by decide +kernel) (by simp) ?_
      refine AllReadyH.cons (o := _) (by simp only [List.getElem?_toArray, List.getElem?_cons_succ, List.getElem?_cons_zero]; rfl) (fun K hK => ?_) AllReadyH.nil
      go_simp
      (refine (C_c ⟨#[103]⟩ _ _ _ _).mono ?_; rintro e w39 ⟨rfl, hb39⟩; have d39 : Below w25.heap.size w25 w39 := below_step (by repeat (first | with_reducible assumption | with_reducible refine below_alloc ?_ _)) hb39; (first | (with_reducible have k38 := blk_below (blk_new w38 _) hb39) | ((with_reducible have k38 := blk_below (blk_alloc (blk_new w38 _) _) hb39); (have k39 := blk_below (blk_new2 (g := w38.heap.size + 1) (w38.alloc _) _ (by simp)) hb39))))
      go_wp2_with fail
      refine hK.out _ _ ?_ (fun hHeld2 => ?_)
      · ((try dsimp only); (refine hS _ ?_; repeat (first | with_reducible assumption | refine below_alloc ?_ _)))
      clear hK K hHeld
      have hHeld := hHeld2
      clear hHeld2
      try simp only [Act.put, List.setIfInBounds_toArray, List.set_cons_zero, List.set_cons_succ]
      refine wpAnyH_ready (rs := [20]) (by decide +kernel) (by simp) ?_
      refine AllReadyH.cons (o := _) (by simp only [List.getElem?_toArray, List.getElem?_cons_succ, List.getElem?_cons_zero]; rfl) (fun K hK => ?_) AllReadyH.nil
      go_simp
      (refine (C_c ⟨#[102]⟩ _ _ _ _).mono ?_; rintro e w40 ⟨rfl, hb40⟩; have d40 : Below w25.heap.size w25 w40 := below_step (by repeat (first | with_reducible assumption | with_reducible refine below_alloc ?_ _)) hb40; (first | (with_reducible have k41 := blk_below k38 hb40) | (with_reducible have k41 := blk_below (blk_alloc k38 _) hb40)); (first | (with_reducible have k40 := blk_below k39 hb40) | (with_reducible have k40 := blk_below (blk_new w39 _) hb40)))
      go_wp2_with fail
      refine hK.out _ _ ?_ (fun hHeld2 => ?_)
      · ((try dsimp only); (refine hS _ ?_; repeat (first | with_reducible assumption | refine below_alloc ?_ _)))
      clear hK K hHeld
      have hHeld := hHeld2
      clear hHeld2
      try simp only [Act.put, List.setIfInBounds_toArray, List.set_cons_zero, List.set_cons_succ]
      refine wpAnyH_ready (rs := [21]) (by decide +kernel) (by simp) ?_
      refine AllReadyH.cons (o := _) (by simp only [List.getElem?_toArray, List.getElem?_cons_succ, List.getElem?_cons_zero]; rfl) (fun K hK => ?_) AllReadyH.nil
      go_simp
      ((first | refine (order_ex2 _ _ _ k41 k40).mono ?_ | refine (order_ex2 _ _ _ k40 k41).mono ?_); rintro e w41 ⟨rfl, hb41⟩; have d41 := below_step d40 hb41; clear k38 k40 k41)
      go_wp2_with fail
      refine hK.out _ _ ?_ (fun hHeld2 => ?_)
      · ((try dsimp only); (refine hS _ ?_; repeat (first | with_reducible assumption | refine below_alloc ?_ _)))
      clear hK K hHeld
      have hHeld := hHeld2
      clear hHeld2
      try simp only [Act.put, List.setIfInBounds_toArray, List.set_cons_zero, List.set_cons_succ]
      refine wpAnyH_take (i := 22) (oi := _) (v := ?_) (by simp only [List.getElem?_toArray, List.getElem?_cons_succ, List.getElem?_cons_zero]; rfl) (by decide +kernel) (by decide +kernel) (by decide +kernel) (fun _ _ _ h => h) (Or.inl ⟨by rfl, ?_⟩) (by assumption) ?_
      rotate_left
      · (intro w hSw; (try dsimp only at hSw); go_simp; try (with_reducible rfl))
      try simp only [Act.put, List.setIfInBounds_toArray, List.set_cons_zero, List.set_cons_succ]
      refine wpAnyH_take (i := 23) (oi := _) (v := ?_) (by simp only [List.getElem?_toArray, List.getElem?_cons_succ, List.getElem?_cons_zero]; rfl) (by decide +kernel) (by decide +kernel) (by decide +kernel) (fun _ _ _ h => h) (Or.inl ⟨by rfl, ?_⟩) (by assumption) ?_
      rotate_left
      · (intro w hSw; (try dsimp only at hSw); go_simp; try (with_reducible rfl))
      try simp only [Act.put, List.setIfInBounds_toArray, List.set_cons_zero, List.set_cons_succ]
      refine wpAnyH_take (i := 24) (oi := _) (v := ?_) (by simp only [List.getElem?_toArray, List.getElem?_cons_succ, List.getElem?_cons_zero]; rfl) (by decide +kernel) (by decide +kernel) (by decide +kernel) (fun _ _ _ h => h) (Or.inl ⟨by rfl, ?_⟩) (by assumption) ?_
      rotate_left
      · (intro w hSw; (try dsimp only at hSw); go_simp; try (with_reducible rfl))
      try simp only [Act.put, List.setIfInBounds_toArray, List.set_cons_zero, List.set_cons_succ]
      refine wpAnyH_take (i := 25) (oi := _) (v := ?_) (by simp only [List.getElem?_toArray, List.getElem?_cons_succ, List.getElem?_cons_zero]; rfl) (by decide +kernel) (by decide +kernel) (by decide +kernel) (fun _ _ _ h => h) (Or.inl ⟨by rfl, ?_⟩) (by assumption) ?_
      rotate_left
      · (intro w hSw; (try dsimp only at hSw); go_simp; try (with_reducible rfl))
      try simp only [Act.put, List.setIfInBounds_toArray, List.set_cons_zero, List.set_cons_succ]
      refine wpAnyH_take (i := 26) (oi := _) (v := ?_) (by simp only [List.getElem?_toArray, List.getElem?_cons_succ, List.getElem?_cons_zero]; rfl) (by decide +kernel) (by decide +kernel) (by decide +kernel) (fun _ _ _ h => h) (Or.inl ⟨by rfl, ?_⟩) (by assumption) ?_
      rotate_left
      · (intro w hSw; (try dsimp only at hSw); go_simp; try (with_reducible rfl))
      try simp only [Act.put, List.setIfInBounds_toArray, List.set_cons_zero, List.set_cons_succ]
      refine wpAnyH_take (i := 27) (oi := _) (v := ?_) (by simp only [List.getElem?_toArray, List.getElem?_cons_succ, List.getElem?_cons_zero]; rfl) (by decide +kernel) (by decide +kernel) (by decide +kernel) (fun _ _ _ h => h) (Or.inl ⟨by rfl, ?_⟩) (by assumption) ?_
      rotate_left
      · (intro w hSw; (try dsimp only at hSw); go_simp; try (with_reducible rfl))
      try simp only [Act.put, List.setIfInBounds_toArray, List.set_cons_zero, List.set_cons_succ]
      refine wpAnyH_take (i := 28) (oi := _) (v := ?_) (by simp only [List.getElem?_toArray, List.getElem?_cons_succ, List.getElem?_cons_zero]; rfl) (by decide +kernel) (by decide +kernel) (by decide +kernel) (fun _ _ _ h => h) (Or.inl ⟨by rfl, ?_⟩) (by assumption) ?_
      rotate_left
      · (intro w hSw; (try dsimp only at hSw); go_simp; try (with_reducible rfl))
      try simp only [Act.put, List.setIfInBounds_toArray, List.set_cons_zero, List.set_cons_succ]
      refine wpAnyH_take (i := 29) (oi := _) (v := ?_) (by simp only [List.getElem?_toArray, List.getElem?_cons_succ, List.getElem?_cons_zero]; rfl) (by decide +kernel) (by decide +kernel) (by decide +kernel) (fun _ _ _ h => h) (Or.inl ⟨by rfl, ?_⟩) (by assumption) ?_
      rotate_left
      · (intro w hSw; (try dsimp only at hSw); go_simp; try (with_reducible rfl))
      try simp only [Act.put, List.setIfInBounds_toArray, List.set_cons_zero, List.set_cons_succ]
      refine wpAnyH_take (i := 30) (oi := _) (v := ?_) (by simp only [List.getElem?_toArray, List.getElem?_cons_succ, List.getElem?_cons_zero]; rfl) (by decide +kernel) (by decide +kernel) (by decide +kernel) (fun _ _ _ h => h) (Or.inl ⟨by rfl, ?_⟩) (by assumption) ?_
      rotate_left
      · (intro w hSw; (try dsimp only at hSw); go_simp; try (with_reducible rfl))
      try simp only [Act.put, List.setIfInBounds_toArray, List.set_cons_zero, List.set_cons_succ]
      refine wpAnyH_take (i := 31) (oi := _) (v := ?_) (by simp only [List.getElem?_toArray, List.getElem?_cons_succ, List.getElem?_cons_zero]; rfl) (by decide +kernel) (by decide +kernel) (by decide +kernel) (fun _ _ _ h => h) (Or.inl ⟨by rfl, ?_⟩) (by assumption) ?_
      rotate_left
      · (intro w hSw; (try dsimp only at hSw); go_simp; try (with_reducible rfl))
      try simp only [Act.put, List.setIfInBounds_toArray, List.set_cons_zero, List.set_cons_succ]
      refine wpAnyH_take (i := 32) (oi := _) (v := ?_) (by simp only [List.getElem?_toArray, List.getElem?_cons_succ, List.getElem?_cons_zero]; rfl) (by decide +kernel) (by decide +kernel) (by decide +kernel) (fun _ _ _ h => h) (Or.inl ⟨by rfl, ?_⟩) (by assumption) ?_
      rotate_left
      · (intro w hSw; (try dsimp only at hSw); go_simp; try (with_reducible rfl))
      try simp only [Act.put, List.setIfInBounds_toArray, List.set_cons_zero, List.set_cons_succ]
      refine wpAnyH_take (i := 33) (oi := _) (v := ?_) (by simp only [List.getElem?_toArray, List.getElem?_cons_succ, List.getElem?_cons_zero]; rfl) (by decide +kernel) (by decide +kernel) (by decide +kernel) (fun _ _ _ h => h) (Or.inl ⟨by rfl, ?_⟩) (by assumption) ?_
      rotate_left
      · (intro w hSw; (try dsimp only at hSw); go_simp; try (with_reducible rfl))
      try simp only [Act.put, List.setIfInBounds_toArray, List.set_cons_zero, List.set_cons_succ]
      refine wpAnyH_take (i := 34) (oi := _) (v := ?_) (by simp only [List.getElem?_toArray, List.getElem?_cons_succ, List.getElem?_cons_zero]; rfl) (by decide +kernel) (by decide +kernel) (by decide +kernel) (fun _ _ _ h => h) (Or.inl ⟨by rfl, ?_⟩) (by assumption) ?_
      rotate_left
      · (intro w hSw; (try dsimp only at hSw); go_simp; try (with_reducible rfl))
      try simp only [Act.put, List.setIfInBounds_toArray, List.set_cons_zero, List.set_cons_succ]
      refine wpAnyH_take (i := 35) (oi := _) (v := ?_) (by simp only [List.getElem?_toArray, List.getElem?_cons_succ, List.getElem?_cons_zero]; rfl) (by decide +kernel) (by decide +kernel) (by decide +kernel) (fun _ _ _ h => h) (Or.inl ⟨by rfl, ?_⟩) (by assumption) ?_
      rotate_left
      · (intro w hSw; (try dsimp only at hSw); go_simp; try (with_reducible rfl))
      try simp only [Act.put, List.setIfInBounds_toArray, List.set_cons_zero, List.set_cons_succ]
      refine wpAnyH_take (i := 36) (oi := _) (v := ?_) (by simp only [List.getElem?_toArray, List.getElem?_cons_succ, List.getElem?_cons_zero]; rfl) (by decide +kernel) (by decide +kernel) (by decide +kernel) (fun _ _ _ h => h) (Or.inl ⟨by rfl, ?_⟩) (by assumption) ?_
      rotate_left
      · (intro w hSw; (try dsimp only at hSw); go_simp; try (with_reducible rfl))
      try simp only [Act.put, List.setIfInBounds_toArray, List.set_cons_zero, List.set_cons_succ]
      refine wpAnyH_take (i := 37) (oi := _) (v := ?_) (by simp only [List.getElem?_toArray, List.getElem?_cons_succ, List.getElem?_cons_zero]; rfl) (by decide +kernel) (by decide +kernel) (by decide +kernel) (fun _ _ _ h => h) (Or.inl ⟨by rfl, ?_⟩) (by assumption) ?_
      rotate_left
      · (intro w hSw; (try dsimp only at hSw); go_simp; try (with_reducible rfl))
      try simp only [Act.put, List.setIfInBounds_toArray, List.set_cons_zero, List.set_cons_succ]
      refine wpAnyH_take (i := 38) (oi := _) (v := ?_) (by simp only [List.getElem?_toArray, List.getElem?_cons_succ, List.getElem?_cons_zero]; rfl) (by decide +kernel) (by decide +kernel) (by decide +kernel) (fun _ _ _ h => h) (Or.inl ⟨by rfl, ?_⟩) (by assumption) ?_
      rotate_left
      · (intro w hSw; (try dsimp only at hSw); go_simp; try (with_reducible rfl))
      try simp only [Act.put, List.setIfInBounds_toArray, List.set_cons_zero, List.set_cons_succ]
      refine wpAnyH_take (i := 39) (oi := _) (v := ?_) (by simp only [List.getElem?_toArray, List.getElem?_cons_succ, List.getElem?_cons_zero]; rfl) (by decide +kernel) (by decide +kernel) (by decide +kernel) (fun _ _ _ h => h) (Or.inl ⟨by rfl, ?_⟩) (by assumption) ?_
      rotate_left
      · (intro w hSw; (try dsimp only at hSw); go_simp; try (with_reducible rfl))
      try simp only [Act.put, List.setIfInBounds_toArray, List.set_cons_zero, List.set_cons_succ]
      refine wpAnyH_ready (rs := [40]) (by decide +kernel) (by simp) ?_
      refine AllReadyH.cons (o := _) (by simp only [List.getElem?_toArray, List.getElem?_cons_succ, List.getElem?_cons_zero]; rfl) (fun K hK => ?_) AllReadyH.nil
      go_simp
      (refine (size_ex _ _ _ (Kd.C_below Cl25 d41) l15).mono ?_; rintro e w42 ⟨rfl, hb42⟩; have d42 := below_step d41 hb42)
      go_wp2_with fail
      refine hK.out _ _ ?_ (fun hHeld2 => ?_)
      · ((try dsimp only); (refine hS _ ?_; repeat (first | with_reducible assumption | refine below_alloc ?_ _)))
      clear hK K hHeld
      have hHeld := hHeld2
      clear hHeld2
      try simp only [Act.put, List.setIfInBounds_toArray, List.set_cons_zero, List.set_cons_succ]
      refine wpAnyH_take (i := 41) (oi := _) (v := ?_) (by simp only [List.getElem?_toArray, List.getElem?_cons_succ, List.getElem?_cons_zero]; rfl) (by decide +kernel) (by decide +kernel) (by decide +kernel) (fun _ _ _ h => h) (Or.inl ⟨by rfl, ?_⟩) (by assumption) ?_
      rotate_left
      · (intro w hSw; (try dsimp only at hSw); go_simp; try (with_reducible rfl))
      try simp only [Act.put, List.setIfInBounds_toArray, List.set_cons_zero, List.set_cons_succ]
      refine wpAnyH_take (i := 42) (oi := _) (v := ?_) (by simp only [List.getElem?_toArray, List.getElem?_cons_succ, List.getElem?_cons_zero]; rfl) (by decide +kernel) (by decide +kernel) (by decide +kernel) (fun _ _ _ h => h) (Or.inl ⟨by rfl, ?_⟩) (by assumption) ?_
      rotate_left
      · (intro w hSw; (try dsimp only at hSw); go_simp; try (with_reducible rfl))
      try simp only [Act.put, List.setIfInBounds_toArray, List.set_cons_zero, List.set_cons_succ]
      refine wpAnyH_take (i := 43) (oi := _) (v := ?_) (by simp only [List.getElem?_toArray, List.getElem?_cons_succ, List.getElem?_cons_zero]; rfl) (by decide +kernel) (by decide +kernel) (by decide +kernel) (fun _ _ _ h => h) (Or.inl ⟨by rfl, ?_⟩) (by assumption) ?_
      rotate_left
      · (intro w hSw; (try dsimp only at hSw); go_simp; try (with_reducible rfl))
      try simp only [Act.put, List.setIfInBounds_toArray, List.set_cons_zero, List.set_cons_succ]
      refine wpAnyH_take (i := 44) (oi := _) (v := ?_) (by simp only [List.getElem?_toArray, List.getElem?_cons_succ, List.getElem?_cons_zero]; rfl) (by decide +kernel) (by decide +kernel) (by decide +kernel) (fun _ _ _ h => h) (Or.inl ⟨by rfl, ?_⟩) (by assumption) ?_
      rotate_left
      · (intro w hSw; (try dsimp only at hSw); go_simp; try (with_reducible rfl))
      try simp only [Act.put, List.setIfInBounds_toArray, List.set_cons_zero, List.set_cons_succ]
      refine wpAnyH_ready (rs := [45]) (by decide +kernel) (by simp) ?_
      refine AllReadyH.cons (o := _) (by simp only [List.getElem?_toArray, List.getElem?_cons_succ, List.getElem?_cons_zero]; rfl) (fun K hK => ?_) AllReadyH.nil
      go_simp
      (refine (depth_ex _ _ _ (Kd.C_below Cl25 d42) l15).mono ?_; rintro e w43 ⟨rfl, hb43⟩; have d43 := below_step d42 hb43)
      go_wp2_with fail
      refine hK.out _ _ ?_ (fun hHeld2 => ?_)
      · ((try dsimp only); (refine hS _ ?_; repeat (first | with_reducible assumption | refine below_alloc ?_ _)))
      clear hK K hHeld
      have hHeld := hHeld2
      clear hHeld2
      try simp only [Act.put, List.setIfInBounds_toArray, List.set_cons_zero, List.set_cons_succ]
      refine wpAnyH_take (i := 46) (oi := _) (v := ?_) (by simp only [List.getElem?_toArray, List.getElem?_cons_succ, List.getElem?_cons_zero]; rfl) (by decide +kernel) (by decide +kernel) (by decide +kernel) (fun _ _ _ h => h) (Or.inl ⟨by rfl, ?_⟩) (by assumption) ?_
      rotate_left
      · (intro w hSw; (try dsimp only at hSw); go_simp; try (with_reducible rfl))
      try simp only [Act.put, List.setIfInBounds_toArray, List.set_cons_zero, List.set_cons_succ]
      refine wpAnyH_take (i := 47) (oi := _) (v := ?_) (by simp only [List.getElem?_toArray, List.getElem?_cons_succ, List.getElem?_cons_zero]; rfl) (by decide +kernel) (by decide +kernel) (by decide +kernel) (fun _ _ _ h => h) (Or.inl ⟨by rfl, ?_⟩) (by assumption) ?_
      rotate_left
      · (intro w hSw; (try dsimp only at hSw); go_simp; try (with_reducible rfl))
      try simp only [Act.put, List.setIfInBounds_toArray, List.set_cons_zero, List.set_cons_succ]
      refine wpAnyH_take (i := 48) (oi := _) (v := ?_) (by simp only [List.getElem?_toArray, List.getElem?_cons_succ, List.getElem?_cons_zero]; rfl) (by decide +kernel) (by decide +kernel) (by decide +kernel) (fun _ _ _ h => h) (Or.inl ⟨by rfl, ?_⟩) (by assumption) ?_
      rotate_left
      · (intro w hSw; (try dsimp only at hSw); go_simp; try (with_reducible rfl))
      try simp only [Act.put, List.setIfInBounds_toArray, List.set_cons_zero, List.set_cons_succ]
      refine wpAnyH_take (i := 49) (oi := _) (v := ?_) (by simp only [List.getElem?_toArray, List.getElem?_cons_succ, List.getElem?_cons_zero]; rfl) (by decide +kernel) (by decide +kernel) (by decide +kernel) (fun _ _ _ h => h) (Or.inl ⟨by rfl, ?_⟩) (by assumption) ?_
      rotate_left
      · (intro w hSw; (try dsimp only at hSw); go_simp; try (with_reducible rfl))
      try simp only [Act.put, List.setIfInBounds_toArray, List.set_cons_zero, List.set_cons_succ]
      refine wpAnyH_ready (rs := [50]) (by decide +kernel) (by simp) ?_
      refine AllReadyH.cons (o := _) (by simp only [List.getElem?_toArray, List.getElem?_cons_succ, List.getElem?_cons_zero]; rfl) (fun K hK => ?_) AllReadyH.nil
      go_simp
      (refine (vars_ex _ _ _ (Kd.C_below Cr25 d43) lr20).mono ?_; rintro e w44 ⟨A44, c44, rfl, hb44⟩; have d44 := below_step d43 hb44)
      go_wp2_with fail
      refine hK.out _ _ ?_ (fun hHeld2 => ?_)
      · ((try dsimp only); (refine hS _ ?_; repeat (first | with_reducible assumption | refine below_alloc ?_ _)))
      clear hK K hHeld
      have hHeld := hHeld2
      clear hHeld2
      try simp only [Act.put, List.setIfInBounds_toArray, List.set_cons_zero, List.set_cons_succ]
      refine wpAnyH_take (i := 51) (oi := _) (v := ?_) (by simp only [List.getElem?_toArray, List.getElem?_cons_succ, List.getElem?_cons_zero]; rfl) (by decide +kernel) (by decide +kernel) (by decide +kernel) (fun _ _ _ h => h) (Or.inl ⟨by rfl, ?_⟩) (by assumption) ?_
      rotate_left
      · (intro w hSw; (try dsimp only at hSw); go_simp; try (with_reducible rfl))
      try simp only [Act.put, List.setIfInBounds_toArray, List.set_cons_zero, List.set_cons_succ]
      refine wpAnyH_take (i := 52) (oi := _) (v := ?_) (by simp only [List.getElem?_toArray, List.getElem?_cons_succ, List.getElem?_cons_zero]; rfl) (by decide +kernel) (by decide +kernel) (by decide +kernel) (fun _ _ _ h => h) (Or.inl ⟨by rfl, ?_⟩) (by assumption) ?_
      rotate_left
      · (intro w hSw; (try dsimp only at hSw); go_simp; try (with_reducible rfl))
      try simp only [Act.put, List.setIfInBounds_toArray, List.set_cons_zero, List.set_cons_succ]
      refine wpAnyH_take (i := 53) (oi := _) (v := ?_) (by simp only [List.getElem?_toArray, List.getElem?_cons_succ, List.getElem?_cons_zero]; rfl) (by decide +kernel) (by decide +kernel) (by decide +kernel) (fun _ _ _ h => h) (Or.inl ⟨by rfl, ?_⟩) (by assumption) ?_
      rotate_left
      · (intro w hSw; (try dsimp only at hSw); go_simp; try (with_reducible rfl))
      try simp only [Act.put, List.setIfInBounds_toArray, List.set_cons_zero, List.set_cons_succ]
      refine wpAnyH_take (i := 54) (oi := _) (v := ?_) (by simp only [List.getElem?_toArray, List.getElem?_cons_succ, List.getElem?_cons_zero]; rfl) (by decide +kernel) (by decide +kernel) (by decide +kernel) (fun _ _ _ h => h) (Or.inl ⟨by rfl, ?_⟩) (by assumption) ?_
      rotate_left
      · (intro w hSw; (try dsimp only at hSw); go_simp; try (with_reducible rfl))
      try simp only [Act.put, List.setIfInBounds_toArray, List.set_cons_zero, List.set_cons_succ]
      refine wpAnyH_take (i := 55) (oi := _) (v := ?_) (by simp only [List.getElem?_toArray, List.getElem?_cons_succ, List.getElem?_cons_zero]; rfl) (by decide +kernel) (by decide +kernel) (by decide +kernel) (fun _ _ _ h => h) (Or.inl ⟨by rfl, ?_⟩) (by assumption) ?_
      rotate_left
      · (intro w hSw; (try dsimp only at hSw); go_simp; try (with_reducible rfl))
      try simp only [Act.put, List.setIfInBounds_toArray, List.set_cons_zero, List.set_cons_succ]
      refine wpAnyH_take (i := 56) (oi := _) (v := ?_) (by simp only [List.getElem?_toArray, List.getElem?_cons_succ, List.getElem?_cons_zero]; rfl) (by decide +kernel) (by decide +kernel) (by decide +kernel) (fun _ _ _ h => h) (Or.inl ⟨by rfl, ?_⟩) (by assumption) ?_
      rotate_left
      · (intro w hSw; (try dsimp only at hSw); go_simp; try (with_reducible rfl))
      try simp only [Act.put, List.setIfInBounds_toArray, List.set_cons_zero, List.set_cons_succ]
      refine wpAnyH_ready (rs := [57]) (by decide +kernel) (by simp) ?_
      refine AllReadyH.cons (o := _) (by simp only [List.getElem?_toArray, List.getElem?_cons_succ, List.getElem?_cons_zero]; rfl) (fun K hK => ?_) AllReadyH.nil
      go_simp
      (refine (same_ex _ _ _ _ _ (Kd.C_below Cr25 d44) lr20 (Kd.C_below Cr25 d44) lr20).mono ?_; rintro e w45 ⟨rfl, hb45⟩; have d45 := below_step d44 hb45)
      go_wp2_with fail
      refine hK.out _ _ ?_ (fun hHeld2 => ?_)
      · ((try dsimp only); (refine hS _ ?_; repeat (first | with_reducible assumption | refine below_alloc ?_ _)))
      clear hK K hHeld
      have hHeld := hHeld2
      clear hHeld2
      try simp only [Act.put, List.setIfInBounds_toArray, List.set_cons_zero, List.set_cons_succ]
      refine wpAnyH_take (i := 58) (oi := _) (v := ?_) (by simp only [List.getElem?_toArray, List.getElem?_cons_succ, List.getElem?_cons_zero]; rfl) (by decide +kernel) (by decide +kernel) (by decide +kernel) (fun _ _ _ h => h) (Or.inl ⟨by rfl, ?_⟩) (by assumption) ?_
      rotate_left
      · (intro w hSw; (try dsimp only at hSw); go_simp; try (with_reducible rfl))
      try simp only [Act.put, List.setIfInBounds_toArray, List.set_cons_zero, List.set_cons_succ]
      refine wpAnyH_take (i := 59) (oi := _) (v := ?_) (by simp only [List.getElem?_toArray, List.getElem?_cons_succ, List.getElem?_cons_zero]; rfl) (by decide +kernel) (by decide +kernel) (by decide +kernel) (fun _ _ _ h => h) (Or.inl ⟨by rfl, ?_⟩) (by assumption) ?_
      rotate_left
      · (intro w hSw; (try dsimp only at hSw); go_simp; try (with_reducible rfl))
      try simp only [Act.put, List.setIfInBounds_toArray, List.set_cons_zero, List.set_cons_succ]
      refine wpAnyH_take (i := 60) (oi := _) (v := ?_) (by simp only [List.getElem?_toArray, List.getElem?_cons_succ, List.getElem?_cons_zero]; rfl) (by decide +kernel) (by decide +kernel) (by decide +kernel) (fun _ _ _ h => h) (Or.inl ⟨by rfl, ?_⟩) (by assumption) ?_
      rotate_left
      · (intro w hSw; (try dsimp only at hSw); go_simp; try (with_reducible rfl))
      try simp only [Act.put, List.setIfInBounds_toArray, List.set_cons_zero, List.set_cons_succ]
      refine wpAnyH_ready (rs := [61]) (by decide +kernel) (by simp) ?_
      refine AllReadyH.cons (o := _) (by simp only [List.getElem?_toArray, List.getElem?_cons_succ, List.getElem?_cons_zero]; rfl) (fun K hK => ?_) AllReadyH.nil
      go_simp
      (refine (check_ex _ _ _ (Kd.C_below Cr25 d45) lr20).mono ?_; rintro e w46 ⟨rfl, hb46⟩; have d46 := below_step d45 hb46)
      go_wp2_with fail
      refine hK.out _ _ ?_ (fun hHeld2 => ?_)
      · ((try dsimp only); (refine hS _ ?_; repeat (first | with_reducible assumption | refine below_alloc ?_ _)))
      clear hK K hHeld
      have hHeld := hHeld2
      clear hHeld2
      try simp only [Act.put, List.setIfInBounds_toArray, List.set_cons_zero, List.set_cons_succ]
      refine wpAnyH_take (i := 62) (oi := _) (v := ?_) (by simp only [List.getElem?_toArray, List.getElem?_cons_succ, List.getElem?_cons_zero]; rfl) (by decide +kernel) (by decide +kernel) (by decide +kernel) (fun _ _ _ h => h) (Or.inl ⟨by rfl, ?_⟩) (by assumption) ?_
      rotate_left
      · (intro w hSw; (try dsimp only at hSw); go_simp; try (with_reducible rfl))
      try simp only [Act.put, List.setIfInBounds_toArray, List.set_cons_zero, List.set_cons_succ]
      refine wpAnyH_take (i := 63) (oi := _) (v := ?_) (by simp only [List.getElem?_toArray, List.getElem?_cons_succ, List.getElem?_cons_zero]; rfl) (by decide +kernel) (by decide +kernel) (by decide +kernel) (fun _ _ _ h => h) (Or.inl ⟨by rfl, ?_⟩) (by assumption) ?_
      rotate_left
      · (intro w hSw; (try dsimp only at hSw); go_simp; try (with_reducible rfl))
      try simp only [Act.put, List.setIfInBounds_toArray, List.set_cons_zero, List.set_cons_succ]
      refine wpAnyH_take (i := 64) (oi := _) (v := ?_) (by simp only [List.getElem?_toArray, List.getElem?_cons_succ, List.getElem?_cons_zero]; rfl) (by decide +kernel) (by decide +kernel) (by decide +kernel) (fun _ _ _ h => h) (Or.inl ⟨by rfl, ?_⟩) (by assumption) ?_
      rotate_left
      · (intro w hSw; (try dsimp only at hSw); go_simp; try (with_reducible rfl))
      try simp only [Act.put, List.setIfInBounds_toArray, List.set_cons_zero, List.set_cons_succ]
      refine wpAnyH_take (i := 65) (oi := _) (v := ?_) (by simp only [List.getElem?_toArray, List.getElem?_cons_succ, List.getElem?_cons_zero]; rfl) (by decide +kernel) (by decide +kernel) (by decide +kernel) (fun _ _ _ h => h) (Or.inl ⟨by rfl, ?_⟩) (by assumption) ?_
      rotate_left
      · (intro w hSw; (try dsimp only at hSw); go_simp; try (with_reducible rfl))
      try simp only [Act.put, List.setIfInBounds_toArray, List.set_cons_zero, List.set_cons_succ]
      refine wpAnyH_ready (rs := [66]) (by decide +kernel) (by simp) ?_
      refine AllReadyH.cons (o := _) (by simp only [List.getElem?_toArray, List.getElem?_cons_succ, List.getElem?_cons_zero]; rfl) (fun K hK => ?_) AllReadyH.nil
      go_simp
      (refine (x_c 4 _).mono ?_; rintro e w47 ⟨rfl, hb47⟩; have d47 := below_step d46 hb47)
      go_wp2_with fail
      refine hK.out _ _ ?_ (fun hHeld2 => ?_)
      · ((try dsimp only); (refine hS _ ?_; repeat (first | with_reducible assumption | refine below_alloc ?_ _)))
      clear hK K hHeld
      have hHeld := hHeld2
      clear hHeld2
      try simp only [Act.put, List.setIfInBounds_toArray, List.set_cons_zero, List.set_cons_succ]
      refine wpAnyH_ready (rs := [67]) (by decide +kernel) (by simp) ?_
      refine AllReadyH.cons (o := _) (by simp only [List.getElem?_toArray, List.getElem?_cons_succ, List.getElem?_cons_zero]; rfl) (fun K hK => ?_) AllReadyH.nil
      go_simp
      (refine (x_c 5 _).mono ?_; rintro e w48 ⟨rfl, hb48⟩; have d48 := below_step d47 hb48)
      go_wp2_with fail
      refine hK.out _ _ ?_ (fun hHeld2 => ?_)
      · ((try dsimp only); (refine hS _ ?_; repeat (first | with_reducible assumption | refine below_alloc ?_ _)))
      clear hK K hHeld
      have hHeld := hHeld2
      clear hHeld2
      try simp only [Act.put, List.setIfInBounds_toArray, List.set_cons_zero, List.set_cons_succ]
      refine wpAnyH_ready (rs := [68]) (by decide +kernel) (by simp) ?_
      refine AllReadyH.cons (o := _) (by simp only [List.getElem?_toArray, List.getElem?_cons_succ, List.getElem?_cons_zero]; rfl) (fun K hK => ?_) AllReadyH.nil
      go_simp
      (refine (x_c 4 _).mono ?_; rintro e w49 ⟨rfl, hb49⟩; have d49 := below_step d48 hb49)
      go_wp2_with fail
      refine hK.out _ _ ?_ (fun hHeld2 => ?_)
      · ((try dsimp only); (refine hS _ ?_; repeat (first | with_reducible assumption | refine below_alloc ?_ _)))
      clear hK K hHeld
      have hHeld := hHeld2
      clear hHeld2
      try simp only [Act.put, List.setIfInBounds_toArray, List.set_cons_zero, List.set_cons_succ]
      refine wpAnyH_ready (rs := [69]) (by decide +kernel) (by simp) ?_
      refine AllReadyH.cons (o := _) (by simp only [List.getElem?_toArray, List.getElem?_cons_succ, List.getElem?_cons_zero]; rfl) (fun K hK => ?_) AllReadyH.nil
      go_simp
      refine hK.out _ _ ?_ (fun hHeld2 => ?_)
      · ((try dsimp only); (refine hS _ ?_; repeat (first | with_reducible assumption | refine below_alloc ?_ _)))
      clear hK K hHeld
      have hHeld := hHeld2
      clear hHeld2
      try simp only [Act.put, List.setIfInBounds_toArray, List.set_cons_zero, List.set_cons_succ]
      refine wpAnyH_ready (rs := [70]) (by decide +kernel) (by simp) ?_
      refine AllReadyH.cons (o := _) (by simp only [List.getElem?_toArray, List.getElem?_cons_succ, List.getElem?_cons_zero]; rfl) (fun K hK => ?_) AllReadyH.nil
      go_simp
      (refine (C_c ⟨#[102]⟩ _ _ _ _).mono ?_; rintro e w50 ⟨rfl, hb50⟩; have d50 := below_step (below_alloc d49 _) hb50; have k50 := blk_below (blk_new _ _) hb50)
      go_wp2_with fail
      refine hK.out _ _ ?_ (fun hHeld2 => ?_)
      · ((try dsimp only); (refine hS _ ?_; repeat (first | with_reducible assumption | refine below_alloc ?_ _)))
      clear hK K hHeld
      have hHeld := hHeld2
      clear hHeld2
      try simp only [Act.put, List.setIfInBounds_toArray, List.set_cons_zero, List.set_cons_succ]
      refine wpAnyH_ready (rs := [71]) (by decide +kernel) (by simp) ?_
      refine AllReadyH.cons (o := _) (by simp only [List.getElem?_toArray, List.getElem?_cons_succ, List.getElem?_cons_zero]; rfl) (fun K hK => ?_) AllReadyH.nil
      go_simp
      (refine (variant_ex _ _ _ _ (Kd.C_below Cr25 d50) lr20 k50).mono ?_; rintro e w51 ⟨rfl, hb51⟩; have d51 := below_step d50 hb51)
      go_wp2_with fail
      refine hK.out _ _ ?_ (fun hHeld2 => ?_)
      · ((try dsimp only); (refine hS _ ?_; repeat (first | with_reducible assumption | refine below_alloc ?_ _)))
      clear hK K hHeld
      have hHeld := hHeld2
      clear hHeld2
      try simp only [Act.put, List.setIfInBounds_toArray, List.set_cons_zero, List.set_cons_succ]
      refine wpAnyH_take (i := 72) (oi := _) (v := ?_) (by simp only [List.getElem?_toArray, List.getElem?_cons_succ, List.getElem?_cons_zero]; rfl) (by decide +kernel) (by decide +kernel) (by decide +kernel) (fun _ _ _ h => h) (Or.inl ⟨by rfl, ?_⟩) (by assumption) ?_
      rotate_left
      · (intro w hSw; (try dsimp only at hSw); go_simp; try (with_reducible rfl))
      try simp only [Act.put, List.setIfInBounds_toArray, List.set_cons_zero, List.set_cons_succ]
      refine wpAnyH_take (i := 73) (oi := _) (v := ?_) (by simp only [List.getElem?_toArray, List.getElem?_cons_succ, List.getElem?_cons_zero]; rfl) (by decide +kernel) (by decide +kernel) (by decide +kernel) (fun _ _ _ h => h) (Or.inl ⟨by rfl, ?_⟩) (by assumption) ?_
      rotate_left
      · (intro w hSw; (try dsimp only at hSw); go_simp; try (with_reducible rfl))
      try simp only [Act.put, List.setIfInBounds_toArray, List.set_cons_zero]
      refine wpAnyH_done (by decide +kernel) ?_ _
      refine NoPanic.normal ?_
      go_wp2
      go_ret
      exact ⟨rfl, below_step Bw25 d51⟩
    exact AllReadyH.nil
  refine AllReadyH.cons (o := _) (by simp only [List.getElem?_toArray, List.getElem?_cons_succ, List.getElem?_cons_zero]; rfl) (fun K hK => ?_) ?_
  · skip
    go_simp
    refine hK.out _ _ ?_ (fun hHeld2 => ?_)
    · ((try dsimp only); (refine hS _ ?_; repeat (first | with_reducible assumption | refine below_alloc ?_ _)))
    clear hK K hHeld
    have hHeld := hHeld2
    clear hHeld2
    try simp only [Act.put, List.setIfInBounds_toArray, List.set_cons_zero, List.set_cons_succ]
    refine wpAnyH_ready (rs := [15]) (by decide +kernel) (by simp) ?_
    refine AllReadyH.cons (o := _) (by simp only [List.getElem?_toArray, List.getElem?_cons_succ, List.getElem?_cons_zero]; rfl) (fun K hK => ?_) AllReadyH.nil
    go_simp
    refine hK.out _ _ ?_ (fun hHeld2 => ?_)
    · ((try dsimp only); (refine hS _ ?_; repeat (first | with_reducible assumption | refine below_alloc ?_ _)))
    clear hK K hHeld
    have hHeld := hHeld2
    clear hHeld2
    try simp only [Act.put, List.setIfInBounds_toArray, List.set_cons_zero, List.set_cons_succ]
    refine wpAnyH_ready (rs := [16]) (by decide +kernel) (by simp) ?_
    refine AllReadyH.cons (o := _) (by simp only [List.getElem?_toArray, List.getElem?_cons_succ, List.getElem?_cons_zero]; rfl) (fun K hK => ?_) AllReadyH.nil
    go_simp
    (refine (C_c ⟨#[103]⟩ _ _ _ _).mono ?_; rintro e w39 ⟨rfl, hb39⟩; have d39 : Below w25.heap.size w25 w39 := below_step (by repeat (first | with_reducible assumption | with_reducible refine below_alloc ?_ _)) hb39; (first | (with_reducible have k38 := blk_below (blk_new w38 _) hb39) | ((with_reducible have k38 := blk_below (blk_alloc (blk_new w38 _) _) hb39); (have k39 := blk_below (blk_new2 (g := w38.heap.size + 1) (w38.alloc _) _ (by simp)) hb39))))
    go_wp2_with fail
    refine hK.out _ _ ?_ (fun hHeld2 => ?_)
    · ((try dsimp only); (refine hS _ ?_; repeat (first | with_reducible assumption | refine below_alloc ?_ _)))
    clear hK K hHeld
    have hHeld := hHeld2
    clear hHeld2
    try simp only [Act.put, List.setIfInBounds_toArray, List.set_cons_zero, List.set_cons_succ]
    refine wpAnyH_ready (rs := [20]) (by decide +kernel) (by simp) ?_
    refine AllReadyH.cons (o := _) (by simp only [List.getElem?_toArray, List.getElem?_cons_succ, List.getElem?_cons_zero]; rfl) (fun K hK => ?_) AllReadyH.nil
    go_simp
    (refine (C_c ⟨#[102]⟩ _ _ _ _).mono ?_; rintro e w40 ⟨rfl, hb40⟩; have d40 : Below w25.heap.size w25 w40 := below_step (by repeat (first | with_reducible assumption | with_reducible refine below_alloc ?_ _)) hb40; (first | (with_reducible have k41 := blk_below k38 hb40) | (with_reducible have k41 := blk_below (blk_alloc k38 _) hb40)); (first | (with_reducible have k40 := blk_below k39 hb40) | (with_reducible have k40 := blk_below (blk_new w39 _) hb40)))
    go_wp2_with fail
    refine hK.out _ _ ?_ (fun hHeld2 => ?_)
    · ((try dsimp only); (refine hS _ ?_; repeat (first | with_reducible assumption | refine below_alloc ?_ _)))
    clear hK K hHeld
    have hHeld := hHeld2
    clear hHeld2
    try simp only [Act.put, List.setIfInBounds_toArray, List.set_cons_zero, List.set_cons_succ]
    refine wpAnyH_ready (rs := [21]) (by decide +kernel) (by simp) ?_
    refine AllReadyH.cons (o := _) (by simp only [List.getElem?_toArray, List.getElem?_cons_succ, List.getElem?_cons_zero]; rfl) (fun K hK => ?_) AllReadyH.nil
    go_simp
    ((first | refine (order_ex2 _ _ _ k41 k40).mono ?_ | refine (order_ex2 _ _ _ k40 k41).mono ?_); rintro e w41 ⟨rfl, hb41⟩; have d41 := below_step d40 hb41; clear k38 k40 k41)
    go_wp2_with fail
    refine hK.out _ _ ?_ (fun hHeld2 => ?_)
    · ((try dsimp only); (refine hS _ ?_; repeat (first | with_reducible assumption | refine below_alloc ?_ _)))
    clear hK K hHeld
    have hHeld := hHeld2
    clear hHeld2
    try simp only [Act.put, List.setIfInBounds_toArray, List.set_cons_zero, List.set_cons_succ]
    refine wpAnyH_take (i := 22) (oi := _) (v := ?_) (by simp only [List.getElem?_toArray, List.getElem?_cons_succ, List.getElem?_cons_zero]; rfl) (by decide +kernel) (by decide +kernel) (by decide +kernel) (fun _ _ _ h => h) (Or.inl ⟨by rfl, ?_⟩) (by assumption) ?_
    rotate_left
    · (intro w hSw; (try dsimp only at hSw); go_simp; try (with_reducible rfl))
    try simp only [Act.put, List.setIfInBounds_toArray, List.set_cons_zero, List.set_cons_succ]
    refine wpAnyH_take (i := 23) (oi := _) (v := ?_) (by simp only [List.getElem?_toArray, List.getElem?_cons_succ, List.getElem?_cons_zero]; rfl) (by decide +kernel) (by decide +kernel) (by decide +kernel) (fun _ _ _ h => h) (Or.inl ⟨by rfl, ?_⟩) (by assumption) ?_
    rotate_left
    · (intro w hSw; (try dsimp only at hSw); go_simp; try (with_reducible rfl))
    try simp only [Act.put, List.setIfInBounds_toArray, List.set_cons_zero, List.set_cons_succ]
    refine wpAnyH_take (i := 24) (oi := _) (v := ?_) (by simp only [List.getElem?_toArray, List.getElem?_cons_succ, List.getElem?_cons_zero]; rfl) (by decide +kernel) (by decide +kernel) (by decide +kernel) (fun _ _ _ h => h) (Or.inl ⟨by rfl, ?_⟩) (by assumption) ?_
    rotate_left
    · (intro w hSw; (try dsimp only at hSw); go_simp; try (with_reducible rfl))
    try simp only [Act.put, List.setIfInBounds_toArray, List.set_cons_zero, List.set_cons_succ]
    refine wpAnyH_take (i := 25) (oi := _) (v := ?_) (by simp only [List.getElem?_toArray, List.getElem?_cons_succ, List.getElem?_cons_zero]; rfl) (by decide +kernel) (by decide +kernel) (by decide +kernel) (fun _ _ _ h => h) (Or.inl ⟨by rfl, ?_⟩) (by assumption) ?_
    rotate_left
    · (intro w hSw; (try dsimp only at hSw); go_simp; try (with_reducible rfl))
    try simp only [Act.put, List.setIfInBounds_toArray, List.set_cons_zero, List.set_cons_succ]
    refine wpAnyH_take (i := 26) (oi := _) (v := ?_) (by simp only [List.getElem?_toArray, List.getElem?_cons_succ, List.getElem?_cons_zero]; rfl) (by decide +kernel) (by decide +kernel) (by decide +kernel) (fun _ _ _ h => h) (Or.inl ⟨by rfl, ?_⟩) (by assumption) ?_
    rotate_left
    · (intro w hSw; (try dsimp only at hSw); go_simp; try (with_reducible rfl))
    try simp only [Act.put, List.setIfInBounds_toArray, List.set_cons_zero, List.set_cons_succ]
    refine wpAnyH_take (i := 27) (oi := _) (v := ?_) (by simp only [List.getElem?_toArray, List.getElem?_cons_succ, List.getElem?_cons_zero]; rfl) (by decide +kernel) (by decide +kernel) (by decide +kernel) (fun _ _ _ h => h) (Or.inl ⟨by rfl, ?_⟩) (by assumption) ?_
    rotate_left
    · (intro w hSw; (try dsimp only at hSw); go_simp; try (with_reducible rfl))
    try simp only [Act.put, List.setIfInBounds_toArray, List.set_cons_zero, List.set_cons_succ]
    refine wpAnyH_take (i := 28) (oi := _) (v := ?_) (by simp only [List.getElem?_toArray, List.getElem?_cons_succ, List.getElem?_cons_zero]; rfl) (by decide +kernel) (by decide +kernel) (by decide +kernel) (fun _ _ _ h => h) (Or.inl ⟨by rfl, ?_⟩) (by assumption) ?_
    rotate_left
    · (intro w hSw; (try dsimp only at hSw); go_simp; try (with_reducible rfl))
    try simp only [Act.put, List.setIfInBounds_toArray, List.set_cons_zero, List.set_cons_succ]
    refine wpAnyH_take (i := 29) (oi := _) (v := ?_) (by simp only [List.getElem?_toArray, List.getElem?_cons_succ, List.getElem?_cons_zero]; rfl) (by decide +kernel) (by decide +kernel) (by decide +kernel) (fun _ _ _ h => h) (Or.inl ⟨by rfl, ?_⟩) (by assumption) ?_
    rotate_left
    · (intro w hSw; (try dsimp only at hSw); go_simp; try (with_reducible rfl))
    try simp only [Act.put, List.setIfInBounds_toArray, List.set_cons_zero, List.set_cons_succ]
    refine wpAnyH_take (i := 30) (oi := _) (v := ?_) (by simp only [List.getElem?_toArray, List.getElem?_cons_succ, List.getElem?_cons_zero]; rfl) (by decide +kernel) (by decide +kernel) (by decide +kernel) (fun _ _ _ h => h) (Or.inl ⟨by rfl, ?_⟩) (by assumption) ?_
    rotate_left
    · (intro w hSw; (try dsimp only at hSw); go_simp; try (with_reducible rfl))
    try simp only [Act.put, List.setIfInBounds_toArray, List.set_cons_zero, List.set_cons_succ]
    refine wpAnyH_take (i := 31) (oi := _) (v := ?_) (by simp only [List.getElem?_toArray, List.getElem?_cons_succ, List.getElem?_cons_zero]; rfl) (by decide +kernel) (by decide +kernel) (by decide +kernel) (fun _ _ _ h => h) (Or.inl ⟨by rfl, ?_⟩) (by assumption) ?_
    rotate_left
    · (intro w hSw; (try dsimp only at hSw); go_simp; try (with_reducible rfl))
    try simp only [Act.put, List.setIfInBounds_toArray, List.set_cons_zero, List.set_cons_succ]
    refine wpAnyH_take (i := 32) (oi := _) (v := ?_) (by simp only [List.getElem?_toArray, List.getElem?_cons_succ, List.getElem?_cons_zero]; rfl) (by decide +kernel) (by decide +kernel) (by decide +kernel) (fun _ _ _ h => h) (Or.inl ⟨by rfl, ?_⟩) (by assumption) ?_
    rotate_left
    · (intro w hSw; (try dsimp only at hSw); go_simp; try (with_reducible rfl))
    try simp only [Act.put, List.setIfInBounds_toArray, List.set_cons_zero, List.set_cons_succ]
    refine wpAnyH_take (i := 33) (oi := _) (v := ?_) (by simp only [List.getElem?_toArray, List.getElem?_cons_succ, List.getElem?_cons_zero]; rfl) (by decide +kernel) (by decide +kernel) (by decide +kernel) (fun _ _ _ h => h) (Or.inl ⟨by rfl, ?_⟩) (by assumption) ?_
    rotate_left
    · (intro w hSw; (try dsimp only at hSw); go_simp; try (with_reducible rfl))
    try simp only [Act.put, List.setIfInBounds_toArray, List.set_cons_zero, List.set_cons_succ]
    refine wpAnyH_take (i := 34) (oi := _) (v := ?_) (by simp only [List.getElem?_toArray, List.getElem?_cons_succ, List.getElem?_cons_zero]; rfl) (by decide +kernel) (by decide +kernel) (by decide +kernel) (fun _ _ _ h => h) (Or.inl ⟨by rfl, ?_⟩) (by assumption) ?_
    rotate_left
    · (intro w hSw; (try dsimp only at hSw); go_simp; try (with_reducible rfl))
    try simp only [Act.put, List.setIfInBounds_toArray, List.set_cons_zero, List.set_cons_succ]
    refine wpAnyH_take (i := 35) (oi := _) (v := ?_) (by simp only [List.getElem?_toArray, List.getElem?_cons_succ, List.getElem?_cons_zero]; rfl) (by decide +kernel) (by decide +kernel) (by decide +kernel) (fun _ _ _ h => h) (Or.inl ⟨by rfl, ?_⟩) (by assumption) ?_
    rotate_left
    · (intro w hSw; (try dsimp only at hSw); go_simp; try (with_reducible rfl))
    try simp only [Act.put, List.setIfInBounds_toArray, List.set_cons_zero, List.set_cons_succ]
    refine wpAnyH_take (i := 36) (oi := _) (v := ?_) (by simp only [List.getElem?_toArray, List.getElem?_cons_succ, List.getElem?_cons_zero]; rfl) (by decide +kernel) (by decide +kernel) (by decide +kernel) (fun _ _ _ h => h) (Or.inl ⟨by rfl, ?_⟩) (by assumption) ?_
    rotate_left
    · (intro w hSw; (try dsimp only at hSw); go_simp; try (with_reducible rfl))
    try simp only [Act.put, List.setIfInBounds_toArray, List.set_cons_zero, List.set_cons_succ]
    refine wpAnyH_take (i := 37) (oi := _) (v := ?_) (by simp only [List.getElem?_toArray, List.getElem?_cons_succ, List.getElem?_cons_zero]; rfl) (by decide +kernel) (by decide +kernel) (by decide +kernel) (fun _ _ _ h => h) (Or.inl ⟨by rfl, ?_⟩) (by assumption) ?_
    rotate_left
    · (intro w hSw; (try dsimp only at hSw); go_simp; try (with_reducible rfl))
    try simp only [Act.put, List.setIfInBounds_toArray, List.set_cons_zero, List.set_cons_succ]
    refine wpAnyH_take (i := 38) (oi := _) (v := ?_) (by simp only [List.getElem?_toArray, List.getElem?_cons_succ, List.getElem?_cons_zero]; rfl) (by decide +kernel) (by decide +kernel) (by decide +kernel) (fun _ _ _ h => h) (Or.inl ⟨by rfl, ?_⟩) (by assumption) ?_
    rotate_left
    · (intro w hSw; (try dsimp only at hSw); go_simp; try (with_reducible rfl))
    try simp only [Act.put, List.setIfInBounds_toArray, List.set_cons_zero, List.set_cons_succ]
    refine wpAnyH_take (i := 39) (oi := _) (v := ?_) (by simp only [List.getElem?_toArray, List.getElem?_cons_succ, List.getElem?_cons_zero]; rfl) (by decide +kernel) (by decide +kernel) (by decide +kernel) (fun _ _ _ h => h) (Or.inl ⟨by rfl, ?_⟩) (by assumption) ?_
    rotate_left
    · (intro w hSw; (try dsimp only at hSw); go_simp; try (with_reducible rfl))
    try simp only [Act.put, List.setIfInBounds_toArray, List.set_cons_zero, List.set_cons_succ]
    refine wpAnyH_ready (rs := [40]) (by decide +kernel) (by simp) ?_
    refine AllReadyH.cons (o := _) (by simp only [List.getElem?_toArray, List.getElem?_cons_succ, List.getElem?_cons_zero]; rfl) (fun K hK => ?_) AllReadyH.nil
    go_simp
    (refine (size_ex _ _ _ (Kd.C_below Cl25 d41) l15).mono ?_; rintro e w42 ⟨rfl, hb42⟩; have d42 := below_step d41 hb42)
    go_wp2_with fail
    refine hK.out _ _ ?_ (fun hHeld2 => ?_)
    · ((try dsimp only); (refine hS _ ?_; repeat (first | with_reducible assumption | refine below_alloc ?_ _)))
    clear hK K hHeld
    have hHeld := hHeld2
    clear hHeld2
    try simp only [Act.put, List.setIfInBounds_toArray, List.set_cons_zero, List.set_cons_succ]
    refine wpAnyH_take (i := 41) (oi := _) (v := ?_) (by simp only [List.getElem?_toArray, List.getElem?_cons_succ, List.getElem?_cons_zero]; rfl) (by decide +kernel) (by decide +kernel) (by decide +kernel) (fun _ _ _ h => h) (Or.inl ⟨by rfl, ?_⟩) (by assumption) ?_
    rotate_left
    · (intro w hSw; (try dsimp only at hSw); go_simp; try (with_reducible rfl))
    try simp only [Act.put, List.setIfInBounds_toArray, List.set_cons_zero, List.set_cons_succ]
    refine wpAnyH_take (i := 42) (oi := _) (v := ?_) (by simp only [List.getElem?_toArray, List.getElem?_cons_succ, List.getElem?_cons_zero]; rfl) (by decide +kernel) (by decide +kernel) (by decide +kernel) (fun _ _ _ h => h) (Or.inl ⟨by rfl, ?_⟩) (by assumption) ?_
    rotate_left
    · (intro w hSw; (try dsimp only at hSw); go_simp; try (with_reducible rfl))
    try simp only [Act.put, List.setIfInBounds_toArray, List.set_cons_zero, List.set_cons_succ]
    refine wpAnyH_take (i := 43) (oi := _) (v := ?_) (by simp only [List.getElem?_toArray, List.getElem?_cons_succ, List.getElem?_cons_zero]; rfl) (by decide +kernel) (by decide +kernel) (by decide +kernel) (fun _ _ _ h => h) (Or.inl ⟨by rfl, ?_⟩) (by assumption) ?_
    rotate_left
    · (intro w hSw; (try dsimp only at hSw); go_simp; try (with_reducible rfl))
    try simp only [Act.put, List.setIfInBounds_toArray, List.set_cons_zero, List.set_cons_succ]
    refine wpAnyH_take (i := 44) (oi := _) (v := ?_) (by simp only [List.getElem?_toArray, List.getElem?_cons_succ, List.getElem?_cons_zero]; rfl) (by decide +kernel) (by decide +kernel) (by decide +kernel) (fun _ _ _ h => h) (Or.inl ⟨by rfl, ?_⟩) (by assumption) ?_
    rotate_left
    · (intro w hSw; (try dsimp only at hSw); go_simp; try (with_reducible rfl))
    try simp only [Act.put, List.setIfInBounds_toArray, List.set_cons_zero, List.set_cons_succ]
    refine wpAnyH_ready (rs := [45]) (by decide +kernel) (by simp) ?_
    refine AllReadyH.cons (o := _) (by simp only [List.getElem?_toArray, List.getElem?_cons_succ, List.getElem?_cons_zero]; rfl) (fun K hK => ?_) AllReadyH.nil
    go_simp
    (refine (depth_ex _ _ _ (Kd.C_below Cl25 d42) l15).mono ?_; rintro e w43 ⟨rfl, hb43⟩; have d43 := below_step d42 hb43)
    go_wp2_with fail
    refine hK.out _ _ ?_ (fun hHeld2 => ?_)
    · ((try dsimp only); (refine hS _ ?_; repeat (first | with_reducible assumption | refine below_alloc ?_ _)))
    clear hK K hHeld
    have hHeld := hHeld2
    clear hHeld2
    try simp only [Act.put, List.setIfInBounds_toArray, List.set_cons_zero, List.set_cons_succ]
    refine wpAnyH_take (i := 46) (oi := _) (v := ?_) (by simp only [List.getElem?_toArray, List.getElem?_cons_succ, List.getElem?_cons_zero]; rfl) (by decide +kernel) (by decide +kernel) (by decide +kernel) (fun _ _ _ h => h) (Or.inl ⟨by rfl, ?_⟩) (by assumption) ?_
    rotate_left
    · (intro w hSw; (try dsimp only at hSw); go_simp; try (with_reducible rfl))
    try simp only [Act.put, List.setIfInBounds_toArray, List.set_cons_zero, List.set_cons_succ]
    refine wpAnyH_take (i := 47) (oi := _) (v := ?_) (by simp only [List.getElem?_toArray, List.getElem?_cons_succ, List.getElem?_cons_zero]; rfl) (by decide +kernel) (by decide +kernel) (by decide +kernel) (fun _ _ _ h => h) (Or.inl ⟨by rfl, ?_⟩) (by assumption) ?_
    rotate_left
    · (intro w hSw; (try dsimp only at hSw); go_simp; try (with_reducible rfl))
    try simp only [Act.put, List.setIfInBounds_toArray, List.set_cons_zero, List.set_cons_succ]
    refine wpAnyH_take (i := 48) (oi := _) (v := ?_) (by simp only [List.getElem?_toArray, List.getElem?_cons_succ, List.getElem?_cons_zero]; rfl) (by decide +kernel) (by decide +kernel) (by decide +kernel) (fun _ _ _ h => h) (Or.inl ⟨by rfl, ?_⟩) (by assumption) ?_
    rotate_left
    · (intro w hSw; (try dsimp only at hSw); go_simp; try (with_reducible rfl))
    try simp only [Act.put, List.setIfInBounds_toArray, List.set_cons_zero, List.set_cons_succ]
    refine wpAnyH_take (i := 49) (oi := _) (v := ?_) (by simp only [List.getElem?_toArray, List.getElem?_cons_succ, List.getElem?_cons_zero]; rfl) (by decide +kernel) (by decide +kernel) (by decide +kernel) (fun _ _ _ h => h) (Or.inl ⟨by rfl, ?_⟩) (by assumption) ?_
    rotate_left
    · (intro w hSw; (try dsimp only at hSw); go_simp; try (with_reducible rfl))
    try simp only [Act.put, List.setIfInBounds_toArray, List.set_cons_zero, List.set_cons_succ]
    refine wpAnyH_ready (rs := [50]) (by decide +kernel) (by simp) ?_
    refine AllReadyH.cons (o := _) (by simp only [List.getElem?_toArray, List.getElem?_cons_succ, List.getElem?_cons_zero]; rfl) (fun K hK => ?_) AllReadyH.nil
    go_simp
    (refine (vars_ex _ _ _ (Kd.C_below Cr25 d43) lr20).mono ?_; rintro e w44 ⟨A44, c44, rfl, hb44⟩; have d44 := below_step d43 hb44)
    go_wp2_with fail
    refine hK.out _ _ ?_ (fun hHeld2 => ?_)
    · ((try dsimp only); (refine hS _ ?_; repeat (first | with_reducible assumption | refine below_alloc ?_ _)))
    clear hK K hHeld
    have hHeld := hHeld2
    clear hHeld2
    try simp only [Act.put, List.setIfInBounds_toArray, List.set_cons_zero, List.set_cons_succ]
    refine wpAnyH_take (i := 51) (oi := _) (v := ?_) (by simp only [List.getElem?_toArray, List.getElem?_cons_succ, List.getElem?_cons_zero]; rfl) (by decide +kernel) (by decide +kernel) (by decide +kernel) (fun _ _ _ h => h) (Or.inl ⟨by rfl, ?_⟩) (by assumption) ?_
    rotate_left
    · (intro w hSw; (try dsimp only at hSw); go_simp; try (with_reducible rfl))
    try simp only [Act.put, List.setIfInBounds_toArray, List.set_cons_zero, List.set_cons_succ]
    refine wpAnyH_take (i := 52) (oi := _) (v := ?_) (by simp only [List.getElem?_toArray, List.getElem?_cons_succ, List.getElem?_cons_zero]; rfl) (by decide +kernel) (by decide +kernel) (by decide +kernel) (fun _ _ _ h => h) (Or.inl ⟨by rfl, ?_⟩) (by assumption) ?_
    rotate_left
    · (intro w hSw; (try dsimp only at hSw); go_simp; try (with_reducible rfl))
    try simp only [Act.put, List.setIfInBounds_toArray, List.set_cons_zero, List.set_cons_succ]
    refine wpAnyH_take (i := 53) (oi := _) (v := ?_) (by simp only [List.getElem?_toArray, List.getElem?_cons_succ, List.getElem?_cons_zero]; rfl) (by decide +kernel) (by decide +kernel) (by decide +kernel) (fun _ _ _ h => h) (Or.inl ⟨by rfl, ?_⟩) (by assumption) ?_
    rotate_left
    · (intro w hSw; (try dsimp only at hSw); go_simp; try (with_reducible rfl))
    try simp only [Act.put, List.setIfInBounds_toArray, List.set_cons_zero, List.set_cons_succ]
    refine wpAnyH_take (i := 54) (oi := _) (v := ?_) (by simp only [List.getElem?_toArray, List.getElem?_cons_succ, List.getElem?_cons_zero]; rfl) (by decide +kernel) (by decide +kernel) (by decide +kernel) (fun _ _ _ h => h) (Or.inl ⟨by rfl, ?_⟩) (by assumption) ?_
    rotate_left
    · (intro w hSw; (try dsimp only at hSw); go_simp; try (with_reducible rfl))
    try simp only [Act.put, List.setIfInBounds_toArray, List.set_cons_zero, List.set_cons_succ]
    refine wpAnyH_take (i := 55) (oi := _) (v := ?_) (by simp only [List.getElem?_toArray, List.getElem?_cons_succ, List.getElem?_cons_zero]; rfl) (by decide +kernel) (by decide +kernel) (by decide +kernel) (fun _ _ _ h => h) (Or.inl ⟨by rfl, ?_⟩) (by assumption) ?_
    rotate_left
    · (intro w hSw; (try dsimp only at hSw); go_simp; try (with_reducible rfl))
    try simp only [Act.put, List.setIfInBounds_toArray, List.set_cons_zero, List.set_cons_succ]
    refine wpAnyH_take (i := 56) (oi := _) (v := ?_) (by simp only [List.getElem?_toArray, List.getElem?_cons_succ, List.getElem?_cons_zero]; rfl) (by decide +kernel) (by decide +kernel) (by decide +kernel) (fun _ _ _ h => h) (Or.inl ⟨by rfl, ?_⟩) (by assumption) ?_
    rotate_left
    · (intro w hSw; (try dsimp only at hSw); go_simp; try (with_reducible rfl))
    try simp only [Act.put, List.setIfInBounds_toArray, List.set_cons_zero, List.set_cons_succ]
    refine wpAnyH_ready (rs := [57]) (by decide +kernel) (by simp) ?_
    refine AllReadyH.cons (o := _) (by simp only [List.getElem?_toArray, List.getElem?_cons_succ, List.getElem?_cons_zero]; rfl) (fun K hK => ?_) AllReadyH.nil
    go_simp
    (refine (same_ex _ _ _ _ _ (Kd.C_below Cr25 d44) lr20 (Kd.C_below Cr25 d44) lr20).mono ?_; rintro e w45 ⟨rfl, hb45⟩; have d45 := below_step d44 hb45)
    go_wp2_with fail
    refine hK.out _ _ ?_ (fun hHeld2 => ?_)
    · ((try dsimp only); (refine hS _ ?_; repeat (first | with_reducible assumption | refine below_alloc ?_ _)))
    clear hK K hHeld
    have hHeld := hHeld2
    clear hHeld2
    try simp only [Act.put, List.setIfInBounds_toArray, List.set_cons_zero, List.set_cons_succ]
    refine wpAnyH_take (i := 58) (oi := _) (v := ?_) (by simp only [List.getElem?_toArray, List.getElem?_cons_succ, List.getElem?_cons_zero]; rfl) (by decide +kernel) (by decide +kernel) (by decide +kernel) (fun _ _ _ h => h) (Or.inl ⟨by rfl, ?_⟩) (by assumption) ?_
    rotate_left
    · (intro w hSw; (try dsimp only at hSw); go_simp; try (with_reducible rfl))
    try simp only [Act.put, List.setIfInBounds_toArray, List.set_cons_zero, List.set_cons_succ]
    refine wpAnyH_take (i := 59) (oi := _) (v := ?_) (by simp only [List.getElem?_toArray, List.getElem?_cons_succ, List.getElem?_cons_zero]; rfl) (by decide +kernel) (by decide +kernel) (by decide +kernel) (fun _ _ _ h => h) (Or.inl ⟨by rfl, ?_⟩) (by assumption) ?_
    rotate_left
    · (intro w hSw; (try dsimp only at hSw); go_simp; try (with_reducible rfl))
    try simp only [Act.put, List.setIfInBounds_toArray, List.set_cons_zero, List.set_cons_succ]
    refine wpAnyH_take (i := 60) (oi := _) (v := ?_) (by simp only [List.getElem?_toArray, List.getElem?_cons_succ, List.getElem?_cons_zero]; rfl) (by decide +kernel) (by decide +kernel) (by decide +kernel) (fun _ _ _ h => h) (Or.inl ⟨by rfl, ?_⟩) (by assumption) ?_
    rotate_left
    · (intro w hSw; (try dsimp only at hSw); go_simp; try (with_reducible rfl))
    try simp only [Act.put, List.setIfInBounds_toArray, List.set_cons_zero, List.set_cons_succ]
    refine wpAnyH_ready (rs := [61]) (by decide +kernel) (by simp) ?_
    refine AllReadyH.cons (o := _) (by simp only [List.getElem?_toArray, List.getElem?_cons_succ, List.getElem?_cons_zero]; rfl) (fun K hK => ?_) AllReadyH.nil
    go_simp
    (refine (check_ex _ _ _ (Kd.C_below Cr25 d45) lr20).mono ?_; rintro e w46 ⟨rfl, hb46⟩; have d46 := below_step d45 hb46)
    go_wp2_with fail
    refine hK.out _ _ ?_ (fun hHeld2 => ?_)
    · ((try dsimp only); (refine hS _ ?_; repeat (first | with_reducible assumption | refine below_alloc ?_ _)))
    clear hK K hHeld
    have hHeld := hHeld2
    clear hHeld2
    try simp only [Act.put, List.setIfInBounds_toArray, List.set_cons_zero, List.set_cons_succ]
    refine wpAnyH_take (i := 62) (oi := _) (v := ?_) (by simp only [List.getElem?_toArray, List.getElem?_cons_succ, List.getElem?_cons_zero]; rfl) (by decide +kernel) (by decide +kernel) (by decide +kernel) (fun _ _ _ h => h) (Or.inl ⟨by rfl, ?_⟩) (by assumption) ?_
    rotate_left
    · (intro w hSw; (try dsimp only at hSw); go_simp; try (with_reducible rfl))
    try simp only [Act.put, List.setIfInBounds_toArray, List.set_cons_zero, List.set_cons_succ]
    refine wpAnyH_take (i := 63) (oi := _) (v := ?_) (by simp only [List.getElem?_toArray, List.getElem?_cons_succ, List.getElem?_cons_zero]; rfl) (by decide +kernel) (by decide +kernel) (by decide +kernel) (fun _ _ _ h => h) (Or.inl ⟨by rfl, ?_⟩) (by assumption) ?_
    rotate_left
    · (intro w hSw; (try dsimp only at hSw); go_simp; try (with_reducible rfl))
    try simp only [Act.put, List.setIfInBounds_toArray, List.set_cons_zero, List.set_cons_succ]
    refine wpAnyH_take (i := 64) (oi := _) (v := ?_) (by simp only [List.getElem?_toArray, List.getElem?_cons_succ, List.getElem?_cons_zero]; rfl) (by decide +kernel) (by decide +kernel) (by decide +kernel) (fun _ _ _ h => h) (Or.inl ⟨by rfl, ?_⟩) (by assumption) ?_
    rotate_left
    · (intro w hSw; (try dsimp only at hSw); go_simp; try (with_reducible rfl))
    try simp only [Act.put, List.setIfInBounds_toArray, List.set_cons_zero, List.set_cons_succ]
    refine wpAnyH_take (i := 65) (oi := _) (v := ?_) (by simp only [List.getElem?_toArray, List.getElem?_cons_succ, List.getElem?_cons_zero]; rfl) (by decide +kernel) (by decide +kernel) (by decide +kernel) (fun _ _ _ h => h) (Or.inl ⟨by rfl, ?_⟩) (by assumption) ?_
    rotate_left
    · (intro w hSw; (try dsimp only at hSw); go_simp; try (with_reducible rfl))
    try simp only [Act.put, List.setIfInBounds_toArray, List.set_cons_zero, List.set_cons_succ]
    refine wpAnyH_ready (rs := [66]) (by decide +kernel) (by simp) ?_
    refine AllReadyH.cons (o := _) (by simp only [List.getElem?_toArray, List.getElem?_cons_succ, List.getElem?_cons_zero]; rfl) (fun K hK => ?_) AllReadyH.nil
    go_simp
    (refine (x_c 4 _).mono ?_; rintro e w47 ⟨rfl, hb47⟩; have d47 := below_step d46 hb47)
    go_wp2_with fail
    refine hK.out _ _ ?_ (fun hHeld2 => ?_)
    · ((try dsimp only); (refine hS _ ?_; repeat (first | with_reducible assumption | refine below_alloc ?_ _)))
    clear hK K hHeld
    have hHeld := hHeld2
    clear hHeld2
    try simp only [Act.put, List.setIfInBounds_toArray, List.set_cons_zero, List.set_cons_succ]
    refine wpAnyH_ready (rs := [67]) (by decide +kernel) (by simp) ?_
    refine AllReadyH.cons (o := _) (by simp only [List.getElem?_toArray, List.getElem?_cons_succ, List.getElem?_cons_zero]; rfl) (fun K hK => ?_) AllReadyH.nil
    go_simp
    (refine (x_c 5 _).mono ?_; rintro e w48 ⟨rfl, hb48⟩; have d48 := below_step d47 hb48)
    go_wp2_with fail
    refine hK.out _ _ ?_ (fun hHeld2 => ?_)
    · ((try dsimp only); (refine hS _ ?_; repeat (first | with_reducible assumption | refine below_alloc ?_ _)))
    clear hK K hHeld
    have hHeld := hHeld2
    clear hHeld2
    try simp only [Act.put, List.setIfInBounds_toArray, List.set_cons_zero, List.set_cons_succ]
    refine wpAnyH_ready (rs := [68]) (by decide +kernel) (by simp) ?_
    refine AllReadyH.cons (o := _) (by simp only [List.getElem?_toArray, List.getElem?_cons_succ, List.getElem?_cons_zero]; rfl) (fun K hK => ?_) AllReadyH.nil
    go_simp
    (refine (x_c 4 _).mono ?_; rintro e w49 ⟨rfl, hb49⟩; have d49 := below_step d48 hb49)
    go_wp2_with fail
    refine hK.out _ _ ?_ (fun hHeld2 => ?_)
    · ((try dsimp only); (refine hS _ ?_; repeat (first | with_reducible assumption | refine below_alloc ?_ _)))
    clear hK K hHeld
    have hHeld := hHeld2
    clear hHeld2
    try simp only [Act.put, List.setIfInBounds_toArray, List.set_cons_zero, List.set_cons_succ]
    refine wpAnyH_ready (rs := [69]) (by decide +kernel) (by simp) ?_
    refine AllReadyH.cons (o := _) (by simp only [List.getElem?_toArray, List.getElem?_cons_succ, List.getElem?_cons_zero]; rfl) (fun K hK => ?_) AllReadyH.nil
    go_simp
    refine hK.out _ _ ?_ (fun hHeld2 => ?_)
    · ((try dsimp only); (refine hS _ ?_; repeat (first | with_reducible assumption | refine below_alloc ?_ _)))
    clear hK K hHeld
    have hHeld := hHeld2
    clear hHeld2
    try simp only [Act.put, List.setIfInBounds_toArray, List.set_cons_zero, List.set_cons_succ]
    refine wpAnyH_ready (rs := [70]) (by decide +kernel) (by simp) ?_
    refine AllReadyH.cons (o := _) (by simp only [List.getElem?_toArray, List.getElem?_cons_succ, List.getElem?_cons_zero]; rfl) (fun K hK => ?_) AllReadyH.nil
    go_simp
    (refine (C_c ⟨#[102]⟩ _ _ _ _).mono ?_; rintro e w50 ⟨rfl, hb50⟩; have d50 := below_step (below_alloc d49 _) hb50; have k50 := blk_below (blk_new _ _) hb50)
    go_wp2_with fail
    refine hK.out _ _ ?_ (fun hHeld2 => ?_)
    · ((try dsimp only); (refine hS _ ?_; repeat (first | with_reducible assumption | refine below_alloc ?_ _)))
    clear hK K hHeld
    have hHeld := hHeld2
    clear hHeld2
    try simp only [Act.put, List.setIfInBounds_toArray, List.set_cons_zero, List.set_cons_succ]
    refine wpAnyH_ready (rs := [71]) (by decide +kernel) (by simp) ?_
    refine AllReadyH.cons (o := _) (by simp only [List.getElem?_toArray, List.getElem?_cons_succ, List.getElem?_cons_zero]; rfl) (fun K hK => ?_) AllReadyH.nil
    go_simp
    (refine (variant_ex _ _ _ _ (Kd.C_below Cr25 d50) lr20 k50).mono ?_; rintro e w51 ⟨rfl, hb51⟩; have d51 := below_step d50 hb51)
    go_wp2_with fail
    refine hK.out _ _ ?_ (fun hHeld2 => ?_)
    · ((try dsimp only); (refine hS _ ?_; repeat (first | with_reducible assumption | refine below_alloc ?_ _)))
    clear hK K hHeld
    have hHeld := hHeld2
    clear hHeld2
    try simp only [Act.put, List.setIfInBounds_toArray, List.set_cons_zero, List.set_cons_succ]
    refine wpAnyH_take (i := 72) (oi := _) (v := ?_) (by simp only [List.getElem?_toArray, List.getElem?_cons_succ, List.getElem?_cons_zero]; rfl) (by decide +kernel) (by decide +kernel) (by decide +kernel) (fun _ _ _ h => h) (Or.inl ⟨by rfl, ?_⟩) (by assumption) ?_
    rotate_left
    · (intro w hSw; (try dsimp only at hSw); go_simp; try (with_reducible rfl))
    try simp only [Act.put, List.setIfInBounds_toArray, List.set_cons_zero, List.set_cons_succ]
    refine wpAnyH_take (i := 73) (oi := _) (v := ?_) (by simp only [List.getElem?_toArray, List.getElem?_cons_succ, List.getElem?_cons_zero]; rfl) (by decide +kernel) (by decide +kernel) (by decide +kernel) (fun _ _ _ h => h) (Or.inl ⟨by rfl, ?_⟩) (by assumption) ?_
    rotate_left
    · (intro w hSw; (try dsimp only at hSw); go_simp; try (with_reducible rfl))
    try simp only [Act.put, List.setIfInBounds_toArray, List.set_cons_zero]
    refine wpAnyH_done (by decide +kernel) ?_ _
    refine NoPanic.normal ?_
    go_wp2
    go_ret
    exact ⟨rfl, below_step Bw25 d51⟩
  exact AllReadyH.nil

end Go.Proofs.Ytpnkaggkedepeaa
