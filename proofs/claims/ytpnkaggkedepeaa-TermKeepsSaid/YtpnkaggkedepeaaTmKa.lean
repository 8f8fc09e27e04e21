/- What Apply, Rename, List, Items and Solve answer is new memory. -/
import Derived.Test.YtpnkaggkedepeaaTmSq
import Derived.Test.YtpnkaggkedepeaaTmSv
import Derived.Test.YtpnkaggkedepeaaTmQf
namespace Go.Proofs.Ytpnkaggkedepeaa
set_option linter.unusedVariables false
open Go.RowKit Go.Maps Go.Proofs.YtpnkaggkedepeaaW.PrintWords Go.Proofs.YtpnkaggkedepeaaW.PrintLast Go.Proofs.YtpnkaggkedepeaaW.PrintMore Go.Proofs.Ytpnkaggkedepeaa.PTermTells Go.Extern

/-- A row of terms whose rows are all of blocks between two numbers. -/
def MadeIn (lo hi : Nat) (W : World) (v : Value) : Prop := ∃ xs : List S24, Kd.R k24 24 W lo (fun k => lo ≤ k ∧ k < hi) v xs
def MadeB (lo hi : Nat) (W : World) (v : Value) : Prop := ∃ xs : List S50, Kd.R k50 50 W lo (fun k => lo ≤ k ∧ k < hi) v xs
theorem MadeIn.of {W W' : World} {v : Value} {xs : List S24} (h : Kd.R k24 24 W' W.heap.size (fun _ => True) v xs) : MadeIn W.heap.size W'.heap.size W' v := ⟨xs, Kd.R_mono (Kd.R_bound h) fun k hk => ⟨hk.2.1, hk.2.2.1⟩⟩
theorem MadeB.of {W W' : World} {v : Value} {xs : List S50} (h : Kd.R k50 50 W' W.heap.size (fun _ => True) v xs) : MadeB W.heap.size W'.heap.size W' v := ⟨xs, Kd.R_mono (Kd.R_bound h) fun k hk => ⟨hk.2.1, hk.2.2.1⟩⟩
theorem MadeIn.below {lo hi : Nat} {W W' : World} {v : Value} (h : MadeIn lo hi W v) (hb : Below W.heap.size W W') : MadeIn lo hi W' v := by
  obtain ⟨xs, h⟩ := h
  exact ⟨xs, Kd.R_below h hb⟩
theorem MadeB.below {lo hi : Nat} {W W' : World} {v : Value} (h : MadeB lo hi W v) (hb : Below W.heap.size W W') : MadeB lo hi W' v := by
  obtain ⟨xs, h⟩ := h
  exact ⟨xs, Kd.R_below h hb⟩
theorem MadeIn.sp {lo hi : Nat} {W : World} {v : Value} {P : Nat → Prop} (h : MadeIn lo hi W v) (hP : ∀ k, lo ≤ k → k < hi → (∃ cells, W.heap[k]? = some (.cells cells 24 (0, 0))) → P k) : ∃ n, Sp P W n v := by
  obtain ⟨xs, h⟩ := h
  exact sp_row h fun k hk => hP k hk.1 hk.2
theorem MadeB.sp {lo hi : Nat} {W : World} {P : Nat → Prop} {A : Option Addr} {m c : Nat} (h : MadeB lo hi W (.slice A m c)) (hP : ∀ k, lo ≤ k → k < hi → (∃ cells, W.heap[k]? = some (.cells cells 24 (0, 0))) → P k) :
    m ≤ maxLen ∧ ∃ n, ∀ i, i < m → ∃ (g : Nat) (cur : Array Value) (q a b : Int) (s : ByteArray) (u : Value), A = some ⟨g, 0, none⟩ ∧ W.heap[g]? = some (.cells cur 50 (0, 0)) ∧ cur[i * 5]? = some (.int .i64 q) ∧ cur[i * 5 + 1]? = some (.int .i64 a) ∧ cur[i * 5 + 2]? = some (.string s) ∧ cur[i * 5 + 3]? = some (.int .i64 b) ∧ cur[i * 5 + 4]? = some u ∧ Sp P W n u := by
  obtain ⟨xs, h⟩ := h
  rcases sp_binds (P := P) h (fun k hk => hP k hk.1 hk.2) with e | ⟨g, cap, cur, e, hg, hcap, hm, n, hel⟩
  · simp only [Value.slice.injEq] at e
    obtain ⟨rfl, rfl, rfl⟩ := e
    exact ⟨Nat.zero_le _, 0, fun i hi => absurd hi (Nat.not_lt_zero _)⟩
  · simp only [Value.slice.injEq] at e
    obtain ⟨rfl, rfl, rfl⟩ := e
    refine ⟨hm, n, fun i hi => ?_⟩
    obtain ⟨q, a, b, s, u, h⟩ := hel i hi
    exact ⟨g, cur, q, a, b, s, u, rfl, hg, h⟩

theorem Sp.slice {P : Nat → Prop} {W : World} {n : Nat} {v : Value} (h : Sp P W n v) : ∃ A m c, v = .slice A m c := by
  cases h
  · exact ⟨_, _, _, rfl⟩
  · exact ⟨_, _, _, rfl⟩

section
variable {w0 W : World} {t : S24} {A : Option Addr} {c : Nat}
theorem apply_nil_made (h : Lies w0 t A c) (hB : Below w0.heap.size w0 W) :
    Calls Try.prog 33 #[.agg #[.int .i64 t.f0, .string t.f1, .int .i64 t.f2, .slice A t.f3.length c], .slice none 0 0] W fun e w' => ∃ (q r er : Int) (s : ByteArray) (A1 : Option Addr) (n1 c1 : Nat),
      e = .returned (.tuple #[.agg #[.int .i64 q, .string s, .int .i64 r, .slice A1 n1 c1], .int .i64 er]) ∧ MadeIn W.heap.size w'.heap.size w' (.slice A1 n1 c1) ∧ Below W.heap.size W w' :=
  (apply_any t [] W A none c 0 (h.at hB).C h.le h.wf (Kd.C_nil _ _) (fun b hb => by cases hb)).mono fun e w' ⟨v, a, r, b⟩ => by
    have m := MadeIn.of r
    obtain ⟨A1, c1, rfl, h1, h2⟩ := Kd.R_reads r
    exact ⟨_, _, _, _, A1, _, c1, a, m, b⟩
theorem rename_made (h : Lies w0 t A c) (hB : Below w0.heap.size w0 W) {n : Int} (hn : I64 n) :
    Calls Try.prog 28 #[.agg #[.int .i64 t.f0, .string t.f1, .int .i64 t.f2, .slice A t.f3.length c], .int .i64 n] W fun e w' => ∃ (A1 : Option Addr) (c1 : Nat),
      e = .returned (.tuple #[.agg #[.int .i64 (renT t n).1.f0, .string (renT t n).1.f1, .int .i64 (renT t n).1.f2, .slice A1 (renT t n).1.f3.length c1], .int .i64 (renT t n).2.1, .int .i64 (renT t n).2.2]) ∧ Lies w' (renT t n).1 A1 c1 ∧
        Kd.R k24 24 w' W.heap.size (fun _ => True) (.slice A1 (renT t n).1.f3.length c1) (renT t n).1.f3 ∧ Below W.heap.size W w' :=
  (rename_any t n W A c (h.at hB).C h.le h.wf hn).mono fun e w' ⟨v, a, r, b⟩ => by
    obtain ⟨A1, c1, rfl, h1, h2⟩ := Kd.R_reads r
    exact ⟨A1, c1, a, ⟨h2, h1, wfT_ren h.wf hn⟩, r, b⟩
theorem listA_err (ts : List S24) (u : S24) : (listA ts u).2 = 0 ∨ (listA ts u).2 = 70 := by
  unfold listA
  split
  · exact .inr rfl
  · split
    · exact .inr rfl
    · exact .inl rfl
theorem list_made (h : Lies W t A c) {g : Nat} (hg : W.heap[g]? = some (.cells #[.int .i64 t.f0, .string t.f1, .int .i64 t.f2, .slice A t.f3.length c, .int .i64 t.f0, .string t.f1, .int .i64 t.f2, .slice A t.f3.length c] 24 (0, 0))) :
    Calls Try.prog 29 #[.slice (some ⟨g, 0, none⟩) 2 2, .agg #[.int .i64 t.f0, .string t.f1, .int .i64 t.f2, .slice A t.f3.length c]] W fun e w' => ∃ (l : S24) (er : Int) (A1 : Option Addr) (c1 : Nat),
      e = .returned (.tuple #[.agg #[.int .i64 l.f0, .string l.f1, .int .i64 l.f2, .slice A1 l.f3.length c1], .int .i64 er]) ∧ (er = 0 ∨ er = 70) ∧ Lies w' l A1 c1 ∧ MadeIn W.heap.size w'.heap.size w' (.slice A1 l.f3.length c1) ∧ Below W.heap.size W w' := by
  have C2 := C_two hg h.le h.C h.le h.C
  have hw : ∀ x ∈ [t, t], wfT x := fun x hx => by
    rcases List.mem_cons.1 hx with rfl | hx
    · exact h.wf
    · rw [List.mem_singleton.1 hx]; exact h.wf
  refine (list_any [t, t] t W (some ⟨g, 0, none⟩) 2 C2 hw A c h).mono fun e w' ⟨v, a, r, b⟩ => ?_
  have m := MadeIn.of r
  obtain ⟨A1, c1, rfl, h1, h2⟩ := Kd.R_reads r
  exact ⟨_, _, A1, c1, a, listA_err _ _, ⟨h2, h1, wf_listA hw h.wf⟩, m, b⟩
theorem items_made (h : Lies W t A c) :
    Calls Try.prog 30 #[.agg #[.int .i64 t.f0, .string t.f1, .int .i64 t.f2, .slice A t.f3.length c]] W fun e w' => ∃ (A1 : Option Addr) (n1 c1 : Nat) (q r : Int) (s : ByteArray) (A2 : Option Addr) (n2 c2 : Nat),
      e = .returned (.tuple #[.slice A1 n1 c1, .agg #[.int .i64 q, .string s, .int .i64 r, .slice A2 n2 c2]]) ∧ MadeIn W.heap.size w'.heap.size w' (.slice A1 n1 c1) ∧ MadeIn W.heap.size w'.heap.size w' (.slice A2 n2 c2) ∧ Below W.heap.size W w' :=
  (items_any t W A c h.C h.le h.wf).mono fun e w' ⟨v, u, a, r1, r2, b⟩ => by
    have m1 := MadeIn.of r1
    have m2 := MadeIn.of r2
    obtain ⟨A1, c1, rfl, h1, h2⟩ := Kd.R_reads r1
    obtain ⟨A2, c2, rfl, h3, h4⟩ := Kd.R_reads r2
    exact ⟨A1, _, c1, _, _, _, A2, _, c2, a, m1, m2, b⟩
theorem solve_made (h : Lies w0 t A c) (hB : Below w0.heap.size w0 W) (ho : okT t = true) {A' : Option Addr} {c' : Nat} (k : Lies W ⟨1, ⟨#[]⟩, 1099511627776, []⟩ A' c') :
    Calls Try.prog 31 #[.agg #[.int .i64 t.f0, .string t.f1, .int .i64 t.f2, .slice A t.f3.length c], .agg #[.int .i64 1, .string ⟨#[]⟩, .int .i64 1099511627776, .slice A' 0 c']] W fun e w' => ∃ (A1 : Option Addr) (n1 c1 : Nat) (b : Bool) (er : Int),
      e = .returned (.tuple #[.slice A1 n1 c1, .bool b, .int .i64 er]) ∧ MadeB W.heap.size w'.heap.size w' (.slice A1 n1 c1) ∧ Below W.heap.size W w' := by
  obtain ⟨W3, k3, F3, res, hres⟩ := solve_var ho h.wf (n := 1099511627776) (by decide) (by unfold I64; omega)
  refine (solve_of W3 2002 k3 F3 t ⟨1, ⟨#[]⟩, 1099511627776, []⟩ res hres (by decide) W A A' c c' (h.at hB) k).mono fun e w' ⟨v, a, r, b⟩ => ?_
  have m := MadeB.of r
  obtain ⟨A1, c1, rfl, h1, h2⟩ := Kd.R_reads r
  exact ⟨A1, _, c1, _, _, a, m, b⟩
theorem v_made (W : World) : Calls Try.prog 44 #[.int .i64 1099511627776] W fun e w' => ∃ (A1 : Option Addr) (c1 : Nat), e = .returned (.agg #[.int .i64 1, .string ⟨#[]⟩, .int .i64 1099511627776, .slice A1 0 c1]) ∧ Lies w' ⟨1, ⟨#[]⟩, 1099511627776, []⟩ A1 c1 ∧ Below W.heap.size W w' :=
  (pythiaref07_V.calls 1099511627776 _ _ _ _ W rfl).mono fun e w' ⟨v, a, r, b⟩ => by
    obtain ⟨A1, c1, rfl, h1, h2⟩ := Kd.R_reads r
    exact ⟨A1, c1, a, ⟨h2, h1, by rw [wfT, wfL]; exact ⟨by unfold I64; omega, trivial⟩⟩, b⟩
end
end Go.Proofs.Ytpnkaggkedepeaa
