/- The walk of TermLeast. -/
import Derived.Test.YtpnkaggkedepeaaTmPl
import Derived.Test.YtpnkaggkedepeaaTmPo
import Derived.Deep.RegionHeld3
namespace Go.Proofs.Ytpnkaggkedepeaa
set_option linter.unusedVariables false
open Go.RowKit Go.Maps Go.Proofs.YtpnkaggkedepeaaW.PrintWords Go.Proofs.YtpnkaggkedepeaaW.PrintLast Go.Proofs.YtpnkaggkedepeaaW.PrintMore Go.Proofs.Ytpnkaggkedepeaa.PTermTells Go.Extern

theorem apply_err (t : S24) (bs : List S50) : (applyT t bs).2 = 0 ∨ (applyT t bs).2 = 70 ∨ (applyT t bs).2 = 2 := by
  unfold applyT
  split
  · exact .inr (.inl rfl)
  · cases apL (varsT t []) bs [] with
    | none => exact .inr (.inl rfl)
    | some L =>
      simp only
      split
      · exact .inl rfl
      · exact .inr (.inr rfl)
theorem outAt_belowB {B : Nat} {v : Value} {xs : List Int} {w w' : World} (h : OutAt w B v xs) (hb : Below w.heap.size w w') : OutAt w' B v xs := ownsRow_belowB h hb
theorem outAt_readsInt {W : World} {base c n : Nat} {A : Option Addr} {xs : List Int} (h : OutAt W base (.slice A n c) xs) (hn : xs.length = n) : ReadsInt W .i64 A n xs := by
  subst hn
  exact own_reads' (base := base) (e := 2) (c := c) h
theorem varsO_at {w0 W : World} {t : S24} {A : Option Addr} {c : Nat} (h : Lies w0 t A c) (hB : Below w0.heap.size w0 W) :
    Calls Try.prog 18 #[.agg #[.int .i64 t.f0, .string t.f1, .int .i64 t.f2, .slice A t.f3.length c]] W fun e w' => ∃ A' c', e = .returned (.slice A' (varsOf t).length c') ∧ OutAt w' w0.heap.size (.slice A' (varsOf t).length c') (varsOf t) ∧ Below W.heap.size W w' ∧ Below w0.heap.size w0 w' :=
  (vars_of t W A c (h.at hB).C h.le).mono fun e w' ⟨v, a, o, b⟩ => by
    obtain ⟨A', c', rfl, h1, h2⟩ := o.reads
    exact ⟨A', c', a, own_weaken o hB.size, b, below_step hB b⟩
theorem varsOf_len (t : S24) : (varsOf t).length ≤ 2000 := by
  unfold varsOf
  split
  · rename_i h
    have h1 := varsT_len t []
    have h2 := nodes_ok h
    simp only [List.length_nil] at h1
    omega
  · simp
section
variable {P : Program} {ops : Array Oper} {o : Oper} {a : Act} {Q : Exit → Act → World → Prop} {K : Act → World → Prop}
theorem step_append_row {w0 W : World} (base : Nat) (hw : Region.wanted o (yielded ops a.tmps) = true) (s x : Operand) (t e : TypeId) (k : IntKind) (bytes : Nat)
    (ho : o.op = .call { callee := .builtin .append, args := #[s, x], argTypes := #[t, t] })
    (ht : P.underlying t = some (.slice e)) (hinfo : (P.info? e).map (fun i => (i.zero, i.size, i.bytes)) = some (some (.int k 0), 1, bytes)) (hb0 : 0 < bytes)
    (v : Value) (xs ys : List Int) (A : Option Addr) (m c : Nat) (hs : a.eval s = v) (hx : a.eval x = .slice A m c)
    (HO : W.ownsRow base e 1 v xs.length (nums k xs)) (HR : ReadsInt W k A m ys) (HB : Below base w0 W) (hbase : base ≤ W.heap.size) (hl : (xs.length + m) * bytes ≤ 140737488355328)
    (h : ∀ v1 w1, w1.ownsRow base e 1 v1 (xs ++ ys).length (nums k (xs ++ ys)) → Below base w0 w1 → W.grownBy w1 v.ownBlock → (v1.ownBlock = v.ownBlock ∨ ∃ b, v1.ownBlock = some b ∧ W.heap.size ≤ b) → K (a.put o.dst v1) w1) :
    if Region.wanted o (yielded ops a.tmps) = true then Oper.wp P o a W K Q else K (a.put o.dst undef) W := by
  obtain ⟨i0, hi, hzz⟩ := Option.map_eq_some_iff.1 hinfo
  simp only [Prod.mk.injEq] at hzz
  obtain ⟨hz0, hz1, hz2⟩ := hzz
  have hm : ys.length = m := HR.1
  have hlen : xs.length + m ≤ 140737488355328 := Nat.le_trans (Nat.le_mul_of_pos_right _ hb0) hl
  have hrun : ∃ v1 w1, (Builtin.append_ #[t, t] o.type #[v, .slice A m c]).run P W = .ok v1 w1 ∧ w1.ownsRow base e 1 v1 (xs ++ ys).length (nums k (xs ++ ys)) ∧ W.grownBy w1 v.ownBlock ∧ (v1.ownBlock = v.ownBlock ∨ v1.ownBlock = some W.heap.size) := by
    rcases A with _ | ad
    · have h0 : m = 0 := by
        rcases Nat.eq_zero_or_pos m with h0 | h0
        · exact h0
        · obtain ⟨ad, h, _⟩ := HR.2.2 h0
          cases h
      subst h0
      obtain rfl : ys = [] := List.eq_nil_of_length_eq_zero hm
      refine ⟨v, W, ?_, by simpa using HO, World.grownBy.refl W _, .inl rfl⟩
      rcases HO.2 with ⟨rfl, hn⟩ | ⟨g, cap, cur, rfl, _, _, hnc, _⟩
      · simp [Builtin.append_, run_underlying ht, sizeOf, typeInfo, hi, Builtin.lenOf, Builtin.firstCells]
      · simp [Builtin.append_, run_underlying ht, sizeOf, typeInfo, hi, Builtin.lenOf, Builtin.firstCells, hnc, storeCells]
    · have hcells : ∀ j u, (nums k ys)[j]? = some u → W.cell? (ad.add j) = some u := by
        intro j u hu
        have hj : j < ys.length := by
          rcases Nat.lt_or_ge j ys.length with h | h
          · exact h
          · simp [nums, List.getElem?_eq_none h] at hu
        obtain ⟨ad', h', hc⟩ := HR.2.2 (by omega)
        injection h' with h'
        subst h'
        have := hc j (by omega)
        simp [nums, List.getElem?_eq_getElem hj] at hu
        subst hu
        rw [this]
        simp [List.getD_eq_getElem?_getD, List.getElem?_eq_getElem hj]
      obtain ⟨v1, w1, hr, h2, h3, _, h5⟩ := run_append_own_at (P := P) W base t o.type e i0 (.int k 0) 1 bytes ht hi hz0 hz1 hz2 rfl (by omega) v xs.length (nums k xs) HO ad m c (nums k ys) (by simp [nums, hm]) hcells
        (by intro u hu; simp only [nums, List.mem_map] at hu; obtain ⟨q, _, rfl⟩ := hu; rfl) (by simp only [maxLen]; omega) hl hbase
      exact ⟨v1, w1, hr, by simpa [nums, hm] using h2, h3, h5⟩
  obtain ⟨v1, w1, hr, hown, hg, hat⟩ := hrun
  rw [if_pos hw]
  unfold Oper.wp execOp
  simp only [ho, resolve, invoke, builtin, Sem.run_bind, Sem.run_pure, Result.andThen_ok, List.map_toArray, List.map_cons, List.map_nil, hs, hx, hr]
  refine h v1 w1 hown (HB.grown hg hbase (own_base HO)) hg ?_
  rcases hat with hat | hat
  · exact .inl hat
  · exact .inr ⟨_, hat, Nat.le_refl _⟩
end

set_option maxHeartbeats 8000000 in
set_option maxRecDepth 100000 in
theorem least_law (hal : Alive) (a b : S24) (bs : List S50) (w : World) (A B E : Option Addr) (ca cb ce : Nat) (la : Lies w a A ca) (lb : Lies w b B cb) (hE : Kd.C k50 w E bs.length bs) (hwb : ∀ x ∈ bs, I64 x.f0 ∧ wfT x.f1) :
    Calls Try.prog 8 #[.agg #[.int .i64 a.f0, .string a.f1, .int .i64 a.f2, .slice A a.f3.length ca], .agg #[.int .i64 b.f0, .string b.f1, .int .i64 b.f2, .slice B b.f3.length cb], .slice E bs.length ce] w fun e w' => e = .returned (.bool true) ∧ Below w.heap.size w w' := by
  have HAL := Lib.hid hal
  have hB0 := below_alloc (below_alloc (Below.refl w.heap.size w) (.cells #[.int .i64 a.f0, .string a.f1, .int .i64 a.f2, .slice A a.f3.length ca] 24)) (.cells #[.int .i64 b.f0, .string b.f1, .int .i64 b.f2, .slice B b.f3.length cb] 24)
  have kA := blk_alloc (blk_new w (.cells #[.int .i64 a.f0, .string a.f1, .int .i64 a.f2, .slice A a.f3.length ca] 24)) (.cells #[.int .i64 b.f0, .string b.f1, .int .i64 b.f2, .slice B b.f3.length cb] 24)
  have kB := blk_new (w.alloc (.cells #[.int .i64 a.f0, .string a.f1, .int .i64 a.f2, .slice A a.f3.length ca] 24)) (.cells #[.int .i64 b.f0, .string b.f1, .int .i64 b.f2, .slice B b.f3.length cb] 24)
  rw [World.size_alloc] at kB
  have LA := la.at hB0
  have LB := lb.at hB0
  have CE := Kd.C_below hE hB0
  have HWB := Lib.hid hwb
  clear hal la lb hE hwb
  go_enter Try.func8, Try.ntmps8
  go_wp2_with fail
  refine (HAL.out _).mono ?_
  rintro e w1 ⟨rfl, hb1⟩
  have hBw := below_step hB0 hb1
  replace kA := blk_below kA hb1
  replace kB := blk_below kB hb1
  replace LA := LA.at hb1
  replace LB := LB.at hb1
  replace CE := Kd.C_below CE hb1
  clear hb1 hB0 HAL
  generalize w.heap.size + 1 = gb at kB ⊢
  have HS := Lib.hid (show ∀ W, Below w1.heap.size w1 W → W.cell? ⟨w.heap.size, 0, none⟩ = some (.int .i64 a.f0) ∧ W.cell? ⟨w.heap.size, 1, none⟩ = some (.string a.f1) ∧ W.cell? ⟨w.heap.size, 2, none⟩ = some (.int .i64 a.f2) ∧ W.cell? ⟨w.heap.size, 3, none⟩ = some (.slice A a.f3.length ca) ∧ W.cell? ⟨gb, 0, none⟩ = some (.int .i64 b.f0) ∧ W.cell? ⟨gb, 1, none⟩ = some (.string b.f1) ∧ W.cell? ⟨gb, 2, none⟩ = some (.int .i64 b.f2) ∧ W.cell? ⟨gb, 3, none⟩ = some (.slice B b.f3.length cb) from fun W hW => by
    have k0 := blk_below kA hW
    have k1 := blk_below kB hW
    exact ⟨blk_cell k0 0, blk_cell k0 1, blk_cell k0 2, blk_cell k0 3, blk_cell k1 0, blk_cell k1 1, blk_cell k1 2, blk_cell k1 3⟩)
  have KA := Lib.hid kA
  have KB := Lib.hid kB
  clear kA kB
  have hB := Below.refl w1.heap.size w1
  obtain ⟨x, e1, hx⟩ : ∃ x e1, applyT a bs = (x, e1) := ⟨_, _, rfl⟩
  obtain ⟨y, e2, hy⟩ : ∃ y e2, applyT b bs = (y, e2) := ⟨_, _, rfl⟩
  have hq1 : e1 = 0 ∨ e1 = 70 ∨ e1 = 2 := by have := apply_err a bs; rw [hx] at this; exact this
  have hq2 : e2 = 0 ∨ e2 = 70 ∨ e2 = 2 := by have := apply_err b bs; rw [hy] at this; exact this
  have HX := Lib.hid hx
  have HY := Lib.hid hy
  clear hx hy
  obtain ⟨p0, p1, p2, p3, p4, p5, p6, p7⟩ := HS.out _ hB
  have hcall := apply_at LA bs (cb := ce) CE HWB.out hB
  rw [HX.out] at hcall
  dsimp only at hcall
  clear hB
  go_wp2_with fail
  refine hcall.mono ?_
  rintro e w2 ⟨X, cx, rfl, LX, hB2⟩
  clear hcall p0 p1 p2 p3 p4 p5 p6 p7
  go_upto_region 4 with (fail)
  have kX := blk_new w2 (.cells #[.int .i64 x.f0, .string x.f1, .int .i64 x.f2, .slice X x.f3.length cx] 24)
  have bb := below_alloc (Below.refl w2.heap.size w2) (.cells #[.int .i64 x.f0, .string x.f1, .int .i64 x.f2, .slice X x.f3.length cx] 24)
  replace LX := LX.at bb
  replace hB2 := below_step hB2 bb
  generalize w2.alloc (.cells #[.int .i64 x.f0, .string x.f1, .int .i64 x.f2, .slice X x.f3.length cx] 24) = w3 at kX LX hB2 bb ⊢
  clear bb
  generalize w2.heap.size = gx at kX ⊢
  have KX := Lib.hid kX
  clear kX
  have hB3 := Below.refl w3.heap.size w3
  obtain ⟨p0, p1, p2, p3, p4, p5, p6, p7⟩ := HS.out _ hB2
  have hcall := apply_at (LB.at hB2) bs (cb := ce) (Kd.C_below CE hB2) HWB.out hB3
  rw [HY.out] at hcall
  dsimp only at hcall
  go_wp2_with fail
  refine hcall.mono ?_
  rintro e w4 ⟨Y, cy, rfl, LY, hB4⟩
  clear hcall hB3 p0 p1 p2 p3 p4 p5 p6 p7
  go_upto_region 5 with (fail)
  have kY := blk_new w4 (.cells #[.int .i64 y.f0, .string y.f1, .int .i64 y.f2, .slice Y y.f3.length cy] 24)
  have bb := below_alloc (Below.refl w4.heap.size w4) (.cells #[.int .i64 y.f0, .string y.f1, .int .i64 y.f2, .slice Y y.f3.length cy] 24)
  replace LY := LY.at bb
  replace hB4 := below_step hB4 bb
  have kX := blk_below KX.out hB4
  have hB5 := below_step hB2 hB4
  have kA := blk_below KA.out hB5
  have kB := blk_below KB.out hB5
  replace LX := LX.at hB4
  replace LA := LA.at hB5
  replace LB := LB.at hB5
  replace CE := Kd.C_below CE hB5
  replace hBw := below_step hBw hB5
  generalize w4.alloc (.cells #[.int .i64 y.f0, .string y.f1, .int .i64 y.f2, .slice Y y.f3.length cy] 24) = w5 at kA kB kX kY LA LB LX LY CE hBw ⊢
  clear bb hB2 hB4 hB5 KX KA KB HS
  generalize w4.heap.size = gy at kY ⊢
  have HS := Lib.hid (show ∀ W, Below w5.heap.size w5 W → W.cell? ⟨w.heap.size, 0, none⟩ = some (.int .i64 a.f0) ∧ W.cell? ⟨w.heap.size, 1, none⟩ = some (.string a.f1) ∧ W.cell? ⟨w.heap.size, 2, none⟩ = some (.int .i64 a.f2) ∧ W.cell? ⟨w.heap.size, 3, none⟩ = some (.slice A a.f3.length ca) ∧ W.cell? ⟨gb, 0, none⟩ = some (.int .i64 b.f0) ∧ W.cell? ⟨gb, 1, none⟩ = some (.string b.f1) ∧ W.cell? ⟨gb, 2, none⟩ = some (.int .i64 b.f2) ∧ W.cell? ⟨gb, 3, none⟩ = some (.slice B b.f3.length cb) ∧ W.cell? ⟨gx, 0, none⟩ = some (.int .i64 x.f0) ∧ W.cell? ⟨gx, 1, none⟩ = some (.string x.f1) ∧ W.cell? ⟨gx, 2, none⟩ = some (.int .i64 x.f2) ∧ W.cell? ⟨gx, 3, none⟩ = some (.slice X x.f3.length cx) ∧ W.cell? ⟨gy, 0, none⟩ = some (.int .i64 y.f0) ∧ W.cell? ⟨gy, 1, none⟩ = some (.string y.f1) ∧ W.cell? ⟨gy, 2, none⟩ = some (.int .i64 y.f2) ∧ W.cell? ⟨gy, 3, none⟩ = some (.slice Y y.f3.length cy) from fun W hW => by
    have k1 := blk_below kA hW
    have k2 := blk_below kB hW
    have k3 := blk_below kX hW
    have k4 := blk_below kY hW
    exact ⟨blk_cell k1 0, blk_cell k1 1, blk_cell k1 2, blk_cell k1 3, blk_cell k2 0, blk_cell k2 1, blk_cell k2 2, blk_cell k2 3, blk_cell k3 0, blk_cell k3 1, blk_cell k3 2, blk_cell k3 3, blk_cell k4 0, blk_cell k4 1, blk_cell k4 2, blk_cell k4 3⟩)
  clear kA kB kX kY
  rcases hq1 with rfl | hq1
  rotate_left
  · rcases hq1 with rfl | rfl
    · go_wp2
      go_ret
      exact ⟨rfl, hBw⟩
    · go_wp2
      go_ret
      exact ⟨rfl, hBw⟩
  rcases hq2 with rfl | hq2
  rotate_left
  · rcases hq2 with rfl | rfl
    · go_wp2
      go_ret
      exact ⟨rfl, hBw⟩
    · go_wp2
      go_ret
      exact ⟨rfl, hBw⟩
  have hB5 := Below.refl w5.heap.size w5
  obtain ⟨p0, p1, p2, p3, p4, p5, p6, p7, p8, p9, p10, p11, p12, p13, p14, p15⟩ := HS.out _ hB5
  have hcall := same_at LX LY hB5
  obtain ⟨d, hd⟩ : ∃ d, (okT x && okT y && decide (ordT x y = 0)) = d := ⟨_, rfl⟩
  rw [hd] at hcall
  have HD := Lib.hid hd
  clear hd hB5
  go_wp2_with fail
  refine hcall.mono ?_
  rintro e w6 ⟨rfl, hB6⟩
  clear hcall p0 p1 p2 p3 p4 p5 p6 p7 p8 p9 p10 p11 p12 p13 p14 p15
  cases d with
  | false =>
    go_wp2
    go_ret
    exact ⟨rfl, below_step hBw hB6⟩
  | true =>
  have hs0 : ordT x y = 0 := by
    have := HD.out
    simp only [Bool.and_eq_true, decide_eq_true_eq] at this
    exact this.2
  have HOX := Lib.hid (show okT x = true by
    have := HD.out
    simp only [Bool.and_eq_true, decide_eq_true_eq] at this
    exact this.1.1)
  have HL := Lib.hid (least_plain LA.wf LB.wf (fun c hc => (HWB.out c hc).2) HX.out HY.out hs0)
  clear hs0 HD HX HY
  replace LA := LA.at hB6
  replace LB := LB.at hB6
  replace LX := LX.at hB6
  replace CE := Kd.C_below CE hB6
  replace hBw := below_step hBw hB6
  have HT := Lib.hid (show ∀ W, Below w6.heap.size w6 W → W.cell? ⟨w.heap.size, 0, none⟩ = some (.int .i64 a.f0) ∧ W.cell? ⟨w.heap.size, 1, none⟩ = some (.string a.f1) ∧ W.cell? ⟨w.heap.size, 2, none⟩ = some (.int .i64 a.f2) ∧ W.cell? ⟨w.heap.size, 3, none⟩ = some (.slice A a.f3.length ca) ∧ W.cell? ⟨gb, 0, none⟩ = some (.int .i64 b.f0) ∧ W.cell? ⟨gb, 1, none⟩ = some (.string b.f1) ∧ W.cell? ⟨gb, 2, none⟩ = some (.int .i64 b.f2) ∧ W.cell? ⟨gb, 3, none⟩ = some (.slice B b.f3.length cb) ∧ W.cell? ⟨gx, 0, none⟩ = some (.int .i64 x.f0) ∧ W.cell? ⟨gx, 1, none⟩ = some (.string x.f1) ∧ W.cell? ⟨gx, 2, none⟩ = some (.int .i64 x.f2) ∧ W.cell? ⟨gx, 3, none⟩ = some (.slice X x.f3.length cx) from fun W hW => by
    obtain ⟨p0, p1, p2, p3, p4, p5, p6, p7, p8, p9, p10, p11, p12, p13, p14, p15⟩ := HS.out _ (below_step hB6 hW)
    exact ⟨p0, p1, p2, p3, p4, p5, p6, p7, p8, p9, p10, p11⟩)
  clear HS LY hB6
  go_upto_region 7 with (fail)
  have la := varsOf_len a
  have lb := varsOf_len b
  have lx := varsOf_len x
  obtain ⟨va, hva⟩ : ∃ va, va = varsOf a := ⟨_, rfl⟩
  obtain ⟨vb, hvb⟩ : ∃ vb, vb = varsOf b := ⟨_, rfl⟩
  obtain ⟨vx, hvx⟩ : ∃ vx, vx = varsOf x := ⟨_, rfl⟩
  rw [← hva] at la
  rw [← hvb] at lb
  rw [← hvx] at lx
  have HVA := Lib.hid hva
  have HVB := Lib.hid hvb
  have HVX := Lib.hid hvx
  clear hva hvb hvx
  have cva : ∀ W, Below w6.heap.size w6 W → Calls Try.prog 18 #[.agg #[.int .i64 a.f0, .string a.f1, .int .i64 a.f2, .slice A a.f3.length ca]] W fun e w' => ∃ A' c', e = .returned (.slice A' va.length c') ∧ OutAt w' w6.heap.size (.slice A' va.length c') va ∧ Below W.heap.size W w' ∧ Below w6.heap.size w6 w' := fun W hW => by
    have := varsO_at LA hW; rw [← HVA.out] at this; exact this
  have cvb : ∀ W, Below w6.heap.size w6 W → Calls Try.prog 18 #[.agg #[.int .i64 b.f0, .string b.f1, .int .i64 b.f2, .slice B b.f3.length cb]] W fun e w' => ∃ A' c', e = .returned (.slice A' vb.length c') ∧ OutAt w' w6.heap.size (.slice A' vb.length c') vb ∧ Below W.heap.size W w' ∧ Below w6.heap.size w6 w' := fun W hW => by
    have := varsO_at LB hW; rw [← HVB.out] at this; exact this
  have d0 : Below w6.heap.size w6 w6.drew := (Below.refl _ w6).drew
  go_cut [11] from 29 to 60 (fun s wx => ∃ (Av : Option Addr) (cv : Nat), s = .slice Av (va ++ vb).length cv ∧ OutAt wx w6.heap.size (.slice Av (va ++ vb).length cv) (va ++ vb) ∧ Below w6.heap.size w6 wx)
  case first =>
    go_region_held3 (fun W : World => W.cell? ⟨w.heap.size, 0, none⟩ = some (.int .i64 a.f0) ∧ W.cell? ⟨w.heap.size, 1, none⟩ = some (.string a.f1) ∧ W.cell? ⟨w.heap.size, 2, none⟩ = some (.int .i64 a.f2) ∧ W.cell? ⟨w.heap.size, 3, none⟩ = some (.slice A a.f3.length ca) ∧ W.cell? ⟨gb, 0, none⟩ = some (.int .i64 b.f0) ∧ W.cell? ⟨gb, 1, none⟩ = some (.string b.f1) ∧ W.cell? ⟨gb, 2, none⟩ = some (.int .i64 b.f2) ∧ W.cell? ⟨gb, 3, none⟩ = some (.slice B b.f3.length cb)) ((obtain ⟨p0, p1, p2, p3, p4, p5, p6, p7, p8, p9, p10, p11⟩ := HT.out _ (by with_reducible assumption); exact ⟨p0, p1, p2, p3, p4, p5, p6, p7⟩))
      (first
      | (go_at_call 18; (with_reducible refine (cva _ (by assumption)).mono ?_); rintro e wy ⟨A1, c1, rfl, o1, d1, D1⟩)
      | (go_at_call 18; (with_reducible refine (cvb _ (by assumption)).mono ?_); rintro e wz ⟨A2, c2, rfl, o2, d2, D2⟩)
      | (refine step_append_row (w0 := w6) w6.heap.size (by kernel_rfl) (.tmp 56) (.tmp 58) 30 2 .i64 8 rfl Try.underlying30 info2 (by decide) (.slice A1 va.length c1) va vb A2 vb.length c2 (by rfl) (by rfl) (outAt_belowB o1 d2) (outAt_readsInt o2 rfl) D2 D2.size (by omega) ?_; intro v3 w9 hown3 hB3 hg3 hat3)
      | (refine step_append_row (w0 := w6) w6.heap.size (by kernel_rfl) (.tmp 56) (.tmp 58) 30 2 .i64 8 rfl Try.underlying30 info2 (by decide) (.slice A1 va.length c1) va vb A2 vb.length c2 (by rfl) (by rfl) o1 (outAt_readsInt (outAt_belowB o2 d1) rfl) D1 D1.size (by omega) ?_; intro v3 w9 hown3 hB3 hg3 hat3))
    all_goals (obtain ⟨A3, c3, rfl, hc3, C3⟩ := OutAt.reads (show OutAt w9 w6.heap.size v3 (va ++ vb) from hown3); go_wp2_with fail; go_meet; exact ⟨A3, c3, rfl, hown3, hB3⟩)
  case rest =>
  obtain ⟨Av, cv, rfl, OV, hB7⟩ := hcut
  rename World => w7
  clear cva cvb d0
  have lvs : (va ++ vb).length ≤ 4000 := by rw [List.length_append]; omega
  generalize va ++ vb = vs at OV lvs ⊢
  replace LA := LA.at hB7
  replace LB := LB.at hB7
  replace LX := LX.at hB7
  replace CE := Kd.C_below CE hB7
  replace hBw := below_step hBw hB7
  have HS := Lib.hid (show ∀ W, Below w7.heap.size w7 W → W.cell? ⟨w.heap.size, 0, none⟩ = some (.int .i64 a.f0) ∧ W.cell? ⟨w.heap.size, 1, none⟩ = some (.string a.f1) ∧ W.cell? ⟨w.heap.size, 2, none⟩ = some (.int .i64 a.f2) ∧ W.cell? ⟨w.heap.size, 3, none⟩ = some (.slice A a.f3.length ca) ∧ W.cell? ⟨gb, 0, none⟩ = some (.int .i64 b.f0) ∧ W.cell? ⟨gb, 1, none⟩ = some (.string b.f1) ∧ W.cell? ⟨gb, 2, none⟩ = some (.int .i64 b.f2) ∧ W.cell? ⟨gb, 3, none⟩ = some (.slice B b.f3.length cb) ∧ W.cell? ⟨gx, 0, none⟩ = some (.int .i64 x.f0) ∧ W.cell? ⟨gx, 1, none⟩ = some (.string x.f1) ∧ W.cell? ⟨gx, 2, none⟩ = some (.int .i64 x.f2) ∧ W.cell? ⟨gx, 3, none⟩ = some (.slice X x.f3.length cx) from fun W hW => HT.out _ (below_step hB7 hW))
  clear HT
  obtain ⟨p0, p1, p2, p3, p4, p5, p6, p7, p8, p9, p10, p11⟩ := HS.out _ (Below.refl _ w7)
  have hcall := varsO_at LX (Below.refl w7.heap.size w7)
  rw [← HVX.out] at hcall
  go_wp2_with fail
  refine hcall.mono ?_
  rintro e w8 ⟨Ax, cx8, rfl, OX, hB8, -⟩
  clear hcall p0 p1 p2 p3 p4 p5 p6 p7 p8 p9 p10 p11
  have OV8 := outAt_belowB OV hB8
  obtain ⟨ls, hls⟩ : ∃ ls, ls = vx ++ vs := ⟨_, rfl⟩
  have hlen9 : ls.length ≤ 6000 := by rw [hls, List.length_append]; omega
  have HSUB := Lib.hid (show ∀ v ∈ vx, v ∈ ls from fun v hv => by rw [hls]; exact List.mem_append_left _ hv)
  have HLS := Lib.hid hls
  clear hls
  go_wp2_with (at_builtin; refine print_append_row (w0 := w7) w7.heap.size rfl (.tmp 61) (.tmp 62) 30 2 .i64 8 rfl Try.underlying30 info2 (by decide) (.slice Ax vx.length cx8) vx vs Av vs.length cv rfl rfl OX (outAt_readsInt OV8 rfl) hB8 hB8.size (by omega) ?_; intro v9 w9 hown9 hB9 hg9 hat9; obtain ⟨A9, c9, rfl, hc9, C9⟩ := OutAt.reads (show OutAt w9 w7.heap.size v9 ls from (by rw [HLS.out]; exact hown9)))
  have OV9 : OutAt w9 w6.heap.size (.slice Av vs.length cv) vs := outAt_belowB OV hB9
  clear hg9 hat9 hB8 OV8 OX OV HLS
  go_loop [65] (fun i => ∃ k : Nat, k ≤ ls.length ∧ i = .int .i64 k ∧ ∀ v ∈ ls.take k, v < 1099511627776) (fun i => ls.length - (intOf i).toNat)
  case atStart => exact ⟨0, Nat.zero_le _, rfl, fun v hv => by simp at hv⟩
  case round =>
    obtain ⟨k, hk, rfl, hsm⟩ := hrel
    have HSM := Lib.hid hsm
    clear hsm
    by_cases hlt : k < ls.length
    · obtain ⟨ad, rfl, hy⟩ := ints_rd C9 k hlt
      have htk : ls.take (k + 1) = ls.take k ++ [ls[k]] := by rw [List.take_succ_eq_append_getElem hlt]
      have HTK := Lib.hid htk
      clear htk
      generalize ls[k] = n at hy HTK
      by_cases hbig : n < 1099511627776
      · go_wp2
        go_round
        case rel => exact ⟨k + 1, by omega, by go_num, fun v hv => by
          rw [HTK.out] at hv
          rcases List.mem_append.1 hv with h | h
          · exact HSM.out v h
          · rw [List.mem_singleton.1 h]; exact hbig⟩
        case measure => simp [intOf]; omega
      · go_wp2
        go_ret
        exact ⟨rfl, below_step hBw hB9⟩
    · obtain rfl : k = ls.length := by omega
      rw [List.take_length] at HSM
      have HXS := Lib.hid (show ∀ v ∈ vx, v < 1099511627776 from fun v hv => HSM.out v (HSUB.out v hv))
      clear HSM HSUB C9 hc9 hlt hk
      have hm9 := CE.2.1
      go_wp2_with fail
      go_loopw [74] (fun i wr => ∃ k : Nat, k ≤ bs.length ∧ i = .int .i64 k ∧ OutAt wr w6.heap.size (.slice Av vs.length cv) vs ∧ Below w7.heap.size w7 wr) (fun i _ => bs.length - (intOf i).toNat)
      case atStart => exact ⟨0, Nat.zero_le _, rfl, OV9, hB9⟩
      case round =>
        clear OV9 hB9
        obtain ⟨k, hk, rfl, OVr, hBr⟩ := hrel
        by_cases hlt : k < bs.length
        · have hgr := C50_rd CE k hlt rfl
          have hxw := HWB.out _ (List.getElem_mem hlt)
          generalize bs[k] = b50 at hgr hxw
          obtain ⟨xv, xt⟩ := b50
          obtain ⟨ad, A4, c4, rfl, y0, y1, y2, y3, y4, l4, g4⟩ := hgr
          simp only at y0 y1 y2 y3 y4 l4 g4 hxw
          have LT : Lies w7 xt A4 c4 := ⟨g4, l4, hxw.2⟩
          clear g4 hxw
          replace y0 := (hBr.cell (World.block_lt_of_cell? w7 _ y0)).trans y0
          replace y1 := (hBr.cell (World.block_lt_of_cell? w7 _ y1)).trans y1
          replace y2 := (hBr.cell (World.block_lt_of_cell? w7 _ y2)).trans y2
          replace y3 := (hBr.cell (World.block_lt_of_cell? w7 _ y3)).trans y3
          replace y4 := (hBr.cell (World.block_lt_of_cell? w7 _ y4)).trans y4
          go_upto_region 17 with (fail)
          have bz := below_alloc (Below.refl wr.heap.size wr) (.cells #[.int .i64 xv, .int .i64 xt.f0, .string xt.f1, .int .i64 xt.f2, .slice A4 xt.f3.length c4] 50)
          have kz := blk_new wr (.cells #[.int .i64 xv, .int .i64 xt.f0, .string xt.f1, .int .i64 xt.f2, .slice A4 xt.f3.length c4] 50)
          have OVz := outAt_belowB OVr bz
          have hBz := below_step hBr bz
          clear y0 y1 y2 y3 y4 OVr hBr bz
          generalize wr.alloc (.cells #[.int .i64 xv, .int .i64 xt.f0, .string xt.f1, .int .i64 xt.f2, .slice A4 xt.f3.length c4] 50) = wz at kz OVz hBz ⊢
          generalize wr.heap.size = gz at kz ⊢
          obtain ⟨A', cv', e', hcv, CV⟩ := OVz.reads
          cases e'
          have z0 := blk_cell kz 0
          have hcall := hasLong_at vs xv CV hcv (by omega) (Below.refl wz.heap.size wz)
          clear CV hcv
          by_cases hmem : xv ∈ vs
          · rw [decide_eq_true hmem] at hcall
            clear hmem
            go_wp2_with fail
            refine hcall.mono ?_
            rintro e wa ⟨rfl, hBa⟩
            clear hcall z0
            have kza := blk_below kz hBa
            have z1 := blk_cell kza 1
            have z2 := blk_cell kza 2
            have z3 := blk_cell kza 3
            have z4 := blk_cell kza 4
            clear kza kz
            have hlv := varsOf_len xt
            have hcall := varsO_at ((LT.at hBz).at hBa) (Below.refl wa.heap.size wa)
            generalize varsOf xt = vl at hcall hlv
            go_wp2_with fail
            refine hcall.mono ?_
            rintro e wb ⟨Al, cl, rfl, OL, hBb, -⟩
            clear hcall z1 z2 z3 z4
            have OVb := outAt_belowB OVz (below_step hBa hBb)
            have hBzb := below_step hBa hBb
            obtain ⟨A', cl', e', hcl, CL⟩ := OL.reads
            cases e'
            obtain ⟨A', c', e', hcv, CV⟩ := OVb.reads
            cases e'
            have HVS := Lib.hid (show ∀ n W, Below wb.heap.size wb W → Calls Try.prog 34 #[.slice Av vs.length cv, .int .i64 n] W fun e w' => e = .returned (.bool (decide (n ∈ vs))) ∧ Below wb.heap.size wb w' from fun n W hW =>
              hasLong_at vs n (Kd.C_below CV hW) hcv (by omega) hW)
            clear OL hBa hBb CV hcv
            go_wp2_with fail
            go_loopw [87] (fun i wr => ∃ m : Nat, m ≤ vl.length ∧ i = .int .i64 m ∧ Below wb.heap.size wb wr) (fun i _ => vl.length - (intOf i).toNat)
            case atStart => exact ⟨0, Nat.zero_le _, rfl, Below.refl _ _⟩
            case round =>
              obtain ⟨m, hm, rfl, hBm⟩ := hrel
              by_cases hlt2 : m < vl.length
              · obtain ⟨al, rfl, hy⟩ := ints_rd CL m hlt2
                replace hy := (hBm.cell (World.block_lt_of_cell? wb _ hy)).trans hy
                generalize vl[m] = nn at hy
                have hcall := HVS.out nn wr hBm
                by_cases hmem : nn ∈ vs
                · rw [decide_eq_true hmem] at hcall
                  clear hmem
                  go_wp2_with fail
                  refine hcall.mono ?_
                  rintro e wd ⟨rfl, hBd⟩
                  clear hcall hy
                  go_wp2
                  go_ret
                  exact ⟨rfl, below_step hBw (below_step (below_step hBz hBzb) hBd)⟩
                · rw [decide_eq_false hmem] at hcall
                  clear hmem
                  go_wp2_with fail
                  refine hcall.mono ?_
                  rintro e wd ⟨rfl, hBd⟩
                  clear hcall hy
                  go_wp2
                  go_roundw
                  case rel => exact ⟨m + 1, by omega, by go_num, hBd⟩
                  case measure => simp [intOf]; omega
              · obtain rfl : m = vl.length := by omega
                go_wp2
                go_roundw
                case rel => exact ⟨k + 1, by omega, by go_num, outAt_belowB OVb hBm, below_step (below_step hBz hBzb) hBm⟩
                case measure => simp [intOf]; omega
          · rw [decide_eq_false hmem] at hcall
            clear hmem
            go_wp2_with fail
            refine hcall.mono ?_
            rintro e wa ⟨rfl, hBa⟩
            clear hcall z0
            go_wp2
            go_roundw
            case rel => exact ⟨k + 1, by omega, by go_num, outAt_belowB OVz hBa, below_step hBz hBa⟩
            case measure => simp [intOf]; omega
        · obtain rfl : k = bs.length := by omega
          have LAr := LA.at hBr
          have LBr := LB.at hBr
          have LXr := LX.at hBr
          replace hBw := below_step hBw hBr
          have HR := Lib.hid (show ∀ W, Below wr.heap.size wr W → W.cell? ⟨w.heap.size, 0, none⟩ = some (.int .i64 a.f0) ∧ W.cell? ⟨w.heap.size, 1, none⟩ = some (.string a.f1) ∧ W.cell? ⟨w.heap.size, 2, none⟩ = some (.int .i64 a.f2) ∧ W.cell? ⟨w.heap.size, 3, none⟩ = some (.slice A a.f3.length ca) ∧ W.cell? ⟨gb, 0, none⟩ = some (.int .i64 b.f0) ∧ W.cell? ⟨gb, 1, none⟩ = some (.string b.f1) ∧ W.cell? ⟨gb, 2, none⟩ = some (.int .i64 b.f2) ∧ W.cell? ⟨gb, 3, none⟩ = some (.slice B b.f3.length cb) ∧ W.cell? ⟨gx, 0, none⟩ = some (.int .i64 x.f0) ∧ W.cell? ⟨gx, 1, none⟩ = some (.string x.f1) ∧ W.cell? ⟨gx, 2, none⟩ = some (.int .i64 x.f2) ∧ W.cell? ⟨gx, 3, none⟩ = some (.slice X x.f3.length cx) from fun W hW => HS.out _ (below_step hBr hW))
          clear HS LA LB LX OVr hBr CE HWB hlt hk
          obtain ⟨W1, k1, F1, res, hres, hcase⟩ := HL.out
          clear HL
          have hB := Below.refl wr.heap.size wr
          obtain ⟨p0, p1, p2, p3, p4, p5, p6, p7, p8, p9, p10, p11⟩ := HR.out _ hB
          have hcall := solve_at W1 2002 k1 F1 _ hres (by decide) LAr LBr hB
          clear hB hres
          rcases hcase with rfl | ⟨cs, rfl, hcs, hcase⟩
          · dsimp only [List.length_nil] at hcall
            go_wp2_with fail
            refine hcall.mono ?_
            rintro e wa ⟨As, cs', rfl, _, _, hBa⟩
            clear hcall p0 p1 p2 p3 p4 p5 p6 p7 p8 p9 p10 p11
            go_wp2
            go_ret
            exact ⟨rfl, below_step hBw hBa⟩
          have HCS := Lib.hid hcs
          have HCA := Lib.hid hcase
          clear hcs hcase
          dsimp only at hcall
          go_wp2_with fail
          refine hcall.mono ?_
          rintro e wa ⟨As, cc, rfl, hcc, CC, hBa⟩
          clear hcall p0 p1 p2 p3 p4 p5 p6 p7 p8 p9 p10 p11
          obtain ⟨p0, p1, p2, p3, p4, p5, p6, p7, p8, p9, p10, p11⟩ := HR.out _ hBa
          have hcall := apply_at (LAr.at hBa) cs (cb := cc) CC HCS.out (Below.refl wa.heap.size wa)
          rcases HCA.out with h2 | ⟨z, h2, oz, hnext⟩
          · rw [h2] at hcall
            clear h2
            dsimp only [z24, List.length_nil] at hcall
            go_wp2_with fail
            refine hcall.mono ?_
            rintro e wb ⟨Az, cz, rfl, _, hBb⟩
            clear hcall p0 p1 p2 p3 p4 p5 p6 p7 p8 p9 p10 p11
            go_wp2
            go_ret
            exact ⟨rfl, below_alloc (below_step hBw (below_step hBa hBb)) _⟩
          rw [h2] at hcall
          clear h2 HCA
          have HN := Lib.hid hnext
          have HOZ := Lib.hid oz
          clear hnext oz
          dsimp only at hcall
          go_wp2_with fail
          refine hcall.mono ?_
          rintro e wb ⟨Az, cz, rfl, LZ, hBb⟩
          clear hcall CC hcc p0 p1 p2 p3 p4 p5 p6 p7 p8 p9 p10 p11
          replace hBb := below_step hBa hBb
          clear hBa
          go_upto_region 31 with (fail)
          have kz := blk_new wb (.cells #[.int .i64 z.f0, .string z.f1, .int .i64 z.f2, .slice Az z.f3.length cz] 24)
          have bb := below_alloc (Below.refl wb.heap.size wb) (.cells #[.int .i64 z.f0, .string z.f1, .int .i64 z.f2, .slice Az z.f3.length cz] 24)
          replace LZ := LZ.at bb
          replace hBb := below_step hBb bb
          generalize wb.alloc (.cells #[.int .i64 z.f0, .string z.f1, .int .i64 z.f2, .slice Az z.f3.length cz] 24) = wc at kz LZ hBb ⊢
          clear bb
          generalize wb.heap.size = gz at kz ⊢
          obtain ⟨rz, nz, hrz⟩ : ∃ rz nz, renT z 1099511627776 = (rz, nz, 0) := ⟨_, _, renT_ok HOZ.out (by decide) (by decide)⟩
          have hcall := rename_at LZ (n := 1099511627776) (by unfold I64; decide) (Below.refl wc.heap.size wc)
          rw [hrz] at hcall
          have HRZ := Lib.hid hrz
          clear hrz
          dsimp only at hcall
          have q0 := blk_cell kz 0
          have q1 := blk_cell kz 1
          have q2 := blk_cell kz 2
          have q3 := blk_cell kz 3
          clear kz
          go_wp2_with fail
          refine hcall.mono ?_
          rintro e wd ⟨Ar, cr, rfl, LR, hBd⟩
          clear hcall q0 q1 q2 q3 LZ
          go_upto_region 34 with (fail)
          replace hBd := below_step hBb hBd
          have kz := blk_new wd (.cells #[.int .i64 rz.f0, .string rz.f1, .int .i64 rz.f2, .slice Ar rz.f3.length cr] 24)
          have bb := below_alloc (Below.refl wd.heap.size wd) (.cells #[.int .i64 rz.f0, .string rz.f1, .int .i64 rz.f2, .slice Ar rz.f3.length cr] 24)
          replace LR := LR.at bb
          replace hBd := below_step hBd bb
          generalize wd.alloc (.cells #[.int .i64 rz.f0, .string rz.f1, .int .i64 rz.f2, .slice Ar rz.f3.length cr] 24) = we at kz LR hBd ⊢
          clear bb hBb
          generalize wd.heap.size = gr at kz ⊢
          obtain ⟨W2, k2, F2, r2, hres2, hc2⟩ := HN.out (fun v hv => HXS.out v (by rw [HVX.out]; unfold varsOf; rw [if_pos HOX.out]; exact hv))
          rw [HRZ.out] at hres2
          have q0 := blk_cell kz 0
          have q1 := blk_cell kz 1
          have q2 := blk_cell kz 2
          have q3 := blk_cell kz 3
          clear kz HN HRZ HXS HVX
          obtain ⟨p0, p1, p2, p3, p4, p5, p6, p7, p8, p9, p10, p11⟩ := HR.out _ hBd
          have hcall := solve_at W2 2002 k2 F2 _ hres2 (by decide) LR (LXr.at hBd) (Below.refl we.heap.size we)
          clear hres2
          rcases hc2 with rfl | ⟨ds, rfl⟩
          · dsimp only [List.length_nil] at hcall
            go_wp2_with fail
            refine hcall.mono ?_
            rintro e wf ⟨As2, cs2, rfl, _, _, hBf⟩
            clear hcall p0 p1 p2 p3 p4 p5 p6 p7 p8 p9 p10 p11 q0 q1 q2 q3
            go_wp2
            go_ret
            exact ⟨rfl, below_step hBw (below_step hBd hBf)⟩
          · dsimp only at hcall
            go_wp2_with fail
            refine hcall.mono ?_
            rintro e wf ⟨As2, cs2, rfl, _, _, hBf⟩
            clear hcall p0 p1 p2 p3 p4 p5 p6 p7 p8 p9 p10 p11 q0 q1 q2 q3
            go_wp2
            go_ret
            exact ⟨rfl, below_step hBw (below_step hBd hBf)⟩

end Go.Proofs.Ytpnkaggkedepeaa
