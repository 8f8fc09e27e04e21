/- The values of a table's map, one behind the other, into a slice: maps.Values, slices.AppendSeq, slices.Collect. -/
import Derived.Test.YtlphglmjfklndaaDoorOpB
import Derived.RangeFuncNested
import Derived.RangeFuncBound
import Derived.RangeFuncCalls
import Derived.RangeFuncLeaves
import Derived.RangeFuncBox
import Derived.Shelf.Abstract
import Derived.Shelf.RegionOpen
import Derived.WalkKit
import Derived.OwnWalkIn
import Derived.TacticsInMore
import Derived.LoopNIn
import Derived.LoopIn
import Derived.Maps.AppendAt
import Derived.Sort.MapsRangeIn
namespace Go.Proofs.YtlphglmjfklndaaDoor
set_option linter.unusedVariables false
open Go.RowKit Go.Maps Go.ChangeMaps Go.WideShapes Go.Shelf Go.Proofs.YtlphglmjfklndaaDoorW.PrintWords Go.Proofs.YtlphglmjfklndaaDoorW.PrintLast Go.Proofs.YtlphglmjfklndaaDoorW.PrintMore Go.Proofs.YtlphglmjfklndaaDoor.POpsApart Go.Extern
attribute [local go_sem] Oper.semAt_some

/-! ### What has come -/
theorem filt_step (k : S27 → List UInt8) (p : S27 → Bool) {o : S27} : ∀ {L : List S27}, L.Pairwise (fun a b => k a ≠ k b) → o ∈ L → p o = true → (L.filter p).Perm (o :: L.filter fun q => p q && !decide (k q = k o))
  | [], _, h, _ => by cases h
  | a :: r, hn, ho, hp => by
    obtain ⟨h1, h2⟩ := List.pairwise_cons.1 hn
    rcases List.mem_cons.1 ho with rfl | ho'
    · have hr : (r.filter fun q => p q && !decide (k q = k o)) = r.filter p := List.filter_congr fun q hq => by simp [(h1 q hq).symm]
      rw [List.filter_cons, if_pos hp, List.filter_cons, if_neg (by simp), hr]
    · have ih := filt_step k p h2 ho' hp
      have hne : k a ≠ k o := h1 o ho'
      rw [List.filter_cons, List.filter_cons]
      by_cases ha : p a = true
      · rw [if_pos ha, if_pos (by simp [ha, hne])]
        exact (List.Perm.cons a ih).trans (List.Perm.swap _ _ _)
      · rw [if_neg ha, if_neg (by simp [ha])]
        exact ih

/-- What is left and what has come are the table. -/
def Came (L : List S27) (left : Lit → Bool) (ps : List S27) : Prop := L.Perm (ps ++ L.filter fun o => left (.string (keyO o)))
theorem Came.start {L : List S27} (h : Tab L) : Came L (Maps.has (tdat L)) [] := by
  unfold Came
  rw [List.nil_append, List.filter_eq_self.2]
  intro o ho
  rw [tdat_has h, getO_of h ho]; rfl
theorem same_str (k : List UInt8) : ∀ kl : Lit, (Lit.string k).sameKey kl = true → kl = .string k := fun kl h => by
  cases kl <;> simp [Lit.sameKey] at h
  rw [h]
theorem Came.step {L : List S27} (h : Tab L) {left : Lit → Bool} {ps : List S27} (hC : Came L left ps) {kl : Lit} {v : Value} {y : DataW Value × List MemPlace} (hl : left kl = true) (hv : rawE v = some y) (hat : ∀ zd, (tdat L).atKey kl zd = y.1) :
    ∃ o, o ∈ L ∧ v = encO o ∧ Came L (fun z => left z && !z.sameKey kl) (ps ++ [o]) := by
  unfold rawE at hv
  simp only [Option.some.injEq] at hv
  subst hv
  unfold tdat DataW.atKey at hat
  simp only at hat
  cases hf : ((L.map entO).foldr DataW.insert []).find? (fun p => p.1.sameKey kl) with
  | none =>
    rw [hf] at hat
    have := (hat (.held (.bool true))).trans (hat (.held (.bool false))).symm
    simp at this
  | some p =>
    rw [hf] at hat
    have hp := (sorted_perm (L.map entO)).mem_iff.1 (List.mem_of_find?_eq_some hf)
    obtain ⟨o, ho, rfl⟩ := List.mem_map.1 hp
    have hs : (entO o).1.sameKey kl = true := by simpa using List.find?_some hf
    obtain rfl := same_str _ kl hs
    have hv := hat (.held (.bool true))
    simp only [entO, DataW.held.injEq] at hv
    refine ⟨o, ho, hv.symm, ?_⟩
    unfold Came at hC ⊢
    have e : ∀ q : S27, ((Lit.string (keyO q)).sameKey (.string (keyO o))) = decide (keyO q = keyO o) := fun q => by
      simp only [Lit.sameKey]
      by_cases e : keyO q = keyO o <;> simp [e]
    have hst := filt_step keyO (fun q => left (.string (keyO q))) h.nod ho hl
    refine hC.trans ?_
    rw [List.append_assoc]
    refine List.Perm.append_left ps ?_
    refine hst.trans ?_
    simp only [e]
    exact List.Perm.refl _
theorem Came.done {L : List S27} {left : Lit → Bool} {ps : List S27} (hC : Came L left ps) (h : ∀ kl, left kl = false) : ps.Perm L := by
  unfold Came at hC
  rw [List.filter_eq_nil_iff.2 (fun o _ => by simp [h]), List.append_nil] at hC
  exact hC.symm
theorem Came.len {L : List S27} {left : Lit → Bool} {ps : List S27} (hC : Came L left ps) : ps.length ≤ L.length := by
  have := hC.length_eq
  rw [List.length_append] at this
  omega

def encA (o : S27) : Array Value := #[encO o]

set_option maxRecDepth 100000 in
set_option maxHeartbeats 2000000 in
theorem values1_in (F : Fence) (n : Nat) (h8 : F.fn 33) (hro : F.round = none) (hn : 1 ≤ n) (l Bm b : Nat) (L : List S27) (hT : Tab L) (J Jx : List S27 → World → Prop)
    (hY : ∀ pre x W, J pre W → pre.length < L.length → YieldAt F (n - 1) Tryd.prog l (encA x) W fun e W' =>
      (e = .returned (.bool true) ∧ J (pre ++ [x]) W' ∧ KeepsWalks W W') ∨ (e = .returned (.bool false) ∧ Jx (pre ++ [x]) W'))
    (W : World) (hJ : AbidesFrom W.heap.size J) (hm : W.cell? ⟨Bm, 0, none⟩ = some (.map (some b))) (hown : W.ownsMap Tryd.prog 52 rawE b L.length (tdat L)) (h0 : J [] W) :
    CallsIn F n Tryd.prog 33 #[.func (.yield l) #[] #[], .pointer (some ⟨Bm, 0, none⟩)] W fun e W' => (∃ v, e = .returned v) ∧
      ((∃ xs, xs.Perm L ∧ J xs W') ∨ (∃ pre, True ∧ Jx pre W')) := by
  have hsz := tdat_size L
  have hst := Came.start hT
  have hstp : ∀ {left : Lit → Bool} {ps : List S27}, Came L left ps → ∀ {kl : Lit} {v : Value} {y : DataW Value × List MemPlace}, left kl = true → rawE v = some y → (∀ zd, (tdat L).atKey kl zd = y.1) → ∃ o, o ∈ L ∧ v = encO o ∧ Came L (fun z => left z && !z.sameKey kl) (ps ++ [o]) := fun hC _ _ _ hl hv hat => hC.step hT hl hv hat
  generalize hD : tdat L = D0 at hown hsz hst hstp
  have HD := Lib.hid hD
  clear hD
  refine callsIn_of_wp Tryd.func33 rfl h8 ?_ hro
  simp only [Tryd.ntmps33, List.size_toArray, List.length_cons, List.length_nil, Nat.reduceAdd, Nat.reduceSub, Array.replicate_succ, Array.replicate_zero, List.push_toArray, List.append_toArray, List.nil_append, List.cons_append]
  gi_wp2_with (first
    | (gi_at_range; refine wpListIn_range_own _ rfl _ 42 rfl 52 27 K52 Tryd.underlying42 _ b L.length _ rfl hown ?_; intro w0 hrg0 hg0 hs0)
    | gi_in)
  go_frame
  gi_loopw [4] (fun _ wr => ∃ (left : Lit → Bool) (cnt : Nat) (ps : List S27), wr.ranges Tryd.prog 52 rawE b W.heap.size L.length D0 left cnt ∧ ps.length + cnt ≤ Maps.size D0 ∧ Came L left ps ∧ J ps wr)
    (fun _ wr => wr.rangeLeft b W.heap.size)
  case atStart =>
    exact ⟨_, _, [], hrg0, by simp, hst, hJ [] W w0 none h0 hg0 (fun r e => by cases e)⟩
  case round =>
    obtain ⟨left, cnt, ps, hrg, hcs, hC, hJs⟩ := hrel
    gi_wp2_with (first
      | (gi_at_next; refine wpListIn_next_ranges _ rfl _ rfl 52 K52 rawE (id : Value → Value) (id : Value → Value) (fun key kl hk => ⟨key, rfl⟩) (fun v y hv => ⟨v, rfl⟩) b W.heap.size L.length _ _ _ rfl hrg ?_ ?_)
      | gi_in)
    · -- NOTHING IS LEFT
      intro hc0 hl0
      gi_wp2
      go_end0
      exact ⟨⟨_, rfl⟩, .inl ⟨_, hC.done hl0, hJs⟩⟩
    · -- AN ENTRY HAS COME: yield(v)
      intro x c kl yd yp w2 cnt2 hkey hlk hv hat hrg2 hlt hg2 hs2 hen
      obtain ⟨o, ho, rfl, hC2⟩ := hstp hC hlk hv hat
      have hJ2 : J ps w2 := hJ _ wr w2 (some W.heap.size) hJs hg2 (fun r e => by cases e; exact ⟨Nat.le_refl _, hrg.iter_walk⟩)
      have hJ3 : J ps (w2.alloc (.cells #[.string o.f0, .int .i64 o.f1, .int .i64 o.f2] 27)) := hJ _ w2 _ none hJ2 (World.grownBy_alloc _ _ none) (fun r e => by cases e)
      obtain ⟨fn, tmps, assign, body, hy, hR⟩ := hY ps o (w2.alloc (.cells #[.string o.f0, .int .i64 o.f1, .int .i64 o.f2] 27)) hJ3 (by omega)
      have hrg2' : (w2.alloc (.cells #[.string o.f0, .int .i64 o.f1, .int .i64 o.f2] 27)).ranges Tryd.prog 52 rawE b W.heap.size L.length D0 (fun z => left z && !z.sameKey kl) cnt2 := hrg2.of_walks (KeepsWalks.alloc _ _)
      simp only [encA, encO] at hy hen ⊢
      clear hs2 hv hat
      gi_wp2
      refine hR.mono ?_
      rintro e W3 (⟨rfl, hJ4, hk3⟩ | ⟨rfl, hJx3⟩)
      · gi_wp2
        have hrg3 := hrg2'.of_walks hk3
        go_roundw
        case rel => exact ⟨_, cnt2, ps ++ [o], hrg3, by simp; omega, hC2, hJ4⟩
        case measure => rw [hrg3.left_eq, hrg.left_eq]; exact hlt
      · gi_wp2
        refine bodyPost_ret (results_none rfl _ _ _) rfl ?_
        exact ⟨⟨_, rfl⟩, .inr ⟨_, trivial, hJx3⟩⟩

theorem values_stops (F : Fence) (n : Nat) (h8 : F.fn 33) (hro : F.round = none) (hn : 1 ≤ n) (Bm b : Nat) (L : List S27) (hT : Tab L) (w : World) (hBm : Bm < w.heap.size)
    (hm : w.cell? ⟨Bm, 0, none⟩ = some (.map (some b))) (hown : w.ownsMap Tryd.prog 52 rawE b L.length (tdat L)) :
    SeqStopsK F n Tryd.prog 33 #[.pointer (some ⟨Bm, 0, none⟩)] encA KeepsWalks (fun xs => xs.Perm L) (fun _ => True) L.length w := fun l J Jx W hW hJ _ hY h0 => by
  have hown' : W.ownsMap Tryd.prog 52 rawE b L.length (tdat L) := by
    have hbl := hown.lt
    obtain ⟨es, clock, hb, Ft, hs, hD⟩ := hown
    exact ⟨es, clock, (hW.block b hbl).trans hb, Ft, hs, hD⟩
  exact values1_in F n h8 hro hn l Bm b L hT J Jx hY W hJ ((hW.cell (p := ⟨Bm, 0, none⟩) hBm).trans hm) hown' h0

set_option maxHeartbeats 1000000 in
theorem values_in (F : Fence) (n : Nat) (hf : F.fn 23) (hro : F.round = none) (mb : Option Nat) (w : World) :
    CallsIn F n Tryd.prog 23 #[.map mb] w fun e w' => e = .returned (.func (.func 33) #[] #[.pointer (some ⟨w.heap.size, 0, none⟩)]) ∧ w' = w.alloc (.cells #[.map mb] 42) := by
  refine callsIn_of_wp Tryd.func23 rfl hf ?_ hro
  simp only [Tryd.ntmps23, List.size_toArray, List.length_cons, List.length_nil, Nat.reduceAdd, Nat.reduceSub, Array.replicate_succ, Array.replicate_zero, List.push_toArray, List.append_toArray, List.nil_append, List.cons_append]
  gi_wp2
  go_ret
  exact ⟨rfl, rfl⟩

/-! ### slices.AppendSeq over whatever iterator of operators -/
def opc (o : S27) : List Value := [.string o.f0, .int .i64 o.f1, .int .i64 o.f2]
theorem opc_one (o : S27) : ∀ v ∈ opc o, v.oneCell' = true := by simp [opc, Value.oneCell']
theorem info27 : (Tryd.prog.info? 27).map (fun i => (i.zero, i.size, i.bytes)) = some (some (.agg #[.string ⟨#[]⟩, .int .i64 0, .int .i64 0]), 3, 32) := by kernel_rfl

theorem row3_new (W : World) (x : S27) : ∀ (q : Nat) (u : Value), (opc x)[q]? = some u → (W.alloc (.cells #[.string x.f0, .int .i64 x.f1, .int .i64 x.f2] 27)).cell? ((⟨W.heap.size, 0, none⟩ : Addr).add q) = some u := fun q u h => by
  have hc := blk_cell (blk_new W (.cells #[.string x.f0, .int .i64 x.f1, .int .i64 x.f2] 27)) q
  have e : (⟨W.heap.size, 0, none⟩ : Addr).add q = ⟨W.heap.size, q, none⟩ := by simp [Addr.add]; try exact fun h => h.symm
  rw [e, hc, ← h]
  match q with
  | 0 => rfl
  | 1 => rfl
  | 2 => rfl
  | n + 3 => simp [opc]

/-- Between two rounds. -/
def ApI (w : World) (pre : List S27) (W : World) : Prop :=
  (∃ v, Boxed W w.heap.size 22 v ∧ W.ownsRow w.heap.size 27 3 v pre.length (pre.flatMap opc) ∧ (v = .slice none 0 0 ↔ pre = [])) ∧ Below w.heap.size w W
/-- What the round's code stands at. -/
def ApA (w : World) (sv : Value) (x : S27) (a' : Act) (W : World) : Prop :=
  ∃ Bx : Nat, w.heap.size < Bx ∧ W.heap[Bx]? = some (.cells #[.string x.f0, .int .i64 x.f1, .int .i64 x.f2] 27 (0, 0)) ∧
    a' = { tmps := #[.slice none 0 0, sv, .pointer (some ⟨w.heap.size, 0, none⟩), undef, .slice none 0 0, .pointer (some ⟨Bx, 0, none⟩), sv, encO x, undef, undef, undef, undef, undef], defers := [] }
theorem apA_own {w : World} {sv : Value} (x : S27) (a' : Act) (B : Nat) : OwnFrom B (fun (_ : Unit) W => ApA w sv x a' W) := fun _ X Y row hs hg hr => by
  obtain ⟨Bx, h1, h2, h3⟩ := hs
  refine ⟨Bx, h1, (hg.block Bx (blk_lt h2) (fun e => ?_)).trans h2, h3⟩
  obtain ⟨_, o, ho, hc⟩ := hr Bx e.symm
  rw [h2] at ho
  cases ho
  cases hc

set_option maxRecDepth 100000 in
set_option maxHeartbeats 2000000 in
theorem appendSeq_in (F : Fence) (n : Nat) (h40 : F.fn 40) (hro : F.round = none) (hn : 3 ≤ n) (g : Nat) (lb : Array Value) (hFg : F.fn g) (eg : ∀ args w, (callFunc g args).run Tryd.prog w = .ok (.enter g args) w)
    (S : List S27 → Prop) (N : Nat) (hN : N ≤ 1000000) (w : World) (hseq : SeqStopsK F (n - 1) Tryd.prog g lb encA KeepsWalks S (fun _ => True) N w) :
    CallsIn F n Tryd.prog 40 #[.slice none 0 0, .func (.func g) #[] lb] w fun e w' => ∃ (v : Value) (xs : List S27), e = .returned v ∧ S xs ∧ w'.ownsRow w.heap.size 27 3 v xs.length (xs.flatMap opc) ∧ (v = .slice none 0 0 ↔ xs = []) ∧ Below w.heap.size w w' := by
  have h1 : 1 ≤ n := by omega
  obtain ⟨i0, hi, hz0, hz1, hz2⟩ := info_parts info27
  refine callsIn_of_wp_marks Tryd.func40 rfl h40 ?_ hro
  simp only [Tryd.ntmps40, List.size_toArray, List.length_cons, List.length_nil, Nat.reduceAdd, Nat.reduceSub, Array.replicate_succ, Array.replicate_zero, List.push_toArray, List.append_toArray, List.nil_append, List.cons_append]
  gi_wp2
  have hb0 : Below w.heap.size w (w.alloc (.cells #[.slice none 0 0] 22)) := below_alloc (Below.refl _ _) _
  refine wpIn_rangeFunc_ownH hro h1 (gf := g) (lb := lb) rfl hFg eg hseq walksK_t walksK_b hb0 (fun _ => rfl)
    (ApI w) (fun _ _ _ => False) ?own (fun _ _ _ _ _ hs _ _ => hs) ?start (ApA w (.func (.func g) #[] lb)) (fun x a' => apA_own x a' _)
    ?assign ?body ?done ?stop
  case own =>
    exact OwnFrom.and (Own.from (holdsRow_own w.heap.size w.heap.size 22 27 3 (fun pre : List S27 => pre.length) (fun pre => pre.flatMap opc) (fun pre v => (v = .slice none 0 0 ↔ pre = []))) _) (ownFrom_below (Nat.le_refl _) (by simp))
  case start =>
    exact ⟨⟨_, Boxed.new w 22 _, World.ownsRow_nil _ _ _ _, by simp⟩, hb0⟩
  case assign =>
    rintro l pre x W K ⟨⟨v, hv, hrow, hnil⟩, hB⟩ hK
    simp only [encA, encO]
    gi_wp2
    refine hK _ _ ((KeepsOthers.alloc _ _).from _) (KeepsWalks.alloc _ _) ⟨⟨v, hv.alloc _, hrow.alloc _, hnil⟩, hB.alloc hB.size _⟩ ⟨W.heap.size, hv.lt, blk_new W _, rfl⟩
  case body =>
    rintro l pre x a' W hl _ ⟨⟨v, hv, hrow, hnil⟩, hB⟩ ⟨Bx, hBx, kB, rfl⟩ hlt
    have hwl := hB.size
    have hc := hv.cell
    have hf := hv.frozen
    have n0 := blk_cell kB 0
    have n1 := blk_cell kB 1
    have n2 := blk_cell kB 2
    gi_wp2_with (first
      | (gi_at_builtin; refine wpListIn_append_own _ rfl _ _ 22 rfl w.heap.size 27 i0 _ 3 32 Tryd.underlying22 hi hz0 hz1 hz2 rfl (by decide) _ _ _ rfl (hrow.alloc _) ⟨W.heap.size, 0, none⟩ 1 1 (opc x) rfl rfl (row3_new W x) (by simp [Value.oneCell', opc]) (by unfold maxLen; omega) (by omega) (by have := hB.size; simp; omega) ?_; intro v' w1 hown' hgrow _; obtain ⟨g', cap', rfl⟩ := ownsRow_succ hown'; obtain ⟨hv1, hv2, hr2, hk2, hb2⟩ := hv.appended (by decide) hrow hB.size (Nat.le_refl _) hown' hgrow; have hc1 := hv1.cell; have hf1 := hv1.frozen)
      | gi_in)
    refine ⟨hk2.from _, hk2.walks, ⟨⟨_, hv2, ?_, by simp⟩, hB.trans hb2⟩⟩
    rw [List.flatMap_append, List.length_append]
    simpa using hr2
  case done =>
    rintro D ys W hD hS ⟨⟨v, hv, hrow, hnil⟩, hB⟩ hK
    have hc := hv.cell
    gi_wp2
    refine ⟨by simp, .inl ⟨_, _, rfl, run_takeDeferred hK, ?_⟩⟩
    exact ⟨_, results_tmp rfl _ _ _, v, ys, rfl, hS, ownsRow_putObj hrow _ hK rfl, hnil, hB.trans (belowK_b (w := w) (Nat.le_refl _) W D _ _ (by simp at hD; omega) hK rfl rfl)⟩
  case stop =>
    rintro D c pre W _ _ h _
    exact h.elim

set_option maxRecDepth 100000 in
set_option maxHeartbeats 1000000 in
theorem collect_any (g : Nat) (lb : Array Value) (eg : ∀ args w, (callFunc g args).run Tryd.prog w = .ok (.enter g args) w)
    (S : List S27 → Prop) (N : Nat) (hN : N ≤ 1000000) (w : World) (hseq : SeqStopsK Fence.wide 4 Tryd.prog g lb encA KeepsWalks S (fun _ => True) N w) :
    Calls Tryd.prog 31 #[.func (.func g) #[] lb] w fun e w' => ∃ (v : Value) (xs : List S27), e = .returned v ∧ S xs ∧ w'.ownsRow w.heap.size 27 3 v xs.length (xs.flatMap opc) ∧ (v = .slice none 0 0 ↔ xs = []) ∧ Below w.heap.size w w' := by
  have hA := (callsIn_wide (n := 5)).1 (appendSeq_in Fence.wide 5 trivial rfl (by omega) g lb trivial eg S N hN w hseq)
  go_enter Tryd.func31, Tryd.ntmps31
  go_wp2_with (go_at_call 40; refine hA.mono ?_; rintro e w' ⟨v, xs, rfl, h1, h2, h3, h4⟩)
  go_ret
  exact ⟨v, xs, rfl, h1, h2, h3, h4⟩

end Go.Proofs.YtlphglmjfklndaaDoor
