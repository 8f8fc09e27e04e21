/- strings.SplitSeq at a blank: an iterator that writes a cell of its own; the law of a range over it. -/
import Derived.Test.YtlphglmjfklndaaDoorOpE
import Derived.Lib.Bytealg
import Derived.Laws.EntriesVeiled
namespace Go.Proofs.YtlphglmjfklndaaDoor
set_option linter.unusedVariables false
open Go.RowKit Go.Shelf Go.Proofs.YtlphglmjfklndaaDoorW.PrintWords Go.Proofs.YtlphglmjfklndaaDoorW.PrintLast Go.Proofs.YtlphglmjfklndaaDoorW.PrintMore Go.Proofs.YtlphglmjfklndaaDoor.POpsApart Go.Extern
attribute [local go_sem] Oper.semAt_some

/-- A range over an iterator that writes the cell Bs between two rounds, by a body that never leaves. -/
theorem wpIn_rangeFunc_own1 {P : Program} {F : Fence} {n : Nat} {α : Type} {g : Operand} {ps : Array Tmp} {assign body : Code} {Q : Exit → Act → World → Prop} {a : Act} {w : World}
    (hro : F.round = none) (h1 : 1 ≤ n) {gf : Nat} {lb : Array Value} (hg : a.eval g = .func (.func gf) #[] lb) (hFg : F.fn gf) (eg : ∀ args w, (callFunc gf args).run P w = .ok (.enter gf args) w)
    {encs : α → Array Value} {Kp : World → World → Prop} {S : List α → Prop} {N Bs : Nat} (hBs : Bs < w.heap.size)
    (hseq : ∀ (l : Nat) (J : List α → World → Prop) (W : World), Below w.heap.size w W → AbidesFrom W.heap.size J → (∀ pre W v, J pre W → J pre (W.setCell ⟨Bs, 0, none⟩ v)) →
      (∀ pre x W1, J pre W1 → pre.length < N → YieldAt F (n - 1 - 1) P l (encs x) W1 fun e W' => e = .returned (.bool true) ∧ J (pre ++ [x]) W' ∧ Kp W1 W') → J [] W →
      CallsIn F (n - 1) P gf (#[.func (.yield l) #[] #[]] ++ lb) W fun e W' => (∃ v, e = .returned v) ∧ ∃ xs, S xs ∧ J xs W')
    (hKt : ∀ {A B C : World}, Kp A B → Kp B C → Kp A C) (hKb : ∀ (W : World) (l : Nat) (o o' : Obj), w.heap.size ≤ l → W.heap[l]? = some o → o.isCells = false → o.isWalk = false → Kp W (W.putObj l o')) (hps : ∀ x, (encs x).size = ps.size)
    (I : List α → World → Prop) (hI : OwnFrom w.heap.size I) (hIs : ∀ pre W v, I pre W → I pre (W.setCell ⟨Bs, 0, none⟩ v)) (h0 : I [] w) (Ax : α → Act → World → Prop) (hAx : ∀ x a', OwnFrom w.heap.size (fun (_ : Unit) W => Ax x a' W))
    (hassign : ∀ (l : Nat) (pre : List α) (x : α) (W : World) (K : Act → World → Prop), I pre W → (∀ a' W', KeepsFrom w.heap.size W W' → Kp W W' → I pre W' → Ax x a' W' → K a' W') →
      assign.wpIn (F.inRound l) (n - 1 - 1) P (Exit.then K (fun _ _ _ => False)) { tmps := (ps.zip (encs x)).foldl (fun t (p, v) => t.setIfInBounds p v) a.tmps, defers := [] } W)
    (hbody : ∀ (l : Nat) (pre : List α) (x : α) (a' : Act) (W : World), w.heap.size ≤ l → (∃ r, W.heap[l]? = some (.loop r)) → I pre W → Ax x a' W → pre.length < N → body.wpIn (F.inRound l) (n - 1 - 1) P (ownPostG w.heap.size Kp I (fun _ _ _ => False) (pre ++ [x]) W) a' W)
    (hdone : ∀ (D : Nat) (xs : List α) (W : World), w.heap.size ≤ D → S xs → I xs W → W.heap[D]? = some (.deferred (some [])) → Q .normal { a with defers := { target := .collected D, args := #[] } :: a.defers } W) :
    (Code.rangeFunc g ps assign body).wpIn F n P Q a w := by
  refine wpIn_rangeFunc ?_
  intro fn hfn
  rw [hro]
  obtain ⟨rec, hrec⟩ : ∃ rec : LoopState → Option Code → Loop, rec = fun st pe => { state := st, pending := pe, fn, tmps := a.tmps, params := ps, assign, body, defers := w.heap.size } := ⟨_, rfl⟩
  obtain ⟨W1, hW1⟩ : ∃ W1, (w.alloc (.deferred (some []))).alloc (.loop (rec .ready none)) = W1 := ⟨_, rfl⟩
  have hL1 : W1.heap[w.heap.size + 1]? = some (.loop (rec .ready none)) := by
    rw [← hW1]; have := World.alloc_heap_new (w.alloc (.deferred (some []))) (.loop (rec .ready none)); rwa [World.size_alloc] at this
  have hK1 : W1.heap[w.heap.size]? = some (.deferred (some [])) := by
    rw [← hW1]; exact (Below.heap_alloc _ _ _ (by simp)).trans (World.alloc_heap_new w _)
  have hI1 : I [] W1 := by rw [← hW1]; exact hI.alloc _ (hI.alloc _ h0)
  have hb1 : Below w.heap.size w W1 := by
    rw [← hW1]; exact (((Below.refl _ w).alloc (Nat.le_refl _) _).alloc (by simp) _)
  refine ⟨w.heap.size + 1, [{ target := .collected w.heap.size, args := #[] }], W1, { target := .fn (.func gf) lb, args := #[.func (.yield (w.heap.size + 1)) #[] #[]] }, W1, gf,
    #[.func (.yield (w.heap.size + 1)) #[] #[]] ++ lb, W1, ?_, ?_, ?_, ?_, fun _ => h1, ?_⟩
  · rw [← hW1, hrec]; exact run_enterLoop_outer _ _ _ _ _
  · simp only [resolve, hg]
    simp [go_sem]
  · intro f' hf'; simp [Target.leads] at hf'; subst hf'; exact hFg
  · simp [invoke, go_sem, eg]
  · have hnw : ∀ {A B : World} {row : Option Nat}, (∀ r, row = some r → W1.heap.size ≤ r ∧ ∃ o : Obj, A.heap[r]? = some o ∧ o.isWalk = true) → (∀ r, row = some r → w.heap.size ≤ r ∧ ∃ o : Obj, A.heap[r]? = some o ∧ o.isCells = false) :=
      fun hr r e => by obtain ⟨hB, o, ho, hw⟩ := hr r e; exact ⟨by rw [← hW1] at hB; simp at hB; omega, o, ho, Obj.not_cells_of_walk hw⟩
    refine (hseq (w.heap.size + 1)
      (fun pre W => I pre W ∧ W.heap[w.heap.size + 1]? = some (.loop (rec .ready none)) ∧ W.heap[w.heap.size]? = some (.deferred (some [])))
      W1 hb1
      (fun s A B row hs hg' hr => ⟨hI s A B row hs.1 hg' (hnw (B := B) hr), (grownBy_keeps hg' (fun r e => (hr r e).2) hs.2.1 rfl).trans hs.2.1, (grownBy_keeps hg' (fun r e => (hr r e).2) hs.2.2 rfl).trans hs.2.2⟩)
      (fun pre W v hs => ⟨hIs pre W v hs.1, (Below.heap_setCell W ⟨Bs, 0, none⟩ v _ (by show _ ≠ Bs; omega)).trans hs.2.1, (Below.heap_setCell W ⟨Bs, 0, none⟩ v _ (by show _ ≠ Bs; omega)).trans hs.2.2⟩)
      ?_ ⟨hI1, hL1, hK1⟩).mono ?_
    · rintro pre x W ⟨hi, hl, hk⟩ hlen
      have hlt : w.heap.size + 1 < W.heap.size := (Array.getElem?_eq_some_iff.1 hl).1
      have hy := run_yield (P := P) (args := encs x) hl (by rw [hrec]; exact hps x)
      rw [hrec] at hy
      refine ⟨fn, _, assign, body, hy, roundIn_of_wpIn hfn (hassign _ pre x W _ hi ?_)⟩
      clear hy
      intro a' Wa hkfa hkpa hia hax
      replace hl := hkfa.same _ _ (by omega) hl rfl
      replace hk := hkfa.same _ _ (Nat.le_refl _) hk rfl
      replace hlt : w.heap.size + 1 < Wa.heap.size := (Array.getElem?_eq_some_iff.1 hl).1
      replace hi := hia
      clear hia
      revert hkpa hkfa
      generalize W = Wb
      intro hkfa hkpa
      obtain ⟨W, rfl⟩ : ∃ W, W = Wa := ⟨_, rfl⟩
      refine ⟨_, run_beginRound hl (by rw [hrec]), ?_⟩
      have hl2 : (W.putObj (w.heap.size + 1) (.loop { rec .ready none with state := .busy })).heap[w.heap.size + 1]? = some (.loop { rec .ready none with state := .busy }) := World.putObj_heap_same hlt
      have hk2 : (W.putObj (w.heap.size + 1) (.loop { rec .ready none with state := .busy })).heap[w.heap.size]? = some (.deferred (some [])) := (World.putObj_heap_other (by omega)).trans hk
      have hw2 : Kp W (W.putObj (w.heap.size + 1) (.loop { rec .ready none with state := .busy })) := hKb _ _ _ _ (by omega) hl rfl rfl
      refine wpIn_mono (hbody _ pre x a' _ (by omega) ⟨_, hl2⟩ (hI.putObj _ hi (by omega) hl rfl) ((hAx x a').putObj (s := ()) _ hax (by omega) hl rfl) hlen) ?_
      rintro e a3 W3 hp
      cases e with
      | normal =>
        obtain ⟨hk3, hkp3, hi3⟩ := hp
        have hl3 := hk3.same _ _ (by omega) hl2 rfl
        have hr := run_endRound (P := P) none hl3
        rw [hrec] at hr hl3
        exact ⟨_, _, hr, rfl, ⟨hI.putObj _ hi3 (by omega) hl3 rfl, by rw [hrec]; exact World.putObj_heap_same (Array.getElem?_eq_some_iff.1 hl3).1, (World.putObj_heap_other (by omega)).trans (hk3.same _ _ (Nat.le_refl _) hk2 rfl)⟩, hKt hkpa (hKt (hKt hw2 hkp3) (hKb _ _ _ _ (by omega) hl3 rfl rfl))⟩
      | ret => exact hp.2.elim
      | exit id => exact hp.2.elim
      | goto t => exact hp.2.elim
      | panic ch => exact hp.elim
      | outgrown => exact hp.elim
    · rintro e W2 ⟨⟨v, rfl⟩, xs, hS, hi, hl, hk⟩
      exact ⟨none, _, by have := run_endLoop (P := P) hl (by rw [hrec]; simp); rw [hrec] at this; exact this, hdone _ xs _ (Nat.le_refl _) hS (hI.putObj _ hi (by omega) hl rfl) ((World.putObj_heap_other (by omega)).trans hk)⟩

/-! ### Splitting at blanks -/
def ba (l : List UInt8) : ByteArray := ⟨l.toArray⟩
def splitL : List UInt8 → List (List UInt8)
  | [] => [[]]
  | c :: r => if c = 32 then [] :: splitL r else match splitL r with
    | a :: t => (c :: a) :: t
    | [] => [[c]]
def ix (l : List UInt8) : Int := Lib.indexByte l 32
theorem splitL_none : ∀ l : List UInt8, ix l = -1 → splitL l = [l]
  | [], _ => rfl
  | c :: r, h => by
    unfold ix Lib.indexByte at h
    by_cases hc : c = 32
    · subst hc; simp at h
    · rw [if_neg (by simpa using hc)] at h
      have h2 : ix r = -1 := by
        unfold ix
        by_cases hr : Lib.indexByte r 32 = -1
        · exact hr
        · rw [if_neg (by simpa using hr)] at h
          have := Lib.indexByte_ge r 32
          omega
      unfold splitL
      rw [if_neg hc, splitL_none r h2]
theorem splitL_some : ∀ (l : List UInt8) (i : Nat), ix l = i → splitL l = l.take i :: splitL (l.drop (i + 1)) ∧ i < l.length
  | [], i, h => by unfold ix Lib.indexByte at h; omega
  | c :: r, i, h => by
    unfold ix Lib.indexByte at h
    by_cases hc : c = 32
    · subst hc
      rw [if_pos (by simp)] at h
      obtain rfl : i = 0 := by omega
      constructor
      · simp [splitL]
      · simp
    · rw [if_neg (by simpa using hc)] at h
      by_cases hr : Lib.indexByte r 32 = -1
      · rw [if_pos (by simpa using hr)] at h; omega
      · rw [if_neg (by simpa using hr)] at h
        have := Lib.indexByte_ge r 32
        obtain ⟨j, hj⟩ : ∃ j : Nat, i = j + 1 := ⟨i - 1, by omega⟩
        subst hj
        obtain ⟨h1, h2⟩ := splitL_some r j (by unfold ix; omega)
        constructor
        · rw [splitL, if_neg hc, h1]; simp
        · simp; omega
theorem ix_ge (l : List UInt8) : -1 ≤ ix l := Lib.indexByte_ge l 32
theorem ba_take (l : List UInt8) (i : Nat) : (ba l).extract 0 i = ba (l.take i) := by
  unfold ba; rw [ByteArray.extract_mk]; simp
theorem ba_drop (l : List UInt8) (i : Nat) : (ba l).extract i l.length = ba (l.drop i) := by
  unfold ba; rw [ByteArray.extract_mk]; simp
  exact List.take_of_length_le (by simp)
theorem ba_size (l : List UInt8) : (ba l).size = l.length := rfl

theorem indexByteS_any (l : List UInt8) (w : World) : Calls Tryd.prog 56 #[.string (ba l), .int .u8 32] w fun e w' => e = .returned (.int .i64 (ix l)) ∧ w' = w := by
  have h := @run_callFunc_extern Tryd.prog 65 _ BytealgIndexByte.indexByte Tryd.func65 (by kernel_rfl) (by kernel_rfl) (by kernel_rfl) (by kernel_rfl)
  have h2 := fun w => @Lib.run_indexByteString Tryd.prog (ba l) 32 w
  have e : Lib.indexByte (ba l).data.toList (32 : Int).toNat.toUInt8 = ix l := rfl
  rw [e] at h2
  generalize ix l = r at h2 ⊢
  go_enter Tryd.func56, Tryd.ntmps56
  go_wp2
  go_ret
  exact ⟨rfl, rfl⟩

set_option maxHeartbeats 1000000 in
set_option maxRecDepth 100000 in
theorem indexL_any (l : List UInt8) (w : World) : Calls Tryd.prog 45 #[.string (ba l), .string ⟨#[32]⟩] w fun e w' => e = .returned (.int .i64 (ix l)) ∧ w' = w := by
  have h := indexByteS_any l
  obtain ⟨s, hs⟩ : ∃ s : ByteArray, s = ⟨#[32]⟩ := ⟨_, rfl⟩
  have hsz : s.size = 1 := by rw [hs]; rfl
  have hix : ∀ W, (Instr.index 9 (.string s) (.int .i64 0)).run Tryd.prog W = .ok (.int .u8 32) W := fun W => by rw [hs]; rfl
  rw [← hs]
  by_cases hl : l = [32]
  · have e : ix l = 0 := by rw [hl]; rfl
    rw [e]
    have ht : (s.toList == (ba l).toList) = true := by rw [hl, hs]; exact beq_iff_eq.2 rfl
    generalize ba l = b at ht
    clear e h hs hl hix
    go_enter Tryd.func45, Tryd.ntmps45
    go_wp2
    go_ret
    exact ⟨rfl, rfl⟩
  · have ht : (s.toList == (ba l).toList) = false := by
      simp only [beq_eq_false_iff_ne]
      intro e
      rw [hs] at e
      have e2 : (ba l).toList = l := ByteArray.toList_mk l
      rw [e2] at e
      exact hl (by rw [← e]; exact ByteArray.toList_mk [32])
    generalize ix l = r at h ⊢
    generalize ba l = b at h ht ⊢
    clear hs hl
    go_enter Tryd.func45, Tryd.ntmps45
    go_wp2_with (go_at_call 56; refine (h _).mono ?_; rintro e w' ⟨rfl, rfl⟩)
    go_ret
    exact ⟨rfl, rfl⟩

theorem index_any (l : List UInt8) (w : World) : Calls Tryd.prog 39 #[.string (ba l), .string ⟨#[32]⟩] w fun e w' => e = .returned (.int .i64 (ix l)) ∧ w' = w := by
  have h := indexL_any l
  generalize ix l = r at h ⊢
  generalize ba l = b at h ⊢
  generalize (⟨#[32]⟩ : ByteArray) = s at h ⊢
  go_enter Tryd.func39, Tryd.ntmps39
  go_wp2_with (go_at_call 45; refine (h _).mono ?_; rintro e w' ⟨rfl, rfl⟩)
  go_ret
  exact ⟨rfl, rfl⟩

/-- A name that is not too long. -/
abbrev NmS := { l : List UInt8 // l.length ≤ 1000 }
def encS (x : NmS) : Array Value := #[.string (ba x.1)]
/-- The three boxes that the iterator reads. -/
def KpB (b1 b2 b3 : Nat) (W W' : World) : Prop := W'.heap[b1]? = W.heap[b1]? ∧ W'.heap[b2]? = W.heap[b2]? ∧ W'.heap[b3]? = W.heap[b3]?
/-- How many bytes are still to be split. -/
def leftS (W : World) (b : Nat) : Nat := match W.cell? ⟨b, 0, none⟩ with | some (.string s) => s.size | _ => 0

set_option maxRecDepth 100000 in
set_option maxHeartbeats 2000000 in
theorem split1_in (n : Nat) (hn : 1 ≤ n) (l b1 b2 b3 : Nat) (h12 : b1 ≠ b2) (h32 : b3 ≠ b2) (s0 : List UInt8) (hs0 : s0.length ≤ 1000) (J : List NmS → World → Prop)
    (hJs : ∀ pre W v, J pre W → J pre (W.setCell ⟨b2, 0, none⟩ v))
    (hY : ∀ pre x W, J pre W → pre.length < (splitL s0).length → YieldAt Fence.wide (n - 1) Tryd.prog l (encS x) W fun e W' => e = .returned (.bool true) ∧ J (pre ++ [x]) W' ∧ KpB b1 b2 b3 W W')
    (W : World) (k1 : W.heap[b1]? = some (.cells #[.string ⟨#[32]⟩] 9 (0, 0))) (k2 : W.heap[b2]? = some (.cells #[.string (ba s0)] 9 (0, 0))) (k3 : W.heap[b3]? = some (.cells #[.int .i64 0] 3 (0, 0))) (h0 : J [] W) :
    CallsIn Fence.wide n Tryd.prog 37 #[.func (.yield l) #[] #[], .pointer (some ⟨b1, 0, none⟩), .pointer (some ⟨b2, 0, none⟩), .pointer (some ⟨b3, 0, none⟩)] W fun e W' => (∃ v, e = .returned v) ∧ ∃ xs, xs.map (·.1) = splitL s0 ∧ J xs W' := by
  have c1 := blk_cell k1 0
  obtain ⟨sp, hsp⟩ : ∃ s : ByteArray, s = ⟨#[32]⟩ := ⟨_, rfl⟩
  have hsz : sp.size = 1 := by rw [hsp]; rfl
  have hI := index_any
  rw [← hsp] at k1 c1 hI
  clear hsp
  refine callsIn_of_wp Tryd.func37 rfl trivial ?_ rfl
  simp only [Tryd.ntmps37, List.size_toArray, List.length_cons, List.length_nil, Nat.reduceAdd, Nat.reduceSub, Array.replicate_succ, Array.replicate_zero, List.push_toArray, List.append_toArray, List.nil_append, List.cons_append]
  gi_wp2
  gi_loopw [7] (fun _ wr => ∃ (pre : List NmS) (s : List UInt8), splitL s0 = pre.map (·.1) ++ splitL s ∧ s.length ≤ 1000 ∧ wr.heap[b2]? = some (.cells #[.string (ba s)] 9 (0, 0)) ∧ wr.heap[b1]? = W.heap[b1]? ∧ wr.heap[b3]? = W.heap[b3]? ∧ J pre wr)
    (fun _ wr => leftS wr b2)
  case atStart => exact ⟨[], s0, rfl, hs0, k2, rfl, rfl, h0⟩
  case round =>
    obtain ⟨pre, s, hsp, hsl, q2, q1, q3, hJ⟩ := hrel
    have d1 := blk_cell (q1.trans k1) 0
    have d2 := blk_cell q2 0
    have d3 := blk_cell (q3.trans k3) 0
    have hIs := hI s
    have hge := ix_ge s
    have hlen : pre.length < (splitL s0).length := by
      rw [hsp, List.length_append, List.length_map]
      have : 0 < (splitL s).length := by
        cases hs : splitL s with
        | nil =>
          by_cases hx : ix s = -1
          · rw [splitL_none s hx] at hs; cases hs
          · obtain ⟨i, hi⟩ : ∃ i : Nat, ix s = i := ⟨(ix s).toNat, by omega⟩
            rw [(splitL_some s i hi).1] at hs; cases hs
        | cons a t => simp
      omega
    by_cases hx : ix s = -1
    · rw [hx] at hIs
      have hend := splitL_none s hx
      obtain ⟨fn, tmps, assign, body, hy, hR⟩ := hY pre ⟨s, hsl⟩ wr hJ hlen
      dsimp only [encS] at hy
      rw [hend] at hsp
      have HS := Lib.hid hsp
      have Hk := Lib.hid k1
      clear hend hx hsp hlen hge k1 k2 k3 q1 q2 q3 c1 hI hJs hs0
      generalize ba s = b at d2 hIs hy
      gi_wp2_with (refine ⟨trivial, ?_⟩; gi_at_call 39; refine (callsIn_wide.2 (hIs _)).mono ?_; rintro e w' ⟨rfl, rfl⟩)
      refine hR.mono ?_
      rintro e W3 ⟨rfl, hJ3, hk3⟩
      gi_wp2
      go_end0
      exact ⟨⟨_, rfl⟩, _, by rw [HS.out, List.map_append]; rfl, hJ3⟩
    · obtain ⟨i, hi⟩ : ∃ i : Nat, ix s = i := ⟨(ix s).toNat, by omega⟩
      rw [hi] at hIs
      obtain ⟨hsp2, hil⟩ := splitL_some s i hi
      obtain ⟨fn, tmps, assign, body, hy, hR⟩ := hY pre ⟨s.take i, by rw [List.length_take]; omega⟩ wr hJ hlen
      dsimp only [encS] at hy
      have e1 : (ba s).extract 0 i = ba (s.take i) := ba_take s i
      have e2 : (ba s).extract (i + 1) (ba s).size = ba (s.drop (i + 1)) := ba_drop s (i + 1)
      have e3 : (ba s).size = s.length := rfl
      have e4 : i + 1 ≤ (ba s).size := by omega
      have e5 : i ≤ (ba s).size := by omega
      have w0 : IntKind.i64.wrap (i : Int) = i := by rw [IntKind.wrap_i64]; omega
      have w1 : IntKind.i64.wrap ((i : Int) + 1) = (i : Int) + 1 := by rw [IntKind.wrap_i64]; omega
      have w2 : ((i : Int) + 1).toNat = i + 1 := by omega
      have w3 : (0 : Int) ≤ (i : Int) + 1 := by omega
      have w4 : ((i : Int) + 1) ≤ ((ba s).size : Int) := by omega
      have w5 : ((i : Int)) ≤ ((ba s).size : Int) := by omega
      have w6 : ¬ (i : Int) < 0 := by omega
      rw [hsp2] at hsp
      have HS := Lib.hid hsp
      have HI := Lib.hid hI
      have HK1 := Lib.hid (q1.trans k1)
      have HK3 := Lib.hid (q3.trans k3)
      have HQ1 := Lib.hid q1
      have HQ3 := Lib.hid q3
      have HQ2 := Lib.hid q2
      have H3 := Lib.hid e3
      clear hx hsp hlen hge k1 k2 k3 q1 q2 q3 c1 hI hs0 e3 hsp2 hi
      generalize hb : ba s = b at d2 hIs hy e1 e2 e4 e5 w4 w5
      have HB := Lib.hid hb
      clear hb
      gi_wp2_with (refine ⟨trivial, ?_⟩; gi_at_call 39; refine (callsIn_wide.2 (hIs _)).mono ?_; rintro e w' ⟨rfl, rfl⟩)
      refine hR.mono ?_
      rintro e W3 ⟨rfl, hJ3, hk3⟩
      have r1 := hk3.1.trans HK1.out
      have r2 := hk3.2.1.trans HQ2.out
      have r3 := hk3.2.2.trans HK3.out
      rw [HB.out] at r2
      have x1 := blk_cell r1 0
      have x2 := blk_cell r2 0
      have x3 := blk_cell r3 0
      have f2 := blk_frozen r2 0
      have g2 : (W3.setCell ⟨b2, 0, none⟩ (.string (ba (s.drop (i + 1))))).heap[b2]? = some (.cells #[.string (ba (s.drop (i + 1)))] 9 (0, 0)) := by simpa using blk_set r2 0 (.string (ba (s.drop (i + 1))))
      have m1 : leftS (W3.setCell ⟨b2, 0, none⟩ (.string (ba (s.drop (i + 1))))) b2 = s.length - (i + 1) := by
        unfold leftS; rw [blk_cell g2 0]; simp [ba_size]
      gi_wp2
      have m2 : leftS w' b2 = s.length := by
        unfold leftS; rw [d2]; rw [← HB.out]; exact H3.out
      go_roundw
      case rel =>
        refine ⟨pre ++ [⟨s.take i, by rw [List.length_take]; omega⟩], s.drop (i + 1), by rw [HS.out]; simp, by simp; omega, g2, (Below.heap_setCell W3 ⟨b2, 0, none⟩ _ b1 h12).trans (hk3.1.trans HQ1.out), (Below.heap_setCell W3 ⟨b2, 0, none⟩ _ b3 h32).trans (hk3.2.2.trans HQ3.out), hJs _ _ _ hJ3⟩
      case measure => rw [m1, m2]; omega

theorem splitSeq_any (b : ByteArray) (w : World) : Calls Tryd.prog 19 #[.string b, .string ⟨#[32]⟩] w fun e w' =>
    e = .returned (.func (.func 37) #[] #[.pointer (some ⟨w.heap.size + 1, 0, none⟩), .pointer (some ⟨w.heap.size, 0, none⟩), .pointer (some ⟨w.heap.size + 2, 0, none⟩)]) ∧
      w' = ((w.alloc (.cells #[.string b] 9)).alloc (.cells #[.string ⟨#[32]⟩] 9)).alloc (.cells #[.int .i64 0] 3) := by
  generalize (⟨#[32]⟩ : ByteArray) = s
  have h : Calls Tryd.prog 30 #[.string b, .string s, .int .i64 0] w fun e w' =>
    e = .returned (.func (.func 37) #[] #[.pointer (some ⟨w.heap.size + 1, 0, none⟩), .pointer (some ⟨w.heap.size, 0, none⟩), .pointer (some ⟨w.heap.size + 2, 0, none⟩)]) ∧
      w' = ((w.alloc (.cells #[.string b] 9)).alloc (.cells #[.string s] 9)).alloc (.cells #[.int .i64 0] 3) := by
    go_enter Tryd.func30, Tryd.ntmps30
    go_wp2
    go_ret
    exact ⟨rfl, rfl⟩
  go_enter Tryd.func19, Tryd.ntmps19
  go_wp2_with (go_at_call 30; refine h.mono ?_; rintro e w' ⟨rfl, rfl⟩)
  go_ret
  exact ⟨rfl, rfl⟩

end Go.Proofs.YtlphglmjfklndaaDoor
