/- New. -/
import Derived.Test.YtlphglmjfklndaaDoorOpT
import Derived.Test.YtlphglmjfklndaaDoorOpG
namespace Go.Proofs.YtlphglmjfklndaaDoor
set_option linter.unusedVariables false
open Go.RowKit Go.Shelf Go.Maps Go.Proofs.YtlphglmjfklndaaDoorW.PrintWords Go.Proofs.YtlphglmjfklndaaDoorW.PrintLast Go.Proofs.YtlphglmjfklndaaDoorW.PrintMore Go.Proofs.YtlphglmjfklndaaDoor.POpsApart Go.Extern
attribute [local go_sem] Oper.semAt_some

/-- Operators that a new table has: precedence, type, names with a blank between. -/
def batches : List (Int × Int × List UInt8) := [(1200, 1, [58, 45, 32, 45, 45, 62]), (1200, 5, [58, 45, 32, 63, 45]), (1100, 2, [59]), (1050, 2, [45, 62]), (1000, 2, [44]), (900, 4, [92, 43]),
  (700, 1, [61, 32, 92, 61, 32, 61, 61, 32, 92, 61, 61, 32, 64, 60, 32, 64, 61, 60, 32, 64, 62, 32, 64, 62, 61, 32, 61, 46, 46, 32, 105, 115, 32, 61, 58, 61, 32, 61, 92, 61, 32, 60, 32, 61, 60, 32, 62, 32, 62, 61]),
  (500, 3, [43, 32, 45, 32, 47, 92, 32, 92, 47]), (400, 3, [42, 32, 47, 32, 47, 47, 32, 114, 101, 109, 32, 109, 111, 100, 32, 60, 60, 32, 62, 62]), (200, 1, [42, 42]), (200, 2, [94]), (200, 4, [45, 32, 92])]
def opB (b : Int × Int × List UInt8) (nm : List UInt8) : S27 := ⟨ba nm, b.2.1, b.1⟩
def putB (b : Int × Int × List UInt8) (L : List S27) (nm : List UInt8) : List S27 := opB b nm :: remO (keyO (opB b nm)) L
def addB (L : List S27) (b : Int × Int × List UInt8) : List S27 := (splitL b.2.2).foldl (putB b) L
/-- What a new table has. -/
def L0 : List S27 := batches.foldl addB []
theorem putB_tab {b : Int × Int × List UInt8} {L : List S27} (h : Tab L) (nm : NmS) : Tab (putB b L nm.1) := h.put _ (by have := nm.2; show nm.1.length ≤ _; omega)
theorem rem_len (k : List UInt8) (L : List S27) : (remO k L).length ≤ L.length := List.length_filter_le _ _
theorem putB_len (b : Int × Int × List UInt8) (L : List S27) (nm : List UInt8) : (putB b L nm).length ≤ L.length + 1 := by
  have := rem_len (keyO (opB b nm)) L
  simp [putB]; omega
theorem batch_small : ∀ b ∈ batches, (splitL b.2.2).length ≤ 16 ∧ b.2.2.length ≤ 1000 := by decide
theorem take_batch (k : Nat) (hk : k < batches.length) : (batches.take (k + 1)).foldl addB [] = addB ((batches.take k).foldl addB []) batches[k] := by
  rw [List.take_add_one, List.foldl_append, List.getElem?_eq_getElem hk]
  rfl
def cellsB (b : Int × Int × List UInt8) : List Value := [.int .i64 b.1, .int .i64 b.2.1, .string (ba b.2.2)]

theorem batch_get (k : Nat) (hk : k < 12) (j : Nat) (hj : j < 3) : (batches.flatMap cellsB)[k * 3 + j]? = (cellsB (batches[k]'hk))[j]? := flat_get cellsB 3 (fun _ => rfl) batches k j hk hj

/-- Between two batches. -/
structure NewI (w : World) (k : Nat) (W : World) : Prop where
  tab : TabV W (w.heap.size + 1) w.heap.size ((batches.take k).foldl addB [])
  len : ((batches.take k).foldl addB []).length ≤ 16 * k
  box : W.heap[w.heap.size + 2]? = some (.cells #[.pointer (some ⟨w.heap.size + 1, 0, none⟩)] 23 (0, 0))
  lit : W.heap[w.heap.size + 3]? = some (.cells (batches.flatMap cellsB).toArray 46 (0, 0))
  below : Below w.heap.size w W

/-- The marks of the ranges that are over. -/
def Marks (B : Nat) (W : World) : List Deferred → Prop
  | [] => True
  | d :: ds => (∃ D, B ≤ D ∧ d = { target := .collected D, args := #[] } ∧ W.heap[D]? = some (.deferred (some [])) ∧ (∀ d' ∈ ds, d'.target ≠ .collected D)) ∧ Marks B W ds
theorem Marks.keep {B : Nat} {W W' : World} (h : ∀ (D : Nat), B ≤ D → W.heap[D]? = some (.deferred (some [])) → W'.heap[D]? = some (.deferred (some []))) : ∀ {ds : List Deferred}, Marks B W ds → Marks B W' ds
  | [], _ => trivial
  | d :: ds, ⟨⟨D, h1, h2, h3, h4⟩, h5⟩ => ⟨⟨D, h1, h2, h D h1 h3, h4⟩, Marks.keep h h5⟩
theorem Marks.lt {B n : Nat} {W : World} : ∀ {ds : List Deferred}, Marks B W ds → W.heap.size ≤ n → ∀ d' ∈ ds, d'.target ≠ .collected n
  | d :: ds, ⟨⟨D, h1, h2, h3, h4⟩, h5⟩, hn, d', hd => by
    rcases List.mem_cons.1 hd with rfl | hd
    · rw [h2]
      intro e
      have : D < W.heap.size := blk_lt h3
      cases e
      omega
    · exact Marks.lt h5 hn d' hd
/-- A function with such marks leaves. -/
theorem Marks.leave {F : Fence} {n B : Nat} {P : Program} {fn : Func} {tmps : Array Value} {R : Ending → World → Prop} {C : World → Prop} (hC : ∀ W D, B ≤ D → W.heap[D]? = some (.deferred (some [])) → C W → C (W.putObj D (.deferred none)))
    (hR : ∀ W, C W → LeavesInM F n P fn tmps R [] .returning W) : ∀ (ds : List Deferred) (W : World), Marks B W ds → C W → LeavesInM F n P fn tmps R ds .returning W
  | [], W, _, hw => hR W hw
  | d :: ds, W, ⟨⟨D, h1, h2, h3, h4⟩, h5⟩, hw => by
    refine ⟨by simp, .inl ⟨D, _, by rw [h2], run_takeDeferred h3, Marks.leave hC hR ds _ ?_ (hC W D h1 h3 hw)⟩⟩
    clear hR hC hw
    induction ds with
    | nil => trivial
    | cons d' ds ih =>
      obtain ⟨⟨D', g1, g2, g3, g4⟩, g5⟩ := h5
      refine ⟨⟨D', g1, g2, ?_, g4⟩, ih (fun d hd => h4 d (List.mem_cons_of_mem _ hd)) g5⟩
      have hne : D' ≠ D := fun e => h4 d' List.mem_cons_self (by rw [g2, e])
      exact (World.putObj_heap_other hne).trans g3

/-- Between two rounds over a batch's names. -/
def NamI (w w4 : World) (b : Int × Int × List UInt8) (L : List S27) (b2 : Nat) (pre : List NmS) (W : World) : Prop :=
  TabV W (w.heap.size + 1) w.heap.size (pre.foldl (fun L x => putB b L x.1) L) ∧ (pre.foldl (fun L x => putB b L x.1) L).length ≤ L.length + pre.length ∧
    w4.heap.size ≤ W.heap.size ∧ Below w.heap.size w W ∧ ∀ k, k < w4.heap.size → k ≠ w.heap.size → k ≠ b2 → W.heap[k]? = w4.heap[k]?

set_option maxHeartbeats 4000000 in
set_option maxRecDepth 100000 in
theorem New_any (w : World) : Calls Tryd.prog 7 #[] w fun e w' => e = .returned (.pointer (some ⟨w.heap.size + 1, 0, none⟩)) ∧ TabV w' (w.heap.size + 1) w.heap.size L0 ∧ Below w.heap.size w w' := by
  refine (callsIn_wide (n := 9)).1 ?_
  refine callsIn_of_wp_marks Tryd.func7 rfl trivial ?_ rfl
  have hmm := @run_makeMap Tryd.prog
  simp only [Tryd.ntmps7, List.size_toArray, List.length_nil, Nat.reduceSub, Array.replicate_succ, Array.replicate_zero, List.push_toArray, List.append_toArray, List.nil_append, List.cons_append]
  gi_wp2
  clear hmm
  refine wpIn_loop (fun a' W => ∃ u0 u2 u3 u4 u5 u6 u7 u8 u9 u10 u11 u12 u13 u14 u15 u16 u17 u18 u19 u22 u23 u24 u25 u26 u27 u28 u29 u30 u31 u32 u33 u34 u35 u36 u37 u38 u39 u40 u41 u42 u43 u44 u45 u46 : Value, ∃ ds : List Deferred, (∃ k : Nat, k ≤ 12 ∧ u22 = .int .i64 k ∧ NewI w k W ∧ Marks (w.heap.size + 4) W ds) ∧ a' = { tmps := #[u0, .pointer (some ⟨w.heap.size + 2, 0, none⟩), u2, u3, u4, u5, u6, u7, u8, u9, u10, u11, u12, u13, u14, u15, u16, u17, u18, u19, .slice (some ⟨w.heap.size + 3, 0, none⟩) 12 12, .int .i64 12, u22, u23, u24, u25, u26, u27, u28, u29, u30, u31, u32, u33, u34, u35, u36, u37, u38, u39, u40, u41, u42, u43, u44, u45, u46], defers := ds })
    (fun a' _ => (12 - intOf (a'.tmps.getD 22 undef)).toNat) ?atStart ?round
  case atStart =>
    (repeat apply Exists.intro)
    refine ⟨?_, rfl⟩
    refine ⟨0, by omega, rfl, ⟨⟨?_, ?_, ⟨List.Pairwise.nil, fun o ho => by cases ho⟩, by simp⟩, by simp, ?_, ?_, ?_⟩, ?_⟩
    · have := blk_new (w.alloc (.map #[] 0)) (.cells #[.map (some w.heap.size)] 44)
      rw [World.size_alloc] at this
      exact blk_alloc (blk_alloc this _) _
    · have := World.ownsMap_made w Tryd.prog 52 rawE
      exact ((this.alloc _).alloc _).alloc _
    · have := blk_new ((w.alloc (.map #[] 0)).alloc (.cells #[.map (some w.heap.size)] 44)) (.cells #[.pointer (some ⟨w.heap.size + 1, 0, none⟩)] 23)
      rw [World.size_alloc, World.size_alloc] at this
      exact blk_alloc this _
    · have := blk_new (((w.alloc (.map #[] 0)).alloc (.cells #[.map (some w.heap.size)] 44)).alloc (.cells #[.pointer (some ⟨w.heap.size + 1, 0, none⟩)] 23)) (.cells (batches.flatMap cellsB).toArray 46)
      rw [World.size_alloc, World.size_alloc, World.size_alloc] at this
      exact this
    · exact below_alloc (below_alloc (below_alloc (below_alloc (Below.refl _ _) _) _) _) _
    · trivial
  case round =>
    intro _ wr hinv
    obtain ⟨u0, u2, u3, u4, u5, u6, u7, u8, u9, u10, u11, u12, u13, u14, u15, u16, u17, u18, u19, u22, u23, u24, u25, u26, u27, u28, u29, u30, u31, u32, u33, u34, u35, u36, u37, u38, u39, u40, u41, u42, u43, u44, u45, u46, ds, hrel, ha⟩ := hinv
    subst ha
    try dsimp only
    obtain ⟨k, hk, rfl, hN, hM⟩ := hrel
    by_cases hlt : k < 12
    · obtain ⟨b, hb⟩ : ∃ b, b = batches[k]'hlt := ⟨_, rfl⟩
      have hcell : ∀ j, j < 3 → wr.cell? ⟨w.heap.size + 3, k * 3 + j, none⟩ = (cellsB b)[j]? := fun j hj => by
        rw [blk_cell hN.lit, hb, ← batch_get k hlt j hj]
        simp
      have d0 := hcell 0 (by omega)
      have d1 := hcell 1 (by omega)
      have d2 := hcell 2 (by omega)
      simp only [cellsB, List.getElem?_cons_zero, List.getElem?_cons_succ, Nat.add_zero] at d0 d1 d2
      have z1 : (k : Int) < 12 := by omega
      have hbox := hN.box
      have HB := Lib.hid hb
      have HN := Lib.hid hN
      have HM := Lib.hid hM
      clear hb hN hcell hM
      gi_wp2_with (refine ⟨trivial, ?_⟩; gi_at_call 19; refine (callsIn_wide.2 (splitSeq_any _ _)).mono ?_; rintro e w' ⟨rfl, rfl⟩)
      clear d0 d1 d2
      obtain ⟨w4, h4⟩ : ∃ w4, (((wr.alloc (.cells #[.int .i64 b.1, .int .i64 b.2.1, .string (ba b.2.2)] 46)).alloc (.cells #[.string (ba b.2.2)] 9)).alloc (.cells #[.string ⟨#[32]⟩] 9)).alloc (.cells #[.int .i64 0] 3) = w4 := ⟨_, rfl⟩
      have s4 : w4.heap.size = wr.heap.size + 4 := by rw [← h4]; simp [World.size_alloc]
      have kb : w4.heap[wr.heap.size]? = some (.cells #[.int .i64 b.1, .int .i64 b.2.1, .string (ba b.2.2)] 46 (0, 0)) := by
        rw [← h4]; exact blk_alloc (blk_alloc (blk_alloc (blk_new _ _) _) _) _
      have k2 : w4.heap[wr.heap.size + 1]? = some (.cells #[.string (ba b.2.2)] 9 (0, 0)) := by
        rw [← h4]
        have := blk_new (wr.alloc (.cells #[.int .i64 b.1, .int .i64 b.2.1, .string (ba b.2.2)] 46)) (.cells #[.string (ba b.2.2)] 9)
        rw [World.size_alloc] at this
        exact blk_alloc (blk_alloc this _) _
      have k1 : w4.heap[wr.heap.size + 1 + 1]? = some (.cells #[.string ⟨#[32]⟩] 9 (0, 0)) := by
        rw [← h4]
        have := blk_new ((wr.alloc (.cells #[.int .i64 b.1, .int .i64 b.2.1, .string (ba b.2.2)] 46)).alloc (.cells #[.string (ba b.2.2)] 9)) (.cells #[.string ⟨#[32]⟩] 9)
        rw [World.size_alloc, World.size_alloc] at this
        exact blk_alloc this _
      have k3 : w4.heap[wr.heap.size + 1 + 2]? = some (.cells #[.int .i64 0] 3 (0, 0)) := by
        rw [← h4]
        have := blk_new (((wr.alloc (.cells #[.int .i64 b.1, .int .i64 b.2.1, .string (ba b.2.2)] 46)).alloc (.cells #[.string (ba b.2.2)] 9)).alloc (.cells #[.string ⟨#[32]⟩] 9)) (.cells #[.int .i64 0] 3)
        rw [World.size_alloc, World.size_alloc, World.size_alloc] at this
        exact this
      have hB4 : Below wr.heap.size wr w4 := by
        rw [← h4]; exact below_alloc (below_alloc (below_alloc (below_alloc (Below.refl _ _) _) _) _) _
      rw [h4]
      clear h4
      obtain ⟨L, hL⟩ : ∃ L, L = (batches.take k).foldl addB [] := ⟨_, rfl⟩
      have hsw : w.heap.size + 4 ≤ wr.heap.size := blk_lt HN.out.lit
      have hT4 := HN.out.tab.below hB4
      rw [← hL] at hT4
      have hLl : L.length ≤ 16 * k := by rw [hL]; exact HN.out.len
      have hsm := batch_small b (by rw [HB.out]; exact List.getElem_mem _)
      have HL := Lib.hid hL
      clear hL
      refine wpIn_rangeFunc_own1 rfl (by omega) (gf := 37) (lb := #[.pointer (some ⟨wr.heap.size + 1 + 1, 0, none⟩), .pointer (some ⟨wr.heap.size + 1, 0, none⟩), .pointer (some ⟨wr.heap.size + 1 + 2, 0, none⟩)]) rfl trivial (enters_of Tryd.func37 (by kernel_rfl) rfl)
        (encs := encS) (Kp := KpB (wr.heap.size + 1 + 1) (wr.heap.size + 1) (wr.heap.size + 1 + 2)) (S := fun xs => xs.map (·.1) = splitL b.2.2) (N := (splitL b.2.2).length) (Bs := wr.heap.size + 1) (by omega) ?seq ?kt ?kb (fun _ => rfl)
        (NamI w w4 b L (wr.heap.size + 1)) ?own ?set ?start
        (fun x a' _ => a' = { tmps := #[u0, .pointer (some ⟨w.heap.size + 2, 0, none⟩), u2, .pointer (some ⟨wr.heap.size, 0, none⟩), .string (ba x.1), u5, u6, u7, u8, u9, u10, u11, u12, u13, u14, u15, u16, u17, u18, u19, .slice (some ⟨w.heap.size + 3, 0, none⟩) 12 12, .int .i64 12, .int .i64 k, .bool true, .pointer (some ⟨w.heap.size + 3, k * 3, none⟩), .agg #[.int .i64 b.1, .int .i64 b.2.1, .string (ba b.2.2)], .pointer (some ⟨wr.heap.size, 2, none⟩), .string (ba b.2.2), .func (.func 37) #[] #[.pointer (some ⟨wr.heap.size + 1 + 1, 0, none⟩), .pointer (some ⟨wr.heap.size + 1, 0, none⟩), .pointer (some ⟨wr.heap.size + 1 + 2, 0, none⟩)], .string (ba x.1), u30, u31, u32, u33, u34, u35, u36, u37, u38, u39, u40, u41, u42, u43, u44, u45, u46], defers := [] }) (fun x a' => fun s W W' row h _ _ => h) ?assign ?body ?done
      case seq =>
        intro l J W hB hJ hJs hY h0
        exact split1_in (9 - 1) (by omega) l (wr.heap.size + 1 + 1) (wr.heap.size + 1) (wr.heap.size + 1 + 2) (by omega) (by omega) b.2.2 hsm.2 J hJs hY W ((hB.block _ (by omega)).trans k1) ((hB.block _ (by omega)).trans k2) ((hB.block _ (by omega)).trans k3) h0
      case kt => exact fun h k => ⟨k.1.trans h.1, k.2.1.trans h.2.1, k.2.2.trans h.2.2⟩
      case kb => exact fun W l o o' hl ho hc hw => ⟨World.putObj_heap_other (by omega), World.putObj_heap_other (by omega), World.putObj_heap_other (by omega)⟩
      case own =>
        intro pre A B row hs hg hr
        obtain ⟨h1, h2, h3, h5, h6⟩ := hs
        have hk : ∀ k, k < w4.heap.size → B.heap[k]? = A.heap[k]? := fun k hk => hg.block k (by omega) (fun e => by have := (hr k e.symm).1; omega)
        exact ⟨h1.step (hk _ (by omega)) (hk _ (by omega)), h2, Nat.le_trans h3 hg.size, h5.grown hg h5.size (fun k e => by have := (hr k e).1; omega), fun k a1 a2 a3 => (hk k a1).trans (h6 k a1 a2 a3)⟩
      case set =>
        rintro pre W v ⟨h1, h2, h3, h5, h6⟩
        have hk : ∀ k, k ≠ wr.heap.size + 1 → (W.setCell ⟨wr.heap.size + 1, 0, none⟩ v).heap[k]? = W.heap[k]? := fun k hk => Below.heap_setCell W ⟨wr.heap.size + 1, 0, none⟩ v k hk
        exact ⟨h1.step (hk _ (by omega)) (hk _ (by omega)), h2, by simp [World.setCell]; exact h3, h5.setCell (p := ⟨wr.heap.size + 1, 0, none⟩) (by show w.heap.size ≤ wr.heap.size + 1; omega) _, fun k a1 a2 a3 => (hk k a3).trans (h6 k a1 a2 a3)⟩
      case start => exact ⟨hT4, by simp, Nat.le_refl _, HN.out.below.trans (hB4.mono (by omega)), fun _ _ _ _ => rfl⟩
      case assign =>
        rintro l pre x W K hI hK
        simp only [encS]
        gi_wp2
        exact hK _ _ (KeepsFrom.refl _ _) ⟨rfl, rfl, rfl⟩ hI rfl
      case body =>
        rintro l pre x a' W hl _ hI rfl hlt
        have hI2 := hI
        obtain ⟨h1, h2, h3, h5, h6⟩ := hI
        have q0 := blk_cell ((h6 _ (by omega) (by omega) (by omega)).trans ((hB4.block _ (by omega)).trans hbox)) 0
        have q1 := blk_cell h1.blk 0
        have kbW := (h6 wr.heap.size (by omega) (by omega) (by omega)).trans kb
        have q2 := blk_cell kbW 0
        have q3 := blk_cell kbW 1
        have hkey := key_of (aftT b.2.1) (nm := ba x.1) (by have := x.2; show x.1.length ≤ _; unfold maxLen; omega)
        have hbx := x.2
        have hca := fun nq => Calls.quiet_of ((ops_after.calls b.2.1 (aftT b.2.1) (W.drewN nq) (after_f b.2.1)).mono fun e w' ⟨he, nd, hw⟩ => ⟨he, nd, hw⟩)
        have HI := Lib.hid (And.intro h1 (And.intro h2 (And.intro h3 (And.intro h5 h6))))
        clear hI2 h1 h2 h3 h5 h6 kbW
        gi_wp2
        refine round_quiet_tail 15 (by kernel_rfl) (fun ⟨_, _, h⟩ => h) (by kernel_rfl) (by kernel_rfl) (C := fun w' => ∃ n, w' = W.drewN n) ⟨1, rfl⟩ ?_
        simp only [List.take_succ_cons, List.take_zero, List.drop_succ_cons, List.drop_zero]
        repeat (quiet_step ((go_at_call 20; exact hca _)))
        refine wpQuiet_nil ?_
        rintro _ ⟨nq, rfl⟩
        have hBq : Below W.heap.size W (W.drewN nq) := pw_below_drewN (Below.refl _ _) nq
        obtain ⟨Lp, hLp⟩ : ∃ Lp, Lp = pre.foldl (fun L x => putB b L x.1) L := ⟨_, rfl⟩
        have HI2 := HI.out
        rw [← hLp] at HI2
        obtain ⟨h1, h2, h3, h5, h6⟩ := HI2
        have hTq := h1.below hBq
        have hl200 := hTq.len
        have hput := tdat_put hTq.tab (opB b x.1) (by show x.1.length ≤ _; omega)
        unfold keyO encO opB at hput
        clear q0 q1 q2 q3 hca
        generalize W.drewN nq = Wq at hBq hTq ⊢
        go_wp2_with (at_mapUpdate; refine wpList_mapUpdate_in _ rfl (.tmp 33) (.tmp 38) (.tmp 44) 42 rfl 52 27 K52 Tryd.underlying42 rawE w.heap.size Lp.length (tdat Lp) rfl hTq.own (by unfold maxLen; omega) _ _ _ rfl rfl hkey (.held (.agg #[.string (ba x.1), .int .i64 b.2.1, .int .i64 b.1])) [] rfl ?_; intro w9 hown9 hturn9)
        rw [hput] at hown9
        have hpl := putB_len b Lp x.1
        obtain ⟨r1, r2, r3⟩ := hTq.turned hown9 hturn9 (putB_tab hTq.tab x) (by show (putB b Lp x.1).length ≤ 200; omega)
        have hfold : (pre ++ [x]).foldl (fun L x => putB b L x.1) L = putB b Lp x.1 := by rw [List.foldl_append, ← hLp]; rfl
        have hk9 : ∀ j, j < W.heap.size → j ≠ w.heap.size → w9.heap[j]? = W.heap[j]? := fun j hj hne => (r3 j (Nat.lt_of_lt_of_le hj hBq.size) hne).trans (hBq.block j hj)
        have hsz9 : W.heap.size ≤ w9.heap.size := Nat.le_trans hBq.size r2
        refine ⟨⟨hsz9, fun j o hB hj _ => (hk9 j (Array.getElem?_eq_some_iff.1 hj).1 (by omega)).trans hj⟩, ⟨hk9 _ (by omega) (by omega), hk9 _ (by omega) (by omega), hk9 _ (by omega) (by omega)⟩, ?_⟩
        unfold NamI
        rw [hfold]
        exact ⟨r1, by rw [List.length_append]; simp; omega, by omega, (h5.trans (hBq.mono h5.size)).grown hturn9.grown (Nat.le_trans h5.size hBq.size) (fun k e => by cases e; exact Nat.le_refl _), fun k a1 a2 a3 => (hk9 k (by omega) a2).trans (h6 k a1 a2 a3)⟩
      case done =>
        rintro D xs W hD hS hI hK
        gi_wp2
        obtain ⟨h1, h2, h3, h5, h6⟩ := hI
        have hfold : xs.foldl (fun L x => putB b L x.1) L = addB L b := by unfold addB; rw [← hS, List.foldl_map]
        have hxl : xs.length = (splitL b.2.2).length := by rw [← hS, List.length_map]
        have htk := take_batch k hlt
        rw [← HB.out, ← HL.out] at htk
        refine ⟨?_, ?measure⟩
        refine ⟨_, _, _, _, _, _, _, _, _, _, _, _, _, _, _, _, _, _, _, _, _, _, _, _, _, _, _, _, _, _, _, _, _, _, _, _, _, _, _, _, _, _, _, _, _, ?rel, rfl⟩
        case rel =>
          refine ⟨k + 1, by omega, by simp, ⟨?_, ?_, ?_, ?_, h5⟩, ⟨D, by omega, rfl, hK, fun d' hd => HM.out.lt (by omega) d' hd⟩, HM.out.keep fun D' a1 a2 => ?_⟩
          · rw [htk, ← hfold]; exact h1
          · rw [htk, ← hfold]; omega
          · exact (h6 _ (by omega) (by omega) (by omega)).trans ((hB4.block _ (by omega)).trans HN.out.box)
          · exact (h6 _ (by omega) (by omega) (by omega)).trans ((hB4.block _ (by omega)).trans HN.out.lit)
          · have := blk_lt a2
            exact (h6 _ (by omega) (by omega) (by omega)).trans ((hB4.block _ (by omega)).trans a2)
        case measure => simp [intOf]; omega
    · obtain rfl : k = 12 := by omega
      have hN' := hN
      have c0 := blk_cell hN.box 0
      gi_wp2
      have e12 : batches.take 12 = batches := rfl
      refine Marks.leave (C := fun W => TabV W (w.heap.size + 1) w.heap.size L0 ∧ Below w.heap.size w W) (B := w.heap.size + 4) ?_ ?_ ds wr hM ⟨?_, hN'.below⟩
      · rintro W D hD hK ⟨a1, a2⟩
        exact ⟨a1.step (World.putObj_heap_other (by omega)) (World.putObj_heap_other (by omega)), a2.trans (belowK_b (w := w) (Nat.le_refl _) W D _ _ (by omega) hK rfl rfl)⟩
      · rintro W ⟨a1, a2⟩
        exact ⟨_, results_tmp rfl _ _ _, rfl, a1, a2⟩
      · have := hN'.tab
        rw [e12] at this
        exact this

end Go.Proofs.YtlphglmjfklndaaDoor
