/- Solve and List. -/
import Derived.Test.YtpnkaggkedepeaaTmGd
import Derived.Test.YtpnkaggkedepeaaTmShelfP
import Derived.Shelf.SlIterI.Nil
import Derived.OwnWalkIn
import Derived.TacticsInMore
import Derived.RangeFuncNested
import Derived.RangeFuncBound
import Derived.RangeFuncCalls
import Derived.RangeFuncLeaves
import Derived.RangeFuncBox
import Derived.Shelf.Abstract
import Derived.Shelf.RegionOpen
import Derived.LoopNIn
import Derived.LoopIn

/- The keys of a map of terms, sorted. -/
namespace Go.Proofs.Ytpnkaggkedepeaa
set_option linter.unusedVariables false
open Go.RowKit Go.Maps Go.Sort Go.Shelf Go.Proofs.YtpnkaggkedepeaaW.PrintWords Go.Proofs.YtpnkaggkedepeaaW.PrintLast Go.Proofs.YtpnkaggkedepeaaW.PrintMore Go.Proofs.Ytpnkaggkedepeaa.PTermTells Go.Extern

theorem sorts61 (m : Nat) : AnyZI.SortsIn Try.prog Try.sorted61_ren Fence.wide m :=
  ⟨fun blk off cap ss W hH hblk hsz => callsIn_wide.2 (AnyM.slices_Sort_int Try.sort79 blk off cap ss W hH hblk hsz),
   fun p cap W => callsIn_wide.2 (AnyM.slices_Sort_int_none Try.sort79 p cap W)⟩

theorem intKeys_mdat {α : Type} (enc : α → Value) (L : List (Int × α)) : intKeys (mdat enc L) = L.map (·.1) := by
  simp [intKeys, mdat, Go.intOf]

theorem sorted_keys {α : Type} {L : List (Int × α)} (hs : msorted L) {ss : List Int} (hp : ss.Perm (L.map (·.1))) : ss.mergeSort (fun x y => decide (x ≤ y)) = L.map (·.1) := by
  have h1 := mergeSort_of_perm_i hp
  refine h1.trans ?_
  apply List.mergeSort_of_pairwise
  rw [List.pairwise_map]
  refine List.Pairwise.imp ?_ hs
  intro a b hab
  simp only [leI, decide_eq_true_eq]
  omega

theorem keys_call (b : Option Nat) (W : World) : Calls Try.prog 62 #[.map b] W fun e w' => e = .returned (.func (.func 80) #[] #[.pointer (some ⟨W.heap.size, 0, none⟩)]) ∧ w' = W.alloc (.cells #[.map b] 81) :=
  (callsIn_wide (n := 5)).1 (AnyZI.keys_in Try.keys62 Fence.wide 5 trivial rfl b W)

theorem sorted_call (w : World) (m : Nat) (L : Tm) (hM : TmapAt w m L) (hs : msorted L) (hL : L.length < 1000000) :
    Calls Try.prog 61 #[.func (.func 80) #[] #[.pointer (some ⟨w.heap.size, 0, none⟩)]] (w.alloc (.cells #[.map (some m)] 81)) fun e w' => ∃ v, e = .returned v ∧ w'.ownsRow w.heap.size 2 1 v L.length ((L.map (·.1)).map (Value.int .i64)) ∧ Below w.heap.size w w' := by
  have hbl := hM.lt
  have hown := hM
  have hsz := mdat_size encT L
  unfold TmapAt at hown
  generalize hD : mdat encT L = D0 at hown hsz
  have hseq : SeqGives Fence.wide 2 Try.prog 80 #[.pointer (some ⟨w.heap.size, 0, none⟩)] encZ (fun ss => ss.Perm (intKeys D0)) (Maps.size D0) (w.alloc (.cells #[.map (some m)] 81)) :=
    AnyZI.keys_gives (ρ := Try.keys62_ren) { Try.keys62 with } Fence.wide _ trivial rfl (by omega) w.heap.size m L.length D0 _ (by simp) (by simp) (by
      obtain ⟨es, clock, hb, Ft, hs, hD⟩ := hown
      exact ⟨es, clock, (Below.heap_alloc _ _ m hbl).trans hb, Ft, hs, hD⟩)
  have cS := AnyZI.sorted_in Try.sorted61 Fence.wide 5 trivial trivial trivial trivial rfl (by omega) (sorts61 _) (enters_of Try.func79 (by kernel_rfl) rfl) 80 #[.pointer (some ⟨w.heap.size, 0, none⟩)] trivial (enters_of Try.func80 (by kernel_rfl) rfl) _ _ (by unfold maxLen; omega) (by omega) _ hseq
  refine ((callsIn_wide (n := 5)).1 cS).mono ?_
  rintro e w' ⟨v, ss, rfl, hS, hrow, hnil, hb⟩
  refine ⟨v, rfl, ?_, ((Below.refl _ w).alloc (Nat.le_refl _) _).trans (hb.mono (by simp))⟩
  have hS' : ss.Perm (L.map (·.1)) := by
    have h2 := hS
    rw [← hD, intKeys_mdat] at h2
    exact h2
  have hl : ss.length = L.length := by rw [hS'.length_eq, List.length_map]
  rw [sorted_keys hs hS', hl] at hrow
  exact ownsRow_base_a hrow (by simp)

end Go.Proofs.Ytpnkaggkedepeaa


/- Solve in plain words and its walk. -/
namespace Go.Proofs.Ytpnkaggkedepeaa
set_option linter.unusedVariables false
open Go.RowKit Go.Maps Go.Proofs.YtpnkaggkedepeaaW.PrintWords Go.Proofs.YtpnkaggkedepeaaW.PrintLast Go.Proofs.YtpnkaggkedepeaaW.PrintMore Go.Proofs.Ytpnkaggkedepeaa.PTermTells Go.Extern

theorem info50 : (Try.prog.info? 50).map (fun i => (i.zero, i.size, i.bytes)) = some (some (.agg #[.int .i64 0, .int .i64 0, .string ⟨#[]⟩, .int .i64 0, .slice none 0 0]), 5, 64) := by kernel_rfl

theorem TmapAt.keys {w : World} {b : Nat} {L : Tm} (h : TmapAt w b L) : ∀ v ∈ L.map (·.1), I64 v := by
  obtain ⟨es, clock, hb, F, hn, hD⟩ := h
  intro v hv
  obtain ⟨p, hp, rfl⟩ := List.mem_map.1 hv
  unfold mdat at hD
  simp only [DataW.map.injEq] at hD
  have hm : (Lit.int .i64 p.1, DataW.held (encT p.2)) ∈ L.map fun p => (Lit.int .i64 p.1, DataW.held (encT p.2)) := List.mem_map.2 ⟨p, hp, rfl⟩
  rw [hD, mem_sorted] at hm
  obtain ⟨x, hx, he⟩ := List.mem_map.1 hm
  obtain ⟨y, hy⟩ := F.reads x hx
  rw [Go.WideElems.rg_of hy] at he
  have hk := Go.WideElems.rd_key hy
  rw [he] at hk
  obtain ⟨x', _, e, hw⟩ := Maps.keyOf_int_inv Try.underlying2 hk
  injection e with _ e
  rw [e]
  exact I64.of_wf hw
theorem strip_keys (L : Tm) : (strip L).map (·.1) = L.map (·.1) := by simp [strip]
theorem solveS_keeps (W : Nat) : ∀ (k : Nat) (S : Sm) (todo : List (S24 × S24)) (S' : Sm) (ok : Bool), solveS W k S todo = some (S', ok) → msorted S → msorted S' ∧ S'.length ≤ S.length + k
  | 0, _, _, _, _, h, _ => by cases h
  | k + 1, S, [], S', ok, h, hm => by
    rw [solveS] at h; cases h; exact ⟨hm, by omega⟩
  | k + 1, S, p :: r, S', ok, h, hm => by
    rw [solveS] at h
    cases hx : walkS S W p.1 0 with
    | none => rw [hx] at h; cases h
    | some x =>
      cases hy : walkS S W p.2 0 with
      | none => rw [hx, hy] at h; cases h
      | some y =>
        obtain ⟨x, v⟩ := x
        obtain ⟨y, v'⟩ := y
        rw [hx, hy] at h
        simp only at h
        have hput : ∀ j t todo', solveS W k (mput j t S) todo' = some (S', ok) → msorted S' ∧ S'.length ≤ S.length + (k + 1) := fun j t todo' h' => by
          have h1 := solveS_keeps W k _ _ _ _ h' (msorted_mput hm)
          have h2 := length_mput_le j t S
          exact ⟨h1.1, by have := h1.2; omega⟩
        have hsame : ∀ todo', solveS W k S todo' = some (S', ok) → msorted S' ∧ S'.length ≤ S.length + (k + 1) := fun todo' h' => by
          have := solveS_keeps W k _ _ _ _ h' hm
          exact ⟨this.1, by omega⟩
        by_cases c1 : 0 < v ∧ v = v'
        · rw [if_pos c1] at h; exact hsame _ h
        rw [if_neg c1] at h
        by_cases c2 : x.f0 = 1 ∧ y.f0 = 1
        · rw [if_pos c2] at h; exact hput _ _ _ h
        rw [if_neg c2] at h
        by_cases c3 : x.f0 = 1
        · rw [if_pos c3] at h; exact hput _ _ _ h
        rw [if_neg c3] at h
        by_cases c4 : y.f0 = 1
        · rw [if_pos c4] at h; exact hput _ _ _ h
        rw [if_neg c4] at h
        by_cases c5 : clashT x y = true
        · rw [if_pos c5] at h; cases h; exact ⟨hm, by omega⟩
        rw [if_neg c5] at h
        by_cases c6 : x.f0 = 4
        · rw [if_pos c6] at h
          by_cases c7 : 8 < x.f3.length
          · rw [if_pos c7] at h; cases h
          rw [if_neg c7] at h
          by_cases c8 : 0 < v ∧ 0 < v'
          · rw [if_pos c8] at h; exact hput _ _ _ h
          · rw [if_neg c8] at h; exact hsame _ h
        · rw [if_neg c6] at h; exact hsame _ h

/-- Whatever the order in which the bound variables come, whether one's term stands within itself is r. -/
def RoundS (S : Sm) (k : Nat) (r : Bool) : Prop := ∀ ord : List Int, ord.Nodup → (∀ v, v ∈ ord ↔ v ∈ S.map (·.1)) → ∃ s, anyP (loopsP S k) (ord.map varT) [] = some (r, s)
/-- The bindings, with all that is bound put in; some none: one is too great. -/
def bindsS (S : Sm) (W F : Nat) : List (Int × S24) → List S50 → Option (Option (List S50))
  | [], acc => some (some acc)
  | p :: r, acc => match fullS S W F p.2 1 0 with
    | none => none
    | some q => if q.2.1 = true then bindsS S W F r (acc ++ [⟨p.1, q.1⟩]) else some none
/-- What Solve answers, where these numbers of steps are enough. -/
def SolveOK (W K k F : Nat) (a b : S24) (res : List S50 × Bool × Int) : Prop :=
  if (okT a && okT b) = false then res = ([], false, 70)
  else ∃ S ok, solveS W K [] [(a, b)] = some (S, ok) ∧ (if ok = false then res = ([], false, 0) else ∃ r, RoundS S k r ∧ (if r = true then res = ([], false, 0) else ∃ o, bindsS S W F S [] = some o ∧ res = (match o with | none => ([], false, 2) | some bs => (bs, true, 0))))

theorem msorted_nodup {α : Type} {L : List (Int × α)} (h : msorted L) : (L.map (·.1)).Nodup := by
  unfold msorted at h
  rw [List.nodup_iff_pairwise_ne, List.pairwise_map]
  exact List.Pairwise.imp (fun h => by omega) h

set_option maxHeartbeats 1000000 in
set_option maxRecDepth 100000 in
theorem solve_of (W K k F : Nat) (a b : S24) (res : List S50 × Bool × Int) (hres : SolveOK W K k F a b res) (hK : K * 8 < 1000000) (w : World) (A A' : Option Addr) (c c' : Nat) (ha : Lies w a A c) (hb : Lies w b A' c') :
    Calls Try.prog 31 #[.agg #[.int .i64 a.f0, .string a.f1, .int .i64 a.f2, .slice A a.f3.length c], .agg #[.int .i64 b.f0, .string b.f1, .int .i64 b.f2, .slice A' b.f3.length c']] w fun e w' => ∃ v,
      e = .returned (.tuple #[v, .bool res.2.1, .int .i64 res.2.2]) ∧ Kd.R k50 50 w' w.heap.size (fun _ => True) v res.1 ∧ Below w.heap.size w w' := by
  have hr := right_two a b w A A' c c' ha.C ha.le hb.C hb.le
  unfold SolveOK at hres
  by_cases hk : (okT a && okT b) = false
  · rw [if_pos hk] at hres
    subst hres
    rw [hk] at hr
    go_enter Try.func31, Try.ntmps31
    go_wp2_with fail
    refine hr.mono ?_
    rintro e w1 ⟨rfl, h1, x0, x1, x2, x3, y0, y1, y2, y3⟩
    clear hr
    go_wp2
    refine bodyPost_ret (v := .tuple #[.slice none 0 0, .bool false, .int .i64 70]) (by simp [results, Try.results31, go_sem]) rfl ⟨.slice none 0 0, rfl, Kd.R_nil _ _ _ _ _, h1⟩
  rw [if_neg hk] at hres
  have hk' : (okT a && okT b) = true := by simpa using hk
  rw [hk'] at hr
  obtain ⟨S, ok, hsol, hres⟩ := hres
  have hkeep := solveS_keeps W K [] _ _ _ hsol List.Pairwise.nil
  have hmm := @run_makeMap Try.prog
  clear hk hk'
  go_enter Try.func31, Try.ntmps31
  go_wp2_with fail
  refine hr.mono ?_
  rintro e w1 ⟨rfl, h1, x0, x1, x2, x3, y0, y1, y2, y3⟩
  clear hr
  have hbm := below_alloc (Below.refl w1.heap.size w1) (.map #[] 0)
  replace x0 := (hbm.cell (World.block_lt_of_cell? w1 _ x0)).trans x0
  replace x1 := (hbm.cell (World.block_lt_of_cell? w1 _ x1)).trans x1
  replace x2 := (hbm.cell (World.block_lt_of_cell? w1 _ x2)).trans x2
  replace x3 := (hbm.cell (World.block_lt_of_cell? w1 _ x3)).trans x3
  replace y0 := (hbm.cell (World.block_lt_of_cell? w1 _ y0)).trans y0
  replace y1 := (hbm.cell (World.block_lt_of_cell? w1 _ y1)).trans y1
  replace y2 := (hbm.cell (World.block_lt_of_cell? w1 _ y2)).trans y2
  replace y3 := (hbm.cell (World.block_lt_of_cell? w1 _ y3)).trans y3
  have hB1 := below_alloc h1 (.map #[] 0)
  have hso := solve_any W K w1.heap.size w a b A A' c c' (w1.alloc (.map #[] 0)) [] S ok hsol ha hb (fun k tv hk => by simp [mget] at hk) (TmapAt.new w1) hB1 h1.size (by simp; omega)
  clear hbm
  go_wp2_with fail
  refine hso.mono ?_
  rintro e w5 ⟨L, rfl, hLS, hL, hM5, hf5⟩
  have hB5 := hf5.below hB1 h1.size
  clear hso x0 x1 x2 x3 y0 y1 y2 y3
  cases ok with
  | false =>
    rw [if_pos rfl] at hres
    subst hres
    go_wp2
    refine bodyPost_ret (v := .tuple #[.slice none 0 0, .bool false, .int .i64 0]) (by simp [results, Try.results31, go_sem]) rfl ⟨.slice none 0 0, rfl, Kd.R_nil _ _ _ _ _, hB5⟩
  | true =>
  rw [if_neg (by simp)] at hres
  obtain ⟨r, hrS, hres⟩ := hres
  have hms : msorted L := by
    have := hkeep.1
    rw [← hLS] at this
    unfold msorted strip at this
    rw [List.pairwise_map] at this
    exact this
  have hlen : L.length ≤ K := by
    have := hkeep.2
    rw [← hLS] at this
    simpa [strip] using this
  have hro := round_any w w5 w1.heap.size k L r (by
    intro ord hn hv
    rw [hLS]
    exact hrS ord hn (by rw [← hLS, strip_keys]; exact hv)) (msorted_nodup hms) hL hB5 h1.size hM5
  go_wp2_with fail
  refine hro.mono ?_
  rintro e w6 ⟨rfl, hM6, hb6⟩
  have hB6 := below_step hB5 hb6
  clear hro hM5 hf5 hB5 hB1
  cases r with
  | true =>
    rw [if_pos rfl] at hres
    subst hres
    go_wp2
    refine bodyPost_ret (v := .tuple #[.slice none 0 0, .bool false, .int .i64 0]) (by simp [results, Try.results31, go_sem]) rfl ⟨.slice none 0 0, rfl, Kd.R_nil _ _ _ _ _, hB6⟩
  | false =>
  rw [if_neg (by simp)] at hres
  obtain ⟨o, ho, hres⟩ := hres
  have hkc := keys_call (some w1.heap.size) w6
  have hsc := sorted_call w6 w1.heap.size L hM6 hms (by omega)
  go_wp2_with fail
  refine hkc.mono ?_
  rintro e w7 ⟨rfl, rfl⟩
  go_wp2_with fail
  refine hsc.mono ?_
  rintro e w8 ⟨v8, rfl, hrow8, hb8⟩
  have hM8 := hM6.alike (hb8.block _ hM6.lt)
  have hB8 := below_step hB6 hb8
  have hO8 : OutAt w8 w6.heap.size v8 (L.map (·.1)) := by unfold OutAt; rw [List.length_map]; exact hrow8
  obtain ⟨Av, cv, rfl, hcv, CV⟩ := hO8.reads
  have hmx := CV.2.1
  rw [List.length_map] at hmx hcv
  have hsz6 := hb6.size
  have hmlt := hM6.lt
  have hsz8 := hb8.size
  have hw1 := h1.size
  obtain ⟨N6, hN6⟩ : ∃ N, N = w6.heap.size := ⟨_, rfl⟩
  have hn8 : N6 ≤ w8.heap.size := by
    rw [hN6]
    exact hb8.size
  rw [← hN6] at hO8 hmlt
  have hm6 : w1.heap.size < N6 := by omega
  have hw6 : w.heap.size ≤ N6 := by have := hB6.size; omega
  clear hkc hsc hrow8 hb8 hM6 hB6 hb6 CV hN6 h1
  rw [List.length_map]
  have hls : strip L = S := hLS
  have hkeys := TmapAt.keys hM8
  go_wp2
  go_loopw [8, 33] (fun vo i wr => ∃ (j : Nat) (acc : List S50), j ≤ L.length ∧ i = .int .i64 j ∧ bindsS S W F (S.drop j) acc = some o ∧ acc.length ≤ j ∧ Kd.R k50 50 wr w.heap.size (fun q => N6 ≤ q) vo acc ∧ OutAt wr N6 (.slice Av L.length cv) (L.map (·.1)) ∧ TmapAt wr w1.heap.size L ∧ Below w.heap.size w wr ∧ N6 ≤ wr.heap.size)
    (fun _ i _ => L.length - (intOf i).toNat)
  case atStart => exact ⟨0, [], Nat.zero_le _, rfl, ho, Nat.zero_le _, Kd.R_nil _ _ _ _ _, by rw [List.length_map] at hO8; exact hO8, hM8, hB8, by omega⟩
  case round =>
    clear ho hO8 hM8 hB8 hsz6 hsz8
    obtain ⟨j, acc, hj, rfl, ho, hal, hRo, hO, hM, hB, hn6⟩ := hrel
    by_cases hlt : j < L.length
    · obtain ⟨A5, c5, e5, hcv5, CV⟩ := OutAt.reads (by rw [List.length_map]; exact hO : OutAt wr N6 (.slice Av (L.map (·.1)).length cv) (L.map (·.1)))
      cases e5
      obtain ⟨ad, rfl, hy⟩ := ints_rd CV j (by rw [List.length_map]; exact hlt)
      have hlS : j < S.length := by rw [← hls]; simpa [strip] using hlt
      rw [List.drop_eq_getElem_cons hlS] at ho
      have hSj : S[j] = (L[j].1, L[j].2.1) := by
        subst hls
        simp [strip]
      rw [hSj, bindsS] at ho
      simp only at ho
      have hgj : mget L L[j].1 = some L[j].2 := mget_of_mem hms (List.getElem_mem hlt)
      obtain ⟨tC, tl, twf⟩ := hL _ _ hgj
      have hbn : bnd L L[j].1 = L[j].2 := by unfold bnd; rw [hgj]; rfl
      have hki : I64 L[j].1 := hkeys _ (List.mem_map.2 ⟨_, List.getElem_mem hlt, rfl⟩)
      have hlk := lookT 81 Try.underlying81 (hM.alloc (.cells #[.int .i64 0] 3)) hki false
      rw [hbn] at hlk
      simp only [Bool.false_eq_true, if_false, encT] at hlk
      rw [List.getElem_map] at hy
      generalize L[j] = p at ho hgj tC tl twf hbn hki hlk hy
      obtain ⟨pv, ⟨t, tA, tc⟩⟩ := p
      simp only at ho hgj tC tl twf hbn hki hlk hy
      obtain ⟨q, hq⟩ : ∃ q, fullS S W F t 1 0 = some q := by
        cases hh : fullS S W F t 1 0 with
        | none => rw [hh] at ho; cases ho
        | some q => exact ⟨q, rfl⟩
      rw [hq] at ho
      simp only at ho
      have hmw := hM.lt
      have hfu := full_any W L w1.heap.size wr.heap.size w (by omega) hL F t 1 0 q (by rw [hls]; exact hq) twf (wr.alloc (.cells #[.int .i64 0] 3)) tc tA (hM.alloc _) tC tl (below_alloc hB _) hB.size (blk_new _ _) (by omega) (by omega) (by omega) (by omega)
      have hBa := below_alloc hB (.cells #[.int .i64 0] 3)
      go_wp2_with fail
      refine hfu.mono ?_
      rintro e w9 ⟨v9, rfl, hR9, hf9, hc9⟩
      obtain ⟨A9, c9, rfl, hcl9, C9⟩ := Kd.R_reads hR9
      obtain ⟨⟨q0, q1, q2, q3⟩, qk, qs⟩ := q
      simp only at ho hR9 hcl9 C9 hc9
      have hB9 := hf9.below hBa hB.size
      have hga : (wr.alloc (.cells #[.int .i64 0] 3)).heap.size = wr.heap.size + 1 := by simp
      rw [hga] at hR9
      have hn9 : wr.heap.size + 1 ≤ w9.heap.size := by have := hf9.size; omega
      have hfw : Fg wr.heap.size wr w9 := ((Fg.refl wr.heap.size wr).alloc _).trans hf9
      have hgw : wr.grownBy w9 none := ⟨hfw.os, hfw.tape, hfw.output, hfw.size, fun q hq _ => hfw.block q hq (by omega)⟩
      have hM9 := hM.fg hfw (by omega)
      have hO9 : OutAt w9 N6 (.slice (some ad) L.length cv) (L.map (·.1)) := World.ownsRow.kept hO hgw (Classical.em (_ = none))
      have hRo9 := Kd.R_step hRo (w1 := w9) fun q hq hlt => hfw.block q hlt (by omega)
      clear hfu hlk
      cases qk with
      | false =>
        simp only [Bool.false_eq_true, if_false, Option.some.injEq] at ho
        subst ho
        simp only at hres
        subst hres
        have hBz := below_alloc hB9 (.cells #[.int .i64 q0, .string q1, .int .i64 q2, .slice A9 q3.length c9] 24)
        go_wp2
        refine bodyPost_ret (v := .tuple #[.slice none 0 0, .bool false, .int .i64 2]) (by simp [results, Try.results31, go_sem]) rfl ⟨.slice none 0 0, rfl, Kd.R_nil _ _ _ _ _, hBz⟩
      | true =>
        simp only [if_true] at ho
        have hlr := Kd.R_lt hRo
        have kX := blk_new w9 (.cells #[.int .i64 q0, .string q1, .int .i64 q2, .slice A9 q3.length c9] 24)
        have hMx : Kd.M k50 (w9.alloc (.cells #[.int .i64 q0, .string q1, .int .i64 q2, .slice A9 q3.length c9] 24)) w.heap.size (fun q => wr.heap.size ≤ q) (⟨pv, ⟨q0, q1, q2, q3⟩⟩ : S50) [.int .i64 pv, .int .i64 q0, .string q1, .int .i64 q2, .slice A9 q3.length c9] :=
          k50_mkM (w9.alloc (.cells #[.int .i64 q0, .string q1, .int .i64 q2, .slice A9 q3.length c9] 24)) w.heap.size _ (⟨pv, ⟨q0, q1, q2, q3⟩⟩ : S50) (Kd.R_alloc (Kd.R_mono (Kd.R_lower (Kd.R_bound hR9) (by have := hB.size; omega)) (fun q hq => by have := hq.2.1; omega)) _)
        have hRx := Kd.R_alloc hRo9 (.cells #[.int .i64 q0, .string q1, .int .i64 q2, .slice A9 q3.length c9] 24)
        have hOx : OutAt (w9.alloc (.cells #[.int .i64 q0, .string q1, .int .i64 q2, .slice A9 q3.length c9] 24)) N6 (.slice (some ad) L.length cv) (L.map (·.1)) := World.ownsRow.alloc hO9 _
        have hMt := hM9.alloc (.cells #[.int .i64 q0, .string q1, .int .i64 q2, .slice A9 q3.length c9] 24)
        have hBx := below_alloc hB9 (.cells #[.int .i64 q0, .string q1, .int .i64 q2, .slice A9 q3.length c9] 24)
        have hnx : wr.heap.size ≤ (w9.alloc (.cells #[.int .i64 q0, .string q1, .int .i64 q2, .slice A9 q3.length c9] 24)).heap.size := by simp; omega
        have haK : ∀ q, wr.heap.size ≤ q → N6 ≤ q ∧ some q ≠ u8.ownBlock := fun q hq => ⟨by omega, fun e => by have := hlr q e.symm; omega⟩
        clear hM9 hB9 hO9 hRo9 hR9 hf9 hc9 C9 hfw hgw hRo
        go_upto_region 14 with (fail)
        obtain ⟨XB, hXB⟩ : ∃ q, q = w9.heap.size := ⟨_, rfl⟩
        rw [← hXB] at kX ⊢
        clear hXB
        generalize w9.alloc (.cells #[.int .i64 q0, .string q1, .int .i64 q2, .slice A9 q3.length c9] 24) = W at kX hMx hRx hOx hMt hBx hnx ⊢
        have z0 : W.cell? ⟨XB, 0, none⟩ = some (.int .i64 q0) := blk_cell kX 0
        have z1 : W.cell? ⟨XB, 1, none⟩ = some (.string q1) := blk_cell kX 1
        have z2 : W.cell? ⟨XB, 2, none⟩ = some (.int .i64 q2) := blk_cell kX 2
        have z3 : W.cell? ⟨XB, 3, none⟩ = some (.slice A9 q3.length c9) := blk_cell kX 3
        have lX := blk_lt kX
        have haF : ∀ q, W.heap.size ≤ q → N6 ≤ q := fun q hq => by omega
        have lacc : (acc.length + 1) * 64 ≤ 140737488355328 := by omega
        have hown : ∀ q, u8.ownBlock = some q → N6 ≤ q := fun q hq => hRx.1 q hq
        go_wp2_with (first
          | (at_builtin; refine Kd.R_append k50 (w0 := W) w.heap.size rfl (.tmp 47) (.tmp 51) 44 50 (.agg #[.int .i64 0, .int .i64 0, .string ⟨#[]⟩, .int .i64 0, .slice none 0 0]) 64 rfl Try.underlying44 info50 rfl (by decide) (by omega) u8 acc (⟨pv, ⟨q0, q1, q2, q3⟩⟩ : S50) [.int .i64 pv, .int .i64 q0, .string q1, .int .i64 q2, .slice A9 q3.length c9] (fun q => N6 ≤ q) (fun q => wr.heap.size ≤ q) rfl rfl hMx haK haF hRx (Below.refl _ _) hBx.size lacc ?_
             intro v10 w10 hR10 hb10 hg10 hat10))
        go_roundw
        case rel => exact ⟨j + 1, acc ++ [⟨pv, ⟨q0, q1, q2, q3⟩⟩], hlt, by go_num, ho, by simp; omega, hR10, World.ownsRow.kept hOx hg10 (by
          cases h1 : (Value.slice (some ad) L.length cv).ownBlock with
          | none => exact .inl rfl
          | some q =>
            refine .inr (fun e => ?_)
            obtain ⟨cu, hcu⟩ := own_typed hOx q h1
            obtain ⟨cu2, hcu2⟩ := Kd.R_typed hRx q e.symm
            exact blk_ne hcu hcu2 (by decide) rfl), hMt.alike (hg10.block _ hMt.lt (fun e => by have := hown _ e.symm; omega)), below_grown hBx hg10 (fun q e => by have := hown q e; omega) (Nat.le_refl _), by have := hg10.size; omega⟩
        case measure => simp [intOf]; omega
    · obtain rfl : j = L.length := by omega
      have hlS : L.length = S.length := by rw [← hls]; simp [strip]
      rw [hlS, List.drop_length, bindsS] at ho
      simp only [Option.some.injEq] at ho
      subst ho
      simp only at hres
      subst hres
      go_wp2
      refine bodyPost_ret (v := .tuple #[u8, .bool true, .int .i64 0]) (by simp [results, Try.results31, go_sem]) rfl ⟨u8, rfl, Kd.R_mono hRo (fun _ _ => trivial), hB⟩

end Go.Proofs.Ytpnkaggkedepeaa


/- List in plain words and its walk. -/
namespace Go.Proofs.Ytpnkaggkedepeaa
set_option linter.unusedVariables false
open Go.RowKit Go.Maps Go.Shelf Go.Proofs.YtpnkaggkedepeaaW.PrintWords Go.Proofs.YtpnkaggkedepeaaW.PrintLast Go.Proofs.YtpnkaggkedepeaaW.PrintMore Go.Proofs.Ytpnkaggkedepeaa.PTermTells Go.Extern
attribute [local go_sem] Oper.semAt_some

/-- A list of terms, and its tail. -/
def consT (t out : S24) : S24 := ⟨4, ⟨#[46]⟩, 0, [t, out]⟩
def listT (ts : List S24) (tail : S24) : S24 := ts.foldr consT tail
/-- What List answers. -/
def listA (ts : List S24) (tail : S24) : S24 × Int :=
  if 100 < ts.length then (z24, 70) else if okT (listT ts tail) = false then (z24, 70) else ((cpT (listT ts tail) 1 0).1, 0)

theorem C24_cells {w w' : World} (hw : ∀ a v, w.cell? a = some v → w'.cell? a = some v) : ∀ (n : Nat) (xs : List S24), SizeOf.sizeOf xs = n → ∀ (A : Option Addr), Kd.C k24 w A xs.length xs → Kd.C k24 w' A xs.length xs := by
  intro n
  induction n using Nat.strongRecOn with
  | _ n ih =>
  intro xs hn A h
  refine ⟨rfl, h.2.1, fun hp => ?_⟩
  obtain ⟨ad, rfl, hel⟩ := h.2.2 hp
  refine ⟨ad, rfl, fun j p hj => ?_⟩
  obtain ⟨cs, hl, hK, hc⟩ := hel j p hj
  obtain ⟨A3, c3, rfl, l3, g3⟩ := k24_open hK
  have hm : p ∈ xs := List.mem_of_getElem? hj
  have hs : SizeOf.sizeOf p.f3 < n := by
    have h1 := List.sizeOf_lt_of_mem hm
    have h2 : SizeOf.sizeOf p.f3 < SizeOf.sizeOf p := by
      cases p with
      | mk k n i xs => simp only [S24.mk.sizeOf_spec]; omega
    omega
  exact ⟨_, hl, k24_mk w' p l3 (ih _ hs p.f3 rfl A3 g3), fun i u hu => hw _ _ (hc i u hu)⟩

theorem backward_in (F : Fence) (n : Nat) (h : F.fn 58) (hro : F.round = none) (a : Option Addr) (len cap : Nat) (w : World) :
    CallsIn F n Try.prog 58 #[.slice a len cap] w fun e w' => e = .returned (.func (.func 74) #[] #[.pointer (some ⟨w.heap.size, 0, none⟩)]) ∧ w' = w.alloc (.cells #[.slice a len cap] 22) := by
  refine callsIn_of_wp Try.func58 rfl h ?_ hro
  simp only [Try.ntmps58, List.size_toArray, List.length_cons, List.length_nil, Nat.reduceAdd, Nat.reduceSub, Array.replicate_succ, Array.replicate_zero, List.push_toArray, List.append_toArray, List.nil_append, List.cons_append]
  gi_wp2
  go_ret
  exact ⟨rfl, rfl⟩

/-- What Backward hands on: a place, and a term that lies in w0. -/
abbrev Elt (w0 : World) := { p : Int × Tv // Lies w0 p.2.1 p.2.2.1 p.2.2.2 }
def encE {w0 : World} (x : Elt w0) : Array Value := #[.int .i64 x.1.1, .agg #[.int .i64 x.1.2.1.f0, .string x.1.2.1.f1, .int .i64 x.1.2.1.f2, .slice x.1.2.2.1 x.1.2.1.f3.length x.1.2.2.2]]
def trm {w0 : World} (x : Elt w0) : S24 := x.1.2.1
/-- What a round keeps: what lay in w0, and the box of the slice. -/
structure KpL (w0 : World) (Bs : Nat) (W W' : World) : Prop where
  b : Below w0.heap.size W W'
  k : ∀ o, W.heap[Bs]? = some o → W'.heap[Bs]? = some o
theorem KpL.trans {w0 : World} {Bs : Nat} {A B C : World} (h : KpL w0 Bs A B) (k : KpL w0 Bs B C) : KpL w0 Bs A C := ⟨h.b.trans k.b, fun o ho => k.k o (h.k o ho)⟩

set_option maxRecDepth 100000 in
set_option maxHeartbeats 2000000 in
theorem back1_in (F : Fence) (n : Nat) (h74 : F.fn 74) (hro : F.round = none) (hn : 1 ≤ n) (l Bs : Nat) (w0 : World) (ts : List S24) (A : Option Addr) (cap : Nat) (hC : Kd.C k24 w0 A ts.length ts) (hwf : ∀ t ∈ ts, wfT t) (hl : ts.length < 1000000) (J Jx : List (Elt w0) → World → Prop)
    (hY : ∀ pre x W, J pre W → pre.length < ts.length → YieldAt F (n - 1) Try.prog l (encE x) W fun e W' =>
      (e = .returned (.bool true) ∧ J (pre ++ [x]) W' ∧ KpL w0 Bs W W') ∨ (e = .returned (.bool false) ∧ Jx (pre ++ [x]) W'))
    (W : World) (hB : Below w0.heap.size w0 W) (hBs : W.heap[Bs]? = some (.cells #[.slice A ts.length cap] 22 (0, 0))) (h0 : J [] W) :
    CallsIn F n Try.prog 74 #[.func (.yield l) #[] #[], .pointer (some ⟨Bs, 0, none⟩)] W fun e W' => (∃ v, e = .returned v) ∧
      ((∃ ys, ys.map trm = ts.reverse ∧ J ys W') ∨ (∃ pre, True ∧ Jx pre W')) := by
  have hmx := hC.2.1
  have b0 : W.cell? ⟨Bs, 0, none⟩ = some (.slice A ts.length cap) := blk_cell hBs 0
  refine callsIn_of_wp Try.func74 rfl h74 ?_ hro
  simp only [Try.ntmps74, List.size_toArray, List.length_cons, List.length_nil, Nat.reduceAdd, Nat.reduceSub, Array.replicate_succ, Array.replicate_zero, List.push_toArray, List.append_toArray, List.nil_append, List.cons_append]
  gi_wp2
  gi_loopw [3] (fun i wr => ∃ (k : Nat) (ys : List (Elt w0)), k ≤ ts.length ∧ i = .int .i64 ((ts.length : Int) - 1 - k) ∧ ys.length = k ∧ ys.map trm = ts.reverse.take k ∧ J ys wr ∧ Below w0.heap.size w0 wr ∧ wr.heap[Bs]? = some (.cells #[.slice A ts.length cap] 22 (0, 0)))
    (fun i _ => (intOf i + 1).toNat)
  case atStart => exact ⟨0, [], Nat.zero_le _, by simp, rfl, rfl, h0, hB, hBs⟩
  case round =>
    clear hB hBs h0 b0
    obtain ⟨k, ys, hk, rfl, hyl, hym, hJ, hB, hBs⟩ := hrel
    have b0 : wr.cell? ⟨Bs, 0, none⟩ = some (.slice A ts.length cap) := blk_cell hBs 0
    by_cases hlt : k < ts.length
    · have hx : ts.length - 1 - k < ts.length := by omega
      obtain ⟨ad, A3, c3, rfl, y0, y1, y2, y3, l3, g3⟩ := C_rd hC (ts.length - 1 - k) hx rfl
      replace y0 := (hB.cell (World.block_lt_of_cell? w0 _ y0)).trans y0
      replace y1 := (hB.cell (World.block_lt_of_cell? w0 _ y1)).trans y1
      replace y2 := (hB.cell (World.block_lt_of_cell? w0 _ y2)).trans y2
      replace y3 := (hB.cell (World.block_lt_of_cell? w0 _ y3)).trans y3
      have hwx := hwf _ (List.getElem_mem hx)
      have hrt : ts.reverse.take (k + 1) = ts.reverse.take k ++ [ts[ts.length - 1 - k]] := by
        rw [List.take_succ_eq_append_getElem (by rw [List.length_reverse]; exact hlt), List.getElem_reverse]
      generalize ts[ts.length - 1 - k] = a at y0 y1 y2 y3 l3 g3 hwx hrt
      obtain ⟨j, hj⟩ : ∃ j : Nat, j = ts.length - 1 - k := ⟨_, rfl⟩
      have hji : ((ts.length : Int) - 1 - k) = (j : Int) := by omega
      have hjl : j < ts.length := by omega
      rw [← hj] at y0 y1 y2 y3
      rw [hji]
      obtain ⟨fn, tmps, assign, body, hy, hR⟩ := hY ys ⟨((j : Int), (a, A3, c3)), ⟨g3, l3, hwx⟩⟩ wr hJ (by omega)
      unfold encE at hy
      dsimp only at hy
      have HJ := Lib.hid hji
      clear hj hji
      gi_wp2
      refine hR.mono ?_
      rintro e W3 (⟨rfl, hJ3, hk3⟩ | ⟨rfl, hJx3⟩)
      · gi_wp2
        go_roundw
        case rel => exact ⟨k + 1, ys ++ [⟨((j : Int), (a, A3, c3)), ⟨g3, l3, hwx⟩⟩], by omega, by have := HJ.out; congr 1; push_cast; omega, by simp [hyl], by rw [hrt, List.map_append, hym]; rfl, hJ3, hB.trans hk3.b, hk3.k _ hBs⟩
        case measure => simp [intOf]
      · gi_wp2
        refine bodyPost_ret (results_none rfl _ _ _) rfl ?_
        exact ⟨⟨_, rfl⟩, .inr ⟨_, trivial, hJx3⟩⟩
    · obtain rfl : k = ts.length := by omega
      gi_wp2
      go_end0
      exact ⟨⟨_, rfl⟩, .inl ⟨ys, by rw [hym, List.take_of_length_le (by simp)], hJ⟩⟩

theorem cell_minus {W : World} {g : Nat} (o : Obj) (a : Addr) (h : a.block ≠ g) : (W.putObj g o).cell? a = W.cell? a := by
  have : (W.heap.setIfInBounds g o)[a.block]? = W.heap[a.block]? := by rw [Array.getElem?_setIfInBounds_ne (Ne.symm h)]
  simp only [World.cell?, World.putObj, this]
theorem cell_minus0 {W : World} {g : Nat} (a : Addr) (v : Value) (hg : g < W.heap.size) (h : (W.putObj g (.deferred none)).cell? a = some v) : a.block ≠ g ∧ W.cell? a = some v := by
  by_cases e : a.block = g
  · exfalso
    have : (W.heap.setIfInBounds g (.deferred none))[a.block]? = some (.deferred none) := by rw [e]; simp [hg]
    simp only [World.cell?, World.putObj, this] at h
    cases h
  · exact ⟨e, by rwa [cell_minus _ _ e] at h⟩

/-- The list as far as it has come: the box of it, the box of the result, the box of the slice; what lay stays. -/
structure OutL (w : World) (B : Value) (X : S24) (W : World) : Prop where
  box : ∃ A5 c5, W.heap[w.heap.size + 2]? = some (.cells #[.int .i64 X.f0, .string X.f1, .int .i64 X.f2, .slice A5 X.f3.length c5] 24 (0, 0)) ∧ X.f3.length ≤ c5 ∧
    ∃ V : World, (∀ a v, V.cell? a = some v → a.block ≠ w.heap.size + 2 ∧ W.cell? a = some v) ∧ Kd.C k24 V A5 X.f3.length X.f3
  res : W.heap[w.heap.size + 1]? = some (.cells #[.int .i64 0, .string .empty, .int .i64 0, .slice none 0 0] 24 (0, 0))
  src : W.heap[w.heap.size + 3]? = some (.cells #[B] 22 (0, 0))
  bel : Below w.heap.size w W

theorem OutL.grown {w : World} {B : Value} {X : S24} {W W' : World} {row : Option Nat} (h : OutL w B X W) (hg : W.grownBy W' row) (hr : ∀ r, row = some r → w.heap.size ≤ r ∧ ∃ o : Obj, W.heap[r]? = some o ∧ o.isCells = false) : OutL w B X W' := by
  have hr2 := fun r e => (hr r e).2
  obtain ⟨A5, c5, hb, h5, V, hV, hC⟩ := h.box
  exact ⟨⟨A5, c5, (grownBy_keeps_cells hg hr2 hb rfl).trans hb, h5, V, fun a v hv => ⟨(hV a v hv).1, cell_kept (hV a v hv).2 hg hr2⟩, hC⟩, (grownBy_keeps_cells hg hr2 h.res rfl).trans h.res, (grownBy_keeps_cells hg hr2 h.src rfl).trans h.src, h.bel.grown hg h.bel.size (fun k e => (hr k e).1)⟩

theorem outL_own {α : Type} (w : World) (B : Value) (f : List α → S24) (b : Nat) (hb : w.heap.size ≤ b) : OwnFrom b (fun (pre : List α) W => OutL w B (f pre) W) :=
  fun s A B' row hs hg hr => hs.grown hg (fun r e => ⟨Nat.le_trans hb (hr r e).1, (hr r e).2⟩)

theorem OutL.alloc {w : World} {B : Value} {X : S24} {W : World} (h : OutL w B X W) (o : Obj) : OutL w B X (W.alloc o) :=
  h.grown (World.grownBy_alloc W o none) (fun r e => by cases e)

theorem OutL.start (w W : World) (B : Value) (t : S24) (A : Option Addr) (c : Nat) (ht : Lies w t A c) (hB : Below w.heap.size w W)
    (h2 : W.heap[w.heap.size + 2]? = some (.cells #[.int .i64 t.f0, .string t.f1, .int .i64 t.f2, .slice A t.f3.length c] 24 (0, 0)))
    (h1 : W.heap[w.heap.size + 1]? = some (.cells #[.int .i64 0, .string .empty, .int .i64 0, .slice none 0 0] 24 (0, 0)))
    (h3 : W.heap[w.heap.size + 3]? = some (.cells #[B] 22 (0, 0))) : OutL w B t W :=
  ⟨⟨A, c, h2, ht.le, w, fun a v hv => ⟨fun e => by have := World.block_lt_of_cell? w _ hv; omega, (hB.cell (World.block_lt_of_cell? w _ hv)).trans hv⟩, ht.1⟩, h1, h3, hB⟩

theorem OutL.step {w : World} {B : Value} {X : S24} {W : World} (h : OutL w B X W) {t : S24} {A3 : Option Addr} {c3 : Nat} (ht : Lies w t A3 c3) {A5 : Option Addr} {c5 : Nat}
    (hb : W.heap[w.heap.size + 2]? = some (.cells #[.int .i64 X.f0, .string X.f1, .int .i64 X.f2, .slice A5 X.f3.length c5] 24 (0, 0))) (h5 : X.f3.length ≤ c5)
    {V : World} (hV : ∀ a v, V.cell? a = some v → a.block ≠ w.heap.size + 2 ∧ W.cell? a = some v) (hC : Kd.C k24 V A5 X.f3.length X.f3) :
    OutL w B (consT t X) (((((W.setCell ⟨w.heap.size + 2, 0, none⟩ (.int .i64 4)).setCell ⟨w.heap.size + 2, 1, none⟩ (.string ⟨#[46]⟩)).setCell ⟨w.heap.size + 2, 2, none⟩ (.int .i64 0)).setCell ⟨w.heap.size + 2, 3, none⟩ (.slice (some ⟨W.heap.size, 0, none⟩) 2 2)).alloc (.cells #[.int .i64 t.f0, .string t.f1, .int .i64 t.f2, .slice A3 t.f3.length c3, .int .i64 X.f0, .string X.f1, .int .i64 X.f2, .slice A5 X.f3.length c5] 24)) ∧ KeepsOthers W (((((W.setCell ⟨w.heap.size + 2, 0, none⟩ (.int .i64 4)).setCell ⟨w.heap.size + 2, 1, none⟩ (.string ⟨#[46]⟩)).setCell ⟨w.heap.size + 2, 2, none⟩ (.int .i64 0)).setCell ⟨w.heap.size + 2, 3, none⟩ (.slice (some ⟨W.heap.size, 0, none⟩) 2 2)).alloc (.cells #[.int .i64 t.f0, .string t.f1, .int .i64 t.f2, .slice A3 t.f3.length c3, .int .i64 X.f0, .string X.f1, .int .i64 X.f2, .slice A5 X.f3.length c5] 24)) ∧ Below w.heap.size W (((((W.setCell ⟨w.heap.size + 2, 0, none⟩ (.int .i64 4)).setCell ⟨w.heap.size + 2, 1, none⟩ (.string ⟨#[46]⟩)).setCell ⟨w.heap.size + 2, 2, none⟩ (.int .i64 0)).setCell ⟨w.heap.size + 2, 3, none⟩ (.slice (some ⟨W.heap.size, 0, none⟩) 2 2)).alloc (.cells #[.int .i64 t.f0, .string t.f1, .int .i64 t.f2, .slice A3 t.f3.length c3, .int .i64 X.f0, .string X.f1, .int .i64 X.f2, .slice A5 X.f3.length c5] 24)) := by
  have hsz := h.bel.size
  have h2 := (Array.getElem?_eq_some_iff.1 hb).1
  have h3 := (Array.getElem?_eq_some_iff.1 h.src).1
  have kF := res_box hb (.int .i64 4) (.string ⟨#[46]⟩) (.int .i64 0) (.slice (some ⟨W.heap.size, 0, none⟩) 2 2)
  have hne : ∀ k, k ≠ w.heap.size + 2 → ((((W.setCell ⟨w.heap.size + 2, 0, none⟩ (.int .i64 4)).setCell ⟨w.heap.size + 2, 1, none⟩ (.string ⟨#[46]⟩)).setCell ⟨w.heap.size + 2, 2, none⟩ (.int .i64 0)).setCell ⟨w.heap.size + 2, 3, none⟩ (.slice (some ⟨W.heap.size, 0, none⟩) 2 2)).heap[k]? = W.heap[k]? := fun k hk =>
    (Below.heap_setCell _ _ _ k hk).trans ((Below.heap_setCell _ _ _ k hk).trans ((Below.heap_setCell _ _ _ k hk).trans (Below.heap_setCell _ _ _ k hk)))
  have hW2 : Below w.heap.size W ((((W.setCell ⟨w.heap.size + 2, 0, none⟩ (.int .i64 4)).setCell ⟨w.heap.size + 2, 1, none⟩ (.string ⟨#[46]⟩)).setCell ⟨w.heap.size + 2, 2, none⟩ (.int .i64 0)).setCell ⟨w.heap.size + 2, 3, none⟩ (.slice (some ⟨W.heap.size, 0, none⟩) 2 2)) :=
    ((((Below.refl w.heap.size W).setCell (p := ⟨w.heap.size + 2, 0, none⟩) (by simp) _).setCell (p := ⟨w.heap.size + 2, 1, none⟩) (by simp) _).setCell (p := ⟨w.heap.size + 2, 2, none⟩) (by simp) _).setCell (p := ⟨w.heap.size + 2, 3, none⟩) (by simp) _
  have hK : KeepsOthers W ((((W.setCell ⟨w.heap.size + 2, 0, none⟩ (.int .i64 4)).setCell ⟨w.heap.size + 2, 1, none⟩ (.string ⟨#[46]⟩)).setCell ⟨w.heap.size + 2, 2, none⟩ (.int .i64 0)).setCell ⟨w.heap.size + 2, 3, none⟩ (.slice (some ⟨W.heap.size, 0, none⟩) 2 2)) := (((KeepsOthers.setCell _ _ _).trans (KeepsOthers.setCell _ _ _)).trans (KeepsOthers.setCell _ _ _)).trans (KeepsOthers.setCell _ _ _)
  have hss : ((((W.setCell ⟨w.heap.size + 2, 0, none⟩ (.int .i64 4)).setCell ⟨w.heap.size + 2, 1, none⟩ (.string ⟨#[46]⟩)).setCell ⟨w.heap.size + 2, 2, none⟩ (.int .i64 0)).setCell ⟨w.heap.size + 2, 3, none⟩ (.slice (some ⟨W.heap.size, 0, none⟩) 2 2)).heap.size = W.heap.size := by simp
  generalize ((((W.setCell ⟨w.heap.size + 2, 0, none⟩ (.int .i64 4)).setCell ⟨w.heap.size + 2, 1, none⟩ (.string ⟨#[46]⟩)).setCell ⟨w.heap.size + 2, 2, none⟩ (.int .i64 0)).setCell ⟨w.heap.size + 2, 3, none⟩ (.slice (some ⟨W.heap.size, 0, none⟩) 2 2)) = WS at kF hne hW2 hK hss ⊢
  have hbk := World.alloc_heap_new WS (.cells #[.int .i64 t.f0, .string t.f1, .int .i64 t.f2, .slice A3 t.f3.length c3, .int .i64 X.f0, .string X.f1, .int .i64 X.f2, .slice A5 X.f3.length c5] 24)
  rw [hss] at hbk
  have hBA : Below w.heap.size W (WS.alloc (.cells #[.int .i64 t.f0, .string t.f1, .int .i64 t.f2, .slice A3 t.f3.length c3, .int .i64 X.f0, .string X.f1, .int .i64 X.f2, .slice A5 X.f3.length c5] 24)) := hW2.alloc (by omega) _
  refine ⟨?_, hK.trans (KeepsOthers.alloc _ _), hBA⟩
  have kF2 := blk_alloc kF (.cells #[.int .i64 t.f0, .string t.f1, .int .i64 t.f2, .slice A3 t.f3.length c3, .int .i64 X.f0, .string X.f1, .int .i64 X.f2, .slice A5 X.f3.length c5] 24)
  have hne2 : ∀ k, k < W.heap.size → k ≠ w.heap.size + 2 → (WS.alloc (.cells #[.int .i64 t.f0, .string t.f1, .int .i64 t.f2, .slice A3 t.f3.length c3, .int .i64 X.f0, .string X.f1, .int .i64 X.f2, .slice A5 X.f3.length c5] 24)).heap[k]? = W.heap[k]? := fun k hk1 hk => (Below.heap_alloc WS _ k (by omega)).trans (hne k hk)
  generalize WS.alloc (.cells #[.int .i64 t.f0, .string t.f1, .int .i64 t.f2, .slice A3 t.f3.length c3, .int .i64 X.f0, .string X.f1, .int .i64 X.f2, .slice A5 X.f3.length c5] 24) = WF at kF2 hbk hne2 hBA ⊢
  have hBF : Below w.heap.size w WF := h.bel.trans hBA
  have hcF : ∀ a v, a.block ≠ w.heap.size + 2 → W.cell? a = some v → WF.cell? a = some v := fun a v ha hv => (World.cell?_of_block (hne2 a.block (World.block_lt_of_cell? W _ hv) ha)).trans hv
  have hFs : w.heap.size + 2 < WF.heap.size := (Array.getElem?_eq_some_iff.1 kF2).1
  refine ⟨⟨_, 2, kF2, Nat.le_refl _, WF.putObj (w.heap.size + 2) (.deferred none), fun a v hv => cell_minus0 a v hFs hv, ?_⟩, (hne2 _ (by omega) (by omega)).trans h.res, (hne2 _ (by omega) (by omega)).trans h.src, hBF⟩
  have hVM : ∀ a v, V.cell? a = some v → (WF.putObj (w.heap.size + 2) (.deferred none)).cell? a = some v := fun a v hv => by
    obtain ⟨e, hv2⟩ := hV a v hv
    rw [cell_minus _ _ e]; exact hcF a v e hv2
  have hwM : ∀ a v, w.cell? a = some v → (WF.putObj (w.heap.size + 2) (.deferred none)).cell? a = some v := fun a v hv => by
    have hlt := World.block_lt_of_cell? w _ hv
    rw [cell_minus _ _ (by omega)]; exact (hBF.cell hlt).trans hv
  refine C_two (t := t) (u := X) (c := c3) (c' := c5) (A := A3) (A' := A5) ?_ ht.le (C24_cells hwM _ _ rfl _ ht.1) h5 (C24_cells hVM _ _ rfl _ hC)
  have : (WF.putObj (w.heap.size + 2) (.deferred none)).heap[W.heap.size]? = WF.heap[W.heap.size]? := by
    simp only [World.putObj]; rw [Array.getElem?_setIfInBounds_ne (by omega)]
  rw [this]; exact hbk

theorem box_retD {w W : World} {g D : Nat} {ok : Nat → Prop} {z0 z1 z2 z3 : Value} {v : Value} {xs : List S24} (e0 : Int) (e1 : ByteArray) (e2 : Int)
    (hb : W.heap[g]? = some (.cells #[z0, z1, z2, z3] 24 (0, 0))) (hR : Kd.R k24 24 W w.heap.size ok v xs) (hg : ∀ j, ok j → j ≠ g) (hgD : ∀ j, ok j → j ≠ D) (hB : Below w.heap.size w W) (hlt : w.heap.size ≤ g)
    (hD : w.heap.size ≤ D) (hK : W.heap[D]? = some (.deferred (some []))) :
    ((((W.setCell ⟨g, 0, none⟩ (.int .i64 e0)).setCell ⟨g, 1, none⟩ (.string e1)).setCell ⟨g, 2, none⟩ (.int .i64 e2)).setCell ⟨g, 3, none⟩ v).heap[D]? = some (.deferred (some [])) ∧
    (((((W.setCell ⟨g, 0, none⟩ (.int .i64 e0)).setCell ⟨g, 1, none⟩ (.string e1)).setCell ⟨g, 2, none⟩ (.int .i64 e2)).setCell ⟨g, 3, none⟩ v).putObj D (.deferred none)).cell? ⟨g, 0, none⟩ = some (.int .i64 e0) ∧
    (((((W.setCell ⟨g, 0, none⟩ (.int .i64 e0)).setCell ⟨g, 1, none⟩ (.string e1)).setCell ⟨g, 2, none⟩ (.int .i64 e2)).setCell ⟨g, 3, none⟩ v).putObj D (.deferred none)).cell? ⟨g, 1, none⟩ = some (.string e1) ∧
    (((((W.setCell ⟨g, 0, none⟩ (.int .i64 e0)).setCell ⟨g, 1, none⟩ (.string e1)).setCell ⟨g, 2, none⟩ (.int .i64 e2)).setCell ⟨g, 3, none⟩ v).putObj D (.deferred none)).cell? ⟨g, 2, none⟩ = some (.int .i64 e2) ∧
    (((((W.setCell ⟨g, 0, none⟩ (.int .i64 e0)).setCell ⟨g, 1, none⟩ (.string e1)).setCell ⟨g, 2, none⟩ (.int .i64 e2)).setCell ⟨g, 3, none⟩ v).putObj D (.deferred none)).cell? ⟨g, 3, none⟩ = some v ∧
    Kd.R k24 24 (((((W.setCell ⟨g, 0, none⟩ (.int .i64 e0)).setCell ⟨g, 1, none⟩ (.string e1)).setCell ⟨g, 2, none⟩ (.int .i64 e2)).setCell ⟨g, 3, none⟩ v).putObj D (.deferred none)) w.heap.size (fun _ => True) v xs ∧
    Below w.heap.size w (((((W.setCell ⟨g, 0, none⟩ (.int .i64 e0)).setCell ⟨g, 1, none⟩ (.string e1)).setCell ⟨g, 2, none⟩ (.int .i64 e2)).setCell ⟨g, 3, none⟩ v).putObj D (.deferred none)) := by
  have hne : D ≠ g := fun e => by subst e; rw [hb] at hK; cases hK
  have kF := res_box hb (.int .i64 e0) (.string e1) (.int .i64 e2) v
  have hKF : ((((W.setCell ⟨g, 0, none⟩ (.int .i64 e0)).setCell ⟨g, 1, none⟩ (.string e1)).setCell ⟨g, 2, none⟩ (.int .i64 e2)).setCell ⟨g, 3, none⟩ v).heap[D]? = some (.deferred (some [])) :=
    ((Below.heap_setCell _ _ _ D hne).trans ((Below.heap_setCell _ _ _ D hne).trans ((Below.heap_setCell _ _ _ D hne).trans (Below.heap_setCell _ _ _ D hne)))).trans hK
  have hRF := R_set4 hR hg (.int .i64 e0) (.string e1) (.int .i64 e2) v
  have hBF := below_set (v := v) (j := 3) (below_set (v := .int .i64 e2) (j := 2) (below_set (v := .string e1) (j := 1) (below_set (v := .int .i64 e0) (j := 0) hB hlt) hlt) hlt) hlt
  generalize ((((W.setCell ⟨g, 0, none⟩ (.int .i64 e0)).setCell ⟨g, 1, none⟩ (.string e1)).setCell ⟨g, 2, none⟩ (.int .i64 e2)).setCell ⟨g, 3, none⟩ v) = WF at kF hKF hRF hBF ⊢
  have hcl : ∀ i, (WF.putObj D (.deferred none)).cell? ⟨g, i, none⟩ = WF.cell? ⟨g, i, none⟩ := fun i => cell_minus _ _ (Ne.symm hne)
  refine ⟨hKF, (hcl 0).trans (blk_cell kF 0), (hcl 1).trans (blk_cell kF 1), (hcl 2).trans (blk_cell kF 2), (hcl 3).trans (blk_cell kF 3), Kd.R_mono (Kd.R_step hRF fun k hk _ => ?_) (fun _ _ => trivial), hBF.trans (belowK_b (w := w) (Nat.le_refl _) WF D _ _ hD hKF rfl rfl)⟩
  simp only [World.putObj]
  rw [Array.getElem?_setIfInBounds_ne (Ne.symm (hgD k hk))]

theorem wfT_list : ∀ (ts : List S24) (tail : S24), (∀ t ∈ ts, wfT t) → wfT tail → wfT (listT ts tail)
  | [], tail, _, h => h
  | t :: ts, tail, hs, h => by
    have h1 := hs t List.mem_cons_self
    have h2 := wfT_list ts tail (fun x hx => hs x (List.mem_cons_of_mem _ hx)) h
    show wfT (consT t (listT ts tail))
    generalize listT ts tail = X at h2
    unfold consT
    rw [wfT]
    refine ⟨by unfold I64; decide, ?_⟩
    rw [wfL_cons, wfL_cons]
    exact ⟨h1, h2, by rw [wfL]; trivial⟩

set_option maxRecDepth 100000 in
set_option maxHeartbeats 2000000 in
theorem list_any (ts : List S24) (tail : S24) (w : World) (A : Option Addr) (cap : Nat) (hC : Kd.C k24 w A ts.length ts) (hwf : ∀ t ∈ ts, wfT t) (tA : Option Addr) (tc : Nat) (ht : Lies w tail tA tc) :
    Calls Try.prog 29 #[.slice A ts.length cap, .agg #[.int .i64 tail.f0, .string tail.f1, .int .i64 tail.f2, .slice tA tail.f3.length tc]] w fun e w' => ∃ v,
      e = .returned (.tuple #[.agg #[.int .i64 (listA ts tail).1.f0, .string (listA ts tail).1.f1, .int .i64 (listA ts tail).1.f2, v], .int .i64 (listA ts tail).2]) ∧ Kd.R k24 24 w' w.heap.size (fun _ => True) v (listA ts tail).1.f3 ∧ Below w.heap.size w w' := by
  obtain ⟨ans, hans⟩ : ∃ ans, listA ts tail = ans := ⟨_, rfl⟩
  rw [hans]
  refine (callsIn_wide (n := 6)).1 ?_
  have hm9 := hC.2.1
  by_cases h100 : 100 < ts.length
  · obtain rfl : (z24, 70) = ans := by rw [← hans, listA, if_pos h100]
    clear hans
    refine callsIn_of_wp_marks Try.func29 rfl trivial ?_ rfl
    simp only [Try.ntmps29, List.size_toArray, List.length_cons, List.length_nil, Nat.reduceAdd, Nat.reduceSub, Array.replicate_succ, Array.replicate_zero, List.push_toArray, List.append_toArray, List.nil_append, List.cons_append]
    gi_wp2
    have kR : ((w.alloc (.cells #[.int .i64 tail.f0, .string tail.f1, .int .i64 tail.f2, .slice tA tail.f3.length tc] 24)).alloc (.cells #[.int .i64 0, .string { data := #[] }, .int .i64 0, .slice none 0 0] 24)).heap[w.heap.size + 1]? = some (.cells #[.int .i64 0, .string { data := #[] }, .int .i64 0, .slice none 0 0] 24 (0, 0)) := by
      have := World.alloc_heap_new (w.alloc (.cells #[.int .i64 tail.f0, .string tail.f1, .int .i64 tail.f2, .slice tA tail.f3.length tc] 24)) (.cells #[.int .i64 0, .string { data := #[] }, .int .i64 0, .slice none 0 0] 24)
      rwa [World.size_alloc] at this
    have hB : Below w.heap.size w ((w.alloc (.cells #[.int .i64 tail.f0, .string tail.f1, .int .i64 tail.f2, .slice tA tail.f3.length tc] 24)).alloc (.cells #[.int .i64 0, .string { data := #[] }, .int .i64 0, .slice none 0 0] 24)) := below_alloc (below_alloc (Below.refl _ w) _) _
    generalize (w.alloc (.cells #[.int .i64 tail.f0, .string tail.f1, .int .i64 tail.f2, .slice tA tail.f3.length tc] 24)).alloc (.cells #[.int .i64 0, .string { data := #[] }, .int .i64 0, .slice none 0 0] 24) = WF at kR hB ⊢
    have q0 := blk_cell kR 0
    have q1 := blk_cell kR 1
    have q2 := blk_cell kR 2
    have q3 := blk_cell kR 3
    simp at q0 q1 q2 q3
    refine ⟨.tuple #[.agg #[.int .i64 0, .string ⟨#[]⟩, .int .i64 0, .slice none 0 0], .int .i64 70], ?_, .slice none 0 0, rfl, Kd.R_nil _ _ _ _ _, hB⟩
    simp [results, Try.results29, go_sem, q0, q1, q2, q3]
  · have hl : ts.length < 1000000 := by omega
    clear hm9
    refine callsIn_of_wp_marks Try.func29 rfl trivial ?_ rfl
    simp only [Try.ntmps29, List.size_toArray, List.length_cons, List.length_nil, Nat.reduceAdd, Nat.reduceSub, Array.replicate_succ, Array.replicate_zero, List.push_toArray, List.append_toArray, List.nil_append, List.cons_append]
    gi_wp2_with (refine ⟨trivial, ?_⟩; gi_at_call 58; refine (backward_in Fence.wide 5 trivial rfl _ _ _ _).mono ?_; rintro e w' ⟨rfl, rfl⟩)
    have hB0 : Below w.heap.size w ((((w.alloc (.cells #[.int .i64 tail.f0, .string tail.f1, .int .i64 tail.f2, .slice tA tail.f3.length tc] 24)).alloc (.cells #[.int .i64 0, .string { data := #[] }, .int .i64 0, .slice none 0 0] 24)).alloc (.cells #[.int .i64 tail.f0, .string tail.f1, .int .i64 tail.f2, .slice tA tail.f3.length tc] 24)).alloc (.cells #[.slice A ts.length cap] 22)) :=
      below_alloc (below_alloc (below_alloc (below_alloc (Below.refl _ w) _) _) _) _
    have hO0 : OutL w (.slice A ts.length cap) tail ((((w.alloc (.cells #[.int .i64 tail.f0, .string tail.f1, .int .i64 tail.f2, .slice tA tail.f3.length tc] 24)).alloc (.cells #[.int .i64 0, .string { data := #[] }, .int .i64 0, .slice none 0 0] 24)).alloc (.cells #[.int .i64 tail.f0, .string tail.f1, .int .i64 tail.f2, .slice tA tail.f3.length tc] 24)).alloc (.cells #[.slice A ts.length cap] 22)) := by
      have s1 : (w.alloc (.cells #[.int .i64 tail.f0, .string tail.f1, .int .i64 tail.f2, .slice tA tail.f3.length tc] 24)).heap.size = w.heap.size + 1 := by simp
      have h1 := World.alloc_heap_new (w.alloc (.cells #[.int .i64 tail.f0, .string tail.f1, .int .i64 tail.f2, .slice tA tail.f3.length tc] 24)) (.cells #[.int .i64 0, .string { data := #[] }, .int .i64 0, .slice none 0 0] 24)
      generalize w.alloc (.cells #[.int .i64 tail.f0, .string tail.f1, .int .i64 tail.f2, .slice tA tail.f3.length tc] 24) = V1 at s1 h1 hB0 ⊢
      have s2 : (V1.alloc (.cells #[.int .i64 0, .string { data := #[] }, .int .i64 0, .slice none 0 0] 24)).heap.size = w.heap.size + 2 := by simp; omega
      have h2 := World.alloc_heap_new (V1.alloc (.cells #[.int .i64 0, .string { data := #[] }, .int .i64 0, .slice none 0 0] 24)) (.cells #[.int .i64 tail.f0, .string tail.f1, .int .i64 tail.f2, .slice tA tail.f3.length tc] 24)
      generalize V1.alloc (.cells #[.int .i64 0, .string { data := #[] }, .int .i64 0, .slice none 0 0] 24) = V2 at s2 h1 h2 hB0 ⊢
      replace h1 := blk_alloc h1 (.cells #[.int .i64 tail.f0, .string tail.f1, .int .i64 tail.f2, .slice tA tail.f3.length tc] 24)
      have s3 : (V2.alloc (.cells #[.int .i64 tail.f0, .string tail.f1, .int .i64 tail.f2, .slice tA tail.f3.length tc] 24)).heap.size = w.heap.size + 3 := by simp; omega
      generalize V2.alloc (.cells #[.int .i64 tail.f0, .string tail.f1, .int .i64 tail.f2, .slice tA tail.f3.length tc] 24) = V3 at s3 h1 h2 hB0 ⊢
      have h3 := World.alloc_heap_new V3 (.cells #[.slice A ts.length cap] 22)
      replace h1 := blk_alloc h1 (.cells #[.slice A ts.length cap] 22)
      replace h2 := blk_alloc h2 (.cells #[.slice A ts.length cap] 22)
      rw [s1] at h1
      rw [s2] at h2
      rw [s3] at h3
      exact OutL.start w _ _ tail tA tc ht hB0 h2 h1 h3
    have hsz : ((((w.alloc (.cells #[.int .i64 tail.f0, .string tail.f1, .int .i64 tail.f2, .slice tA tail.f3.length tc] 24)).alloc (.cells #[.int .i64 0, .string { data := #[] }, .int .i64 0, .slice none 0 0] 24)).alloc (.cells #[.int .i64 tail.f0, .string tail.f1, .int .i64 tail.f2, .slice tA tail.f3.length tc] 24)).alloc (.cells #[.slice A ts.length cap] 22)).heap.size = w.heap.size + 4 := by simp
    generalize ((((w.alloc (.cells #[.int .i64 tail.f0, .string tail.f1, .int .i64 tail.f2, .slice tA tail.f3.length tc] 24)).alloc (.cells #[.int .i64 0, .string { data := #[] }, .int .i64 0, .slice none 0 0] 24)).alloc (.cells #[.int .i64 tail.f0, .string tail.f1, .int .i64 tail.f2, .slice tA tail.f3.length tc] 24)).alloc (.cells #[.slice A ts.length cap] 22)) = W0 at hB0 hO0 hsz ⊢
    have HANS := Lib.hid hans
    have HLIST := Lib.hid h100
    clear hans h100
    refine wpIn_rangeFunc_ownH (α := Elt w) rfl (by omega) (gf := 74) (lb := #[.pointer (some ⟨w.heap.size + 3, 0, none⟩)]) rfl trivial (enters_of Try.func74 (by kernel_rfl) rfl)
      (encs := encE) (Kp := KpL w (w.heap.size + 3)) (S := fun ys => ys.map trm = ts.reverse) (Sp := fun _ => True) (N := ts.length) (w0 := W0)
      ?seq (fun h k => h.trans k) ?ktb (Below.refl _ _) (fun _ => rfl)
      (fun pre W => OutL w (.slice A ts.length cap) ((pre.map trm).foldl (fun X t => consT t X) tail) W)
      (fun _ _ _ => False)
      (outL_own _ _ _ _ (by omega)) (fun _ _ _ _ _ hs _ _ => hs) hO0
      (fun x a' W => ∃ Bx, W0.heap.size ≤ Bx ∧ W.heap[Bx]? = some (.cells #[.int .i64 x.1.2.1.f0, .string x.1.2.1.f1, .int .i64 x.1.2.1.f2, .slice x.1.2.2.1 x.1.2.1.f3.length x.1.2.2.2] 24 (0, 0)) ∧
        a' = { tmps := #[.slice A ts.length cap, .agg #[.int .i64 tail.f0, .string tail.f1, .int .i64 tail.f2, .slice tA tail.f3.length tc], undef, .pointer (some ⟨w.heap.size, 0, none⟩), .pointer (some ⟨w.heap.size + 1, 0, none⟩), .int .i64 0, .pointer (some ⟨w.heap.size + 1 + 1, 0, none⟩), undef, .pointer (some ⟨Bx, 0, none⟩), undef,
          .slice A ts.length cap, .int .i64 ts.length, .bool (decide (100 < (ts.length : Int))), undef, .agg #[.int .i64 tail.f0, .string tail.f1, .int .i64 tail.f2, .slice tA tail.f3.length tc], .slice A ts.length cap, .func (.func 74) #[] #[.pointer (some ⟨w.heap.size + 1 + 1 + 1, 0, none⟩)],
          .int .i64 x.1.1, .agg #[.int .i64 x.1.2.1.f0, .string x.1.2.1.f1, .int .i64 x.1.2.1.f2, .slice x.1.2.2.1 x.1.2.1.f3.length x.1.2.2.2], undef, undef, undef, undef, undef, undef, undef, undef, undef, undef, undef, undef, undef, undef, undef], defers := [] })
      ?hAx ?assign ?body ?done ?stop
    case seq =>
      intro l J Jx W hW _ _ hY h0
      exact back1_in Fence.wide 5 trivial rfl (by omega) l (w.heap.size + 3) w ts A cap hC hwf hl J Jx hY W (hB0.trans (hW.mono (by omega))) ((hW.block _ (by omega)).trans hO0.src) h0
    case ktb =>
      intro W l o o' hl2 h _ _
      exact ⟨belowK_b (w := W0) (by omega) W l o o' hl2 h ‹_› ‹_›, fun o1 h1 => ((grownBy_putObj' W l o').block _ (Array.getElem?_eq_some_iff.1 h1).1 (fun e => by cases e; omega)).trans h1⟩
    case hAx =>
      rintro x a' _ A1 B1 row ⟨Bx, hx1, hx2, rfl⟩ hg hr
      exact ⟨Bx, hx1, (grownBy_keeps_cells hg (fun r e => (hr r e).2) hx2 rfl).trans hx2, rfl⟩
    case assign =>
      rintro l pre x W K hi hK
      simp [encE]
      gi_wp2
      have hsW := hi.bel.size
      refine hK _ _ ((KeepsOthers.alloc _ _).from _) ⟨(Below.refl _ W).alloc hsW _, fun o ho => (Below.heap_alloc W _ _ (Array.getElem?_eq_some_iff.1 ho).1).trans ho⟩ (hi.alloc _) ⟨W.heap.size, ?_, World.alloc_heap_new W _, rfl⟩
      have := hi.src
      have := (Array.getElem?_eq_some_iff.1 this).1
      omega
    case body =>
      rintro l pre x a' W hl ⟨r, hr⟩ hi ⟨Bx, hx1, hx2, rfl⟩ hlt
      obtain ⟨A5, c5, hb, h5, V, hV, hC5⟩ := hi.box
      have hst := OutL.step hi x.2 hb h5 hV hC5
      have hIx : (List.map trm (pre ++ [x])).foldl (fun X t => consT t X) tail = consT (trm x) ((pre.map trm).foldl (fun X t => consT t X) tail) := by simp
      generalize (pre.map trm).foldl (fun X t => consT t X) tail = X at hi hb h5 hC5 hst hIx
      have hb' : W.heap[w.heap.size + 1 + 1]? = some (.cells #[.int .i64 X.f0, .string X.f1, .int .i64 X.f2, .slice A5 X.f3.length c5] 24 (0, 0)) := hb
      have lb := blk_lt hb'
      have lx := blk_lt hx2
      have b0 := blk_cell hb' 0
      have b1 := blk_cell hb' 1
      have b2 := blk_cell hb' 2
      have b3 := blk_cell hb' 3
      have g0 := blk_frozen hb' 0
      have g1 := blk_frozen hb' 1
      have g2 := blk_frozen hb' 2
      have g3 := blk_frozen hb' 3
      have x0 := blk_cell hx2 0
      have x1 := blk_cell hx2 1
      have x2 := blk_cell hx2 2
      have x3 := blk_cell hx2 3
      dsimp only
      gi_wp2
      obtain ⟨h1, h2, h3⟩ := hst
      replace h1 : OutL w (.slice A ts.length cap) (consT (trm x) X) _ := h1
      rw [← hIx] at h1
      refine ⟨h2.from _, ⟨h3, fun o ho => ?_⟩, h1⟩
      have := hi.src
      rw [this] at ho
      cases ho
      exact h1.src
    case done =>
      rintro D ys W hD hys hi hK
      rw [hys, List.foldl_reverse] at hi
      dsimp only
      obtain ⟨A5, c5, hb, h5, V, hV, hC5⟩ := hi.box
      have hO := hi
      have hCW := C24_cells (fun a v hv => (hV a v hv).2) _ _ rfl _ hC5
      rw [← listT] at hO hb h5 hC5 hCW
      generalize hX : listT ts tail = X at hO hb h5 hC5 hCW
      have hb' : W.heap[w.heap.size + 1 + 1]? = some (.cells #[.int .i64 X.f0, .string X.f1, .int .i64 X.f2, .slice A5 X.f3.length c5] 24 (0, 0)) := hb
      have lb := blk_lt hb'
      have b0 := blk_cell hb' 0
      have b1 := blk_cell hb' 1
      have b2 := blk_cell hb' 2
      have b3 := blk_cell hb' 3
      have HX := Lib.hid hX
      clear hX hi
      gi_wp2
      refine ⟨trivial, (callsIn_wide.2 (right_call X (W.alloc (.cells #[.int .i64 X.f0, .string X.f1, .int .i64 X.f2, .slice A5 X.f3.length c5] 24)) W.heap.size A5 c5 (Kd.C_alloc hCW _) h5 (World.alloc_heap_new W _))).mono ?_⟩
      rintro e w1 ⟨rfl, hb1⟩
      have hBW : Below W.heap.size W w1 := below_step (below_alloc (Below.refl _ W) _) hb1
      have kO := blk_below (blk_alloc hb' (.cells #[.int .i64 X.f0, .string X.f1, .int .i64 X.f2, .slice A5 X.f3.length c5] 24)) hb1
      have kR := blk_below (blk_alloc hO.res (.cells #[.int .i64 X.f0, .string X.f1, .int .i64 X.f2, .slice A5 X.f3.length c5] 24)) hb1
      have kD := (hBW.block D (Array.getElem?_eq_some_iff.1 hK).1).trans hK
      have hC1 := Kd.C_below hCW hBW
      have hBn := hO.bel.trans (hBW.mono hO.bel.size)
      clear b0 b1 b2 b3 lb hb hb' hb1 hCW hV hC5
      have hDlt := (Array.getElem?_eq_some_iff.1 kD).1
      by_cases hk : okT X = true
      · rw [hk]
        have hwX : wfT X := by rw [← HX.out]; exact wfT_list ts tail hwf ht.wf
        have lO := blk_lt kO
        have o0 := blk_cell kO 0
        have o1 := blk_cell kO 1
        have o2 := blk_cell kO 2
        have o3 := blk_cell kO 3
        gi_wp2
        refine ⟨trivial, (callsIn_wide.2 (cp_any _ X rfl hwX 1 0 w1 (w1.alloc (.cells #[.int .i64 0] 3)) w1.heap.size c5 A5 hC1 h5 (below_alloc (Below.refl _ _) _) (Nat.le_refl _) (blk_new _ _) (by omega) (by omega) (by omega) (by omega))).mono ?_⟩
        rintro e w5 ⟨v5, rfl, hR5, f5, c5'⟩
        have ha : ((cpT X 1 0).1, 0) = ans := by rw [← HANS.out, listA, if_neg HLIST.out, HX.out, if_neg (by rw [hk]; simp)]
        clear o0 o1 o2 o3
        subst ha
        generalize hfin : (cpT X 1 0).1 = fin at hR5
        generalize (cpT X 1 0).2.1 = okv at *
        obtain ⟨A6, c6, rfl, hc6, C6⟩ := Kd.R_reads hR5
        obtain ⟨e0, e1, e2, e3⟩ := fin
        simp only at hR5 hc6 ⊢
        have hs1 : (w1.alloc (.cells #[.int .i64 0] 3)).heap.size = w1.heap.size + 1 := by simp
        rw [hs1] at hR5
        have hw1s := hBn.size
        have hRl : Kd.R k24 24 w5 w.heap.size (fun j => w1.heap.size < j) (.slice A6 e3.length c6) e3 := Kd.R_mono (Kd.R_lower (Kd.R_bound hR5) (by omega)) (fun j hj => by have := hj.2.1; omega)
        have kO5 := f5.blk (blk_alloc kO (.cells #[.int .i64 0] 3)) (show w.heap.size + 1 + 1 ≠ w1.heap.size by omega)
        have kR5 := f5.blk (blk_alloc kR (.cells #[.int .i64 0] 3)) (show w.heap.size + 1 ≠ w1.heap.size by omega)
        have kD5 : w5.heap[D]? = some (.deferred (some [])) := (f5.block D (by rw [hs1]; omega) (by omega)).trans ((Below.heap_alloc w1 _ D hDlt).trans kD)
        have hBf := f5.below (below_alloc hBn (.cells #[.int .i64 0] 3)) hw1s
        have lO5 := blk_lt kO5
        have lR5 := blk_lt kR5
        have o0 := blk_cell kO5 0
        have o1 := blk_cell kO5 1
        have o2 := blk_cell kO5 2
        have o3 := blk_cell kO5 3
        have p0 := blk_frozen kO5 0
        have p1 := blk_frozen kO5 1
        have p2 := blk_frozen kO5 2
        have p3 := blk_frozen kO5 3
        have f0 := blk_frozen kR5 0
        have f1 := blk_frozen kR5 1
        have f2 := blk_frozen kR5 2
        have f3 := blk_frozen kR5 3
        have q0 := blk_cell kR5 0
        have q1 := blk_cell kR5 1
        have q2 := blk_cell kR5 2
        have q3 := blk_cell kR5 3
        gi_wp2
        have kR6 := R0_set4 kR5 (show w.heap.size + 1 ≠ w.heap.size + 1 + 1 by omega) (.int .i64 e0) (.string e1) (.int .i64 e2) (.slice A6 e3.length c6)
        have hDn : D ≠ w.heap.size + 1 + 1 := by omega
        have kD6 : ((((w5.setCell ⟨w.heap.size + 1 + 1, 0, none⟩ (.int .i64 e0)).setCell ⟨w.heap.size + 1 + 1, 1, none⟩ (.string e1)).setCell ⟨w.heap.size + 1 + 1, 2, none⟩ (.int .i64 e2)).setCell ⟨w.heap.size + 1 + 1, 3, none⟩ (.slice A6 e3.length c6)).heap[D]? = some (.deferred (some [])) :=
          ((Below.heap_setCell _ _ _ D hDn).trans ((Below.heap_setCell _ _ _ D hDn).trans ((Below.heap_setCell _ _ _ D hDn).trans (Below.heap_setCell _ _ _ D hDn)))).trans kD5
        have hR6 := R_set4 (g := w.heap.size + 1 + 1) hRl (fun j hj => by omega) (.int .i64 e0) (.string e1) (.int .i64 e2) (.slice A6 e3.length c6)
        have hB6 := below_set (j := 3) (v := .slice A6 e3.length c6) (below_set (j := 2) (v := .int .i64 e2) (below_set (j := 1) (v := .string e1) (below_set (j := 0) (v := .int .i64 e0) hBf (show w.heap.size ≤ w.heap.size + 1 + 1 by omega)) (show w.heap.size ≤ w.heap.size + 1 + 1 by omega)) (show w.heap.size ≤ w.heap.size + 1 + 1 by omega)) (show w.heap.size ≤ w.heap.size + 1 + 1 by omega)
        generalize ((((w5.setCell ⟨w.heap.size + 1 + 1, 0, none⟩ (.int .i64 e0)).setCell ⟨w.heap.size + 1 + 1, 1, none⟩ (.string e1)).setCell ⟨w.heap.size + 1 + 1, 2, none⟩ (.int .i64 e2)).setCell ⟨w.heap.size + 1 + 1, 3, none⟩ (.slice A6 e3.length c6)) = W6 at kR6 kD6 hR6 hB6 ⊢
        obtain ⟨hKF, c0, c1, c2, c3, hRF, hBF⟩ := box_retD (D := D) e0 e1 e2 kR6 hR6 (fun j hj => by omega) (fun j hj => by omega) hB6 (by omega) (by omega) kD6
        refine ⟨by simp, .inl ⟨_, _, rfl, run_takeDeferred hKF, ?_⟩⟩
        refine ⟨.tuple #[.agg #[.int .i64 e0, .string e1, .int .i64 e2, .slice A6 e3.length c6], .int .i64 0], ?_, _, rfl, hRF, hBF⟩
        generalize (((((W6.setCell ⟨w.heap.size + 1, 0, none⟩ (.int .i64 e0)).setCell ⟨w.heap.size + 1, 1, none⟩ (.string e1)).setCell ⟨w.heap.size + 1, 2, none⟩ (.int .i64 e2)).setCell ⟨w.heap.size + 1, 3, none⟩ (.slice A6 e3.length c6)).putObj D (.deferred none)) = WF at c0 c1 c2 c3 ⊢
        simp [results, Try.f29, go_sem, c0, c1, c2, c3]
      · have hk' : okT X = false := by simpa using hk
        rw [hk']
        clear hk
        have f0 := blk_frozen kR 0
        have f1 := blk_frozen kR 1
        have f2 := blk_frozen kR 2
        have f3 := blk_frozen kR 3
        have q0 := blk_cell kR 0
        have q1 := blk_cell kR 1
        have q2 := blk_cell kR 2
        have q3 := blk_cell kR 3
        gi_wp2
        have ha : (z24, 70) = ans := by rw [← HANS.out, listA, if_neg HLIST.out, HX.out, if_pos hk']
        subst ha
        obtain ⟨hKF, c0, c1, c2, c3, hRF, hBF⟩ := box_retD (D := D) 0 ⟨#[]⟩ 0 kR (Kd.R_nil k24 24 w1 w.heap.size (fun _ => False)) (fun j hj => hj.elim) (fun j hj => hj.elim) hBn (by omega) (by omega) kD
        refine ⟨by simp, .inl ⟨_, _, rfl, run_takeDeferred hKF, ?_⟩⟩
        refine ⟨.tuple #[.agg #[.int .i64 0, .string ⟨#[]⟩, .int .i64 0, .slice none 0 0], .int .i64 70], ?_, _, rfl, hRF, hBF⟩
        generalize (((((w1.setCell ⟨w.heap.size + 1, 0, none⟩ (.int .i64 0)).setCell ⟨w.heap.size + 1, 1, none⟩ (.string ⟨#[]⟩)).setCell ⟨w.heap.size + 1, 2, none⟩ (.int .i64 0)).setCell ⟨w.heap.size + 1, 3, none⟩ (.slice none 0 0)).putObj D (.deferred none)) = WF at c0 c1 c2 c3 ⊢
        simp [results, Try.f29, go_sem, c0, c1, c2, c3]
    case stop =>
      rintro D c pre W _ _ h _
      exact h.elim

end Go.Proofs.Ytpnkaggkedepeaa
