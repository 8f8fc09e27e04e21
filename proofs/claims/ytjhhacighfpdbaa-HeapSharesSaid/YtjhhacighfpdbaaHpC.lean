/- The walks of within, bind. -/
import Derived.Test.YtjhhacighfpdbaaHpB
import Derived.Test.YtjhhacighfpdbaaIMap
namespace Go.Proofs.Ytjhhacighfpdbaa
set_option linter.unusedVariables false
open Go.RowKit Go.Maps Go.Proofs.YtjhhacighfpdbaaW.PrintWords Go.Proofs.YtjhhacighfpdbaaW.PrintLast Go.Proofs.YtjhhacighfpdbaaW.PrintMore Go.Proofs.Ytjhhacighfpdbaa.PHeapShares Go.Extern

/-- Marks of cells. -/
abbrev SeenC := List (Int × Int)
theorem law3 : Keyed Try.prog 3 := int_keyed Try.underlying3
def CSeen (w : World) (b : Nat) (L : SeenC) : Prop := w.ownsMap Try.prog 3 rawE b L.length (mdat (Value.int .i64) L)
theorem zero3 (w : World) : (zeroValue 3).run Try.prog w = .ok (.int .i64 0) w := by kernel_rfl
def seenC (L : SeenC) (v : Int) : Int := (mget L v).getD 0
theorem lookC {w : World} {b : Nat} {L : SeenC} (h : CSeen w b L) {m : Int} (hm : I64 m) :
    (Instr.lookup 114 (.map (some b)) (.int .i64 m) false).run Try.prog w = .ok (.int .i64 (seenC L m)) w := by
  have hh := mdat_has (Value.int .i64) m L
  have ha := mdat_at (Value.int .i64) m (.int .i64 0) L
  obtain ⟨es, clock, hb, F, _, hD⟩ := h
  rw [hD] at hh ha
  rcases Maps.fit_look false law3 Try.underlying114 (zero3 w) hb F (keyOf_int_mk Try.underlying3 hm.wf) with ⟨hrun, _, hat⟩ | ⟨e0, y, _, _, hrun, hRv, hat, _⟩
  · rw [hrun]
    rw [Maps.has_false_of_atKey hat] at hh
    have hn : mget L m = none := by cases hg : mget L m <;> simp [hg] at hh ⊢
    unfold seenC
    rw [hn]
    rfl
  · rw [hrun]
    rw [Maps.has_true_of_atKey hat] at hh
    rw [hat] at ha
    unfold rawE at hRv
    simp only [Option.some.injEq] at hRv
    subst hRv
    cases hg : mget L m with
    | none => simp [hg] at hh
    | some v =>
      simp only [hg, DataW.held.injEq] at ha
      simp [seenC, hg, ha]
theorem tightC {w : World} {b n : Nat} {L : SeenC} (h : w.ownsMap Try.prog 3 rawE b n (mdat (Value.int .i64) L)) : CSeen w b L := by
  have hs := mdat_size (Value.int .i64) L
  obtain ⟨es, clock, hb, F, hn, hD⟩ := h
  refine ⟨es, clock, hb, F, ?_, hD⟩
  rw [hD] at hs
  simp only [Maps.size, length_sorted, List.length_map, Array.length_toList] at hs
  omega
theorem putCn {w' : World} {b n : Nat} {L : SeenC} {k p : Int} (h1 : w'.ownsMap Try.prog 3 rawE b n ((mdat (Value.int .i64) L).put (.int .i64 k) (.held (.int .i64 p)))) : CSeen w' b (mput k p L) := by
  have h2 := mdat_put (Value.int .i64) k p L
  rw [h2] at h1
  exact tightC h1
theorem CSeen.alike {w w' : World} {b : Nat} {L} (h : CSeen w b L) (hb : w'.heap[b]? = w.heap[b]?) : CSeen w' b L := by
  obtain ⟨es, clock, h1, h2⟩ := h
  exact ⟨es, clock, hb.trans h1, h2⟩
theorem CSeen.lt {w : World} {b : Nat} {L} (h : CSeen w b L) : b < w.heap.size := by
  obtain ⟨es, clock, h1, h2⟩ := h
  exact blk_lt h1
theorem CSeen.alloc {w : World} {b : Nat} {L} (h : CSeen w b L) (o : Obj) : CSeen (w.alloc o) b L := by
  obtain ⟨es, clock, h1, h2⟩ := h
  exact ⟨es, clock, blk_alloc h1 o, h2⟩
theorem CSeen.new (w : World) : CSeen (w.alloc (.map #[] 0)) w.heap.size [] := World.ownsMap_made (H := Value) w Try.prog 3 rawE

theorem Fg.turned {m : Nat} {w w' : World} (h : w.mapTurned w' m) : Fg m w w' := by
  have hg := h.grown
  exact ⟨hg.os, hg.tape, hg.output, hg.size, fun k hk hne => hg.block k hk (fun e => hne (Option.some.inj e))⟩

/-- Marks of cells below n. -/
structure SeenOK (L : SeenC) (n : Nat) : Prop where
  s : msorted L
  b : ∀ p ∈ L, 0 ≤ p.1 ∧ p.1 < n ∧ p.2 = 1
theorem sorted_len {lo hi : Int} : ∀ {L : SeenC}, msorted L → (∀ p ∈ L, lo ≤ p.1 ∧ p.1 < hi) → lo ≤ hi → (L.length : Int) ≤ hi - lo
  | [], _, _, h => by simp; omega
  | p :: r, hs, hb, h => by
    have hp := hb p (by simp)
    have hs' := List.pairwise_cons.1 hs
    have := sorted_len (lo := p.1 + 1) hs'.2 (fun q hq => ⟨by have := hs'.1 q hq; omega, (hb q (List.mem_cons_of_mem _ hq)).2⟩) (by omega)
    simp only [List.length_cons]
    push_cast
    omega
theorem SeenOK.len {L : SeenC} {n : Nat} (h : SeenOK L n) : L.length ≤ n := by
  have := sorted_len (lo := 0) (hi := n) h.s (fun p hp => ⟨(h.b p hp).1, (h.b p hp).2.1⟩) (by omega)
  omega
theorem SeenOK.put {L : SeenC} {n x : Nat} (h : SeenOK L n) (hx : x < n) : SeenOK (mput (x : Int) 1 L) n :=
  ⟨msorted_mput h.s, fun p hp => by
    rcases mem_mput.1 hp with rfl | ⟨hp, _⟩
    · exact ⟨by simp, by simpa using hx, rfl⟩
    · exact h.b p hp⟩
theorem SeenOK.nil (n : Nat) : SeenOK [] n := ⟨List.Pairwise.nil, fun p h => by simp at h⟩
theorem SeenOK.val {L : SeenC} {n : Nat} (h : SeenOK L n) (x : Int) : (0 < seenC L x) ↔ (mget L x).isSome = true := by
  unfold seenC
  cases hg : mget L x with
  | none => simp
  | some v => have := (h.b _ (mget_mem hg)).2.2; simp only at this; simp [this]

/-- A marked cell has none of variable v, but for those greater than m. -/
def Clear (C : List Cl) (v m : Nat) (L : SeenC) : Prop := ∀ (x : Nat) t, (mget L (x : Int)).isSome = true → Rep C x t → (v : Int) + 1 ∈ occT t → m < nodes t
/-- What is marked anew has none of variable v. -/
def Anew (C : List Cl) (v : Nat) (L L' : SeenC) : Prop := ∀ (x : Nat) t, (mget L' (x : Int)).isSome = true → Rep C x t → (mget L (x : Int)).isSome = true ∨ (v : Int) + 1 ∉ occT t

def WithinPost (C : List Cl) (v sb : Nat) (t : S28) (L : SeenC) (w : World) (e : Ending) (w' : World) : Prop :=
  ∃ (r : Bool) (L' : SeenC), e = .returned (.bool r) ∧ CSeen w' sb L' ∧ SeenOK L' C.length ∧ Fg sb w w' ∧ (r = true → (v : Int) + 1 ∈ occT t) ∧ (r = false → (v : Int) + 1 ∉ occT t ∧ Anew C v L L')

theorem HpAt.fg {w w' : World} {hb sb : Nat} {S : Nat → Prop} {H : Hp} (h : HpAt w hb S H) (hf : Fg sb w w') (hs : ¬ S sb) : HpAt w' hb S H := h.step (fun k hk => hf.block k (h.lt k hk) (fun e => hs (e ▸ hk))) hf.size

theorem Walk.lt {C : List Cl} {x y : Nat} (h : Walk C x y) : y < C.length := by obtain ⟨c, h1, _⟩ := h.end_; exact (List.getElem?_eq_some_iff.1 h1).1
theorem Rep.walk {C : List Cl} {x : Nat} {t : S28} (h : Rep C x t) : ∃ y, Walk C x y := by
  induction h with
  | free x c h hk => exact ⟨x, .here x c h (by omega)⟩
  | ref x b c t h hk ha hr ih => obtain ⟨y, hy⟩ := ih; exact ⟨y, .on x b y c h hk ha hy⟩
  | num x c h hk hr hi hz => exact ⟨x, .here x c h (by omega)⟩
  | atom x c h hk hr hn hz => exact ⟨x, .here x c h (by omega)⟩
  | comp x f c ts h hk ha hr h1 h8 hn hz hs ih => exact ⟨x, .here x c h (by omega)⟩
/-- No variable but a cell's own, where it isn't compound. -/
theorem Rep.leaf {C : List Cl} {x v : Nat} {t : S28} {c : Cl} (h : Rep C x t) (hx : C[x]? = some c) (h4 : c.kd ≠ 4) (h1 : c.kd ≠ 1) (hv : v ≠ x) : (v : Int) + 1 ∉ occT t := by
  cases h with
  | free _ c' h2 hk2 => rw [occ_mkV]; simp; omega
  | ref _ b' c' _ h2 hk2 ha2 hr2 => rw [hx] at h2; cases h2; omega
  | num _ c' h2 hk2 => rw [occT]; simp
  | atom _ c' h2 hk2 => rw [occT]; simp
  | comp _ f' c' ts h2 hk2 => rw [hx] at h2; cases h2; omega

set_option maxHeartbeats 2000000 in
set_option maxRecDepth 100000 in
theorem within_any (hb sb : Nat) (S : Nat → Prop) (H : Hp) (v : Nat) (cv : Cl) (hcv : H.C[v]? = some cv) (hcv0 : cv.kd = 0) (hsb : ¬ S sb) : ∀ (n : Nat) (t : S28), nodes t = n → ∀ (w : World) (x : Nat) (L : SeenC), HpAt w hb S H → Rep H.C x t → CSeen w sb L → SeenOK L H.C.length → Clear H.C v n L →
    Calls Try.prog 69 #[.pointer (some ⟨hb, 0, none⟩), .int .i64 v, .int .i64 x, .map (some sb)] w (WithinPost H.C v sb t L w) := by
  intro n
  induction n using Nat.strongRecOn with
  | _ n ih =>
  intro t hn w x L hp ht hL hok hcl
  obtain ⟨y, hy⟩ := ht.walk
  have hty := hy.rep ht
  obtain ⟨c, hc, hc1⟩ := hy.end_
  have hyl := hy.lt
  have hwalk := walk_any w hb S H hp hy
  obtain ⟨vc, vn, vm, hv⟩ := hp
  have hlc := hv.lc
  obtain ⟨g, cap, rfl, h1, h2, h3, h4, h5, h6⟩ := hv.cell hc
  have c2 := hv.c2
  have d0 := h5.d0
  have d1 := h5.d1
  have d2 := h5.d2
  have d3 := h5.d3
  have d4 := h5.d4
  have hsl := hL.lt
  have hL1 := hL.alloc (.cells #[.int .i64 c.kd, .string c.nm, .int .i64 c.n, .int .i64 c.a, .int .i64 c.ar] 66)
  have hf1 := (Fg.refl sb w).alloc (.cells #[.int .i64 c.kd, .string c.nm, .int .i64 c.n, .int .i64 c.a, .int .i64 c.ar] 66)
  have hp1 : HpAt _ hb S H := ⟨_, _, _, hv.alloc (.cells #[.int .i64 c.kd, .string c.nm, .int .i64 c.n, .int .i64 c.a, .int .i64 c.ar] 66)⟩
  have hlook := lookC hL1 (m := (y : Int)) ⟨by omega, by omega⟩
  by_cases eyv : y = v
  · subst eyv
    have hc0 : c.kd = 0 := by rw [hc] at hcv; cases hcv; exact hcv0
    have hto : (y : Int) + 1 ∈ occT t := by
      rw [hty.det (.free y c hc hc0), occ_mkV]; simp
    clear hlook hc0 hcv0
    go_enter Try.func69, Try.ntmps69
    go_wp2_with fail
    refine hwalk.mono ?_
    rintro e w' ⟨rfl, rfl⟩
    go_wp2
    go_ret
    exact ⟨true, L, rfl, hL1, hok, hf1, fun _ => hto, fun h => (by cases h)⟩
  have e1 : ((y : Int) == (v : Int)) = false := by simp; omega
  by_cases h4c : c.kd = 4
  rotate_left
  · have hto := hty.leaf (v := v) hc h4c hc1 (fun e => eyv e.symm)
    have e2 : (c.kd != 4) = true := by simp; exact h4c
    clear hlook hcv0
    go_enter Try.func69, Try.ntmps69
    go_wp2_with fail
    refine hwalk.mono ?_
    rintro e w' ⟨rfl, rfl⟩
    go_wp2
    go_ret
    exact ⟨false, L, rfl, hL1, hok, hf1, fun h => (by cases h), fun _ => ⟨hto, fun x t h _ => .inl h⟩⟩
  have e2 : (c.kd != 4) = false := by simp; exact h4c
  by_cases hs : (mget L (y : Int)).isSome = true
  · have hto : (v : Int) + 1 ∉ occT t := fun h => by have := hcl y t hs hty h; omega
    have e3 : decide (0 < seenC L (y : Int)) = true := decide_eq_true ((hok.val _).2 hs)
    clear h4c hcv0 hs
    go_enter Try.func69, Try.ntmps69
    go_wp2_with fail
    refine hwalk.mono ?_
    rintro e w' ⟨rfl, rfl⟩
    go_wp2
    go_ret
    exact ⟨false, L, rfl, hL1, hok, hf1, fun h => (by cases h), fun _ => ⟨hto, fun x t h _ => .inl h⟩⟩
  have e3 : decide (0 < seenC L (y : Int)) = false := decide_eq_false fun h => hs ((hok.val _).1 h)
  obtain ⟨f, ts, hfa, har, hl1, hl8, hnm, rfl, hargs, -⟩ := hty.inv4 hc h4c
  rw [hfa] at d3 hL1 hf1 hp1 hlook
  rw [har] at d4 hL1 hf1 hp1 hlook
  have hkey := keyOf_int_mk Try.underlying3 (show I64 (y : Int) from ⟨by omega, by omega⟩).wf
  have hll := hok.len
  have hcl1 : Clear H.C v n L := hcl
  have kB := blk_new w (.cells #[.int .i64 c.kd, .string c.nm, .int .i64 c.n, .int .i64 f, .int .i64 ts.length] 66)
  have hty0 := hty
  clear hty ht
  have Hs := Lib.hid hs
  have H4 := Lib.hid h4c
  have Hfa := Lib.hid hfa
  have Har := Lib.hid har
  have Hcv0 := Lib.hid hcv0
  have Hn := Lib.hid hn
  clear hs h4c hfa har hcv0 hn
  go_enter Try.func69, Try.ntmps69
  go_wp2_with fail
  refine hwalk.mono ?_
  rintro e w' ⟨rfl, rfl⟩
  go_wp2_with (at_mapUpdate; refine wpList_mapUpdate_in _ rfl _ _ _ 114 rfl 3 3 law3 Try.underlying114 _ sb L.length _ rfl hL1 (by unfold maxLen; omega) _ _ _ rfl rfl hkey (.held (.int .i64 1)) [] rfl ?_; intro w7 hown7 hturn7; have hS7 := putCn hown7; have hf7 := hf1.trans (Fg.turned hturn7); have kB7 := blk_grown kB hturn7.grown (fun e => by have := Option.some.inj e; omega); have b4 := blk_cell kB7 4)
  have hp0 : HpAt w hb S H := ⟨_, _, _, hv⟩
  have hA0 : ∀ (x : Nat) t', (mget (mput (y : Int) 1 L) (x : Int)).isSome = true → Rep H.C x t' → (mget L (x : Int)).isSome = true ∨ x = y ∨ (v : Int) + 1 ∉ occT t' := fun x' t' h _ => by
    by_cases e : x' = y
    · exact .inr (.inl e)
    · rw [mget_mput_other (by omega)] at h; exact .inl h
  have hok7 := hok.put hyl
  go_loopw [42] (fun i wr => ∃ (k : Nat) (Lk : SeenC), k ≤ ts.length ∧ i = .int .i64 k ∧ CSeen wr sb Lk ∧ SeenOK Lk H.C.length ∧ Fg sb w wr ∧ wr.heap[w.heap.size]? = some (.cells #[.int .i64 c.kd, .string c.nm, .int .i64 c.n, .int .i64 f, .int .i64 ts.length] 66 (0, 0)) ∧
      (∀ j (hj : j < ts.length), j < k → (v : Int) + 1 ∉ occT ts[j]) ∧ ∀ (x : Nat) t', (mget Lk (x : Int)).isSome = true → Rep H.C x t' → (mget L (x : Int)).isSome = true ∨ x = y ∨ (v : Int) + 1 ∉ occT t') (fun i _ => ts.length - (intOf i).toNat)
  case atStart => exact ⟨0, _, Nat.zero_le _, rfl, hS7, hok7, hf7, kB7, fun j hj h => absurd h (Nat.not_lt_zero _), hA0⟩
  case round =>
    clear hS7 hok7 hf7 kB7 hA0 b4 hturn7 hown7 hL1 hf1 hp1 hlook hwalk kB d0 d1 d2 d3 d4 c2
    obtain ⟨k, Lk, hk, rfl, hSk, hokk, hfk, kBk, hno, hAk⟩ := hrel
    have b3 := blk_cell kBk 3
    have hsk := hfk.size
    by_cases hlt : k < ts.length
    · have hcall := ih (nodes ts[k]) (by have := Hn.out; rw [nodes_eq4] at this; have := nodesL_mem (List.getElem_mem hlt); omega) ts[k] rfl wr (f + k) Lk (hp0.fg hfk hsb) (hargs k hlt) hSk hokk (fun x' t' h1 h2 h3 => by
        have hn := Hn.out
        have hm : nodes ts[k] < n := by rw [nodes_eq4] at hn; have := nodesL_mem (List.getElem_mem hlt); omega
        rcases hAk x' t' h1 h2 with h | h | h
        · have := hcl x' t' h h2 h3; omega
        · subst h
          rw [h2.det hty0, hn]; exact hm
        · exact absurd h3 h)
      rw [show (((f + k : Nat) : Nat) : Int) = (f : Int) + (k : Int) from by push_cast; rfl] at hcall
      have hkb : (f : Int) + (k : Int) ≤ 70000 ∧ 0 ≤ (f : Int) + (k : Int) := by have := (hargs k hlt).lt; omega
      go_wp2_with fail
      refine hcall.mono ?_
      rintro e w8 ⟨r, L8, rfl, hS8, hok8, hf8, hr1, hr2⟩
      cases r with
      | true =>
        have hyes := hr1 rfl
        go_wp2
        go_ret
        exact ⟨true, L8, rfl, hS8, hok8, hfk.trans hf8, fun _ => by rw [occ_eq4, occL_mem]; exact ⟨_, List.getElem_mem hlt, hyes⟩, fun h => (by cases h)⟩
      | false =>
        obtain ⟨hno8, hA8⟩ := hr2 rfl
        have kB8 := (hf8.block _ (blk_lt kBk) (by omega)).trans kBk
        go_wp2
        go_roundw
        case measure => simp [intOf]; omega
        case rel =>
          refine ⟨k + 1, L8, by omega, by go_num, hS8, hok8, hfk.trans hf8, kB8, fun j hj hjk => ?_, fun x' t' h1 h2 => ?_⟩
          · by_cases e : j = k
            · subst e; exact hno8
            · exact hno j hj (by omega)
          · rcases hA8 x' t' h1 h2 with h | h
            · exact hAk x' t' h h2
            · exact .inr (.inr h)
    · obtain rfl : k = ts.length := by omega
      have hto : (v : Int) + 1 ∉ occT ⟨4, c.nm, 0, ts⟩ := by
        rw [occ_eq4, occL_mem]
        rintro ⟨a, ha, hva⟩
        obtain ⟨j, hj, rfl⟩ := List.getElem_of_mem ha
        exact hno j hj hj hva
      go_wp2
      go_ret
      refine ⟨false, Lk, rfl, hSk, hokk, hfk, fun h => (by cases h), fun _ => ⟨hto, fun x' t' h1 h2 => ?_⟩⟩
      rcases hAk x' t' h1 h2 with h | h | h
      · exact .inl h
      · subst h
        exact .inr (by rw [h2.det hty0]; exact hto)
      · exact .inr h

/-- What bind does. -/
def BindPost (w : World) (hb : Nat) (S : Nat → Prop) (H : Hp) (v b : Nat) (cv : Cl) (t : S28) (e : Ending) (w' : World) : Prop :=
  (e = .returned (.tuple #[.bool false, .int .i64 0]) ∧ HpTo w hb S H w' ∧ t.f0 = 4 ∧ (v : Int) + 1 ∈ occT t) ∨
  (e = .returned (.tuple #[.bool false, .int .i64 131]) ∧ HpTo w hb S H w' ∧ H.trail ≤ H.N.length) ∨
  (e = .returned (.tuple #[.bool true, .int .i64 0]) ∧ HpTo w hb S { H with C := H.C.set v (refC b), N := H.N ++ [(v, cv)] } w' ∧ H.N.length < H.trail ∧ (v : Int) + 1 ∉ occT t)

theorem bind_close {w W W' : World} {hb v b : Nat} {S : Nat → Prop} {H : Hp} {cv : Cl} {t : S28} {e : Ending} (hf : Fs S w W) (ho : (v : Int) + 1 ∉ occT t) (h : SetPost W hb S H v cv (refC b) e W') :
    (e = .returned (.bool false) ∧ BindPost w hb S H v b cv t (.returned (.tuple #[.bool false, .int .i64 131])) W') ∨ (e = .returned (.bool true) ∧ BindPost w hb S H v b cv t (.returned (.tuple #[.bool true, .int .i64 0])) W') := by
  rcases h with ⟨h1, h2, h3⟩ | ⟨h1, h2, h3⟩
  · exact .inl ⟨h2, .inr (.inl ⟨rfl, h3.after hf fun k hk => .inl hk, h1⟩)⟩
  · exact .inr ⟨h2, .inr (.inr ⟨rfl, h3.after hf fun k hk => .inl hk, h1, ho⟩)⟩

set_option maxHeartbeats 2000000 in
set_option maxRecDepth 100000 in
theorem bind_any (w : World) (hb : Nat) (S : Nat → Prop) (H : Hp) (v b : Nat) (cv c : Cl) (t : S28) (hp : HpAt w hb S H) (hcv : H.C[v]? = some cv) (hcv0 : cv.kd = 0) (hb' : H.C[b]? = some c) (hb1 : c.kd ≠ 1) (hvb : v ≠ b) (ht : Rep H.C b t) :
    Calls Try.prog 54 #[.pointer (some ⟨hb, 0, none⟩), .int .i64 v, .int .i64 b] w (BindPost w hb S H v b cv t) := by
  have hv0 := hp
  obtain ⟨vc, vn, vm, hv⟩ := hp
  obtain ⟨g, cap, rfl, h1, h2, h3, h4, h5, h6⟩ := hv.cell hb'
  have c2 := hv.c2
  have d0 := h5.d0
  have hlc := hv.lc
  by_cases h4c : c.kd = 4
  · have e4 : (c.kd == 4) = true := by simp; exact h4c
    have hw := fun (W : World) (hB : W = w.alloc (.map #[] 0)) => within_any hb w.heap.size S H v cv hcv hcv0 (fun h => Nat.lt_irrefl _ (hv.Sl _ h)) (nodes t) t rfl W b [] (by subst hB; exact ⟨_, _, _, hv.alloc _⟩) ht (by subst hB; exact CSeen.new w) (SeenOK.nil _) (fun x t' h => by simp [mget] at h)
    have hws := hw _ rfl
    have ht4 : t.f0 = 4 := by obtain ⟨_, _, _, _, _, _, _, rfl, _⟩ := ht.inv4 hb' h4c; rfl
    clear hw h4c hcv0
    have hmm := @run_makeMap Try.prog
    go_enter Try.func54, Try.ntmps54
    go_wp2_with fail
    refine hws.mono ?_
    rintro e w8 ⟨r, L8, rfl, hS8, hok8, hf8, hr1, hr2⟩
    have hf9 : Fs S w w8 := ⟨hf8.os, hf8.tape, hf8.output, by have := hf8.size; rw [World.size_alloc] at this; omega, fun k hk _ => (hf8.block k (by rw [World.size_alloc]; omega) (by omega)).trans (Below.heap_alloc w _ k hk)⟩
    have hp9 : HpAt w8 hb S H := hv0.step (fun k hk => (hf8.block k (by rw [World.size_alloc]; have := hv.Sl k hk; omega) (by have := hv.Sl k hk; omega)).trans (Below.heap_alloc w _ k (hv.Sl k hk))) hf9.size
    cases r with
    | true =>
      have hyes := hr1 rfl
      go_wp2
      go_ret2
      exact .inl ⟨rfl, hp9.to hf9, ht4, hyes⟩
    | false =>
      have hno := (hr2 rfl).1
      have hset : Calls Try.prog 55 #[.pointer (some ⟨hb, 0, none⟩), .int .i64 v, .agg #[.int .i64 1, .string ⟨#[]⟩, .int .i64 0, .int .i64 b, .int .i64 0]] w8 _ := set_any w8 hb S H hp9 v cv (refC b) hcv
      clear hws hr1 hr2
      go_wp2_with fail
      refine hset.mono ?_
      intro e w' hpost
      rcases bind_close hf9 hno hpost with ⟨rfl, hfin⟩ | ⟨rfl, hfin⟩
      · go_wp2
        go_ret2
        exact hfin
      · go_wp2
        go_ret2
        exact hfin
  · have e4 : (c.kd == 4) = false := by simp; exact h4c
    have hno := ht.leaf hb' h4c hb1 hvb
    have hset : Calls Try.prog 55 #[.pointer (some ⟨hb, 0, none⟩), .int .i64 v, .agg #[.int .i64 1, .string ⟨#[]⟩, .int .i64 0, .int .i64 b, .int .i64 0]] w _ := set_any w hb S H hv0 v cv (refC b) hcv
    clear h4c hcv0 hb1
    go_enter Try.func54, Try.ntmps54
    go_wp2_with fail
    refine hset.mono ?_
    intro e w' hpost
    rcases bind_close (Fs.refl S w) hno hpost with ⟨rfl, hfin⟩ | ⟨rfl, hfin⟩
    · go_wp2
      go_ret2
      exact hfin
    · go_wp2
      go_ret2
      exact hfin

end Go.Proofs.Ytjhhacighfpdbaa
