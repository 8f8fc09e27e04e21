/- The document's vars and Vars, walked. -/
import Derived.Test.YtpnkaggkedepeaaTmQa
import Derived.Test.YtpnkaggkedepeaaTmPo
namespace Go.Proofs.Ytpnkaggkedepeaa
set_option linter.unusedVariables false
open Go.RowKit Go.Maps Go.Proofs.YtpnkaggkedepeaaW.PrintWords Go.Proofs.YtpnkaggkedepeaaW.PrintLast Go.Proofs.YtpnkaggkedepeaaW.PrintMore Go.Proofs.Ytpnkaggkedepeaa.PTermTells Go.Extern

/-- The world has grown, and its row v alone has been written: it is v' now. -/
structure GV (w : World) (v : Value) (w' : World) (v' : Value) : Prop where
  g : w.grownBy w' v.ownBlock
  at_ : v'.ownBlock = v.ownBlock ∨ ∃ b, v'.ownBlock = some b ∧ w.heap.size ≤ b
theorem GV.refl (w : World) (v : Value) : GV w v w v := ⟨World.grownBy.refl w _, .inl rfl⟩
theorem GV.trans {w w1 w2 : World} {v v1 v2 : Value} (h : GV w v w1 v1) (k : GV w1 v1 w2 v2) : GV w v w2 v2 := by
  refine ⟨⟨k.g.os.trans h.g.os, k.g.tape.trans h.g.tape, k.g.output.trans h.g.output, Nat.le_trans h.g.size k.g.size, fun i hi hne => ?_⟩, ?_⟩
  · refine (k.g.block i (by have := h.g.size; omega) (fun e => ?_)).trans (h.g.block i hi hne)
    rcases h.at_ with e2 | ⟨b, e2, hb⟩
    · exact hne (e.trans e2)
    · rw [e2] at e; have := Option.some.inj e; omega
  · rcases k.at_ with e | ⟨b, e, hb⟩
    · rcases h.at_ with e2 | ⟨b, e2, hb⟩
      · exact .inl (e.trans e2)
      · exact .inr ⟨b, e.trans e2, hb⟩
    · exact .inr ⟨b, e, Nat.le_trans h.g.size hb⟩
theorem GV.alloc {w w' : World} {v v' : Value} (h : GV w v w' v') (o : Obj) : GV w v (w'.alloc o) v' := h.trans ⟨World.grownBy_alloc w' o _, .inl rfl⟩
theorem GV.of_below {w w' : World} (v : Value) (h : Below w.heap.size w w') : GV w v w' v := ⟨⟨h.os, h.tape, h.output, h.size, fun i hi _ => h.block i hi⟩, .inl rfl⟩
theorem GV.below {B : Nat} {w0 w w' : World} {v v' : Value} (h : GV w v w' v') (hB : Below B w0 w) (hv : ∀ q, v.ownBlock = some q → B ≤ q) (hs : B ≤ w0.heap.size) : Below B w0 w' := below_grown hB h.g hv hs
theorem GV.blk {w w' : World} {v v' : Value} {g : Nat} {o : Obj} (h : GV w v w' v') (hb : w.heap[g]? = some o) (hne : v.ownBlock ≠ some g) : w'.heap[g]? = some o := blk_grown hb h.g (fun e => hne e.symm)

set_option maxHeartbeats 4000000 in
set_option maxRecDepth 100000 in
theorem rvars_any : ∀ (n : Nat) (t : S24), SizeOf.sizeOf t = n → ∀ (w0 w : World) (c : Nat) (A : Option Addr) (v : Value) (out : List Int), Kd.C k24 w0 A t.f3.length t.f3 → t.f3.length ≤ c → Below w0.heap.size w0 w → OutAt w w0.heap.size v out → out.length + nodes t < 100000 →
    Calls Try.prog 55 #[.agg #[.int .i64 t.f0, .string t.f1, .int .i64 t.f2, .slice A t.f3.length c], v] w fun e w' => ∃ v', e = .returned v' ∧ OutAt w' w0.heap.size v' (varsT t out) ∧ GV w v w' v' := by
  intro n
  induction n using Nat.strongRecOn with
  | _ n ih =>
  intro t hn w0 w c A v out hC hc hB ho hl
  obtain ⟨kd, nm, nt, xs⟩ := t
  simp only at hC hc ⊢
  have hsz := hB.size
  have hvl : ∀ q, v.ownBlock = some q → w0.heap.size ≤ q ∧ q < w.heap.size := World.ownsRow.lt ho
  have hGa : GV w v (w.alloc (.cells #[.int .i64 kd, .string nm, .int .i64 nt, .slice A xs.length c] 24)) v := (GV.refl w v).alloc _
  have hBa := below_alloc hB (.cells #[.int .i64 kd, .string nm, .int .i64 nt, .slice A xs.length c] 24)
  have kT := blk_new w (.cells #[.int .i64 kd, .string nm, .int .i64 nt, .slice A xs.length c] 24)
  have hoa : OutAt (w.alloc (.cells #[.int .i64 kd, .string nm, .int .i64 nt, .slice A xs.length c] 24)) w0.heap.size v out := ho.alloc _
  have hnb : v.ownBlock ≠ some w.heap.size := fun e => by have := (hvl _ e).2; omega
  clear ho
  unfold varsT
  by_cases k1 : kd = 1
  · subst k1
    simp only [if_true]
    obtain ⟨A1, c1, rfl, hc1, C1⟩ := hoa.reads
    have hcall := pythiaref01_HasLong.calls _ A1 c1 out nt _ _ C1 hc1 (has_pure out nt (by omega))
    clear ih
    by_cases hm : nt ∈ out
    · rw [decide_eq_true hm] at hcall
      rw [if_pos hm]
      go_enter Try.func55, Try.ntmps55
      go_wp2_with fail
      refine hcall.mono ?_
      rintro e w1 ⟨rfl, hD⟩
      have hb1 := drawn_below hD
      have kT1 := blk_below kT hb1
      have x0 := blk_cell kT1 0
      have ho1 := ownsRow_belowB hoa hb1
      clear hD hcall
      go_wp2
      go_ret
      exact ⟨_, rfl, ho1, hGa.trans (GV.of_below _ hb1)⟩
    · rw [decide_eq_false hm] at hcall
      rw [if_neg hm]
      have hlt : out.length < 100000 := by omega
      go_enter Try.func55, Try.ntmps55
      go_wp2_with fail
      refine hcall.mono ?_
      rintro e W ⟨rfl, hD⟩
      have hb1 := drawn_below hD
      have kW := blk_below kT hb1
      have x0 := blk_cell kW 0
      have x2 := blk_cell kW 2
      have hoW := ownsRow_belowB hoa hb1
      have hBW := below_step hBa hb1
      have hGW := hGa.trans (GV.of_below _ hb1)
      have hsW := hBW.size
      clear hD hcall hoa hBa hGa kT C1 hc1 hb1
      go_wp2_with (at_builtin; refine print_append_num (w0 := w0) w0.heap.size rfl (.tmp 16) (.tmp 19) 30 2 .i64 8 rfl Try.underlying30 info2 (by decide) (.slice A1 out.length c1) out nt rfl rfl hoW hBW hsW (by omega) ?_; intro v' w6 hown6 hB6 hg6 hat6; have k6 := blk_grown kW hg6 (fun e => hnb e.symm); have z0 := blk_cell k6 0)
      go_ret
      exact ⟨_, rfl, hown6, hGW.trans ⟨hg6, hat6⟩⟩
  simp only [if_neg k1]
  have k1' : (kd == 1) = false := by simpa using k1
  by_cases k4 : kd = 4
  · subst k4
    simp only [if_true]
    have hn4 : nodes ⟨4, nm, nt, xs⟩ = 1 + nodesL xs := by rw [nodes, if_pos rfl]
    rw [hn4] at hl
    have hz : ∀ a ∈ xs, SizeOf.sizeOf a < n := fun a ha => by rw [← hn]; exact sz_mem (t := ⟨4, nm, nt, xs⟩) ha
    clear hn hn4
    have hmx := hC.2.1
    go_enter Try.func55, Try.ntmps55
    go_upto_region 5 with (fail)
    generalize w.alloc (.cells #[.int .i64 4, .string nm, .int .i64 nt, .slice A xs.length c] 24) = w1 at hGa hBa kT hoa ⊢
    go_loopw [1, 5] (fun u i wr => ∃ (k : Nat) (o : List Int), k ≤ xs.length ∧ i = .int .i64 k ∧ varsL xs out = varsL (xs.drop k) o ∧ OutAt wr w0.heap.size u o ∧ o.length + nodesL (xs.drop k) < 100000 ∧ GV w1 v wr u)
      (fun _ i _ => xs.length - (intOf i).toNat)
    case atStart => exact ⟨0, out, Nat.zero_le _, rfl, rfl, hoa, by rw [List.drop_zero]; omega, GV.refl _ _⟩
    case round =>
      obtain ⟨k, o, hk, rfl, hv, how, hnl, hg⟩ := hrel
      have hbr := hg.below hBa (fun q hq => (hvl q hq).1) (Nat.le_refl _)
      have kR := hg.blk kT hnb
      have x3 := blk_cell kR 3
      clear kR
      by_cases hlt : k < xs.length
      · obtain ⟨ad, A3, c3, rfl, y0, y1, y2, y3, l3, g3⟩ := C_rd hC k hlt rfl
        replace y0 := (hbr.cell (World.block_lt_of_cell? w0 _ y0)).trans y0
        replace y1 := (hbr.cell (World.block_lt_of_cell? w0 _ y1)).trans y1
        replace y2 := (hbr.cell (World.block_lt_of_cell? w0 _ y2)).trans y2
        replace y3 := (hbr.cell (World.block_lt_of_cell? w0 _ y3)).trans y3
        rw [List.drop_eq_getElem_cons hlt, varsL_cons] at hv
        rw [List.drop_eq_getElem_cons hlt, nodesL_cons] at hnl
        have hza := hz _ (List.getElem_mem hlt)
        generalize xs[k] = a at y0 y1 y2 y3 l3 g3 hv hnl hza
        have hcall := ih _ hza a rfl w0 wr c3 A3 _ o g3 l3 hbr how (by omega)
        have hvl2 := varsT_len a o
        clear ih
        go_wp2_with fail
        refine hcall.mono ?_
        rintro e w5 ⟨v5, rfl, ho5, hg5⟩
        clear hcall
        go_wp2
        go_roundw
        case rel => exact ⟨k + 1, _, by omega, by go_num, hv, ho5, by omega, hg.trans hg5⟩
        case measure => simp [intOf]; omega
      · obtain rfl : k = xs.length := by omega
        rw [List.drop_of_length_le (Nat.le_refl _), varsL_nil] at hv
        go_wp2
        go_ret
        exact ⟨u1, rfl, by rw [hv]; exact how, hGa.trans hg⟩
  · simp only [if_neg k4]
    have k4' : (kd == 4) = false := by simpa using k4
    clear ih
    go_enter Try.func55, Try.ntmps55
    go_wp2
    go_ret
    exact ⟨_, rfl, hoa, hGa⟩

set_option maxHeartbeats 4000000 in
set_option maxRecDepth 100000 in
theorem rVars_at {w0 W : World} {t : S24} {A : Option Addr} {c : Nat} (h : Lies w0 t A c) (hB : Below w0.heap.size w0 W) (hn : nodes t < 90000) :
    Calls Try.prog 25 #[.agg #[.int .i64 t.f0, .string t.f1, .int .i64 t.f2, .slice A t.f3.length c]] W fun e w' => ∃ A' c', e = .returned (.slice A' (varsT t []).length c') ∧ (varsT t []).length ≤ c' ∧ OutAt w' W.heap.size (.slice A' (varsT t []).length c') (varsT t []) ∧ Below W.heap.size W w' := by
  have hB2 := below_alloc (below_alloc (Below.refl W.heap.size W) (.cells #[.int .i64 t.f0, .string t.f1, .int .i64 t.f2, .slice A t.f3.length c] 24)) (.cells #[] 2)
  have hO : OutAt ((W.alloc (.cells #[.int .i64 t.f0, .string t.f1, .int .i64 t.f2, .slice A t.f3.length c] 24)).alloc (.cells #[] 2)) W.heap.size (.slice (some ⟨W.heap.size + 1, 0, none⟩) 0 0) [] := by
    have := World.ownsRow_made (base := W.heap.size) (e := 2) (size := 1) (W.alloc (.cells #[.int .i64 t.f0, .string t.f1, .int .i64 t.f2, .slice A t.f3.length c] 24)) #[] 0 (by simp) (by decide) (by simp)
    rw [World.size_alloc] at this
    exact this
  have hcall := rvars_any _ t rfl W _ c A _ [] (h.at hB).C h.le hB2 hO (by simp; omega)
  go_enter Try.func25, Try.ntmps25
  go_wp2_with fail
  refine hcall.mono ?_
  rintro e w1 ⟨v, rfl, ho, hg⟩
  have hb := hg.below hB2 (fun q hq => by simp [Value.ownBlock] at hq; omega) (Nat.le_refl _)
  obtain ⟨A', c', rfl, h1, h2⟩ := ho.reads
  go_wp2
  go_ret
  exact ⟨A', c', rfl, h1, ho, hb⟩
end Go.Proofs.Ytpnkaggkedepeaa
