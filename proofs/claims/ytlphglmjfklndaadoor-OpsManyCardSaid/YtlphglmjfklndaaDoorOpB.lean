/- A table of operators in memory; Prefix, After. -/
import Derived.Test.YtlphglmjfklndaaDoorOpA
import Derived.Laws.ResultCell
import Derived.Laws.Rows
namespace Go.Proofs.YtlphglmjfklndaaDoor
set_option linter.unusedVariables false
open Go.RowKit Go.Maps Go.Proofs.YtlphglmjfklndaaDoorW.PrintWords Go.Proofs.YtlphglmjfklndaaDoorW.PrintLast Go.Proofs.YtlphglmjfklndaaDoorW.PrintMore Go.Proofs.YtlphglmjfklndaaDoor.POpsApart Go.Extern

theorem ownsMap_tight {w : World} {b n : Nat} {D : DataW Value} (h : w.ownsMap Tryd.prog 52 rawE b n D) : w.ownsMap Tryd.prog 52 rawE b (Maps.size D) D := by
  obtain ⟨es, clock, hb, F, hs, rfl⟩ := h
  exact ⟨es, clock, hb, F, by simp [Maps.size, length_sorted], rfl⟩

/-- A table lies at p, its map at m. -/
structure TabV (w : World) (p m : Nat) (L : List S27) : Prop where
  blk : w.heap[p]? = some (.cells #[.map (some m)] 44 (0, 0))
  own : w.ownsMap Tryd.prog 52 rawE m L.length (tdat L)
  tab : Tab L
  len : L.length ≤ 200

section
variable {w w' : World} {p m : Nat} {L : List S27}
theorem TabV.mlt (h : TabV w p m L) : m < w.heap.size := h.own.lt
theorem TabV.plt (h : TabV w p m L) : p < w.heap.size := blk_lt h.blk
theorem TabV.ne (h : TabV w p m L) : p ≠ m := fun e => by
  obtain ⟨es, clock, hb, _⟩ := h.own
  have := h.blk
  rw [e, hb] at this
  cases this
theorem TabV.step (h : TabV w p m L) (hp : w'.heap[p]? = w.heap[p]?) (hm : w'.heap[m]? = w.heap[m]?) : TabV w' p m L := by
  obtain ⟨es, clock, hb, F, hs, hD⟩ := h.own
  exact ⟨hp.trans h.blk, ⟨es, clock, hm.trans hb, F, hs, hD⟩, h.tab, h.len⟩
theorem TabV.below (h : TabV w p m L) (hB : Below w.heap.size w w') : TabV w' p m L := h.step (hB.block p h.plt) (hB.block m h.mlt)
end

theorem TabV.turned {w w' : World} {p m n : Nat} {L L' : List S27} (h : TabV w p m L) (ho : w'.ownsMap Tryd.prog 52 rawE m n (tdat L')) (ht : w.mapTurned w' m) (hT : Tab L') (hl : L'.length ≤ 200) :
    TabV w' p m L' ∧ w.heap.size ≤ w'.heap.size ∧ ∀ k, k < w.heap.size → k ≠ m → w'.heap[k]? = w.heap[k]? := by
  have hg := ht.grown
  have hb : ∀ k, k < w.heap.size → k ≠ m → w'.heap[k]? = w.heap[k]? := fun k hk hne => hg.block k hk (fun e => hne (Option.some.inj e))
  refine ⟨⟨(hb p h.plt h.ne).trans h.blk, ?_, hT, hl⟩, hg.size, hb⟩
  have := ownsMap_tight ho
  rwa [tdat_size] at this

theorem grown_of_below {w w' : World} (h : Below w.heap.size w w') (r : Option Nat) : w.grownBy w' r := ⟨h.os, h.tape, h.output, h.size, fun k hk _ => h.block k hk⟩
theorem grown_trans {a b c : World} {r : Option Nat} (h : a.grownBy b r) (k : b.grownBy c r) : a.grownBy c r :=
  ⟨k.os.trans h.os, k.tape.trans h.tape, k.output.trans h.output, Nat.le_trans h.size k.size, fun i hi hne => (k.block i (Nat.lt_of_lt_of_le hi h.size) hne).trans (h.block i hi hne)⟩

theorem results_row_tmp {P : Program} {fn : Func} {p u : Tmp} {ty : TypeId} (h : fn.results = #[.cell p ty, .tmp u]) (tmps : Array Value) (w : World) (g : Nat) (t : TypeId) (cs : Array Value) (fr : Nat × Nat) (d : TypeDesc)
    (hp : tmps.getD p undef = .pointer (some ⟨g, 0, none⟩)) (hg : w.heap[g]? = some (.cells cs t fr))
    (hu : P.underlying ty = some d) (hd : (match d with | .struct _ | .array _ _ => true | _ => false) = true) (hi : (P.info? ty).map (·.size) = some cs.size) :
    (results fn tmps).run P w = .ok (.tuple #[.agg cs, tmps.getD u undef]) w := by
  have hp' : tmps[p]?.getD undef = .pointer (some ⟨g, 0, none⟩) := by simpa using hp
  rw [results_cell_tmp h]
  simp [hp', asAddr, run_loadVar_row w g t ty cs fr d hg hu hd hi, Result.andThen]

/-- What a lookup hands back. -/
def optO (o : Option S27) : S27 := o.getD z27

theorem lookO {L : List S27} (h : Tab L) {k : List UInt8} {v : Value} {ps : List MemPlace} {q : S27} (hq : optO (getO k L) = q) (hv : rawE v = some ((tdat L).atKey (.string k) (.held (.agg #[.string ⟨#[]⟩, .int .i64 0, .int .i64 0])), ps)) : v = .agg #[.string q.f0, .int .i64 q.f1, .int .i64 q.f2] := by
  unfold rawE at hv
  rw [tdat_at h] at hv
  simp only [Option.some.injEq, Prod.mk.injEq, DataW.held.injEq] at hv
  rw [hv.1, ← hq]
  cases getO k L <;> rfl

set_option maxHeartbeats 2000000 in
set_option maxRecDepth 100000 in
theorem Prefix_any (w : World) (p m : Nat) (L : List S27) (nm : ByteArray) (h : TabV w p m L) (hn : nm.size ≤ maxLen) :
    Calls Tryd.prog 15 #[.pointer (some ⟨p, 0, none⟩), .string nm] w fun e w' => e = .returned (.tuple #[encO (optO (getO (kc nm false) L)), .bool (getO (kc nm false) L).isSome]) ∧ Below w.heap.size w w' := by
  have hk := key_of false hn
  have kT := blk_alloc h.blk (.cells #[.string ⟨#[]⟩, .int .i64 0, .int .i64 0] 27)
  have c0 : (w.alloc (.cells #[.string ⟨#[]⟩, .int .i64 0, .int .i64 0] 27)).cell? ⟨p, 0, none⟩ = some (.map (some m)) := blk_cell kT 0
  have hown := h.own.alloc (.cells #[.string ⟨#[]⟩, .int .i64 0, .int .i64 0] 27)
  have hh := tdat_has h.tab (kc nm false)
  obtain ⟨q, hq⟩ : ∃ q, optO (getO (kc nm false) L) = q := ⟨_, rfl⟩
  rw [hq]
  generalize hs : (getO (kc nm false) L).isSome = sm at hh ⊢
  go_enter Tryd.func15, Tryd.ntmps15
  go_wp2_with (at_lookup; refine wpList_lookup_own_ok _ rfl (.tmp 12) (.tmp 14) 42 rfl 52 27 K52 Tryd.underlying42 rawE (Tryd.zeroValue27 _) (.held (.agg #[.string ⟨#[]⟩, .int .i64 0, .int .i64 0])) [] rfl m L.length (tdat L) rfl hown _ _ rfl hk ?_; intro v ps hv; obtain rfl := lookO h.tab hq hv; clear hv)
  have kb : ((w.alloc (.cells #[.string q.f0, .int .i64 q.f1, .int .i64 q.f2] 27)).alloc (.cells #[.string q.f0, .int .i64 q.f1, .int .i64 q.f2] 27)).heap[w.heap.size]? = some (.cells #[.string q.f0, .int .i64 q.f1, .int .i64 q.f2] 27 (0, 0)) := blk_alloc (blk_new w _) _
  refine bodyPost_ret (results_row_tmp rfl _ _ w.heap.size 27 _ (0, 0) _ rfl kb Tryd.underlying27 rfl (by kernel_rfl)) rfl ⟨rfl, below_alloc (below_alloc (Below.refl _ _) _) _⟩

set_option maxHeartbeats 2000000 in
set_option maxRecDepth 100000 in
theorem After_any (w : World) (p m : Nat) (L : List S27) (nm : ByteArray) (h : TabV w p m L) (hn : nm.size ≤ maxLen) :
    Calls Tryd.prog 16 #[.pointer (some ⟨p, 0, none⟩), .string nm] w fun e w' => e = .returned (.tuple #[encO (optO (getO (kc nm true) L)), .bool (getO (kc nm true) L).isSome]) ∧ Below w.heap.size w w' := by
  have hk := key_of true hn
  have kT := blk_alloc h.blk (.cells #[.string ⟨#[]⟩, .int .i64 0, .int .i64 0] 27)
  have c0 : (w.alloc (.cells #[.string ⟨#[]⟩, .int .i64 0, .int .i64 0] 27)).cell? ⟨p, 0, none⟩ = some (.map (some m)) := blk_cell kT 0
  have hown := h.own.alloc (.cells #[.string ⟨#[]⟩, .int .i64 0, .int .i64 0] 27)
  have hh := tdat_has h.tab (kc nm true)
  obtain ⟨q, hq⟩ : ∃ q, optO (getO (kc nm true) L) = q := ⟨_, rfl⟩
  rw [hq]
  generalize hs : (getO (kc nm true) L).isSome = sm at hh ⊢
  go_enter Tryd.func16, Tryd.ntmps16
  go_wp2_with (at_lookup; refine wpList_lookup_own_ok _ rfl (.tmp 12) (.tmp 14) 42 rfl 52 27 K52 Tryd.underlying42 rawE (Tryd.zeroValue27 _) (.held (.agg #[.string ⟨#[]⟩, .int .i64 0, .int .i64 0])) [] rfl m L.length (tdat L) rfl hown _ _ rfl hk ?_; intro v ps hv; obtain rfl := lookO h.tab hq hv; clear hv)
  have kb : ((w.alloc (.cells #[.string q.f0, .int .i64 q.f1, .int .i64 q.f2] 27)).alloc (.cells #[.string q.f0, .int .i64 q.f1, .int .i64 q.f2] 27)).heap[w.heap.size]? = some (.cells #[.string q.f0, .int .i64 q.f1, .int .i64 q.f2] 27 (0, 0)) := blk_alloc (blk_new w _) _
  refine bodyPost_ret (results_row_tmp rfl _ _ w.heap.size 27 _ (0, 0) _ rfl kb Tryd.underlying27 rfl (by kernel_rfl)) rfl ⟨rfl, below_alloc (below_alloc (Below.refl _ _) _) _⟩

end Go.Proofs.YtlphglmjfklndaaDoor
