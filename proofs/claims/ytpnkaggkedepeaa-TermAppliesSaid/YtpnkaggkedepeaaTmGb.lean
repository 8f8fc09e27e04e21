/- Maps of terms; put. -/
import Derived.Maps.OwnSet
import Derived.Sort.KeysCollected
import Derived.Test.YtpnkaggkedepeaaTmGa
import Derived.WalkKit
import Derived.WalkLawsBesides
import Derived.Deep.QuietTactic
import Derived.BigQuiet
import Derived.Deep.CutRange

/- Maps with int keys, read as sorted lists of pairs: what has, atKey, put, del and size of such a datum are. No program in sight. -/
namespace Go.Proofs.Ytpnkaggkedepeaa
open Go.RowKit Go.Maps

/-- An element read as itself. -/
def rawE (v : Value) : Option (DataW Value × List MemPlace) := some (.held v, [])

section
variable {α : Type}
/-- The datum of a list of pairs. -/
def mdat (enc : α → Value) (L : List (Int × α)) : DataW Value := .map (L.map fun p => (.int .i64 p.1, .held (enc p.2)))
/-- What a key has. -/
def mget : List (Int × α) → Int → Option α
  | [], _ => none
  | p :: r, k => if p.1 = k then some p.2 else mget r k
/-- Without a key. -/
def mrem (k : Int) (L : List (Int × α)) : List (Int × α) := L.filter fun p => !decide (p.1 = k)
/-- A pair put ahead of the first greater key. -/
def minsert (x : Int × α) : List (Int × α) → List (Int × α)
  | [] => [x]
  | y :: r => if x.1 < y.1 then x :: y :: r else y :: minsert x r
/-- A key's value set. -/
def mput (k : Int) (v : α) (L : List (Int × α)) : List (Int × α) := minsert (k, v) (mrem k L)
def msorted (L : List (Int × α)) : Prop := L.Pairwise fun p q => p.1 < q.1

theorem same_int (a b : Int) : (Lit.int .i64 a).sameKey (.int .i64 b) = decide (a = b) := by simp [Lit.sameKey]

theorem mdat_has (enc : α → Value) (k : Int) : ∀ L : List (Int × α), Maps.has (mdat enc L) (.int .i64 k) = (mget L k).isSome
  | [] => by simp [mdat, Maps.has, mget]
  | p :: r => by
    have ih := mdat_has enc k r
    simp only [mdat, Maps.has, List.map_cons, List.any_cons, mget, same_int] at ih ⊢
    by_cases h : p.1 = k
    · simp [h]
    · simp only [h, decide_false, Bool.false_or, if_false]; exact ih

theorem mdat_at (enc : α → Value) (k : Int) (z : Value) : ∀ L : List (Int × α), (mdat enc L).atKey (.int .i64 k) (.held z) = .held (match mget L k with | some v => enc v | none => z)
  | [] => by simp [mdat, DataW.atKey, mget]
  | p :: r => by
    have ih := mdat_at enc k z r
    simp only [mdat, DataW.atKey, List.map_cons, List.find?_cons, mget, same_int] at ih ⊢
    by_cases h : p.1 = k
    · simp [h]
    · simp only [h, decide_false, if_false]; exact ih

theorem mdat_del (enc : α → Value) (k : Int) (L : List (Int × α)) : (mdat enc L).del (.int .i64 k) = mdat enc (mrem k L) := by
  simp only [mdat, DataW.del, mrem, List.filter_map]
  congr 2
  apply List.filter_congr
  intro p _
  simp [same_int]

theorem minsert_map (enc : α → Value) (x : Int × α) : ∀ L : List (Int × α),
    DataW.insert (Lit.int .i64 x.1, DataW.held (enc x.2)) (L.map fun p => (Lit.int .i64 p.1, DataW.held (enc p.2))) = (minsert x L).map fun p => (Lit.int .i64 p.1, DataW.held (enc p.2))
  | [] => rfl
  | y :: r => by
    have ih := minsert_map enc x r
    simp only [List.map_cons, DataW.insert, minsert, Lit.before, decide_eq_true_eq]
    split
    · rfl
    · rw [ih]; rfl

theorem mdat_put (enc : α → Value) (k : Int) (v : α) (L : List (Int × α)) : (mdat enc L).put (.int .i64 k) (.held (enc v)) = mdat enc (mput k v L) := by
  have h := mdat_del enc k L
  simp only [mdat, DataW.del, DataW.map.injEq] at h
  simp only [mdat, DataW.put]
  rw [h, mput, ← minsert_map enc (k, v)]

theorem mdat_size (enc : α → Value) (L : List (Int × α)) : Maps.size (mdat enc L) = L.length := by simp [mdat, Maps.size]

theorem mget_mem {k : Int} {v : α} : ∀ {L : List (Int × α)}, mget L k = some v → (k, v) ∈ L
  | [], h => by simp [mget] at h
  | p :: r, h => by
    unfold mget at h
    split at h
    · rename_i e; cases h; subst e; exact List.mem_cons_self
    · exact List.mem_cons_of_mem _ (mget_mem h)

theorem mget_none {k : Int} : ∀ {L : List (Int × α)}, mget L k = none → ∀ p ∈ L, p.1 ≠ k
  | [], _, p, hp => by simp at hp
  | q :: r, h, p, hp => by
    unfold mget at h
    split at h
    · cases h
    · rename_i e
      rcases List.mem_cons.1 hp with rfl | hp
      · exact e
      · exact mget_none h p hp

theorem mget_of_not {k : Int} : ∀ {L : List (Int × α)}, (∀ p ∈ L, p.1 ≠ k) → mget L k = none
  | [], _ => rfl
  | q :: r, h => by
    unfold mget
    rw [if_neg (h q List.mem_cons_self)]
    exact mget_of_not fun p hp => h p (List.mem_cons_of_mem _ hp)

theorem mget_of_mem {k : Int} {v : α} : ∀ {L : List (Int × α)}, msorted L → (k, v) ∈ L → mget L k = some v
  | [], _, h => by simp at h
  | q :: r, hs, h => by
    unfold mget
    rcases List.mem_cons.1 h with e | h
    · subst e; simp
    · have := (List.pairwise_cons.1 hs).1 _ h
      rw [if_neg (by simp at this; omega)]
      exact mget_of_mem (List.pairwise_cons.1 hs).2 h

theorem mem_minsert {x y : Int × α} : ∀ {L : List (Int × α)}, y ∈ minsert x L ↔ y = x ∨ y ∈ L
  | [] => by simp [minsert]
  | q :: r => by
    have ih := mem_minsert (x := x) (y := y) (L := r)
    unfold minsert
    split
    · simp
    · simp only [List.mem_cons, ih]
      constructor
      · rintro (h | h | h) <;> simp [h]
      · rintro (h | h | h) <;> simp [h]

theorem length_minsert (x : Int × α) : ∀ L : List (Int × α), (minsert x L).length = L.length + 1
  | [] => rfl
  | q :: r => by
    unfold minsert
    split
    · rfl
    · simp [length_minsert x r]

theorem msorted_minsert {x : Int × α} : ∀ {L : List (Int × α)}, msorted L → (∀ p ∈ L, p.1 ≠ x.1) → msorted (minsert x L)
  | [], _, _ => by simp [minsert, msorted]
  | q :: r, hs, hne => by
    have hp := List.pairwise_cons.1 hs
    unfold minsert
    split
    · rename_i h
      refine List.pairwise_cons.2 ⟨fun p hpm => ?_, hs⟩
      rcases List.mem_cons.1 hpm with rfl | hpm
      · exact h
      · have := hp.1 p hpm; omega
    · rename_i h
      refine List.pairwise_cons.2 ⟨fun p hpm => ?_, msorted_minsert hp.2 fun p hpm => hne p (List.mem_cons_of_mem _ hpm)⟩
      rcases mem_minsert.1 hpm with rfl | hpm
      · have := hne q List.mem_cons_self; omega
      · exact hp.1 p hpm

theorem msorted_mrem {k : Int} {L : List (Int × α)} (h : msorted L) : msorted (mrem k L) := List.Pairwise.filter _ h

theorem mem_mrem {k : Int} {L : List (Int × α)} {p : Int × α} : p ∈ mrem k L ↔ p ∈ L ∧ p.1 ≠ k := by simp [mrem]

theorem msorted_mput {k : Int} {v : α} {L : List (Int × α)} (h : msorted L) : msorted (mput k v L) :=
  msorted_minsert (msorted_mrem h) fun _ hp => (mem_mrem.1 hp).2

theorem mem_mput {k : Int} {v : α} {L : List (Int × α)} {p : Int × α} : p ∈ mput k v L ↔ p = (k, v) ∨ (p ∈ L ∧ p.1 ≠ k) := by
  unfold mput
  rw [mem_minsert, mem_mrem]

theorem mget_mrem_same {k : Int} {L : List (Int × α)} : mget (mrem k L) k = none := mget_of_not fun _ hp => (mem_mrem.1 hp).2

theorem mget_mrem_other {k j : Int} (hne : j ≠ k) : ∀ {L : List (Int × α)}, mget (mrem k L) j = mget L j
  | [] => rfl
  | q :: r => by
    have ih := mget_mrem_other hne (L := r)
    unfold mrem at ih ⊢
    rw [List.filter_cons]
    by_cases h : q.1 = k
    · simp only [h, decide_true, Bool.not_true, Bool.false_eq_true, if_false]
      rw [ih]
      conv => rhs; unfold mget
      rw [if_neg (by omega)]
    · simp only [h, decide_false, Bool.not_false, if_true]
      unfold mget
      rw [ih]

theorem mget_minsert_other {x : Int × α} {j : Int} (hne : x.1 ≠ j) : ∀ {L : List (Int × α)}, mget (minsert x L) j = mget L j
  | [] => by simp [minsert, mget, hne]
  | q :: r => by
    have ih := mget_minsert_other hne (L := r)
    unfold minsert
    split
    · conv => lhs; unfold mget
      rw [if_neg hne]
    · unfold mget
      rw [ih]

theorem mget_mput_other {k j : Int} {v : α} {L : List (Int × α)} (hne : j ≠ k) : mget (mput k v L) j = mget L j := by
  unfold mput
  rw [mget_minsert_other (by exact fun e => hne e.symm), mget_mrem_other hne]

theorem mget_mput_same {k : Int} {v : α} {L : List (Int × α)} (hs : msorted L) : mget (mput k v L) k = some v :=
  mget_of_mem (msorted_mput hs) (mem_mput.2 (.inl rfl))

theorem mrem_of_none {k : Int} {L : List (Int × α)} (h : mget L k = none) : mrem k L = L := by
  unfold mrem
  rw [List.filter_eq_self]
  intro p hp
  simp [mget_none h p hp]

theorem length_mrem {k : Int} {v : α} : ∀ {L : List (Int × α)}, msorted L → mget L k = some v → (mrem k L).length + 1 = L.length
  | [], _, h => by simp [mget] at h
  | q :: r, hs, h => by
    have hp := List.pairwise_cons.1 hs
    unfold mget at h
    by_cases e : q.1 = k
    · have : mrem k (q :: r) = r := by
        unfold mrem
        rw [List.filter_cons]
        simp only [e, decide_true, Bool.not_true, Bool.false_eq_true, if_false]
        rw [List.filter_eq_self]
        intro p hpm
        have := hp.1 p hpm
        simp; omega
      rw [this]; simp
    · rw [if_neg e] at h
      have ih := length_mrem hp.2 h
      unfold mrem at ih ⊢
      rw [List.filter_cons]
      simp only [e, decide_false, Bool.not_false, if_true, List.length_cons]
      omega

theorem length_mput_new {k : Int} {v : α} {L : List (Int × α)} (h : mget L k = none) : (mput k v L).length = L.length + 1 := by
  unfold mput
  rw [length_minsert, mrem_of_none h]

theorem length_mput_old {k : Int} {v u : α} {L : List (Int × α)} (hs : msorted L) (h : mget L k = some u) : (mput k v L).length = L.length := by
  unfold mput
  rw [length_minsert, length_mrem hs h]

theorem minsert_last {x : Int × α} : ∀ {L : List (Int × α)}, (∀ p ∈ L, p.1 < x.1) → minsert x L = L ++ [x]
  | [], _ => rfl
  | q :: r, h => by
    unfold minsert
    rw [if_neg (by have := h q List.mem_cons_self; omega), minsert_last fun p hp => h p (List.mem_cons_of_mem _ hp)]
    rfl

theorem mput_last {k : Int} {v : α} {L : List (Int × α)} (h : ∀ p ∈ L, p.1 < k) : mput k v L = L ++ [(k, v)] := by
  unfold mput
  rw [mrem_of_none (mget_of_not fun p hp => by have := h p hp; omega)]
  exact minsert_last h

/-- A key's value set in its place. -/
def mset (k : Int) (v : α) (L : List (Int × α)) : List (Int × α) := L.map fun p => if p.1 = k then (k, v) else p

theorem mput_old {k : Int} {v : α} : ∀ {L : List (Int × α)}, msorted L → (mget L k).isSome → mput k v L = mset k v L
  | [], _, h => by simp [mget] at h
  | q :: r, hs, h => by
    have hp := List.pairwise_cons.1 hs
    unfold mget at h
    by_cases e : q.1 = k
    · have e1 : mrem k (q :: r) = r := by
        unfold mrem
        rw [List.filter_cons]
        simp only [e, decide_true, Bool.not_true, Bool.false_eq_true, if_false]
        rw [List.filter_eq_self]
        intro p hpm
        have := hp.1 p hpm
        simp; omega
      have e2 : mset k v r = r := by
        unfold mset
        conv => rhs; rw [← List.map_id r]
        apply List.map_congr_left
        intro p hpm
        have := hp.1 p hpm
        rw [if_neg (by omega)]; rfl
      unfold mput
      rw [e1]
      show minsert (k, v) r = mset k v (q :: r)
      have e3 : mset k v (q :: r) = (k, v) :: mset k v r := by simp [mset, e]
      rw [e3, e2]
      cases r with
      | nil => rfl
      | cons y s =>
        unfold minsert
        have := hp.1 y List.mem_cons_self
        rw [if_pos (by show k < y.1; omega)]
    · rw [if_neg e] at h
      have ih := mput_old (v := v) hp.2 h
      obtain ⟨u, hu⟩ := Option.isSome_iff_exists.1 h
      have hlt := hp.1 _ (mget_mem hu)
      have e1 : mrem k (q :: r) = q :: mrem k r := by
        unfold mrem
        rw [List.filter_cons]
        simp [e]
      have e3 : mset k v (q :: r) = q :: mset k v r := by simp [mset, e]
      unfold mput at ih ⊢
      rw [e1, e3]
      conv => lhs; unfold minsert
      simp only at hlt
      rw [if_neg (by show ¬ k < q.1; omega), ih]

end
end Go.Proofs.Ytpnkaggkedepeaa


/- Maps from variables to terms. -/
namespace Go.Proofs.Ytpnkaggkedepeaa
set_option linter.unusedVariables false
open Go.RowKit Go.Maps Go.Proofs.YtpnkaggkedepeaaW.PrintWords Go.Proofs.YtpnkaggkedepeaaW.PrintLast Go.Proofs.YtpnkaggkedepeaaW.PrintMore Go.Proofs.Ytpnkaggkedepeaa.PTermTells Go.Extern

theorem law2 : Keyed Try.prog 2 := int_keyed Try.underlying2
theorem zeroT (w : World) : (zeroValue 24).run Try.prog w = .ok (.agg #[.int .i64 0, .string ⟨#[]⟩, .int .i64 0, .slice none 0 0]) w := by kernel_rfl
theorem I64.wf {x : Int} (h : I64 x) : (Lit.int .i64 x).wf = true := by
  unfold I64 at h
  exact WalkArith.wf_i64 h

/-- A term as a value: where its arguments lie, and the room. -/
abbrev Tv := S24 × Option Addr × Nat
def encT (p : Tv) : Value := .agg #[.int .i64 p.1.f0, .string p.1.f1, .int .i64 p.1.f2, .slice p.2.1 p.1.f3.length p.2.2]
def zeroTv : Tv := (z24, none, 0)
abbrev Tm := List (Int × Tv)
/-- What a variable is bound to; a term of nothing where it isn't. -/
def bnd (L : Tm) (m : Int) : Tv := (mget L m).getD zeroTv

/-- The map in block b. -/
def TmapAt (w : World) (b : Nat) (L : Tm) : Prop := w.ownsMap Try.prog 2 rawE b L.length (mdat encT L)

theorem lookT {w : World} {b : Nat} {L : Tm} (mt : TypeId) (hmt : Try.prog.underlying mt = some (.map 2 24)) (h : TmapAt w b L) {m : Int} (hm : I64 m) (c : Bool) :
    (Instr.lookup mt (.map (some b)) (.int .i64 m) c).run Try.prog w =
      .ok (if c then .tuple #[encT (bnd L m), .bool (mget L m).isSome] else encT (bnd L m)) w := by
  have hh := mdat_has encT m L
  have ha := mdat_at encT m (encT zeroTv) L
  obtain ⟨es, clock, hb, F, _, hD⟩ := h
  rw [hD] at hh ha
  rcases Maps.fit_look c law2 hmt (zeroT w) hb F (keyOf_int_mk Try.underlying2 hm.wf) with ⟨hrun, _, hat⟩ | ⟨e0, y, _, _, hrun, hRv, hat, _⟩
  · rw [hrun]
    rw [Maps.has_false_of_atKey hat] at hh
    have hn : mget L m = none := by cases hg : mget L m <;> simp [hg] at hh ⊢
    have hz : bnd L m = zeroTv := by unfold bnd; rw [hn]; rfl
    rw [hz, hn]
    rfl
  · rw [hrun]
    rw [Maps.has_true_of_atKey hat] at hh
    rw [hat] at ha
    unfold rawE at hRv
    simp only [Option.some.injEq] at hRv
    subst hRv
    cases hg : mget L m with
    | none => simp [hg] at hh
    | some v =>
      simp only [hg, DataW.held.injEq] at ha
      simp [bnd, hg, ha]

theorem lookT_nil (mt : TypeId) (hmt : Try.prog.underlying mt = some (.map 2 24)) (w : World) (m : Int) (hm : I64 m) (c : Bool) :
    (Instr.lookup mt (.map none) (.int .i64 m) c).run Try.prog w = .ok (if c then .tuple #[encT zeroTv, .bool false] else encT zeroTv) w := by
  have h := Maps.look_nil c law2 hmt (zeroT w) (keyOf_int_mk Try.underlying2 hm.wf)
  exact h

theorem TmapAt.alike {w w' : World} {b : Nat} {L} (h : TmapAt w b L) (hb : w'.heap[b]? = w.heap[b]?) : TmapAt w' b L := by
  obtain ⟨es, clock, h1, h2⟩ := h
  exact ⟨es, clock, hb.trans h1, h2⟩

end Go.Proofs.Ytpnkaggkedepeaa


/- put in plain words. -/
namespace Go.Proofs.Ytpnkaggkedepeaa
set_option linter.unusedVariables false
open Go.RowKit Go.Maps Go.Proofs.YtpnkaggkedepeaaW.PrintWords Go.Proofs.YtpnkaggkedepeaaW.PrintLast Go.Proofs.YtpnkaggkedepeaaW.PrintMore Go.Proofs.Ytpnkaggkedepeaa.PTermTells Go.Extern

mutual
/-- All ints of a term fit a machine word. -/
def wfT : S24 → Prop
  | ⟨kd, nm, nt, xs⟩ => I64 nt ∧ wfL xs
def wfL : List S24 → Prop
  | [] => True
  | a :: r => wfT a ∧ wfL r
end
theorem wfL_nil : wfL [] = True := by rw [wfL]
theorem wfL_cons (a : S24) (r : List S24) : wfL (a :: r) = (wfT a ∧ wfL r) := by rw [wfL]
theorem wfT_int {t : S24} (h : wfT t) : I64 t.f2 := by
  obtain ⟨kd, nm, nt, xs⟩ := t
  rw [wfT] at h
  exact h.1
theorem wfL_mem {a : S24} : ∀ {xs : List S24}, wfL xs → a ∈ xs → wfT a
  | b :: r, h, hm => by
    rw [wfL_cons] at h
    rcases List.mem_cons.1 hm with rfl | hm
    · exact h.1
    · exact wfL_mem h.2 hm
theorem wfT_mem {t a : S24} (h : wfT t) (ha : a ∈ t.f3) : wfT a := by
  obtain ⟨kd, nm, nt, xs⟩ := t
  rw [wfT] at h
  exact wfL_mem h.2 ha

/-- A term with what its kind names, but for its arguments. -/
def bareT (t : S24) : S24 := if t.f0 = 1 ∨ t.f0 = 2 then ⟨t.f0, ⟨#[]⟩, t.f2, []⟩ else ⟨t.f0, t.f1, 0, []⟩

mutual
/-- A copy of a term: the copy, whether it is within the bounds, and the count behind it. -/
def cpT : S24 → Int → Int → S24 × Bool × Int
  | ⟨kd, nm, nt, xs⟩, deep, s =>
    if s + 1 > 2000 ∨ deep > 100 then (z24, false, s + 1)
    else if kd ≠ 4 then (bareT ⟨kd, nm, nt, xs⟩, true, s + 1)
    else
      let r := cpL xs (deep + 1) [] (s + 1)
      if r.2.1 = true then (⟨4, nm, 0, r.1⟩, true, r.2.2) else (z24, false, r.2.2)
def cpL : List S24 → Int → List S24 → Int → List S24 × Bool × Int
  | [], deep, acc, s => (acc, true, s)
  | a :: r, deep, acc, s =>
    let q := cpT a deep s
    if q.2.1 = true then cpL r deep (acc ++ [q.1]) q.2.2 else ([], false, q.2.2)
end
theorem cpL_nil (deep : Int) (acc : List S24) (s : Int) : cpL [] deep acc s = (acc, true, s) := by rw [cpL]
theorem cpL_cons (a : S24) (r : List S24) (deep : Int) (acc : List S24) (s : Int) : cpL (a :: r) deep acc s = if (cpT a deep s).2.1 = true then cpL r deep (acc ++ [(cpT a deep s).1]) (cpT a deep s).2.2 else ([], false, (cpT a deep s).2.2) := by rw [cpL]

mutual
/-- A term with bound terms put in. -/
def putT (f : Int → Option S24) : S24 → Int → Int → S24 × Bool × Int
  | ⟨kd, nm, nt, xs⟩, deep, s =>
    if kd = 1 then (match f nt with | some x => cpT x deep s | none => cpT ⟨kd, nm, nt, xs⟩ deep s)
    else if s + 1 > 2000 ∨ deep > 100 then (z24, false, s + 1)
    else if kd ≠ 4 then (bareT ⟨kd, nm, nt, xs⟩, true, s + 1)
    else
      let r := putL f xs (deep + 1) [] (s + 1)
      if r.2.1 = true then (⟨4, nm, 0, r.1⟩, true, r.2.2) else (z24, false, r.2.2)
def putL (f : Int → Option S24) : List S24 → Int → List S24 → Int → List S24 × Bool × Int
  | [], deep, acc, s => (acc, true, s)
  | a :: r, deep, acc, s =>
    let q := putT f a deep s
    if q.2.1 = true then putL f r deep (acc ++ [q.1]) q.2.2 else ([], false, q.2.2)
end
theorem putL_nil (f : Int → Option S24) (deep : Int) (acc : List S24) (s : Int) : putL f [] deep acc s = (acc, true, s) := by rw [putL]
theorem putL_cons (f : Int → Option S24) (a : S24) (r : List S24) (deep : Int) (acc : List S24) (s : Int) : putL f (a :: r) deep acc s = if (putT f a deep s).2.1 = true then putL f r deep (acc ++ [(putT f a deep s).1]) (putT f a deep s).2.2 else ([], false, (putT f a deep s).2.2) := by rw [putL]

end Go.Proofs.Ytpnkaggkedepeaa


/- The walk of put with no map: a copy. -/
namespace Go.Proofs.Ytpnkaggkedepeaa
set_option linter.unusedVariables false
open Go.RowKit Go.Maps Go.Proofs.YtpnkaggkedepeaaW.PrintWords Go.Proofs.YtpnkaggkedepeaaW.PrintLast Go.Proofs.YtpnkaggkedepeaaW.PrintMore Go.Proofs.Ytpnkaggkedepeaa.PTermTells Go.Extern

theorem res_box {W : World} {g : Nat} {z0 z1 z2 z3 : Value} (h : W.heap[g]? = some (.cells #[z0, z1, z2, z3] 24 (0, 0))) (x0 x1 x2 x3 : Value) :
    ((((W.setCell ⟨g, 0, none⟩ x0).setCell ⟨g, 1, none⟩ x1).setCell ⟨g, 2, none⟩ x2).setCell ⟨g, 3, none⟩ x3).heap[g]? = some (.cells #[x0, x1, x2, x3] 24 (0, 0)) :=
  blk_set (blk_set (blk_set (blk_set h 0 x0) 1 x1) 2 x2) 3 x3
theorem R_set4 {W : World} {base g : Nat} {ok : Nat → Prop} {v : Value} {xs : List S24} (h : Kd.R k24 24 W base ok v xs) (hg : ∀ k, ok k → k ≠ g) (x0 x1 x2 x3 : Value) :
    Kd.R k24 24 ((((W.setCell ⟨g, 0, none⟩ x0).setCell ⟨g, 1, none⟩ x1).setCell ⟨g, 2, none⟩ x2).setCell ⟨g, 3, none⟩ x3) base ok v xs :=
  Kd.R_step h fun k hk _ => (Below.heap_setCell _ _ _ k (hg k hk)).trans ((Below.heap_setCell _ _ _ k (hg k hk)).trans ((Below.heap_setCell _ _ _ k (hg k hk)).trans (Below.heap_setCell _ _ _ k (hg k hk))))

theorem Fg.far {b : Nat} {w w' : World} (h : Fg b w w') {p : Addr} (hp : w.heap.size ≤ p.block) (u : Value) : Fg b w (w'.setCell p u) :=
  ⟨h.os, h.tape, h.output, by simpa [World.setCell] using h.size, fun k hk hne => (Below.heap_setCell w' p u k (by omega)).trans (h.block k hk hne)⟩
theorem CntAt.far {w : World} {b : Nat} {s : Int} (h : CntAt w b s) {p : Addr} (hp : b ≠ p.block) (u : Value) : CntAt (w.setCell p u) b s := blk_far h hp u

set_option maxHeartbeats 1000000 in
set_option maxRecDepth 100000 in
theorem bare_any (t : S24) (w : World) (A : Option Addr) (c : Nat) :
    Calls Try.prog 73 #[.agg #[.int .i64 t.f0, .string t.f1, .int .i64 t.f2, .slice A t.f3.length c]] w fun e w' =>
      e = .returned (.agg #[.int .i64 (bareT t).f0, .string (bareT t).f1, .int .i64 (bareT t).f2, .slice none 0 0]) ∧ Below w.heap.size w w' := by
  obtain ⟨kd, nm, nt, xs⟩ := t
  unfold bareT
  simp only
  by_cases k1 : kd = 1
  · simp only [k1, true_or, if_true]
    subst k1
    go_enter Try.func73, Try.ntmps73
    go_wp2
    all_goals
      refine bodyPost_ret (v := .agg #[.int .i64 1, .string ⟨#[]⟩, .int .i64 nt, .slice none 0 0]) (by simp [results, Try.results73, go_sem]) rfl ⟨rfl, ?_⟩
      exact below_alloc (below_alloc (Below.refl w.heap.size w) _) _
  by_cases k2 : kd = 2
  · simp only [k2, or_true, if_true]
    subst k2
    go_enter Try.func73, Try.ntmps73
    go_wp2
    all_goals
      refine bodyPost_ret (v := .agg #[.int .i64 2, .string ⟨#[]⟩, .int .i64 nt, .slice none 0 0]) (by simp [results, Try.results73, go_sem]) rfl ⟨rfl, ?_⟩
      exact below_alloc (below_alloc (Below.refl w.heap.size w) _) _
  simp only [k1, k2, or_self, if_false]
  have k1' : (kd == 1) = false := by simpa using k1
  have k2' : (kd == 2) = false := by simpa using k2
  go_enter Try.func73, Try.ntmps73
  go_wp2
  all_goals
    refine bodyPost_ret (v := .agg #[.int .i64 kd, .string nm, .int .i64 0, .slice none 0 0]) (by simp [results, Try.results73, go_sem]) rfl ⟨rfl, ?_⟩
    exact below_alloc (below_alloc (Below.refl w.heap.size w) _) _

mutual
theorem cpT_b : ∀ (t : S24) (deep s : Int), s + 1 ≤ (cpT t deep s).2.2 ∧ ((cpT t deep s).2.1 = true → (cpT t deep s).2.2 ≤ 2000)
  | ⟨kd, nm, nt, xs⟩, deep, s => by
    unfold cpT
    by_cases h1 : s + 1 > 2000 ∨ deep > 100
    · simp only [if_pos h1]; exact ⟨Int.le_refl _, by simp⟩
    simp only [if_neg h1]
    by_cases h2 : kd ≠ 4
    · simp only [if_pos h2]; exact ⟨Int.le_refl _, fun _ => by omega⟩
    simp only [if_neg h2]
    have hb := cpL_b xs (deep + 1) [] (s + 1)
    by_cases h3 : (cpL xs (deep + 1) [] (s + 1)).2.1 = true
    · simp only [h3, if_true]; exact ⟨hb.1, fun _ => hb.2 (by omega) h3⟩
    · simp only [h3]; exact ⟨hb.1, by simp⟩
theorem cpL_b : ∀ (xs : List S24) (deep : Int) (acc : List S24) (s : Int), s ≤ (cpL xs deep acc s).2.2 ∧ (s ≤ 2000 → (cpL xs deep acc s).2.1 = true → (cpL xs deep acc s).2.2 ≤ 2000)
  | [], deep, acc, s => by rw [cpL_nil]; exact ⟨Int.le_refl _, fun h _ => h⟩
  | a :: r, deep, acc, s => by
    rw [cpL_cons]
    have ha := cpT_b a deep s
    by_cases h3 : (cpT a deep s).2.1 = true
    · simp only [h3, if_true]
      have hr := cpL_b r deep (acc ++ [(cpT a deep s).1]) (cpT a deep s).2.2
      exact ⟨by have := hr.1; have := ha.1; omega, fun _ hk => hr.2 (ha.2 h3) hk⟩
    · simp only [h3]; exact ⟨by have := ha.1; simp; omega, by simp⟩
end

set_option maxHeartbeats 400000 in
set_option maxRecDepth 100000 in
theorem cp_any : ∀ (n : Nat) (t : S24), SizeOf.sizeOf t = n → wfT t → ∀ (deep s : Int) (w0 w : World) (b c : Nat) (A : Option Addr), Kd.C k24 w0 A t.f3.length t.f3 → t.f3.length ≤ c → Below w0.heap.size w0 w → w0.heap.size ≤ b → CntAt w b s → 0 ≤ s → s ≤ 2000 → 0 ≤ deep → deep ≤ 101 →
    Calls Try.prog 57 #[.agg #[.int .i64 t.f0, .string t.f1, .int .i64 t.f2, .slice A t.f3.length c], .map none, .int .i64 deep, .pointer (some ⟨b, 0, none⟩)] w fun e w' => ∃ v,
      e = .returned (.tuple #[.agg #[.int .i64 (cpT t deep s).1.f0, .string (cpT t deep s).1.f1, .int .i64 (cpT t deep s).1.f2, v], .bool (cpT t deep s).2.1]) ∧ Kd.R k24 24 w' w.heap.size (fun _ => True) v (cpT t deep s).1.f3 ∧ Fg b w w' ∧ CntAt w' b (cpT t deep s).2.2 := by
  intro n
  induction n using Nat.strongRecOn with
  | _ n ih =>
  intro t hn hwf deep s w0 w b c A hC hc hB hb hs h0 h2 hd0 hd
  have hI := wfT_int hwf
  obtain ⟨kd, nm, nt, xs⟩ := t
  simp only at hC hc hI ⊢
  have hnl := fun (W : World) => lookT_nil 75 Try.underlying75 W nt hI true
  simp only [if_true, encT, zeroTv, z24, List.length_nil] at hnl
  have hs3 : CntAt (((w.alloc (.cells #[.int .i64 kd, .string nm, .int .i64 nt, .slice A xs.length c] 24)).alloc (.cells #[.int .i64 0, .string ⟨#[]⟩, .int .i64 0, .slice none 0 0] 24)).alloc (.cells #[.int .i64 0, .string ⟨#[]⟩, .int .i64 0, .slice none 0 0] 24)) b s := ((hs.alloc _).alloc _).alloc _
  have x0 : (((w.alloc (.cells #[.int .i64 kd, .string nm, .int .i64 nt, .slice A xs.length c] 24)).alloc (.cells #[.int .i64 0, .string ⟨#[]⟩, .int .i64 0, .slice none 0 0] 24)).alloc (.cells #[.int .i64 0, .string ⟨#[]⟩, .int .i64 0, .slice none 0 0] 24)).cell? ⟨b, 0, none⟩ = some (.int .i64 s) := (blk_cell hs3 0).trans rfl
  have x1 : (((w.alloc (.cells #[.int .i64 kd, .string nm, .int .i64 nt, .slice A xs.length c] 24)).alloc (.cells #[.int .i64 0, .string ⟨#[]⟩, .int .i64 0, .slice none 0 0] 24)).alloc (.cells #[.int .i64 0, .string ⟨#[]⟩, .int .i64 0, .slice none 0 0] 24)).frozen? ⟨b, 0, none⟩ = false := blk_frozen hs3 0
  have hbl := blk_lt hs
  have hs4 := hs3.set (s + 1)
  have hf4 : Fg b w ((((w.alloc (.cells #[.int .i64 kd, .string nm, .int .i64 nt, .slice A xs.length c] 24)).alloc (.cells #[.int .i64 0, .string ⟨#[]⟩, .int .i64 0, .slice none 0 0] 24)).alloc (.cells #[.int .i64 0, .string ⟨#[]⟩, .int .i64 0, .slice none 0 0] 24)).setCell ⟨b, 0, none⟩ (.int .i64 (s + 1))) := (((Fg.refl b w).alloc _).alloc _ |>.alloc _).trans (Fg.set _ 0 _)
  unfold cpT
  by_cases h1 : s + 1 > 2000 ∨ deep > 100
  · simp only [if_pos h1]
    have e1 : (decide (2000 < s + 1) || decide (100 < deep)) = true := by simp; omega
    clear ih
    go_enter Try.func57, Try.ntmps57
    go_wp2
    all_goals
      refine bodyPost_ret (v := .tuple #[.agg #[.int .i64 0, .string ⟨#[]⟩, .int .i64 0, .slice none 0 0], .bool false]) (by simp [results, Try.results57, go_sem]) rfl ⟨.slice none 0 0, rfl, Kd.R_nil _ _ _ _ _, ?_, ?_⟩
      · repeat (refine Fg.far ?_ (show w.heap.size ≤ w.heap.size + 1 by omega) _)
        exact hf4
      · repeat (refine CntAt.far ?_ (show b ≠ w.heap.size + 1 by omega) _)
        exact hs4
  simp only [if_neg h1]
  have e1 : (decide (2000 < s + 1) || decide (100 < deep)) = false := by simp; omega
  have hbare := bare_any ⟨kd, nm, nt, xs⟩ ((((w.alloc (.cells #[.int .i64 kd, .string nm, .int .i64 nt, .slice A xs.length c] 24)).alloc (.cells #[.int .i64 0, .string ⟨#[]⟩, .int .i64 0, .slice none 0 0] 24)).alloc (.cells #[.int .i64 0, .string ⟨#[]⟩, .int .i64 0, .slice none 0 0] 24)).setCell ⟨b, 0, none⟩ (.int .i64 (s + 1))) A c
  simp only at hbare
  have kT : ((((w.alloc (.cells #[.int .i64 kd, .string nm, .int .i64 nt, .slice A xs.length c] 24)).alloc (.cells #[.int .i64 0, .string ⟨#[]⟩, .int .i64 0, .slice none 0 0] 24)).alloc (.cells #[.int .i64 0, .string ⟨#[]⟩, .int .i64 0, .slice none 0 0] 24)).setCell ⟨b, 0, none⟩ (.int .i64 (s + 1))).heap[w.heap.size]? = some (.cells #[.int .i64 kd, .string nm, .int .i64 nt, .slice A xs.length c] 24 (0, 0)) := blk_far (blk_alloc (blk_alloc (blk_new w (.cells #[.int .i64 kd, .string nm, .int .i64 nt, .slice A xs.length c] 24)) (.cells #[.int .i64 0, .string ⟨#[]⟩, .int .i64 0, .slice none 0 0] 24)) (.cells #[.int .i64 0, .string ⟨#[]⟩, .int .i64 0, .slice none 0 0] 24)) (show w.heap.size ≠ b by omega) _
  have kR : ((((w.alloc (.cells #[.int .i64 kd, .string nm, .int .i64 nt, .slice A xs.length c] 24)).alloc (.cells #[.int .i64 0, .string ⟨#[]⟩, .int .i64 0, .slice none 0 0] 24)).alloc (.cells #[.int .i64 0, .string ⟨#[]⟩, .int .i64 0, .slice none 0 0] 24)).setCell ⟨b, 0, none⟩ (.int .i64 (s + 1))).heap[w.heap.size + 1]? = some (.cells #[.int .i64 0, .string ⟨#[]⟩, .int .i64 0, .slice none 0 0] 24 (0, 0)) := by
    have := blk_new (w.alloc (.cells #[.int .i64 kd, .string nm, .int .i64 nt, .slice A xs.length c] 24)) (.cells #[.int .i64 0, .string ⟨#[]⟩, .int .i64 0, .slice none 0 0] 24)
    rw [show (w.alloc (.cells #[.int .i64 kd, .string nm, .int .i64 nt, .slice A xs.length c] 24)).heap.size = w.heap.size + 1 by simp] at this
    exact blk_far (blk_alloc this (.cells #[.int .i64 0, .string ⟨#[]⟩, .int .i64 0, .slice none 0 0] 24)) (show w.heap.size + 1 ≠ b by omega) _
  have kO : ((((w.alloc (.cells #[.int .i64 kd, .string nm, .int .i64 nt, .slice A xs.length c] 24)).alloc (.cells #[.int .i64 0, .string ⟨#[]⟩, .int .i64 0, .slice none 0 0] 24)).alloc (.cells #[.int .i64 0, .string ⟨#[]⟩, .int .i64 0, .slice none 0 0] 24)).setCell ⟨b, 0, none⟩ (.int .i64 (s + 1))).heap[w.heap.size + 1 + 1]? = some (.cells #[.int .i64 0, .string ⟨#[]⟩, .int .i64 0, .slice none 0 0] 24 (0, 0)) := by
    have := blk_new ((w.alloc (.cells #[.int .i64 kd, .string nm, .int .i64 nt, .slice A xs.length c] 24)).alloc (.cells #[.int .i64 0, .string ⟨#[]⟩, .int .i64 0, .slice none 0 0] 24)) (.cells #[.int .i64 0, .string ⟨#[]⟩, .int .i64 0, .slice none 0 0] 24)
    rw [show ((w.alloc (.cells #[.int .i64 kd, .string nm, .int .i64 nt, .slice A xs.length c] 24)).alloc (.cells #[.int .i64 0, .string ⟨#[]⟩, .int .i64 0, .slice none 0 0] 24)).heap.size = w.heap.size + 1 + 1 by simp] at this
    exact blk_far this (show w.heap.size + 1 + 1 ≠ b by omega) _
  obtain ⟨bt, hbt⟩ : ∃ u, u = bareT ⟨kd, nm, nt, xs⟩ := ⟨_, rfl⟩
  rw [← hbt] at hbare ⊢
  have bt3 : bt.f3 = [] := by rw [hbt]; unfold bareT; split <;> rfl
  have HBT := Lib.hid hbt
  clear hbt
  by_cases k4 : kd = 4
  · subst k4
    go_enter Try.func57, Try.ntmps57
    go_wp2_with fail
    refine hbare.mono ?_
    rintro e w1 ⟨rfl, hb1⟩
    replace kT := blk_below kT hb1
    replace kR := blk_below kR hb1
    replace kO := blk_below kO hb1
    have hf5 := hf4.trans (Fg.of_below hb1)
    have hs5 : CntAt w1 b (s + 1) := blk_below hs4 hb1
    have t0 : w1.cell? ⟨w.heap.size, 0, none⟩ = some (.int .i64 4) := blk_cell kT 0
    have t3 : w1.cell? ⟨w.heap.size, 3, none⟩ = some (.slice A xs.length c) := blk_cell kT 3
    have l0 := blk_lt kT
    have l1 := blk_lt kR
    clear hb1 hbare hf4 hs4 hs3 x0 x1 hnl
    have bt0 : bt.f0 = 4 := by rw [HBT.out]; simp [bareT]
    have bt1 : bt.f1 = nm := by rw [HBT.out]; simp [bareT]
    have bt2 : bt.f2 = 0 := by rw [HBT.out]; simp [bareT]
    rw [bt0, bt1, bt2]
    have hmx := hC.2.1
    have hwx : ∀ a ∈ xs, wfT a := fun a ha => wfT_mem (t := ⟨4, nm, nt, xs⟩) hwf ha
    have hzx : ∀ a ∈ xs, SizeOf.sizeOf a < n := fun a ha => by rw [← hn]; exact sz_mem (t := ⟨4, nm, nt, xs⟩) ha
    have hw1 := hf5.size
    go_wp2
    go_loopw [54] (fun i wr => ∃ (k : Nat) (q : Int) (acc : List S24) (v : Value), k ≤ xs.length ∧ i = .int .i64 k ∧ cpL xs (deep + 1) [] (s + 1) = cpL (xs.drop k) (deep + 1) acc q ∧ 0 ≤ q ∧ q ≤ 2000 ∧ (acc.length : Int) ≤ q ∧ CntAt wr b q ∧ Fg b w wr ∧
        wr.heap[w.heap.size + 1]? = some (.cells #[.int .i64 0, .string ⟨#[]⟩, .int .i64 0, .slice none 0 0] 24 (0, 0)) ∧ wr.heap[w1.heap.size]? = some (.cells #[.int .i64 4, .string nm, .int .i64 0, v] 24 (0, 0)) ∧ Kd.R k24 24 wr w.heap.size (fun j => w1.heap.size < j) v acc)
      (fun i _ => xs.length - (intOf i).toNat)
    case atStart => exact ⟨0, s + 1, [], .slice none 0 0, Nat.zero_le _, rfl, rfl, by omega, by omega, by simp; omega, hs5.alloc _, hf5.alloc _, blk_alloc kR _, blk_new _ _, Kd.R_nil _ _ _ _ _⟩
    case round =>
      obtain ⟨k, q, acc, v, hk, rfl, hm, hq1, hq2, hal, hcq, hfq, hkR, hkO, hRv⟩ := hrel
      have hBq := hfq.below hB hb
      have hlO := blk_lt hkO
      have hlR := blk_lt hkR
      by_cases hlt : k < xs.length
      · obtain ⟨ad, A3, c3, rfl, y0, y1, y2, y3, l3, g3⟩ := C_rd hC k hlt rfl
        replace y0 := (hBq.cell (World.block_lt_of_cell? w0 _ y0)).trans y0
        replace y1 := (hBq.cell (World.block_lt_of_cell? w0 _ y1)).trans y1
        replace y2 := (hBq.cell (World.block_lt_of_cell? w0 _ y2)).trans y2
        replace y3 := (hBq.cell (World.block_lt_of_cell? w0 _ y3)).trans y3
        rw [List.drop_eq_getElem_cons hlt, cpL_cons] at hm
        have hza := hzx _ (List.getElem_mem hlt)
        have hwa := hwx _ (List.getElem_mem hlt)
        generalize xs[k] = a at y0 y1 y2 y3 l3 g3 hm hza hwa
        have hi := ih _ hza a rfl hwa (deep + 1) q w0 (wr.alloc (.cells #[.int .i64 a.f0, .string a.f1, .int .i64 a.f2, .slice A3 a.f3.length c3] 24)) b c3 A3 g3 l3 (below_alloc hBq _) hb (hcq.alloc _) hq1 hq2 (by omega) (by omega)
        generalize hr : cpT a (deep + 1) q = r at hi hm
        obtain ⟨x, ok, q'⟩ := r
        obtain ⟨e0, e1', e2, e3⟩ := x
        simp only at hi hm
        clear ih
        go_wp2_with fail
        refine hi.mono ?_
        rintro e w5 ⟨v5, rfl, hR5, f5, c5⟩
        obtain ⟨A5, c5', rfl, hc5, C5⟩ := Kd.R_reads hR5
        have hvr : ∀ j, v.ownBlock = some j → j < wr.heap.size := fun j hj => ((Kd.R_bound hRv).1 j hj).2.2.1
        have f6 : Fg b wr w5 := ((Fg.refl b wr).alloc _).trans f5
        replace hkR := f6.blk hkR (show w.heap.size + 1 ≠ b by omega)
        replace hkO := f6.blk hkO (show w1.heap.size ≠ b by omega)
        replace hRv := Kd.R_step hRv (w1 := w5) fun j hj hlt => f6.block j hlt (by omega)
        have hf7 := hfq.trans f6
        clear hi f5
        cases ok with
        | false =>
          simp only [Bool.false_eq_true, if_false] at hm
          have r0 : w5.cell? ⟨w.heap.size + 1, 0, none⟩ = some (.int .i64 0) := blk_cell hkR 0
          have r1 : w5.cell? ⟨w.heap.size + 1, 1, none⟩ = some (.string ⟨#[]⟩) := blk_cell hkR 1
          have r2 : w5.cell? ⟨w.heap.size + 1, 2, none⟩ = some (.int .i64 0) := blk_cell hkR 2
          have r3 : w5.cell? ⟨w.heap.size + 1, 3, none⟩ = some (.slice none 0 0) := blk_cell hkR 3
          have lR5 := blk_lt hkR
          have fr := fun i => blk_frozen hkR i
          go_wp2
          have kF := blk_alloc (res_box hkR (.int .i64 0) (.string ⟨#[]⟩) (.int .i64 0) (.slice none 0 0)) (.cells #[.int .i64 e0, .string e1', .int .i64 e2, .slice A5 e3.length c5'] 24)
          have hfF : Fg b w (((((w5.setCell ⟨w.heap.size + 1, 0, none⟩ (.int .i64 0)).setCell ⟨w.heap.size + 1, 1, none⟩ (.string ⟨#[]⟩)).setCell ⟨w.heap.size + 1, 2, none⟩ (.int .i64 0)).setCell ⟨w.heap.size + 1, 3, none⟩ (.slice none 0 0)).alloc (.cells #[.int .i64 e0, .string e1', .int .i64 e2, .slice A5 e3.length c5'] 24)) := by
            refine Fg.alloc ?_ _
            repeat (refine Fg.far ?_ (show w.heap.size ≤ w.heap.size + 1 by omega) _)
            exact hf7
          have hcF : CntAt (((((w5.setCell ⟨w.heap.size + 1, 0, none⟩ (.int .i64 0)).setCell ⟨w.heap.size + 1, 1, none⟩ (.string ⟨#[]⟩)).setCell ⟨w.heap.size + 1, 2, none⟩ (.int .i64 0)).setCell ⟨w.heap.size + 1, 3, none⟩ (.slice none 0 0)).alloc (.cells #[.int .i64 e0, .string e1', .int .i64 e2, .slice A5 e3.length c5'] 24)) b q' := by
            refine CntAt.alloc ?_ _
            repeat (refine CntAt.far ?_ (show b ≠ w.heap.size + 1 by omega) _)
            exact c5
          generalize (((((w5.setCell ⟨w.heap.size + 1, 0, none⟩ (.int .i64 0)).setCell ⟨w.heap.size + 1, 1, none⟩ (.string ⟨#[]⟩)).setCell ⟨w.heap.size + 1, 2, none⟩ (.int .i64 0)).setCell ⟨w.heap.size + 1, 3, none⟩ (.slice none 0 0)).alloc (.cells #[.int .i64 e0, .string e1', .int .i64 e2, .slice A5 e3.length c5'] 24)) = WF at kF hfF hcF ⊢
          have q0 : WF.cell? ⟨w.heap.size + 1, 0, none⟩ = some (.int .i64 0) := blk_cell kF 0
          have q1 : WF.cell? ⟨w.heap.size + 1, 1, none⟩ = some (.string ⟨#[]⟩) := blk_cell kF 1
          have q2 : WF.cell? ⟨w.heap.size + 1, 2, none⟩ = some (.int .i64 0) := blk_cell kF 2
          have q3 : WF.cell? ⟨w.heap.size + 1, 3, none⟩ = some (.slice none 0 0) := blk_cell kF 3
          refine bodyPost_ret (v := .tuple #[.agg #[.int .i64 0, .string ⟨#[]⟩, .int .i64 0, .slice none 0 0], .bool false]) (by simp [results, Try.results57, go_sem, q0, q1, q2, q3]) rfl ⟨.slice none 0 0, rfl, Kd.R_nil _ _ _ _ _, hfF, hcF⟩
        | true =>
          simp only [if_true] at hm
          have o3 : w5.cell? ⟨w1.heap.size, 3, none⟩ = some v := blk_cell hkO 3
          have lO5 := blk_lt hkO
          have fo := fun i => blk_frozen hkO i
          have hM : Kd.M k24 (w5.alloc (.cells #[.int .i64 e0, .string e1', .int .i64 e2, .slice A5 e3.length c5'] 24)) w.heap.size (fun j => wr.heap.size ≤ j) ⟨e0, e1', e2, e3⟩ [.int .i64 e0, .string e1', .int .i64 e2, .slice A5 e3.length c5'] :=
            k24_mkM (w5.alloc (.cells #[.int .i64 e0, .string e1', .int .i64 e2, .slice A5 e3.length c5'] 24)) w.heap.size _ ⟨e0, e1', e2, e3⟩ (Kd.R_alloc (Kd.R_mono (Kd.R_lower (Kd.R_bound hR5) (by simp; omega)) (fun j hj => by have := hj.2.1; simp at this; omega)) _)
          have hRw : Kd.R k24 24 (w5.alloc (.cells #[.int .i64 e0, .string e1', .int .i64 e2, .slice A5 e3.length c5'] 24)) w.heap.size (fun j => w1.heap.size < j) v acc := Kd.R_alloc hRv _
          have lacc : (acc.length + 1) * 56 ≤ 140737488355328 := by omega
          have lW : w.heap.size ≤ (w5.alloc (.cells #[.int .i64 e0, .string e1', .int .i64 e2, .slice A5 e3.length c5'] 24)).heap.size := by simp; omega
          have hf8 : Fg b w (w5.alloc (.cells #[.int .i64 e0, .string e1', .int .i64 e2, .slice A5 e3.length c5'] 24)) := hf7.alloc _
          have c8 : CntAt (w5.alloc (.cells #[.int .i64 e0, .string e1', .int .i64 e2, .slice A5 e3.length c5'] 24)) b q' := c5.alloc _
          have kR8 := blk_alloc hkR (.cells #[.int .i64 e0, .string e1', .int .i64 e2, .slice A5 e3.length c5'] 24)
          have kO8 := blk_alloc hkO (.cells #[.int .i64 e0, .string e1', .int .i64 e2, .slice A5 e3.length c5'] 24)
          have kX8 := blk_new w5 (.cells #[.int .i64 e0, .string e1', .int .i64 e2, .slice A5 e3.length c5'] 24)
          go_upto_region 16 with (fail)
          generalize (w5.alloc (.cells #[.int .i64 e0, .string e1', .int .i64 e2, .slice A5 e3.length c5'] 24)) = W at hf8 c8 kR8 kO8 kX8 hM hRw lW ⊢
          have o3 : W.cell? ⟨w1.heap.size, 3, none⟩ = some v := blk_cell kO8 3
          have fo := fun i => blk_frozen kO8 i
          have z0 : W.cell? ⟨w5.heap.size, 0, none⟩ = some (.int .i64 e0) := blk_cell kX8 0
          have z1 : W.cell? ⟨w5.heap.size, 1, none⟩ = some (.string e1') := blk_cell kX8 1
          have z2 : W.cell? ⟨w5.heap.size, 2, none⟩ = some (.int .i64 e2) := blk_cell kX8 2
          have z3 : W.cell? ⟨w5.heap.size, 3, none⟩ = some (.slice A5 e3.length c5') := blk_cell kX8 3
          have hvb := (Kd.R_bound hRw).1
          have hvo : ∀ j, v.ownBlock = some j → j ≠ w1.heap.size := fun j hj => by have := (hvb j hj).1; omega
          have hvw : ∀ j, v.ownBlock = some j → j < wr.heap.size := fun j hj => hvr j hj
          have hok : ∀ j, wr.heap.size ≤ j → w1.heap.size < j ∧ some j ≠ v.ownBlock := fun j hj => ⟨by omega, fun e => by have := hvw j e.symm; omega⟩
          have hlW8 := blk_lt kO8
          have hfr : ∀ j, W.heap.size ≤ j → w1.heap.size < j := fun j hj => by omega
          go_wp2_with (first
            | (at_builtin; refine Kd.R_append k24 (w0 := W) w.heap.size rfl (.tmp 71) (.tmp 73) 22 24 (.agg #[.int .i64 0, .string ⟨#[]⟩, .int .i64 0, .slice none 0 0]) 56 rfl Try.underlying22 info24 rfl (by decide) (by omega) v acc (⟨e0, e1', e2, e3⟩ : S24) [.int .i64 e0, .string e1', .int .i64 e2, .slice A5 e3.length c5'] (fun j => w1.heap.size < j) (fun j => wr.heap.size ≤ j) rfl rfl hM ?aK ?aF hRw (Below.refl _ _) lW lacc ?_
               case aK => exact hok
               case aF => exact hfr
               intro v8 w8 hR8 hb8 hg8 hat8
               obtain ⟨A8, c8', rfl, hc8, C8⟩ := Kd.R_reads hR8
               have kO9 := blk_grown kO8 hg8 (fun e => hvo _ e.symm rfl)
               have fo9 := fun i => blk_frozen kO9 i
               have p3 : w8.cell? ⟨w1.heap.size, 3, none⟩ = some v := blk_cell kO9 3))
          have hlen : (acc ++ [(⟨e0, e1', e2, e3⟩ : S24)]).length = acc.length + 1 := by simp
          rw [hlen] at hR8
          have hf9 : Fg b w w8 := ⟨hg8.os.trans hf8.os, hg8.tape.trans hf8.tape, hg8.output.trans hf8.output, Nat.le_trans hf8.size hg8.size, fun i hi hne => (hg8.block i (by omega) (fun e => by have := (hvb i e.symm).2.1; omega)).trans (hf8.block i hi hne)⟩
          have c9 : CntAt w8 b q' := blk_grown c8 hg8 (fun e => by have := (hvb _ e.symm).2.1; omega)
          have kR9 := blk_grown kR8 hg8 (fun e => by have := (hvb _ e.symm).1; omega)
          have hbd := cpT_b a (deep + 1) q
          rw [hr] at hbd
          have hb1 := hbd.1
          have hb2 := hbd.2 rfl
          simp only at hb1 hb2
          refine ⟨⟨k + 1, q', acc ++ [⟨e0, e1', e2, e3⟩], .slice A8 (acc.length + 1) c8', by omega, by go_num, hm, by omega, by omega, by rw [hlen]; push_cast; omega, c9.far (show b ≠ w1.heap.size by omega) _, hf9.far (show w.heap.size ≤ w1.heap.size by omega) _, blk_far kR9 (show w.heap.size + 1 ≠ w1.heap.size by omega) _, blk_set kO9 3 _, Kd.R_step hR8 (fun j hj _ => Below.heap_setCell _ _ _ j (show j ≠ w1.heap.size by omega))⟩, ?_⟩
          simp [intOf]; omega
      · obtain rfl : k = xs.length := by omega
        rw [List.drop_of_length_le (Nat.le_refl _), cpL_nil] at hm
        obtain ⟨Av, cv, rfl, hcv, Cv⟩ := Kd.R_reads hRv
        have o0 : wr.cell? ⟨w1.heap.size, 0, none⟩ = some (.int .i64 4) := blk_cell hkO 0
        have o1 : wr.cell? ⟨w1.heap.size, 1, none⟩ = some (.string nm) := blk_cell hkO 1
        have o2 : wr.cell? ⟨w1.heap.size, 2, none⟩ = some (.int .i64 0) := blk_cell hkO 2
        have o3 : wr.cell? ⟨w1.heap.size, 3, none⟩ = some (.slice Av acc.length cv) := blk_cell hkO 3
        have r0 : wr.cell? ⟨w.heap.size + 1, 0, none⟩ = some (.int .i64 0) := blk_cell hkR 0
        have r1 : wr.cell? ⟨w.heap.size + 1, 1, none⟩ = some (.string ⟨#[]⟩) := blk_cell hkR 1
        have r2 : wr.cell? ⟨w.heap.size + 1, 2, none⟩ = some (.int .i64 0) := blk_cell hkR 2
        have r3 : wr.cell? ⟨w.heap.size + 1, 3, none⟩ = some (.slice none 0 0) := blk_cell hkR 3
        have fr := fun i => blk_frozen hkR i
        clear ih
        go_wp2
        have kF := res_box hkR (.int .i64 4) (.string nm) (.int .i64 0) (.slice Av acc.length cv)
        have hfF : Fg b w ((((wr.setCell ⟨w.heap.size + 1, 0, none⟩ (.int .i64 4)).setCell ⟨w.heap.size + 1, 1, none⟩ (.string nm)).setCell ⟨w.heap.size + 1, 2, none⟩ (.int .i64 0)).setCell ⟨w.heap.size + 1, 3, none⟩ (.slice Av acc.length cv)) := by
          repeat (refine Fg.far ?_ (show w.heap.size ≤ w.heap.size + 1 by omega) _)
          exact hfq
        have hcF : CntAt ((((wr.setCell ⟨w.heap.size + 1, 0, none⟩ (.int .i64 4)).setCell ⟨w.heap.size + 1, 1, none⟩ (.string nm)).setCell ⟨w.heap.size + 1, 2, none⟩ (.int .i64 0)).setCell ⟨w.heap.size + 1, 3, none⟩ (.slice Av acc.length cv)) b q := by
          repeat (refine CntAt.far ?_ (show b ≠ w.heap.size + 1 by omega) _)
          exact hcq
        have hRF := R_set4 (g := w.heap.size + 1) hRv (fun j hj => by omega) (.int .i64 4) (.string nm) (.int .i64 0) (.slice Av acc.length cv)
        generalize ((((wr.setCell ⟨w.heap.size + 1, 0, none⟩ (.int .i64 4)).setCell ⟨w.heap.size + 1, 1, none⟩ (.string nm)).setCell ⟨w.heap.size + 1, 2, none⟩ (.int .i64 0)).setCell ⟨w.heap.size + 1, 3, none⟩ (.slice Av acc.length cv)) = WF at kF hfF hcF hRF ⊢
        have q0 : WF.cell? ⟨w.heap.size + 1, 0, none⟩ = some (.int .i64 4) := blk_cell kF 0
        have q1 : WF.cell? ⟨w.heap.size + 1, 1, none⟩ = some (.string nm) := blk_cell kF 1
        have q2 : WF.cell? ⟨w.heap.size + 1, 2, none⟩ = some (.int .i64 0) := blk_cell kF 2
        have q3 : WF.cell? ⟨w.heap.size + 1, 3, none⟩ = some (.slice Av acc.length cv) := blk_cell kF 3
        refine bodyPost_ret (v := .tuple #[.agg #[.int .i64 4, .string nm, .int .i64 0, .slice Av acc.length cv], .bool true]) (by simp [results, Try.results57, go_sem, q0, q1, q2, q3]) rfl ?_
        exact ⟨.slice Av acc.length cv, rfl, Kd.R_mono hRF (fun _ _ => trivial), hfF, hcF⟩
  · simp only [ne_eq, k4, not_false_eq_true, if_true]
    have k4' : (kd != 4) = true := by simpa using k4
    clear ih
    go_enter Try.func57, Try.ntmps57
    go_wp2_with fail
    refine hbare.mono ?_
    rintro e w1 ⟨rfl, hb1⟩
    replace kT := blk_below kT hb1
    replace kR := blk_below kR hb1
    replace kO := blk_below kO hb1
    have hf5 := hf4.trans (Fg.of_below hb1)
    have hs5 : CntAt w1 b (s + 1) := blk_below hs4 hb1
    have t0 : w1.cell? ⟨w.heap.size, 0, none⟩ = some (.int .i64 kd) := blk_cell kT 0
    have r0 : w1.cell? ⟨w.heap.size + 1, 0, none⟩ = some (.int .i64 0) := blk_cell kR 0
    have r1 : w1.cell? ⟨w.heap.size + 1, 1, none⟩ = some (.string ⟨#[]⟩) := blk_cell kR 1
    have r2 : w1.cell? ⟨w.heap.size + 1, 2, none⟩ = some (.int .i64 0) := blk_cell kR 2
    have r3 : w1.cell? ⟨w.heap.size + 1, 3, none⟩ = some (.slice none 0 0) := blk_cell kR 3
    have o0 : w1.cell? ⟨w.heap.size + 1 + 1, 0, none⟩ = some (.int .i64 0) := blk_cell kO 0
    have o1 : w1.cell? ⟨w.heap.size + 1 + 1, 1, none⟩ = some (.string ⟨#[]⟩) := blk_cell kO 1
    have o2 : w1.cell? ⟨w.heap.size + 1 + 1, 2, none⟩ = some (.int .i64 0) := blk_cell kO 2
    have o3 : w1.cell? ⟨w.heap.size + 1 + 1, 3, none⟩ = some (.slice none 0 0) := blk_cell kO 3
    have l0 := blk_lt kT
    have l1 := blk_lt kR
    have l2 := blk_lt kO
    have fr := fun i => blk_frozen kR i
    have fo := fun i => blk_frozen kO i
    clear hb1 hbare hf4 hs4 hs3 x0 x1 hnl
    go_wp2
    have kR5 : (((((w1.setCell ⟨w.heap.size + 1, 0, none⟩ (.int .i64 bt.f0)).setCell ⟨w.heap.size + 1, 1, none⟩ (.string bt.f1)).setCell ⟨w.heap.size + 1, 2, none⟩ (.int .i64 bt.f2)).setCell ⟨w.heap.size + 1, 3, none⟩ (.slice none 0 0)).alloc (.cells #[.int .i64 bt.f0, .string bt.f1, .int .i64 bt.f2, .slice none 0 0] 24)).heap[w.heap.size + 1]? = some (.cells #[.int .i64 bt.f0, .string bt.f1, .int .i64 bt.f2, .slice none 0 0] 24 (0, 0)) :=
      blk_alloc (blk_set (blk_set (blk_set (blk_set kR 0 (.int .i64 bt.f0)) 1 (.string bt.f1)) 2 (.int .i64 bt.f2)) 3 (.slice none 0 0)) _
    have hf6 : Fg b w (((((w1.setCell ⟨w.heap.size + 1, 0, none⟩ (.int .i64 bt.f0)).setCell ⟨w.heap.size + 1, 1, none⟩ (.string bt.f1)).setCell ⟨w.heap.size + 1, 2, none⟩ (.int .i64 bt.f2)).setCell ⟨w.heap.size + 1, 3, none⟩ (.slice none 0 0)).alloc (.cells #[.int .i64 bt.f0, .string bt.f1, .int .i64 bt.f2, .slice none 0 0] 24)) := by
      refine Fg.alloc ?_ _
      repeat (refine Fg.far ?_ (show w.heap.size ≤ w.heap.size + 1 by omega) _)
      exact hf5
    have hs6 : CntAt (((((w1.setCell ⟨w.heap.size + 1, 0, none⟩ (.int .i64 bt.f0)).setCell ⟨w.heap.size + 1, 1, none⟩ (.string bt.f1)).setCell ⟨w.heap.size + 1, 2, none⟩ (.int .i64 bt.f2)).setCell ⟨w.heap.size + 1, 3, none⟩ (.slice none 0 0)).alloc (.cells #[.int .i64 bt.f0, .string bt.f1, .int .i64 bt.f2, .slice none 0 0] 24)) b (s + 1) := by
      refine CntAt.alloc ?_ _
      repeat (refine CntAt.far ?_ (show b ≠ w.heap.size + 1 by omega) _)
      exact hs5
    clear r0 r1 r2 r3 o0 o1 o2 o3 fr fo t0 kR kT kO hs5 hf5
    generalize (((((w1.setCell ⟨w.heap.size + 1, 0, none⟩ (.int .i64 bt.f0)).setCell ⟨w.heap.size + 1, 1, none⟩ (.string bt.f1)).setCell ⟨w.heap.size + 1, 2, none⟩ (.int .i64 bt.f2)).setCell ⟨w.heap.size + 1, 3, none⟩ (.slice none 0 0)).alloc (.cells #[.int .i64 bt.f0, .string bt.f1, .int .i64 bt.f2, .slice none 0 0] 24)) = W5 at kR5 hf6 hs6 ⊢
    have q0 : W5.cell? ⟨w.heap.size + 1, 0, none⟩ = some (.int .i64 bt.f0) := blk_cell kR5 0
    have q1 : W5.cell? ⟨w.heap.size + 1, 1, none⟩ = some (.string bt.f1) := blk_cell kR5 1
    have q2 : W5.cell? ⟨w.heap.size + 1, 2, none⟩ = some (.int .i64 bt.f2) := blk_cell kR5 2
    have q3 : W5.cell? ⟨w.heap.size + 1, 3, none⟩ = some (.slice none 0 0) := blk_cell kR5 3
    refine bodyPost_ret (v := .tuple #[.agg #[.int .i64 bt.f0, .string bt.f1, .int .i64 bt.f2, .slice none 0 0], .bool true]) (by simp [results, Try.results57, go_sem, q0, q1, q2, q3]) rfl ⟨.slice none 0 0, rfl, by rw [bt3]; exact Kd.R_nil _ _ _ _ _, hf6, hs6⟩

end Go.Proofs.Ytpnkaggkedepeaa


/- The walk of put, with whatever it is that goes on with the arguments. -/
namespace Go.Proofs.Ytpnkaggkedepeaa
set_option linter.unusedVariables false
open Go.RowKit Go.Maps Go.Proofs.YtpnkaggkedepeaaW.PrintWords Go.Proofs.YtpnkaggkedepeaaW.PrintLast Go.Proofs.YtpnkaggkedepeaaW.PrintMore Go.Proofs.Ytpnkaggkedepeaa.PTermTells Go.Extern

/-- One round over arguments, each by F. -/
def genL (F : S24 → Int → Int → S24 × Bool × Int) : List S24 → Int → List S24 → Int → List S24 × Bool × Int
  | [], deep, acc, s => (acc, true, s)
  | a :: r, deep, acc, s =>
    let q := F a deep s
    if q.2.1 = true then genL F r deep (acc ++ [q.1]) q.2.2 else ([], false, q.2.2)
theorem genL_nil (F) (deep : Int) (acc : List S24) (s : Int) : genL F [] deep acc s = (acc, true, s) := by rw [genL]
theorem genL_cons (F) (a : S24) (r : List S24) (deep : Int) (acc : List S24) (s : Int) : genL F (a :: r) deep acc s = if (F a deep s).2.1 = true then genL F r deep (acc ++ [(F a deep s).1]) (F a deep s).2.2 else ([], false, (F a deep s).2.2) := by rw [genL]
def genT (F : S24 → Int → Int → S24 × Bool × Int) (t : S24) (deep s : Int) : S24 × Bool × Int :=
  if s + 1 > 2000 ∨ deep > 100 then (z24, false, s + 1)
  else if t.f0 ≠ 4 then (bareT t, true, s + 1)
  else if (genL F t.f3 (deep + 1) [] (s + 1)).2.1 = true then (⟨4, t.f1, 0, (genL F t.f3 (deep + 1) [] (s + 1)).1⟩, true, (genL F t.f3 (deep + 1) [] (s + 1)).2.2) else (z24, false, (genL F t.f3 (deep + 1) [] (s + 1)).2.2)

set_option maxHeartbeats 400000 in
set_option maxRecDepth 100000 in
theorem put_gen (F : S24 → Int → Int → S24 × Bool × Int) (hF : ∀ a deep s, s + 1 ≤ (F a deep s).2.2 ∧ ((F a deep s).2.1 = true → (F a deep s).2.2 ≤ 2000))
    (w0 w : World) (b : Nat) (deep s : Int) (M M' : Value)
    (okd : Int) (onm : ByteArray) (ont : Int) (oxs : List S24) (oA : Option Addr) (oc : Nat)
    (v0 : Int) (v1 : ByteArray) (v2 : Int) (v3 : List S24) (vA : Option Addr) (vc : Nat) (okb tb : Bool)
    (kd : Int) (nm : ByteArray) (nt : Int) (xs : List S24) (A : Option Addr) (c : Nat)
    (hnl : ∀ o1 o2, (Instr.lookup 75 M (.int .i64 ont) true).run Try.prog ((w.alloc o1).alloc o2) = .ok (.tuple #[.agg #[.int .i64 v0, .string v1, .int .i64 v2, .slice vA v3.length vc], .bool okb]) ((w.alloc o1).alloc o2))
    (htb : (okb && decide (okd = 1)) = tb)
    (hcase : (tb = true ∧ kd = v0 ∧ nm = v1 ∧ nt = v2 ∧ xs = v3 ∧ A = vA ∧ c = vc ∧ M' = .map none) ∨ (tb = false ∧ kd = okd ∧ nm = onm ∧ nt = ont ∧ xs = oxs ∧ A = oA ∧ c = oc ∧ M' = M))
    (hC : Kd.C k24 w0 A xs.length xs) (hc : xs.length ≤ c) (hB : Below w0.heap.size w0 w) (hb : w0.heap.size ≤ b) (hs : CntAt w b s) (h0 : 0 ≤ s) (h2 : s ≤ 2000) (hd0 : 0 ≤ deep) (hd : deep ≤ 101)
    (ih : ∀ a ∈ xs, ∀ (deep s : Int) (w' : World) (c : Nat) (A : Option Addr), Fg b w w' → Kd.C k24 w0 A a.f3.length a.f3 → a.f3.length ≤ c → Below w0.heap.size w0 w' → CntAt w' b s → 0 ≤ s → s ≤ 2000 → 0 ≤ deep → deep ≤ 101 →
      Calls Try.prog 57 #[.agg #[.int .i64 a.f0, .string a.f1, .int .i64 a.f2, .slice A a.f3.length c], M', .int .i64 deep, .pointer (some ⟨b, 0, none⟩)] w' fun e w'' => ∃ v,
        e = .returned (.tuple #[.agg #[.int .i64 (F a deep s).1.f0, .string (F a deep s).1.f1, .int .i64 (F a deep s).1.f2, v], .bool (F a deep s).2.1]) ∧ Kd.R k24 24 w'' w'.heap.size (fun _ => True) v (F a deep s).1.f3 ∧ Fg b w' w'' ∧ CntAt w'' b (F a deep s).2.2) :
    Calls Try.prog 57 #[.agg #[.int .i64 okd, .string onm, .int .i64 ont, .slice oA oxs.length oc], M, .int .i64 deep, .pointer (some ⟨b, 0, none⟩)] w fun e w' => ∃ v,
      e = .returned (.tuple #[.agg #[.int .i64 (genT F ⟨kd, nm, nt, xs⟩ deep s).1.f0, .string (genT F ⟨kd, nm, nt, xs⟩ deep s).1.f1, .int .i64 (genT F ⟨kd, nm, nt, xs⟩ deep s).1.f2, v], .bool (genT F ⟨kd, nm, nt, xs⟩ deep s).2.1]) ∧ Kd.R k24 24 w' w.heap.size (fun _ => True) v (genT F ⟨kd, nm, nt, xs⟩ deep s).1.f3 ∧ Fg b w w' ∧ CntAt w' b (genT F ⟨kd, nm, nt, xs⟩ deep s).2.2 := by
  have hbl := blk_lt hs
  have hs3 : ∀ o1 o2 o3, CntAt (((w.alloc o1).alloc o2).alloc o3) b s := fun _ _ _ => ((hs.alloc _).alloc _).alloc _
  have hf3 : ∀ o1 o2 o3, Fg b w (((w.alloc o1).alloc o2).alloc o3) := fun _ _ _ => ((Fg.refl b w).alloc _).alloc _ |>.alloc _
  have kT3 : ∀ cs o2 o3, (((w.alloc (.cells cs 24)).alloc o2).alloc o3).heap[w.heap.size]? = some (.cells cs 24 (0, 0)) := fun cs _ _ => blk_alloc (blk_alloc (blk_new w _) _) _
  have kR3 : ∀ o1 cs o3, (((w.alloc o1).alloc (.cells cs 24)).alloc o3).heap[w.heap.size + 1]? = some (.cells cs 24 (0, 0)) := by
    intro o1 cs o3
    have := blk_new (w.alloc o1) (.cells cs 24)
    rw [show (w.alloc o1).heap.size = w.heap.size + 1 by simp] at this
    exact blk_alloc this _
  unfold genT
  by_cases h1 : s + 1 > 2000 ∨ deep > 100
  · simp only [if_pos h1]
    have e1 : (decide (2000 < s + 1) || decide (100 < deep)) = true := by simp; omega
    go_enter Try.func57, Try.ntmps57
    go_upto_region 2 with (fail)
    go_cut [29] from 24 to 28 (fun sv wx => sv = .bool tb ∧ wx = (((w.alloc (.cells #[.int .i64 okd, .string onm, .int .i64 ont, .slice oA oxs.length oc] 24)).alloc (.cells #[.int .i64 0, .string ⟨#[]⟩, .int .i64 0, .slice none 0 0] 24)).alloc (.cells #[.int .i64 v0, .string v1, .int .i64 v2, .slice vA v3.length vc] 24)))
    case first =>
      cases okb with
      | true =>
        go_wp2_with fail
        go_meet
        case rel => exact ⟨by rw [← htb]; rfl, rfl⟩
      | false =>
        go_wp2_with fail
        go_meet
        case rel => exact ⟨by rw [← htb]; rfl, rfl⟩
    case rest =>
    obtain ⟨rfl, rfl⟩ := hcut
    go_upto_if 29 with (fail)
    go_cut [1] from 30 to 30 (fun m1 wx => m1 = M' ∧ wx.heap[w.heap.size]? = some (.cells #[.int .i64 kd, .string nm, .int .i64 nt, .slice A xs.length c] 24 (0, 0)) ∧ wx.heap[w.heap.size + 1]? = some (.cells #[.int .i64 0, .string ⟨#[]⟩, .int .i64 0, .slice none 0 0] 24 (0, 0)) ∧ CntAt wx b s ∧ Fg b w wx)
    case first =>
      rcases hcase with ⟨rfl, rfl, rfl, rfl, rfl, rfl, rfl, rfl⟩ | ⟨rfl, rfl, rfl, rfl, rfl, rfl, rfl, rfl⟩
      · go_wp2_with fail
        go_meet
        case rel => exact ⟨rfl, kT3 _ _ _, kR3 _ _ _, hs3 _ _ _, hf3 _ _ _⟩
      · go_wp2_with fail
        go_meet
        case rel => exact ⟨rfl, kT3 _ _ _, kR3 _ _ _, hs3 _ _ _, hf3 _ _ _⟩
    case rest =>
    obtain ⟨rfl, kT, kR, hs3, hf3⟩ := hcut
    clear kT3 kR3 hnl hcase htb
    have x0 : wc.cell? ⟨b, 0, none⟩ = some (.int .i64 s) := blk_cell hs3 0
    have x1 : wc.frozen? ⟨b, 0, none⟩ = false := blk_frozen hs3 0
    have hs4 := hs3.set (s + 1)
    have hf4 : Fg b w (wc.setCell ⟨b, 0, none⟩ (.int .i64 (s + 1))) := hf3.trans (Fg.set _ 0 _)
    have l0' := blk_lt kT
    have l1' := blk_lt kR
    have t0' : wc.cell? ⟨w.heap.size, 0, none⟩ = some (.int .i64 kd) := blk_cell kT 0
    have t1' : wc.cell? ⟨w.heap.size, 1, none⟩ = some (.string nm) := blk_cell kT 1
    have t2' : wc.cell? ⟨w.heap.size, 2, none⟩ = some (.int .i64 nt) := blk_cell kT 2
    have t3' : wc.cell? ⟨w.heap.size, 3, none⟩ = some (.slice A xs.length c) := blk_cell kT 3
    replace kT : (wc.setCell ⟨b, 0, none⟩ (.int .i64 (s + 1))).heap[w.heap.size]? = some (.cells #[.int .i64 kd, .string nm, .int .i64 nt, .slice A xs.length c] 24 (0, 0)) := blk_far kT (show w.heap.size ≠ b by omega) (.int .i64 (s + 1))
    replace kR : (wc.setCell ⟨b, 0, none⟩ (.int .i64 (s + 1))).heap[w.heap.size + 1]? = some (.cells #[.int .i64 0, .string ⟨#[]⟩, .int .i64 0, .slice none 0 0] 24 (0, 0)) := blk_far kR (show w.heap.size + 1 ≠ b by omega) (.int .i64 (s + 1))
    have r0 : (wc.setCell ⟨b, 0, none⟩ (.int .i64 (s + 1))).cell? ⟨w.heap.size + 1, 0, none⟩ = some (.int .i64 0) := blk_cell kR 0
    have r1 : (wc.setCell ⟨b, 0, none⟩ (.int .i64 (s + 1))).cell? ⟨w.heap.size + 1, 1, none⟩ = some (.string ⟨#[]⟩) := blk_cell kR 1
    have r2 : (wc.setCell ⟨b, 0, none⟩ (.int .i64 (s + 1))).cell? ⟨w.heap.size + 1, 2, none⟩ = some (.int .i64 0) := blk_cell kR 2
    have r3 : (wc.setCell ⟨b, 0, none⟩ (.int .i64 (s + 1))).cell? ⟨w.heap.size + 1, 3, none⟩ = some (.slice none 0 0) := blk_cell kR 3
    have fr := fun i => blk_frozen kR i
    have lR := blk_lt kR
    go_wp2
    all_goals
      have kF := res_box kR (.int .i64 0) (.string ⟨#[]⟩) (.int .i64 0) (.slice none 0 0)
      have hfF : Fg b w (((((wc.setCell ⟨b, 0, none⟩ (.int .i64 (s + 1))).setCell ⟨w.heap.size + 1, 0, none⟩ (.int .i64 0)).setCell ⟨w.heap.size + 1, 1, none⟩ (.string ⟨#[]⟩)).setCell ⟨w.heap.size + 1, 2, none⟩ (.int .i64 0)).setCell ⟨w.heap.size + 1, 3, none⟩ (.slice none 0 0)) := by
        repeat (refine Fg.far ?_ (show w.heap.size ≤ w.heap.size + 1 by omega) _)
        exact hf4
      have hcF : CntAt (((((wc.setCell ⟨b, 0, none⟩ (.int .i64 (s + 1))).setCell ⟨w.heap.size + 1, 0, none⟩ (.int .i64 0)).setCell ⟨w.heap.size + 1, 1, none⟩ (.string ⟨#[]⟩)).setCell ⟨w.heap.size + 1, 2, none⟩ (.int .i64 0)).setCell ⟨w.heap.size + 1, 3, none⟩ (.slice none 0 0)) b (s + 1) := by
        repeat (refine CntAt.far ?_ (show b ≠ w.heap.size + 1 by omega) _)
        exact hs4
      generalize ((((wc.setCell ⟨b, 0, none⟩ (.int .i64 (s + 1))).setCell ⟨w.heap.size + 1, 0, none⟩ (.int .i64 0)).setCell ⟨w.heap.size + 1, 1, none⟩ (.string ⟨#[]⟩)).setCell ⟨w.heap.size + 1, 2, none⟩ (.int .i64 0)).setCell ⟨w.heap.size + 1, 3, none⟩ (.slice none 0 0) = WF at kF hfF hcF ⊢
      have q0 : WF.cell? ⟨w.heap.size + 1, 0, none⟩ = some (.int .i64 0) := blk_cell kF 0
      have q1 : WF.cell? ⟨w.heap.size + 1, 1, none⟩ = some (.string ⟨#[]⟩) := blk_cell kF 1
      have q2 : WF.cell? ⟨w.heap.size + 1, 2, none⟩ = some (.int .i64 0) := blk_cell kF 2
      have q3 : WF.cell? ⟨w.heap.size + 1, 3, none⟩ = some (.slice none 0 0) := blk_cell kF 3
      refine bodyPost_ret (v := .tuple #[.agg #[.int .i64 0, .string ⟨#[]⟩, .int .i64 0, .slice none 0 0], .bool false]) (by simp [results, Try.results57, go_sem, q0, q1, q2, q3]) rfl ⟨.slice none 0 0, rfl, Kd.R_nil _ _ _ _ _, hfF, hcF⟩
  simp only [if_neg h1]
  have e1 : (decide (2000 < s + 1) || decide (100 < deep)) = false := by simp; omega
  obtain ⟨bt, hbt⟩ : ∃ u, u = bareT ⟨kd, nm, nt, xs⟩ := ⟨_, rfl⟩
  rw [← hbt]
  have bt3 : bt.f3 = [] := by rw [hbt]; unfold bareT; split <;> rfl
  have HBT := Lib.hid hbt
  clear hbt
  by_cases k4 : kd = 4
  · subst k4
    simp only [ne_eq, not_true_eq_false, if_false]
    obtain ⟨fin, hfin⟩ : ∃ u : S24 × Bool × Int, u = (if (genL F xs (deep + 1) [] (s + 1)).2.1 = true then (⟨4, nm, 0, (genL F xs (deep + 1) [] (s + 1)).1⟩, true, (genL F xs (deep + 1) [] (s + 1)).2.2) else (z24, false, (genL F xs (deep + 1) [] (s + 1)).2.2)) := ⟨_, rfl⟩
    rw [← hfin]
    have HFIN := Lib.hid hfin
    clear hfin
    go_enter Try.func57, Try.ntmps57
    go_upto_region 2 with (fail)
    go_cut [29] from 24 to 28 (fun sv wx => sv = .bool tb ∧ wx = (((w.alloc (.cells #[.int .i64 okd, .string onm, .int .i64 ont, .slice oA oxs.length oc] 24)).alloc (.cells #[.int .i64 0, .string ⟨#[]⟩, .int .i64 0, .slice none 0 0] 24)).alloc (.cells #[.int .i64 v0, .string v1, .int .i64 v2, .slice vA v3.length vc] 24)))
    case first =>
      cases okb with
      | true =>
        go_wp2_with fail
        go_meet
        case rel => exact ⟨by rw [← htb]; rfl, rfl⟩
      | false =>
        go_wp2_with fail
        go_meet
        case rel => exact ⟨by rw [← htb]; rfl, rfl⟩
    case rest =>
    obtain ⟨rfl, rfl⟩ := hcut
    go_upto_if 29 with (fail)
    go_cut [1] from 30 to 30 (fun m1 wx => m1 = M' ∧ wx.heap[w.heap.size]? = some (.cells #[.int .i64 4, .string nm, .int .i64 nt, .slice A xs.length c] 24 (0, 0)) ∧ wx.heap[w.heap.size + 1]? = some (.cells #[.int .i64 0, .string ⟨#[]⟩, .int .i64 0, .slice none 0 0] 24 (0, 0)) ∧ CntAt wx b s ∧ Fg b w wx)
    case first =>
      rcases hcase with ⟨rfl, rfl, rfl, rfl, rfl, rfl, rfl, rfl⟩ | ⟨rfl, rfl, rfl, rfl, rfl, rfl, rfl, rfl⟩
      · go_wp2_with fail
        go_meet
        case rel => exact ⟨rfl, kT3 _ _ _, kR3 _ _ _, hs3 _ _ _, hf3 _ _ _⟩
      · go_wp2_with fail
        go_meet
        case rel => exact ⟨rfl, kT3 _ _ _, kR3 _ _ _, hs3 _ _ _, hf3 _ _ _⟩
    case rest =>
    obtain ⟨rfl, kT, kR, hs3, hf3⟩ := hcut
    clear kT3 kR3 hnl hcase htb
    have x0 : wc.cell? ⟨b, 0, none⟩ = some (.int .i64 s) := blk_cell hs3 0
    have x1 : wc.frozen? ⟨b, 0, none⟩ = false := blk_frozen hs3 0
    have hs4 := hs3.set (s + 1)
    have hf4 : Fg b w (wc.setCell ⟨b, 0, none⟩ (.int .i64 (s + 1))) := hf3.trans (Fg.set _ 0 _)
    have l0' := blk_lt kT
    have l1' := blk_lt kR
    have t0' : wc.cell? ⟨w.heap.size, 0, none⟩ = some (.int .i64 4) := blk_cell kT 0
    have t1' : wc.cell? ⟨w.heap.size, 1, none⟩ = some (.string nm) := blk_cell kT 1
    have t2' : wc.cell? ⟨w.heap.size, 2, none⟩ = some (.int .i64 nt) := blk_cell kT 2
    have t3' : wc.cell? ⟨w.heap.size, 3, none⟩ = some (.slice A xs.length c) := blk_cell kT 3
    replace kT : (wc.setCell ⟨b, 0, none⟩ (.int .i64 (s + 1))).heap[w.heap.size]? = some (.cells #[.int .i64 4, .string nm, .int .i64 nt, .slice A xs.length c] 24 (0, 0)) := blk_far kT (show w.heap.size ≠ b by omega) (.int .i64 (s + 1))
    replace kR : (wc.setCell ⟨b, 0, none⟩ (.int .i64 (s + 1))).heap[w.heap.size + 1]? = some (.cells #[.int .i64 0, .string ⟨#[]⟩, .int .i64 0, .slice none 0 0] 24 (0, 0)) := blk_far kR (show w.heap.size + 1 ≠ b by omega) (.int .i64 (s + 1))
    have hbare := bare_any ⟨4, nm, nt, xs⟩ (wc.setCell ⟨b, 0, none⟩ (.int .i64 (s + 1))) A c
    simp only at hbare
    rw [← HBT.out] at hbare
    go_wp2_with fail
    refine hbare.mono ?_
    rintro e w1 ⟨rfl, hb1⟩
    replace kT := blk_below kT hb1
    replace kR := blk_below kR hb1
    have hf5 := hf4.trans (Fg.of_below hb1)
    have hs5 : CntAt w1 b (s + 1) := blk_below hs4 hb1
    have t0 : w1.cell? ⟨w.heap.size, 0, none⟩ = some (.int .i64 4) := blk_cell kT 0
    have t3 : w1.cell? ⟨w.heap.size, 3, none⟩ = some (.slice A xs.length c) := blk_cell kT 3
    have l0 := blk_lt kT
    have l1 := blk_lt kR
    clear hb1 hbare hf4 hs4 hs3 x0 x1
    have bt0 : bt.f0 = 4 := by rw [HBT.out]; simp [bareT]
    have bt1 : bt.f1 = nm := by rw [HBT.out]; simp [bareT]
    have bt2 : bt.f2 = 0 := by rw [HBT.out]; simp [bareT]
    rw [bt0, bt1, bt2]
    have hmx := hC.2.1
    have hw1 := hf5.size
    go_wp2
    go_loopw [54] (fun i wr => ∃ (k : Nat) (q : Int) (acc : List S24) (v : Value), k ≤ xs.length ∧ i = .int .i64 k ∧ genL F xs (deep + 1) [] (s + 1) = genL F (xs.drop k) (deep + 1) acc q ∧ 0 ≤ q ∧ q ≤ 2000 ∧ (acc.length : Int) ≤ q ∧ CntAt wr b q ∧ Fg b w wr ∧
        wr.heap[w.heap.size + 1]? = some (.cells #[.int .i64 0, .string ⟨#[]⟩, .int .i64 0, .slice none 0 0] 24 (0, 0)) ∧ wr.heap[w1.heap.size]? = some (.cells #[.int .i64 4, .string nm, .int .i64 0, v] 24 (0, 0)) ∧ Kd.R k24 24 wr w.heap.size (fun j => w1.heap.size < j) v acc)
      (fun i _ => xs.length - (intOf i).toNat)
    case atStart => exact ⟨0, s + 1, [], .slice none 0 0, Nat.zero_le _, rfl, rfl, by omega, by omega, by simp; omega, hs5.alloc _, hf5.alloc _, blk_alloc kR _, blk_new _ _, Kd.R_nil _ _ _ _ _⟩
    case round =>
      obtain ⟨k, q, acc, v, hk, rfl, hm, hq1, hq2, hal, hcq, hfq, hkR, hkO, hRv⟩ := hrel
      have hBq := hfq.below hB hb
      have hlO := blk_lt hkO
      have hlR := blk_lt hkR
      by_cases hlt : k < xs.length
      · obtain ⟨ad, A3, c3, rfl, y0, y1, y2, y3, l3, g3⟩ := C_rd hC k hlt rfl
        replace y0 := (hBq.cell (World.block_lt_of_cell? w0 _ y0)).trans y0
        replace y1 := (hBq.cell (World.block_lt_of_cell? w0 _ y1)).trans y1
        replace y2 := (hBq.cell (World.block_lt_of_cell? w0 _ y2)).trans y2
        replace y3 := (hBq.cell (World.block_lt_of_cell? w0 _ y3)).trans y3
        rw [List.drop_eq_getElem_cons hlt, genL_cons] at hm
        have hwa := ih _ (List.getElem_mem hlt)
        generalize xs[k] = a at y0 y1 y2 y3 l3 g3 hm hwa
        have hi := hwa (deep + 1) q (wr.alloc (.cells #[.int .i64 a.f0, .string a.f1, .int .i64 a.f2, .slice A3 a.f3.length c3] 24)) c3 A3 (hfq.alloc _) g3 l3 (below_alloc hBq _) (hcq.alloc _) hq1 hq2 (by omega) (by omega)
        clear hwa
        generalize hr : F a (deep + 1) q = r at hi hm
        obtain ⟨x, ok, q'⟩ := r
        obtain ⟨e0, e1', e2, e3⟩ := x
        simp only at hi hm
        clear ih
        go_wp2_with fail
        refine hi.mono ?_
        rintro e w5 ⟨v5, rfl, hR5, f5, c5⟩
        obtain ⟨A5, c5', rfl, hc5, C5⟩ := Kd.R_reads hR5
        have hvr : ∀ j, v.ownBlock = some j → j < wr.heap.size := fun j hj => ((Kd.R_bound hRv).1 j hj).2.2.1
        have f6 : Fg b wr w5 := ((Fg.refl b wr).alloc _).trans f5
        replace hkR := f6.blk hkR (show w.heap.size + 1 ≠ b by omega)
        replace hkO := f6.blk hkO (show w1.heap.size ≠ b by omega)
        replace hRv := Kd.R_step hRv (w1 := w5) fun j hj hlt => f6.block j hlt (by omega)
        have hf7 := hfq.trans f6
        clear hi f5
        cases ok with
        | false =>
          simp only [Bool.false_eq_true, if_false] at hm
          have r0 : w5.cell? ⟨w.heap.size + 1, 0, none⟩ = some (.int .i64 0) := blk_cell hkR 0
          have r1 : w5.cell? ⟨w.heap.size + 1, 1, none⟩ = some (.string ⟨#[]⟩) := blk_cell hkR 1
          have r2 : w5.cell? ⟨w.heap.size + 1, 2, none⟩ = some (.int .i64 0) := blk_cell hkR 2
          have r3 : w5.cell? ⟨w.heap.size + 1, 3, none⟩ = some (.slice none 0 0) := blk_cell hkR 3
          have lR5 := blk_lt hkR
          have fr := fun i => blk_frozen hkR i
          go_wp2
          have kF := blk_alloc (res_box hkR (.int .i64 0) (.string ⟨#[]⟩) (.int .i64 0) (.slice none 0 0)) (.cells #[.int .i64 e0, .string e1', .int .i64 e2, .slice A5 e3.length c5'] 24)
          have hfF : Fg b w (((((w5.setCell ⟨w.heap.size + 1, 0, none⟩ (.int .i64 0)).setCell ⟨w.heap.size + 1, 1, none⟩ (.string ⟨#[]⟩)).setCell ⟨w.heap.size + 1, 2, none⟩ (.int .i64 0)).setCell ⟨w.heap.size + 1, 3, none⟩ (.slice none 0 0)).alloc (.cells #[.int .i64 e0, .string e1', .int .i64 e2, .slice A5 e3.length c5'] 24)) := by
            refine Fg.alloc ?_ _
            repeat (refine Fg.far ?_ (show w.heap.size ≤ w.heap.size + 1 by omega) _)
            exact hf7
          have hcF : CntAt (((((w5.setCell ⟨w.heap.size + 1, 0, none⟩ (.int .i64 0)).setCell ⟨w.heap.size + 1, 1, none⟩ (.string ⟨#[]⟩)).setCell ⟨w.heap.size + 1, 2, none⟩ (.int .i64 0)).setCell ⟨w.heap.size + 1, 3, none⟩ (.slice none 0 0)).alloc (.cells #[.int .i64 e0, .string e1', .int .i64 e2, .slice A5 e3.length c5'] 24)) b q' := by
            refine CntAt.alloc ?_ _
            repeat (refine CntAt.far ?_ (show b ≠ w.heap.size + 1 by omega) _)
            exact c5
          generalize (((((w5.setCell ⟨w.heap.size + 1, 0, none⟩ (.int .i64 0)).setCell ⟨w.heap.size + 1, 1, none⟩ (.string ⟨#[]⟩)).setCell ⟨w.heap.size + 1, 2, none⟩ (.int .i64 0)).setCell ⟨w.heap.size + 1, 3, none⟩ (.slice none 0 0)).alloc (.cells #[.int .i64 e0, .string e1', .int .i64 e2, .slice A5 e3.length c5'] 24)) = WF at kF hfF hcF ⊢
          have q0 : WF.cell? ⟨w.heap.size + 1, 0, none⟩ = some (.int .i64 0) := blk_cell kF 0
          have q1 : WF.cell? ⟨w.heap.size + 1, 1, none⟩ = some (.string ⟨#[]⟩) := blk_cell kF 1
          have q2 : WF.cell? ⟨w.heap.size + 1, 2, none⟩ = some (.int .i64 0) := blk_cell kF 2
          have q3 : WF.cell? ⟨w.heap.size + 1, 3, none⟩ = some (.slice none 0 0) := blk_cell kF 3
          refine bodyPost_ret (v := .tuple #[.agg #[.int .i64 0, .string ⟨#[]⟩, .int .i64 0, .slice none 0 0], .bool false]) (by simp [results, Try.results57, go_sem, q0, q1, q2, q3]) rfl ?_
          have hfn : fin = (z24, false, q') := by rw [HFIN.out, hm]; rfl
          rw [hfn]
          exact ⟨.slice none 0 0, rfl, Kd.R_nil _ _ _ _ _, hfF, hcF⟩
        | true =>
          simp only [if_true] at hm
          have o3 : w5.cell? ⟨w1.heap.size, 3, none⟩ = some v := blk_cell hkO 3
          have lO5 := blk_lt hkO
          have fo := fun i => blk_frozen hkO i
          have hM : Kd.M k24 (w5.alloc (.cells #[.int .i64 e0, .string e1', .int .i64 e2, .slice A5 e3.length c5'] 24)) w.heap.size (fun j => wr.heap.size ≤ j) ⟨e0, e1', e2, e3⟩ [.int .i64 e0, .string e1', .int .i64 e2, .slice A5 e3.length c5'] :=
            k24_mkM (w5.alloc (.cells #[.int .i64 e0, .string e1', .int .i64 e2, .slice A5 e3.length c5'] 24)) w.heap.size _ ⟨e0, e1', e2, e3⟩ (Kd.R_alloc (Kd.R_mono (Kd.R_lower (Kd.R_bound hR5) (by simp; omega)) (fun j hj => by have := hj.2.1; simp at this; omega)) _)
          have hRw : Kd.R k24 24 (w5.alloc (.cells #[.int .i64 e0, .string e1', .int .i64 e2, .slice A5 e3.length c5'] 24)) w.heap.size (fun j => w1.heap.size < j) v acc := Kd.R_alloc hRv _
          have lacc : (acc.length + 1) * 56 ≤ 140737488355328 := by omega
          have lW : w.heap.size ≤ (w5.alloc (.cells #[.int .i64 e0, .string e1', .int .i64 e2, .slice A5 e3.length c5'] 24)).heap.size := by simp; omega
          have hf8 : Fg b w (w5.alloc (.cells #[.int .i64 e0, .string e1', .int .i64 e2, .slice A5 e3.length c5'] 24)) := hf7.alloc _
          have c8 : CntAt (w5.alloc (.cells #[.int .i64 e0, .string e1', .int .i64 e2, .slice A5 e3.length c5'] 24)) b q' := c5.alloc _
          have kR8 := blk_alloc hkR (.cells #[.int .i64 e0, .string e1', .int .i64 e2, .slice A5 e3.length c5'] 24)
          have kO8 := blk_alloc hkO (.cells #[.int .i64 e0, .string e1', .int .i64 e2, .slice A5 e3.length c5'] 24)
          have kX8 := blk_new w5 (.cells #[.int .i64 e0, .string e1', .int .i64 e2, .slice A5 e3.length c5'] 24)
          go_upto_region 16 with (fail)
          generalize (w5.alloc (.cells #[.int .i64 e0, .string e1', .int .i64 e2, .slice A5 e3.length c5'] 24)) = W at hf8 c8 kR8 kO8 kX8 hM hRw lW ⊢
          have o3 : W.cell? ⟨w1.heap.size, 3, none⟩ = some v := blk_cell kO8 3
          have fo := fun i => blk_frozen kO8 i
          have z0 : W.cell? ⟨w5.heap.size, 0, none⟩ = some (.int .i64 e0) := blk_cell kX8 0
          have z1 : W.cell? ⟨w5.heap.size, 1, none⟩ = some (.string e1') := blk_cell kX8 1
          have z2 : W.cell? ⟨w5.heap.size, 2, none⟩ = some (.int .i64 e2) := blk_cell kX8 2
          have z3 : W.cell? ⟨w5.heap.size, 3, none⟩ = some (.slice A5 e3.length c5') := blk_cell kX8 3
          have hvb := (Kd.R_bound hRw).1
          have hvo : ∀ j, v.ownBlock = some j → j ≠ w1.heap.size := fun j hj => by have := (hvb j hj).1; omega
          have hvw : ∀ j, v.ownBlock = some j → j < wr.heap.size := fun j hj => hvr j hj
          have hok : ∀ j, wr.heap.size ≤ j → w1.heap.size < j ∧ some j ≠ v.ownBlock := fun j hj => ⟨by omega, fun e => by have := hvw j e.symm; omega⟩
          have hlW8 := blk_lt kO8
          have hfr : ∀ j, W.heap.size ≤ j → w1.heap.size < j := fun j hj => by omega
          go_wp2_with (first
            | (at_builtin; refine Kd.R_append k24 (w0 := W) w.heap.size rfl (.tmp 71) (.tmp 73) 22 24 (.agg #[.int .i64 0, .string ⟨#[]⟩, .int .i64 0, .slice none 0 0]) 56 rfl Try.underlying22 info24 rfl (by decide) (by omega) v acc (⟨e0, e1', e2, e3⟩ : S24) [.int .i64 e0, .string e1', .int .i64 e2, .slice A5 e3.length c5'] (fun j => w1.heap.size < j) (fun j => wr.heap.size ≤ j) rfl rfl hM ?aK ?aF hRw (Below.refl _ _) lW lacc ?_
               case aK => exact hok
               case aF => exact hfr
               intro v8 w8 hR8 hb8 hg8 hat8
               obtain ⟨A8, c8', rfl, hc8, C8⟩ := Kd.R_reads hR8
               have kO9 := blk_grown kO8 hg8 (fun e => hvo _ e.symm rfl)
               have fo9 := fun i => blk_frozen kO9 i
               have p3 : w8.cell? ⟨w1.heap.size, 3, none⟩ = some v := blk_cell kO9 3))
          have hlen : (acc ++ [(⟨e0, e1', e2, e3⟩ : S24)]).length = acc.length + 1 := by simp
          rw [hlen] at hR8
          have hf9 : Fg b w w8 := ⟨hg8.os.trans hf8.os, hg8.tape.trans hf8.tape, hg8.output.trans hf8.output, Nat.le_trans hf8.size hg8.size, fun i hi hne => (hg8.block i (by omega) (fun e => by have := (hvb i e.symm).2.1; omega)).trans (hf8.block i hi hne)⟩
          have c9 : CntAt w8 b q' := blk_grown c8 hg8 (fun e => by have := (hvb _ e.symm).2.1; omega)
          have kR9 := blk_grown kR8 hg8 (fun e => by have := (hvb _ e.symm).1; omega)
          have hbd := hF a (deep + 1) q
          rw [hr] at hbd
          have hb1 := hbd.1
          have hb2 := hbd.2 rfl
          simp only at hb1 hb2
          refine ⟨⟨k + 1, q', acc ++ [⟨e0, e1', e2, e3⟩], .slice A8 (acc.length + 1) c8', by omega, by go_num, hm, by omega, by omega, by rw [hlen]; push_cast; omega, c9.far (show b ≠ w1.heap.size by omega) _, hf9.far (show w.heap.size ≤ w1.heap.size by omega) _, blk_far kR9 (show w.heap.size + 1 ≠ w1.heap.size by omega) _, blk_set kO9 3 _, Kd.R_step hR8 (fun j hj _ => Below.heap_setCell _ _ _ j (show j ≠ w1.heap.size by omega))⟩, ?_⟩
          simp [intOf]; omega
      · obtain rfl : k = xs.length := by omega
        rw [List.drop_of_length_le (Nat.le_refl _), genL_nil] at hm
        obtain ⟨Av, cv, rfl, hcv, Cv⟩ := Kd.R_reads hRv
        have o0 : wr.cell? ⟨w1.heap.size, 0, none⟩ = some (.int .i64 4) := blk_cell hkO 0
        have o1 : wr.cell? ⟨w1.heap.size, 1, none⟩ = some (.string nm) := blk_cell hkO 1
        have o2 : wr.cell? ⟨w1.heap.size, 2, none⟩ = some (.int .i64 0) := blk_cell hkO 2
        have o3 : wr.cell? ⟨w1.heap.size, 3, none⟩ = some (.slice Av acc.length cv) := blk_cell hkO 3
        have r0 : wr.cell? ⟨w.heap.size + 1, 0, none⟩ = some (.int .i64 0) := blk_cell hkR 0
        have r1 : wr.cell? ⟨w.heap.size + 1, 1, none⟩ = some (.string ⟨#[]⟩) := blk_cell hkR 1
        have r2 : wr.cell? ⟨w.heap.size + 1, 2, none⟩ = some (.int .i64 0) := blk_cell hkR 2
        have r3 : wr.cell? ⟨w.heap.size + 1, 3, none⟩ = some (.slice none 0 0) := blk_cell hkR 3
        have fr := fun i => blk_frozen hkR i
        clear ih
        go_wp2
        have kF := res_box hkR (.int .i64 4) (.string nm) (.int .i64 0) (.slice Av acc.length cv)
        have hfF : Fg b w ((((wr.setCell ⟨w.heap.size + 1, 0, none⟩ (.int .i64 4)).setCell ⟨w.heap.size + 1, 1, none⟩ (.string nm)).setCell ⟨w.heap.size + 1, 2, none⟩ (.int .i64 0)).setCell ⟨w.heap.size + 1, 3, none⟩ (.slice Av acc.length cv)) := by
          repeat (refine Fg.far ?_ (show w.heap.size ≤ w.heap.size + 1 by omega) _)
          exact hfq
        have hcF : CntAt ((((wr.setCell ⟨w.heap.size + 1, 0, none⟩ (.int .i64 4)).setCell ⟨w.heap.size + 1, 1, none⟩ (.string nm)).setCell ⟨w.heap.size + 1, 2, none⟩ (.int .i64 0)).setCell ⟨w.heap.size + 1, 3, none⟩ (.slice Av acc.length cv)) b q := by
          repeat (refine CntAt.far ?_ (show b ≠ w.heap.size + 1 by omega) _)
          exact hcq
        have hRF := R_set4 (g := w.heap.size + 1) hRv (fun j hj => by omega) (.int .i64 4) (.string nm) (.int .i64 0) (.slice Av acc.length cv)
        generalize ((((wr.setCell ⟨w.heap.size + 1, 0, none⟩ (.int .i64 4)).setCell ⟨w.heap.size + 1, 1, none⟩ (.string nm)).setCell ⟨w.heap.size + 1, 2, none⟩ (.int .i64 0)).setCell ⟨w.heap.size + 1, 3, none⟩ (.slice Av acc.length cv)) = WF at kF hfF hcF hRF ⊢
        have q0 : WF.cell? ⟨w.heap.size + 1, 0, none⟩ = some (.int .i64 4) := blk_cell kF 0
        have q1 : WF.cell? ⟨w.heap.size + 1, 1, none⟩ = some (.string nm) := blk_cell kF 1
        have q2 : WF.cell? ⟨w.heap.size + 1, 2, none⟩ = some (.int .i64 0) := blk_cell kF 2
        have q3 : WF.cell? ⟨w.heap.size + 1, 3, none⟩ = some (.slice Av acc.length cv) := blk_cell kF 3
        refine bodyPost_ret (v := .tuple #[.agg #[.int .i64 4, .string nm, .int .i64 0, .slice Av acc.length cv], .bool true]) (by simp [results, Try.results57, go_sem, q0, q1, q2, q3]) rfl ?_
        have hfn : fin = (⟨4, nm, 0, acc⟩, true, q) := by rw [HFIN.out, hm]; rfl
        rw [hfn]
        exact ⟨.slice Av acc.length cv, rfl, Kd.R_mono hRF (fun _ _ => trivial), hfF, hcF⟩
  · simp only [ne_eq, k4, not_false_eq_true, if_true]
    have k4' : (kd != 4) = true := by simpa using k4
    clear ih
    go_enter Try.func57, Try.ntmps57
    go_upto_region 2 with (fail)
    go_cut [29] from 24 to 28 (fun sv wx => sv = .bool tb ∧ wx = (((w.alloc (.cells #[.int .i64 okd, .string onm, .int .i64 ont, .slice oA oxs.length oc] 24)).alloc (.cells #[.int .i64 0, .string ⟨#[]⟩, .int .i64 0, .slice none 0 0] 24)).alloc (.cells #[.int .i64 v0, .string v1, .int .i64 v2, .slice vA v3.length vc] 24)))
    case first =>
      cases okb with
      | true =>
        go_wp2_with fail
        go_meet
        case rel => exact ⟨by rw [← htb]; rfl, rfl⟩
      | false =>
        go_wp2_with fail
        go_meet
        case rel => exact ⟨by rw [← htb]; rfl, rfl⟩
    case rest =>
    obtain ⟨rfl, rfl⟩ := hcut
    go_upto_if 29 with (fail)
    go_cut [1] from 30 to 30 (fun m1 wx => m1 = M' ∧ wx.heap[w.heap.size]? = some (.cells #[.int .i64 kd, .string nm, .int .i64 nt, .slice A xs.length c] 24 (0, 0)) ∧ wx.heap[w.heap.size + 1]? = some (.cells #[.int .i64 0, .string ⟨#[]⟩, .int .i64 0, .slice none 0 0] 24 (0, 0)) ∧ CntAt wx b s ∧ Fg b w wx)
    case first =>
      rcases hcase with ⟨rfl, rfl, rfl, rfl, rfl, rfl, rfl, rfl⟩ | ⟨rfl, rfl, rfl, rfl, rfl, rfl, rfl, rfl⟩
      · go_wp2_with fail
        go_meet
        case rel => exact ⟨rfl, kT3 _ _ _, kR3 _ _ _, hs3 _ _ _, hf3 _ _ _⟩
      · go_wp2_with fail
        go_meet
        case rel => exact ⟨rfl, kT3 _ _ _, kR3 _ _ _, hs3 _ _ _, hf3 _ _ _⟩
    case rest =>
    obtain ⟨rfl, kT, kR, hs3, hf3⟩ := hcut
    clear kT3 kR3 hnl hcase htb
    have x0 : wc.cell? ⟨b, 0, none⟩ = some (.int .i64 s) := blk_cell hs3 0
    have x1 : wc.frozen? ⟨b, 0, none⟩ = false := blk_frozen hs3 0
    have hs4 := hs3.set (s + 1)
    have hf4 : Fg b w (wc.setCell ⟨b, 0, none⟩ (.int .i64 (s + 1))) := hf3.trans (Fg.set _ 0 _)
    have l0' := blk_lt kT
    have l1' := blk_lt kR
    have t0' : wc.cell? ⟨w.heap.size, 0, none⟩ = some (.int .i64 kd) := blk_cell kT 0
    have t1' : wc.cell? ⟨w.heap.size, 1, none⟩ = some (.string nm) := blk_cell kT 1
    have t2' : wc.cell? ⟨w.heap.size, 2, none⟩ = some (.int .i64 nt) := blk_cell kT 2
    have t3' : wc.cell? ⟨w.heap.size, 3, none⟩ = some (.slice A xs.length c) := blk_cell kT 3
    replace kT : (wc.setCell ⟨b, 0, none⟩ (.int .i64 (s + 1))).heap[w.heap.size]? = some (.cells #[.int .i64 kd, .string nm, .int .i64 nt, .slice A xs.length c] 24 (0, 0)) := blk_far kT (show w.heap.size ≠ b by omega) (.int .i64 (s + 1))
    replace kR : (wc.setCell ⟨b, 0, none⟩ (.int .i64 (s + 1))).heap[w.heap.size + 1]? = some (.cells #[.int .i64 0, .string ⟨#[]⟩, .int .i64 0, .slice none 0 0] 24 (0, 0)) := blk_far kR (show w.heap.size + 1 ≠ b by omega) (.int .i64 (s + 1))
    have hbare := bare_any ⟨kd, nm, nt, xs⟩ (wc.setCell ⟨b, 0, none⟩ (.int .i64 (s + 1))) A c
    simp only at hbare
    rw [← HBT.out] at hbare
    go_wp2_with fail
    refine hbare.mono ?_
    rintro e w1 ⟨rfl, hb1⟩
    replace kT := blk_below kT hb1
    replace kR := blk_below kR hb1
    have hf5 := hf4.trans (Fg.of_below hb1)
    have hs5 : CntAt w1 b (s + 1) := blk_below hs4 hb1
    have t0 : w1.cell? ⟨w.heap.size, 0, none⟩ = some (.int .i64 kd) := blk_cell kT 0
    have r0 : w1.cell? ⟨w.heap.size + 1, 0, none⟩ = some (.int .i64 0) := blk_cell kR 0
    have r1 : w1.cell? ⟨w.heap.size + 1, 1, none⟩ = some (.string ⟨#[]⟩) := blk_cell kR 1
    have r2 : w1.cell? ⟨w.heap.size + 1, 2, none⟩ = some (.int .i64 0) := blk_cell kR 2
    have r3 : w1.cell? ⟨w.heap.size + 1, 3, none⟩ = some (.slice none 0 0) := blk_cell kR 3
    have l0 := blk_lt kT
    have l1 := blk_lt kR
    have fr := fun i => blk_frozen kR i
    clear hb1 hbare hf4 hs4 hs3 x0 x1
    go_wp2
    have kR5 : (((((w1.setCell ⟨w.heap.size + 1, 0, none⟩ (.int .i64 bt.f0)).setCell ⟨w.heap.size + 1, 1, none⟩ (.string bt.f1)).setCell ⟨w.heap.size + 1, 2, none⟩ (.int .i64 bt.f2)).setCell ⟨w.heap.size + 1, 3, none⟩ (.slice none 0 0)).alloc (.cells #[.int .i64 bt.f0, .string bt.f1, .int .i64 bt.f2, .slice none 0 0] 24)).heap[w.heap.size + 1]? = some (.cells #[.int .i64 bt.f0, .string bt.f1, .int .i64 bt.f2, .slice none 0 0] 24 (0, 0)) :=
      blk_alloc (blk_set (blk_set (blk_set (blk_set kR 0 (.int .i64 bt.f0)) 1 (.string bt.f1)) 2 (.int .i64 bt.f2)) 3 (.slice none 0 0)) _
    have hf6 : Fg b w (((((w1.setCell ⟨w.heap.size + 1, 0, none⟩ (.int .i64 bt.f0)).setCell ⟨w.heap.size + 1, 1, none⟩ (.string bt.f1)).setCell ⟨w.heap.size + 1, 2, none⟩ (.int .i64 bt.f2)).setCell ⟨w.heap.size + 1, 3, none⟩ (.slice none 0 0)).alloc (.cells #[.int .i64 bt.f0, .string bt.f1, .int .i64 bt.f2, .slice none 0 0] 24)) := by
      refine Fg.alloc ?_ _
      repeat (refine Fg.far ?_ (show w.heap.size ≤ w.heap.size + 1 by omega) _)
      exact hf5
    have hs6 : CntAt (((((w1.setCell ⟨w.heap.size + 1, 0, none⟩ (.int .i64 bt.f0)).setCell ⟨w.heap.size + 1, 1, none⟩ (.string bt.f1)).setCell ⟨w.heap.size + 1, 2, none⟩ (.int .i64 bt.f2)).setCell ⟨w.heap.size + 1, 3, none⟩ (.slice none 0 0)).alloc (.cells #[.int .i64 bt.f0, .string bt.f1, .int .i64 bt.f2, .slice none 0 0] 24)) b (s + 1) := by
      refine CntAt.alloc ?_ _
      repeat (refine CntAt.far ?_ (show b ≠ w.heap.size + 1 by omega) _)
      exact hs5
    generalize (((((w1.setCell ⟨w.heap.size + 1, 0, none⟩ (.int .i64 bt.f0)).setCell ⟨w.heap.size + 1, 1, none⟩ (.string bt.f1)).setCell ⟨w.heap.size + 1, 2, none⟩ (.int .i64 bt.f2)).setCell ⟨w.heap.size + 1, 3, none⟩ (.slice none 0 0)).alloc (.cells #[.int .i64 bt.f0, .string bt.f1, .int .i64 bt.f2, .slice none 0 0] 24)) = W5 at kR5 hf6 hs6 ⊢
    have q0 : W5.cell? ⟨w.heap.size + 1, 0, none⟩ = some (.int .i64 bt.f0) := blk_cell kR5 0
    have q1 : W5.cell? ⟨w.heap.size + 1, 1, none⟩ = some (.string bt.f1) := blk_cell kR5 1
    have q2 : W5.cell? ⟨w.heap.size + 1, 2, none⟩ = some (.int .i64 bt.f2) := blk_cell kR5 2
    have q3 : W5.cell? ⟨w.heap.size + 1, 3, none⟩ = some (.slice none 0 0) := blk_cell kR5 3
    refine bodyPost_ret (v := .tuple #[.agg #[.int .i64 bt.f0, .string bt.f1, .int .i64 bt.f2, .slice none 0 0], .bool true]) (by simp [results, Try.results57, go_sem, q0, q1, q2, q3]) rfl ⟨.slice none 0 0, rfl, by rw [bt3]; exact Kd.R_nil _ _ _ _ _, hf6, hs6⟩

end Go.Proofs.Ytpnkaggkedepeaa


/- The walk of put with a map. -/
namespace Go.Proofs.Ytpnkaggkedepeaa
set_option linter.unusedVariables false
open Go.RowKit Go.Maps Go.Proofs.YtpnkaggkedepeaaW.PrintWords Go.Proofs.YtpnkaggkedepeaaW.PrintLast Go.Proofs.YtpnkaggkedepeaaW.PrintMore Go.Proofs.Ytpnkaggkedepeaa.PTermTells Go.Extern

theorem genL_cp : ∀ (xs : List S24) (deep : Int) (acc : List S24) (s : Int), genL cpT xs deep acc s = cpL xs deep acc s
  | [], deep, acc, s => by rw [genL_nil, cpL_nil]
  | a :: r, deep, acc, s => by rw [genL_cons, cpL_cons, genL_cp r]
theorem genT_cp (t : S24) (deep s : Int) : genT cpT t deep s = cpT t deep s := by
  obtain ⟨kd, nm, nt, xs⟩ := t
  unfold genT cpT
  simp only [genL_cp]
theorem genL_put (f : Int → Option S24) : ∀ (xs : List S24) (deep : Int) (acc : List S24) (s : Int), genL (putT f) xs deep acc s = putL f xs deep acc s
  | [], deep, acc, s => by rw [genL_nil, putL_nil]
  | a :: r, deep, acc, s => by rw [genL_cons, putL_cons, genL_put f r]
theorem genT_put (f : Int → Option S24) (t : S24) (deep s : Int) (h : t.f0 ≠ 1) : genT (putT f) t deep s = putT f t deep s := by
  obtain ⟨kd, nm, nt, xs⟩ := t
  simp only at h
  unfold genT putT
  simp only [genL_put, if_neg h]
theorem genT_var (F) (t : S24) (deep s : Int) (h : t.f0 = 1) : genT F t deep s = cpT t deep s := by
  obtain ⟨kd, nm, nt, xs⟩ := t
  simp only at h
  subst h
  unfold genT cpT
  simp
theorem putT_some (f : Int → Option S24) {t x : S24} (deep s : Int) (h : t.f0 = 1) (hx : f t.f2 = some x) : putT f t deep s = cpT x deep s := by
  obtain ⟨kd, nm, nt, xs⟩ := t
  simp only at h hx
  unfold putT
  simp only [if_pos h, hx]
theorem putT_none (f : Int → Option S24) {t : S24} (deep s : Int) (h : t.f0 = 1) (hx : f t.f2 = none) : putT f t deep s = cpT t deep s := by
  obtain ⟨kd, nm, nt, xs⟩ := t
  simp only at h hx
  unfold putT
  simp only [if_pos h, hx]

mutual
theorem putT_b (f : Int → Option S24) : ∀ (t : S24) (deep s : Int), s + 1 ≤ (putT f t deep s).2.2 ∧ ((putT f t deep s).2.1 = true → (putT f t deep s).2.2 ≤ 2000)
  | ⟨kd, nm, nt, xs⟩, deep, s => by
    by_cases h0 : kd = 1
    · cases hx : f nt with
      | some x => rw [putT_some f (t := ⟨kd, nm, nt, xs⟩) deep s h0 hx]; exact cpT_b x deep s
      | none => rw [putT_none f (t := ⟨kd, nm, nt, xs⟩) deep s h0 hx]; exact cpT_b _ deep s
    unfold putT
    simp only [if_neg h0]
    by_cases h1 : s + 1 > 2000 ∨ deep > 100
    · simp only [if_pos h1]; exact ⟨Int.le_refl _, by simp⟩
    simp only [if_neg h1]
    by_cases h2 : kd ≠ 4
    · simp only [if_pos h2]; exact ⟨Int.le_refl _, fun _ => by omega⟩
    simp only [if_neg h2]
    have hb := putL_b f xs (deep + 1) [] (s + 1)
    by_cases h3 : (putL f xs (deep + 1) [] (s + 1)).2.1 = true
    · simp only [h3, if_true]; exact ⟨hb.1, fun _ => hb.2 (by omega) h3⟩
    · simp only [h3]; exact ⟨hb.1, by simp⟩
theorem putL_b (f : Int → Option S24) : ∀ (xs : List S24) (deep : Int) (acc : List S24) (s : Int), s ≤ (putL f xs deep acc s).2.2 ∧ (s ≤ 2000 → (putL f xs deep acc s).2.1 = true → (putL f xs deep acc s).2.2 ≤ 2000)
  | [], deep, acc, s => by rw [putL_nil]; exact ⟨Int.le_refl _, fun h _ => h⟩
  | a :: r, deep, acc, s => by
    rw [putL_cons]
    have ha := putT_b f a deep s
    by_cases h3 : (putT f a deep s).2.1 = true
    · simp only [h3, if_true]
      have hr := putL_b f r deep (acc ++ [(putT f a deep s).1]) (putT f a deep s).2.2
      exact ⟨by have := hr.1; have := ha.1; omega, fun _ hk => hr.2 (ha.2 h3) hk⟩
    · simp only [h3]; exact ⟨by have := ha.1; simp; omega, by simp⟩
end

theorem TmapAt.lt {w : World} {b : Nat} {L} (h : TmapAt w b L) : b < w.heap.size := by
  obtain ⟨es, clock, h1, h2⟩ := h
  exact blk_lt h1
theorem TmapAt.alloc {w : World} {b : Nat} {L} (h : TmapAt w b L) (o : Obj) : TmapAt (w.alloc o) b L := by
  obtain ⟨es, clock, h1, h2⟩ := h
  exact ⟨es, clock, blk_alloc h1 o, h2⟩
theorem TmapAt.fg {w w' : World} {b m : Nat} {L} (h : TmapAt w m L) (hf : Fg b w w') (hm : m ≠ b) : TmapAt w' m L := h.alike (hf.block m h.lt hm)

/-- All terms of a map lie in w0. -/
def TmIn (w0 : World) (L : Tm) : Prop := ∀ k tv, mget L k = some tv → Kd.C k24 w0 tv.2.1 tv.1.f3.length tv.1.f3 ∧ tv.1.f3.length ≤ tv.2.2 ∧ wfT tv.1
def fnT (L : Tm) (k : Int) : Option S24 := (mget L k).map (·.1)

set_option maxHeartbeats 400000 in
theorem putM_any (L : Tm) (m b : Nat) (w0 : World) (hm : m ≠ b) (hL : TmIn w0 L) : ∀ (n : Nat) (t : S24), SizeOf.sizeOf t = n → wfT t → ∀ (deep s : Int) (w : World) (c : Nat) (A : Option Addr), TmapAt w m L → Kd.C k24 w0 A t.f3.length t.f3 → t.f3.length ≤ c → Below w0.heap.size w0 w → w0.heap.size ≤ b → CntAt w b s → 0 ≤ s → s ≤ 2000 → 0 ≤ deep → deep ≤ 101 →
    Calls Try.prog 57 #[.agg #[.int .i64 t.f0, .string t.f1, .int .i64 t.f2, .slice A t.f3.length c], .map (some m), .int .i64 deep, .pointer (some ⟨b, 0, none⟩)] w fun e w' => ∃ v,
      e = .returned (.tuple #[.agg #[.int .i64 (putT (fnT L) t deep s).1.f0, .string (putT (fnT L) t deep s).1.f1, .int .i64 (putT (fnT L) t deep s).1.f2, v], .bool (putT (fnT L) t deep s).2.1]) ∧ Kd.R k24 24 w' w.heap.size (fun _ => True) v (putT (fnT L) t deep s).1.f3 ∧ Fg b w w' ∧ CntAt w' b (putT (fnT L) t deep s).2.2 := by
  intro n
  induction n using Nat.strongRecOn with
  | _ n ih =>
  intro t hn hwf deep s w c A hM hC hc hB hb hs h0 h2 hd0 hd
  have hI := wfT_int hwf
  have hmem := fun a (ha : a ∈ t.f3) => wfT_mem hwf ha
  have hsz := fun a (ha : a ∈ t.f3) => sz_mem (t := t) ha
  obtain ⟨kd, nm, nt, xs⟩ := t
  simp only at hC hc hI hmem hsz ⊢
  have hnl : ∀ o1 o2, (Instr.lookup 75 (.map (some m)) (.int .i64 nt) true).run Try.prog ((w.alloc o1).alloc o2) = .ok (.tuple #[.agg #[.int .i64 (bnd L nt).1.f0, .string (bnd L nt).1.f1, .int .i64 (bnd L nt).1.f2, .slice (bnd L nt).2.1 (bnd L nt).1.f3.length (bnd L nt).2.2], .bool (mget L nt).isSome]) ((w.alloc o1).alloc o2) := by
    intro o1 o2
    have := lookT 75 Try.underlying75 ((hM.alloc o1).alloc o2) hI true
    simpa only [if_true, encT] using this
  by_cases k1 : kd = 1
  · cases hg : mget L nt with
    | some tv =>
      have hl := hL nt tv hg
      obtain ⟨⟨a0, a1, a2, a3⟩, ⟨aA, ac⟩⟩ := tv
      simp only at hl
      have hbn : bnd L nt = ⟨⟨a0, a1, a2, a3⟩, ⟨aA, ac⟩⟩ := by unfold bnd; rw [hg]; rfl
      rw [hbn, hg] at hnl
      rw [putT_some (fnT L) (t := ⟨kd, nm, nt, xs⟩) (x := ⟨a0, a1, a2, a3⟩) deep s k1 (by unfold fnT; rw [hg]; rfl)]
      have hg2 := put_gen cpT cpT_b w0 w b deep s (.map (some m)) (.map none) kd nm nt xs A c a0 a1 a2 a3 aA ac true true a0 a1 a2 a3 aA ac hnl (by simp [k1]) (.inl ⟨rfl, rfl, rfl, rfl, rfl, rfl, rfl, rfl⟩) hl.1 hl.2.1 hB hb hs h0 h2 hd0 hd
        (fun a ha deep s w' c A hf hC hc hB hs h0 h2 hd0 hd => cp_any _ a rfl (wfT_mem hl.2.2 ha) deep s w0 w' b c A hC hc hB hb hs h0 h2 hd0 hd)
      rw [genT_cp] at hg2
      exact hg2
    | none =>
      have hbn : bnd L nt = zeroTv := by unfold bnd; rw [hg]; rfl
      rw [hbn, hg] at hnl
      rw [putT_none (fnT L) (t := ⟨kd, nm, nt, xs⟩) deep s k1 (by unfold fnT; rw [hg]; rfl)]
      have hg2 := put_gen (putT (fnT L)) (putT_b (fnT L)) w0 w b deep s (.map (some m)) (.map (some m)) kd nm nt xs A c _ _ _ _ _ _ false false kd nm nt xs A c hnl (by simp) (.inr ⟨rfl, rfl, rfl, rfl, rfl, rfl, rfl, rfl⟩) hC hc hB hb hs h0 h2 hd0 hd
        (fun a ha deep s w' c A hf hC hc hB hs h0 h2 hd0 hd => ih _ (by rw [← hn]; exact hsz a ha) a rfl (hmem a ha) deep s w' c A (hM.fg hf hm) hC hc hB hb hs h0 h2 hd0 hd)
      rw [genT_var _ _ _ _ k1] at hg2
      exact hg2
  · have hg2 := put_gen (putT (fnT L)) (putT_b (fnT L)) w0 w b deep s (.map (some m)) (.map (some m)) kd nm nt xs A c _ _ _ _ _ _ _ false kd nm nt xs A c hnl (by simp [k1]) (.inr ⟨rfl, rfl, rfl, rfl, rfl, rfl, rfl, rfl⟩) hC hc hB hb hs h0 h2 hd0 hd
        (fun a ha deep s w' c A hf hC hc hB hs h0 h2 hd0 hd => ih _ (by rw [← hn]; exact hsz a ha) a rfl (hmem a ha) deep s w' c A (hM.fg hf hm) hC hc hB hb hs h0 h2 hd0 hd)
    rw [genT_put _ _ _ _ k1] at hg2
    exact hg2

end Go.Proofs.Ytpnkaggkedepeaa
