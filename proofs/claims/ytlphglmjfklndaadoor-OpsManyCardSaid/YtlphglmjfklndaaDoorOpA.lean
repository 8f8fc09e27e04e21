/- A table of operators as a map in memory: keys that are structs, and what lookup, store and delete do. -/
import Derived.Test.YtlphglmjfklndaaDoorPOpsApartr3
import Derived.Maps.OwnSet
import Derived.DeepKeys4
import Derived.Lib.Hide
namespace Go.Proofs.YtlphglmjfklndaaDoor
set_option linter.unusedVariables false
open Go.RowKit Go.Maps Go.ChangeMaps Go.WideShapes Go.Proofs.YtlphglmjfklndaaDoorW.PrintWords Go.Proofs.YtlphglmjfklndaaDoorW.PrintLast Go.Proofs.YtlphglmjfklndaaDoorW.PrintMore Go.Proofs.YtlphglmjfklndaaDoor.POpsApart Go.Extern

theorem laidT : laidOutB Tryd.prog = true := by kernel_rfl
theorem row52 : 52 < Tryd.prog.types.size := of_decide_eq_true (by kernel_rfl)
theorem wide52 : (match Tryd.prog.underlying 52 with | some (.array _ _) | some (.struct _) => true | _ => false) = true := by kernel_rfl
theorem law52 : WideMaps.KeyLaw Tryd.prog 52 := deep_law_laid laidT (m := 2) (by omega) row52 (by kernel_rfl) wide52
theorem K52 : Keyed Tryd.prog 52 := Keyed.of_law law52

/-- A key's bytes. -/
def kc (nm : ByteArray) (af : Bool) : List UInt8 := keyBytes [.string nm.data.toList, .bool af]

theorem cells52 : Tryd.prog.cellsOf 52 = 2 := by kernel_rfl
theorem cells9 : Tryd.prog.cellsOf 9 = 1 := by kernel_rfl
theorem cells4 : Tryd.prog.cellsOf 4 = 1 := by kernel_rfl
theorem keyT52 : Tryd.prog.keyType 52 = true := by kernel_rfl

theorem keyLits52 {nm : ByteArray} (af : Bool) (h : nm.size ≤ maxLen) (d : Nat) : Tryd.prog.keyLits (d + 2) 52 [.string nm, .bool af] = some [.string nm.data.toList, .bool af] := by
  have h9 : Tryd.prog.keyLits (d + 1) 9 [.string nm] = some [.string nm.data.toList] := by
    rw [Program.keyLits.eq_def]
    simp [Tryd.underlying9, h]
  have h4 : Tryd.prog.keyLits (d + 1) 4 [.bool af] = some [.bool af] := by
    rw [Program.keyLits.eq_def]
    simp [Tryd.underlying4]
  rw [Program.keyLits.eq_def]
  simp [Tryd.underlying52, cells52, cells9, cells4, h9, h4, List.mapM_cons]

theorem key_of {nm : ByteArray} (af : Bool) (h : nm.size ≤ maxLen) : keyOf Tryd.prog 52 (.agg #[.string nm, .bool af]) = some (.string (kc nm af)) := by
  have hf : Value.formed Tryd.prog 52 (.agg #[.string nm, .bool af]) = true := by
    unfold Value.formed
    rw [Tryd.underlying52]
    simp [cells52]
  unfold keyOf
  rw [Tryd.underlying52]
  simp only [keyT52, hf, Bool.and_self, if_true]
  obtain ⟨d, hd⟩ : ∃ d, Tryd.prog.types.size + 1 = d + 2 := ⟨Tryd.prog.types.size - 1, by have := row52; omega⟩
  rw [hd, show (Value.agg #[.string nm, .bool af]).cells.toList = [.string nm, .bool af] from rfl, keyLits52 af h d]
  rfl

theorem kc_inj {a b : ByteArray} {x y : Bool} (ha : a.size ≤ maxLen) (hb : b.size ≤ maxLen) (h : kc a x = kc b y) : a = b ∧ x = y := by
  have := K52.inj (key_of x ha) (by rw [key_of y hb, h])
  simpa using this

/-! ### Operators and their table's datum -/
/-- Does an operator of this type stand behind its first argument? -/
def aftT (ty : Int) : Bool := !(ty == 4 || ty == 5)
/-- An operator's key. -/
def keyO (o : S27) : List UInt8 := kc o.f0 (aftT o.f1)
def encO (o : S27) : Value := .agg #[.string o.f0, .int .i64 o.f1, .int .i64 o.f2]
/-- An element read as itself. -/
def rawE (v : Value) : Option (DataW Value × List MemPlace) := some (.held v, [])
def entO (o : S27) : Lit × DataW Value := (.string (keyO o), .held (encO o))
/-- The datum of a table of these operators. -/
def tdat (L : List S27) : DataW Value := .map ((L.map entO).foldr DataW.insert [])
/-- No two have one key; names are strings. -/
structure Tab (L : List S27) : Prop where
  nod : L.Pairwise fun o p => keyO o ≠ keyO p
  nms : ∀ o ∈ L, o.f0.size ≤ 1000000

theorem notKey_str (k : List UInt8) (o : S27) : notKey (.string k) (entO o) = !decide (keyO o = k) := by
  unfold notKey entO
  simp only [Lit.sameKey]
  by_cases e : keyO o = k <;> simp [e]

theorem keys_ent {L : List S27} (h : Tab L) : Keys (KeysOf Tryd.prog 52) (L.map entO) := fun p hp => by
  obtain ⟨o, ho, rfl⟩ := List.mem_map.1 hp
  exact ⟨_, key_of (aftT o.f1) (by have := h.nms o ho; unfold maxLen; omega)⟩

theorem apart_ent {L : List S27} (h : Tab L) : (L.map entO).Pairwise fun p q => p.1 ≠ q.1 := by
  rw [List.pairwise_map]
  exact h.nod.imp fun hne e => hne (by simpa [entO] using e)

theorem filter_ent (k : List UInt8) (L : List S27) : (L.map entO).filter (notKey (.string k)) = (L.filter fun o => !decide (keyO o = k)).map entO := by
  rw [List.filter_map]
  congr 1
  refine List.filter_congr fun o _ => ?_
  simp [notKey_str]

/-- Without a key. -/
def remO (k : List UInt8) (L : List S27) : List S27 := L.filter fun o => !decide (keyO o = k)
/-- What a key has. -/
def getO (k : List UInt8) (L : List S27) : Option S27 := L.find? fun o => decide (keyO o = k)

theorem tdat_put {L : List S27} (h : Tab L) (o : S27) (hs : o.f0.size ≤ 1000000) : (tdat L).put (.string (keyO o)) (.held (encO o)) = tdat (o :: remO (keyO o) L) := by
  unfold tdat
  rw [DataW.put_eq]
  congr 1
  refine (sorted_put K52.one ⟨_, key_of (aftT o.f1) (by unfold maxLen; omega)⟩ (keys_ent h) (apart_ent h) ?_).symm
  rw [filter_ent]
  exact List.Perm.refl _
theorem tdat_del {L : List S27} (h : Tab L) (k : List UInt8) : (tdat L).del (.string k) = tdat (remO k L) := by
  unfold tdat
  rw [DataW.del_eq]
  congr 1
  refine (sorted_del K52.one (keys_ent h) (apart_ent h) ?_).symm
  rw [filter_ent]
  exact List.Perm.refl _
theorem tdat_size (L : List S27) : Maps.size (tdat L) = L.length := by unfold tdat Maps.size; simp [length_sorted]

theorem find_perm {α : Type} (p : α → Bool) {l m : List α} (h : l.Perm m) (hu : ∀ a ∈ l, ∀ b ∈ l, p a = true → p b = true → a = b) : l.find? p = m.find? p := by
  cases hl : l.find? p with
  | none =>
    symm
    rw [List.find?_eq_none] at hl ⊢
    exact fun a ha => hl a (h.mem_iff.2 ha)
  | some a =>
    cases hm : m.find? p with
    | none =>
      rw [List.find?_eq_none] at hm
      exact absurd (List.find?_some hl) (hm a (h.mem_iff.1 (List.mem_of_find?_eq_some hl)))
    | some b =>
      rw [hu a (List.mem_of_find?_eq_some hl) b (h.mem_iff.2 (List.mem_of_find?_eq_some hm)) (List.find?_some hl) (List.find?_some hm)]

theorem one_key : ∀ {L : List S27}, L.Pairwise (fun o p => keyO o ≠ keyO p) → ∀ {o q : S27}, o ∈ L → q ∈ L → keyO o = keyO q → o = q
  | [], _, _, _, h, _, _ => by cases h
  | a :: r, hn, o, q, ho, hq, e => by
    obtain ⟨h1, h2⟩ := List.pairwise_cons.1 hn
    rcases List.mem_cons.1 ho with eo | ho'
    · rcases List.mem_cons.1 hq with eq | hq'
      · rw [eo, eq]
      · exact absurd (eo ▸ e) (h1 q hq')
    · rcases List.mem_cons.1 hq with eq | hq'
      · exact absurd (eq ▸ e).symm (h1 o ho')
      · exact one_key h2 ho' hq' e

theorem same_ent (k : List UInt8) (o : S27) : (entO o).1.sameKey (.string k) = decide (keyO o = k) := by
  unfold entO
  simp only [Lit.sameKey]
  by_cases e : keyO o = k <;> simp [e]

theorem tdat_find {L : List S27} (h : Tab L) (k : List UInt8) : ((L.map entO).foldr DataW.insert []).find? (fun p => p.1.sameKey (.string k)) = (getO k L).map entO := by
  have hp := sorted_perm (L.map entO)
  rw [find_perm _ hp ?_, List.find?_map]
  · unfold getO
    congr 1
    exact congrArg (fun f => List.find? f L) (funext fun o => same_ent k o)
  · intro a ha b hb e1 e2
    obtain ⟨o, ho, rfl⟩ := List.mem_map.1 (hp.mem_iff.1 ha)
    obtain ⟨q, hq, rfl⟩ := List.mem_map.1 (hp.mem_iff.1 hb)
    rw [same_ent, decide_eq_true_eq] at e1 e2
    rw [one_key h.nod ho hq (e1.trans e2.symm)]

theorem tdat_at {L : List S27} (h : Tab L) (k : List UInt8) (z : Value) : (tdat L).atKey (.string k) (.held z) = .held (match getO k L with | some o => encO o | none => z) := by
  unfold tdat DataW.atKey
  simp only [tdat_find h k]
  cases getO k L <;> rfl
theorem any_find {α : Type} (p : α → Bool) : ∀ l : List α, l.any p = (l.find? p).isSome
  | [] => rfl
  | a :: r => by
    rw [List.any_cons, List.find?_cons]
    cases p a <;> simp [any_find p r]
theorem tdat_has {L : List S27} (h : Tab L) (k : List UInt8) : Maps.has (tdat L) (.string k) = (getO k L).isSome := by
  unfold tdat
  unfold Maps.has
  simp only
  rw [any_find, tdat_find h k]
  cases getO k L <;> rfl

/-! ### What lookups, stores and deletes are -/
theorem getO_mem {k : List UInt8} {L : List S27} {o : S27} (h : getO k L = some o) : o ∈ L ∧ keyO o = k := ⟨List.mem_of_find?_eq_some h, by have := List.find?_some h; simpa using this⟩
theorem getO_none {k : List UInt8} {L : List S27} : getO k L = none ↔ ∀ o ∈ L, keyO o ≠ k := by unfold getO; rw [List.find?_eq_none]; simp
theorem getO_of {L : List S27} (h : Tab L) {o : S27} (ho : o ∈ L) : getO (keyO o) L = some o := by
  cases hg : getO (keyO o) L with
  | none => exact absurd rfl (getO_none.1 hg o ho)
  | some q =>
    obtain ⟨hq, e⟩ := getO_mem hg
    rw [one_key h.nod hq ho e]
theorem mem_remO {k : List UInt8} {L : List S27} {o : S27} : o ∈ remO k L ↔ o ∈ L ∧ keyO o ≠ k := by unfold remO; simp
theorem Tab.rem {L : List S27} (h : Tab L) (k : List UInt8) : Tab (remO k L) := ⟨h.nod.filter _, fun o ho => h.nms o (mem_remO.1 ho).1⟩
theorem Tab.put {L : List S27} (h : Tab L) (o : S27) (ho : o.f0.size ≤ 1000000) : Tab (o :: remO (keyO o) L) :=
  ⟨List.pairwise_cons.2 ⟨fun q hq => fun e => (mem_remO.1 hq).2 e.symm, (h.rem _).nod⟩, fun q hq => by
    rcases List.mem_cons.1 hq with rfl | hq
    · exact ho
    · exact (h.rem _).nms q hq⟩
theorem getO_cons (k : List UInt8) (o : S27) (L : List S27) : getO k (o :: L) = if keyO o = k then some o else getO k L := by
  unfold getO
  rw [List.find?_cons]
  by_cases h : keyO o = k <;> simp [h]
theorem getO_rem_same (k : List UInt8) (L : List S27) : getO k (remO k L) = none := getO_none.2 fun o ho => (mem_remO.1 ho).2
theorem getO_rem_other {k j : List UInt8} (h : j ≠ k) : ∀ L : List S27, getO j (remO k L) = getO j L
  | [] => rfl
  | o :: r => by
    have ih := getO_rem_other h r
    unfold remO at ih ⊢
    rw [List.filter_cons]
    by_cases e : keyO o = k
    · rw [if_neg (by simp [e]), ih, getO_cons, if_neg (fun e2 => h (e2.symm.trans e))]
    · rw [if_pos (by simp [e]), getO_cons, getO_cons, ih]
theorem len_rem {L : List S27} (h : Tab L) {k : List UInt8} {o : S27} (hg : getO k L = some o) : (remO k L).length + 1 = L.length := by
  obtain ⟨ho, rfl⟩ := getO_mem hg
  have key : ∀ L : List S27, L.Pairwise (fun o p => keyO o ≠ keyO p) → o ∈ L → (remO (keyO o) L).length + 1 = L.length := by
    intro L
    induction L with
    | nil => intro _ h; cases h
    | cons q r ih =>
      intro hn hm
      obtain ⟨h1, h2⟩ := List.pairwise_cons.1 hn
      by_cases e : keyO q = keyO o
      · have hr : remO (keyO o) r = r := by
          unfold remO
          rw [List.filter_eq_self]
          intro x hx
          simpa [← e] using (h1 x hx).symm
        unfold remO at hr ⊢
        rw [List.filter_cons, if_neg (by simp [e]), hr, List.length_cons]
      · have hm2 : o ∈ r := by
          rcases List.mem_cons.1 hm with rfl | h
          · exact absurd rfl e
          · exact h
        have := ih h2 hm2
        unfold remO at this ⊢
        rw [List.filter_cons, if_pos (by simp [e]), List.length_cons, List.length_cons]
        omega
  exact key L h.nod ho
theorem rem_none {L : List S27} {k : List UInt8} (hg : getO k L = none) : remO k L = L := by
  unfold remO
  rw [List.filter_eq_self]
  intro o ho
  simpa using getO_none.1 hg o ho

end Go.Proofs.YtlphglmjfklndaaDoor
