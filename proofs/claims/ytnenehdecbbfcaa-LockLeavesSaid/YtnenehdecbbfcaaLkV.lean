/- Who leaves gives just its own back, in plain words; two rows of numbers of the call's own. -/
import Derived.Test.YtnenehdecbbfcaaLkAl
namespace Go.Proofs.Ytnenehdecbbfcaa
set_option linter.unusedVariables false
open Go.RowKit Go.Maps

def other (t : Int) (p : Int × (Int × Int)) : Bool := decide (p.2.2 > 0) && !decide (p.2.1 = t)
def othK (L : Mx) (t : Int) : List Int := (L.filter (other t)).map (·.1)

theorem leaveL_get {L : Mx} (hs : msorted L) {t : Int} {p : Int × (Int × Int)} (hp : p ∈ L) : mget (leaveL L t) p.1 = some (lv t p).2 := by
  apply mget_of_mem (leaveL_sorted hs t)
  have : lv t p ∈ leaveL L t := List.mem_map_of_mem hp
  have e : (p.1, (lv t p).2) = lv t p := by rw [← lv_fst t p]
  rw [e]; exact this

theorem leave_mine {L : Mx} (hs : msorted L) {t m : Int} (hm : m ∈ leaveK L t) : mget (leaveL L t) m = some (0, 0) := by
  obtain ⟨p, hp, rfl⟩ := List.mem_map.1 hm
  have h := List.mem_filter.1 hp
  rw [leaveL_get hs h.1]
  simp [lv, h.2]

theorem leave_other {L : Mx} (hs : msorted L) {t m : Int} (hm : m ∈ othK L t) : 0 < (own (leaveL L t) m).2 := by
  obtain ⟨p, hp, rfl⟩ := List.mem_map.1 hm
  have h := List.mem_filter.1 hp
  have h2 : other t p = true := h.2
  unfold own
  rw [leaveL_get hs h.1]
  simp only [other, Bool.and_eq_true, decide_eq_true_eq, Bool.not_eq_true', decide_eq_false_iff_not] at h2
  have : mine t p = false := by simp [mine, h2.2]
  simp only [lv, this]
  exact h2.1

theorem leave_twice (L : Mx) (t : Int) : leaveK (leaveL L t) t = [] := by
  unfold leaveK
  rw [List.map_eq_nil_iff, List.filter_eq_nil_iff]
  intro p hp
  obtain ⟨q, _, rfl⟩ := List.mem_map.1 hp
  unfold lv
  split
  · simp [mine]
  · rename_i h; exact h

theorem lv_twice (t : Int) (p : Int × (Int × Int)) : lv t (lv t p) = lv t p := by
  cases h : mine t p with
  | true =>
    have h1 : lv t p = (p.1, (0, 0)) := by unfold lv; rw [if_pos h]
    rw [h1]
    unfold lv
    rw [if_neg (by simp [mine])]
  | false =>
    have h1 : lv t p = p := by unfold lv; rw [if_neg (by simp [h])]
    rw [h1, h1]
theorem leaveL_twice (L : Mx) (t : Int) : leaveL (leaveL L t) t = leaveL L t := by
  unfold leaveL
  rw [List.map_map]
  exact List.map_congr_left fun p _ => lv_twice t p
theorem key_mine {L : Mx} {t m : Int} (h : m ∈ leaveK L t) : ∃ p ∈ L, p.1 = m := by
  obtain ⟨p, hp, rfl⟩ := List.mem_map.1 h
  exact ⟨p, (List.mem_filter.1 hp).1, rfl⟩
theorem key_other {L : Mx} {t m : Int} (h : m ∈ othK L t) : ∃ p ∈ L, p.1 = m := by
  obtain ⟨p, hp, rfl⟩ := List.mem_map.1 h
  exact ⟨p, (List.mem_filter.1 hp).1, rfl⟩

theorem leaveK_nodup {L : Mx} (hs : msorted L) (t : Int) : (leaveK L t).Nodup := by
  have h : (L.filter (mine t)).Pairwise (fun p q => p.1 < q.1) := List.Pairwise.filter _ hs
  unfold leaveK List.Nodup
  rw [List.pairwise_map]
  exact h.imp fun hab e => by omega

theorem othK_keep {L : Mx} {t : Int} {k : Nat} (hk : k < L.length) (hm : other t L[k] = false) : othK (L.take (k + 1)) t = othK (L.take k) t := by
  unfold othK
  rw [List.take_succ_eq_append_getElem hk, List.filter_append, List.map_append]
  simp only [List.filter_cons, List.filter_nil, hm]
  simp
theorem othK_put {L : Mx} {t : Int} {k : Nat} (hk : k < L.length) (hm : other t L[k] = true) : othK (L.take (k + 1)) t = othK (L.take k) t ++ [L[k].1] := by
  unfold othK
  rw [List.take_succ_eq_append_getElem hk, List.filter_append, List.map_append]
  simp only [List.filter_cons, List.filter_nil, hm]
  simp
theorem othK_le (L : Mx) (t : Int) : (othK L t).length ≤ L.length := by
  unfold othK
  rw [List.length_map]
  exact List.length_filter_le _ _

/-- Two rows of numbers of the call's own, from block B on. -/
structure TwoR (B : Nat) (w : World) (va vb : Value) (xs ys : List Int) : Prop where
  r1 : w.ownsRow B 3 1 va xs.length (xs.map (Value.int .i64))
  r2 : w.ownsRow B 3 1 vb ys.length (ys.map (Value.int .i64))
  ne : ∃ g1 g2, va.ownBlock = some g1 ∧ vb.ownBlock = some g2 ∧ g1 ≠ g2

section
variable {B : Nat} {w w' : World} {va vb : Value} {xs ys : List Int}
theorem TwoR.kept (h : TwoR B w va vb xs ys) (k : ∀ i, B ≤ i → i < w.heap.size → w'.heap[i]? = w.heap[i]?) : TwoR B w' va vb xs ys := by
  have hm : ∀ {v : Value} {n : Nat} {zs : List Value}, w.ownsRow B 3 1 v n zs → w'.ownsRow B 3 1 v n zs := by
    intro v n zs ho
    have hlt := ho.lt
    obtain ⟨h1, h2⟩ := ho
    refine ⟨h1, ?_⟩
    rcases h2 with h2 | ⟨g, cap, cur, rfl, hg, hh, r⟩
    · exact .inl h2
    · exact .inr ⟨g, cap, cur, rfl, hg, (k g hg (hlt g rfl).2).trans hh, r⟩
  exact ⟨hm h.r1, hm h.r2, h.ne⟩
theorem TwoR.below (h : TwoR B w va vb xs ys) (b : Below w.heap.size w w') : TwoR B w' va vb xs ys := h.kept fun i _ hi => b.block i hi
theorem TwoR.fr {lb mb : Nat} (h : TwoR B w va vb xs ys) (f : Fr lb mb w w') (hl : lb < B) (hm : mb < B) : TwoR B w' va vb xs ys :=
  h.kept fun i hb hi => f.block i hi (by omega) (by omega)

theorem TwoR.app1 (h : TwoR B w va vb xs ys) {m : Int} {v' : Value} (ho : w'.ownsRow B 3 1 v' (xs.length + 1) (xs.map (Value.int .i64) ++ [Value.int .i64 m])) (hg : (w.alloc (.cells #[.int .i64 m] 3)).grownBy w' va.ownBlock)
    (hl : v'.ownBlock = va.ownBlock ∨ v'.ownBlock = some (w.alloc (.cells #[.int .i64 m] 3)).heap.size) : TwoR B w' v' vb (xs ++ [m]) ys := by
  obtain ⟨g1, g2, e1, e2, hne⟩ := h.ne
  have h2 := (h.r2.alloc (.cells #[.int .i64 m] 3)).kept hg (.inr (by rw [e1, e2]; intro e; exact hne (Option.some.inj e).symm))
  refine ⟨by simpa using ho, h2, ?_⟩
  rcases hl with e | e
  · exact ⟨g1, g2, e.trans e1, e2, hne⟩
  · refine ⟨_, g2, e, e2, ?_⟩
    have := (h.r2.lt g2 e2).2
    simp; omega
theorem TwoR.app2 (h : TwoR B w va vb xs ys) {m : Int} {v' : Value} (ho : w'.ownsRow B 3 1 v' (ys.length + 1) (ys.map (Value.int .i64) ++ [Value.int .i64 m])) (hg : (w.alloc (.cells #[.int .i64 m] 3)).grownBy w' vb.ownBlock)
    (hl : v'.ownBlock = vb.ownBlock ∨ v'.ownBlock = some (w.alloc (.cells #[.int .i64 m] 3)).heap.size) : TwoR B w' va v' xs (ys ++ [m]) := by
  obtain ⟨g1, g2, e1, e2, hne⟩ := h.ne
  have h1 := (h.r1.alloc (.cells #[.int .i64 m] 3)).kept hg (.inr (by rw [e1, e2]; intro e; exact hne (Option.some.inj e)))
  refine ⟨h1, by simpa using ho, ?_⟩
  rcases hl with e | e
  · exact ⟨g1, g2, e1, e.trans e2, hne⟩
  · refine ⟨g1, _, e1, e, ?_⟩
    have := (h.r1.lt g1 e1).2
    simp; omega
theorem TwoR.open1 (h : TwoR B w va vb xs ys) : ∃ g c, va = .slice (some ⟨g, 0, none⟩) xs.length c ∧ B ≤ g ∧ ∀ j (hj : j < xs.length), w.cell? ⟨g, j, none⟩ = some (.int .i64 xs[j]) := by
  obtain ⟨g1, g2, e1, _⟩ := h.ne
  rcases row_open h.r1 with ⟨rfl, _⟩ | ⟨g, c, cur, rfl, hg, hh, _, _, hcur⟩
  · simp [Value.ownBlock] at e1
  · exact ⟨g, c, rfl, hg, fun j hj => by simp only [World.cell?, hh]; exact hcur j hj⟩
theorem TwoR.open2 (h : TwoR B w va vb xs ys) : ∃ g c, vb = .slice (some ⟨g, 0, none⟩) ys.length c ∧ B ≤ g ∧ ∀ j (hj : j < ys.length), w.cell? ⟨g, j, none⟩ = some (.int .i64 ys[j]) := by
  obtain ⟨g1, g2, _, e2, _⟩ := h.ne
  rcases row_open h.r2 with ⟨rfl, _⟩ | ⟨g, c, cur, rfl, hg, hh, _, _, hcur⟩
  · simp [Value.ownBlock] at e2
  · exact ⟨g, c, rfl, hg, fun j hj => by simp only [World.cell?, hh]; exact hcur j hj⟩
end

theorem two_new (w : World) (B : Nat) (hB : B ≤ w.heap.size) : TwoR B ((w.alloc (.cells #[] 3)).alloc (.cells #[] 3)) (.slice (some ⟨w.heap.size, 0, none⟩) 0 0) (.slice (some ⟨w.heap.size + 1, 0, none⟩) 0 0) [] [] := by
  have h1 := (World.ownsRow_made (base := B) (e := 3) (size := 1) w #[] 0 hB (Nat.zero_le _) rfl).alloc (.cells #[] 3)
  have h2 := World.ownsRow_made (base := B) (e := 3) (size := 1) (w.alloc (.cells #[] 3)) #[] 0 (by simp; omega) (Nat.zero_le _) rfl
  refine ⟨h1, by simpa using h2, w.heap.size, w.heap.size + 1, rfl, rfl, by omega⟩

theorem St.app {w0 w w' : World} {lb mb : Nat} {made : Int} {L : Mx} (h : St w0 w lb mb made L) {c : Obj} {v : Value} {g : Nat} (hg : (w.alloc c).grownBy w' v.ownBlock) (hv : v.ownBlock = some g) (h0 : w0.heap.size ≤ g) (hl : lb ≠ g) (hm : mb ≠ g) : St w0 w' lb mb made L := by
  have h1 := h.below ((Below.refl _ _).alloc (Nat.le_refl _) c)
  refine ⟨?_, ?_, h.hl, h.hm⟩
  · exact h1.B.grown hg h1.B.size (fun k hk => by rw [hv] at hk; cases hk; exact h0)
  · exact h1.K.fr hg (by rw [hv]; intro e; cases e; exact hl rfl) (by rw [hv]; intro e; cases e; exact hm rfl)

/-- All, its row opened. -/
theorem all_row {w0 w : World} {lb mb N : Nat} {made : Int} {L : Mx} (h : St w0 w lb mb made L) (g : Good N made L) :
    Calls Try.prog 12 #[.pointer (some ⟨lb, 0, none⟩)] w fun e w' => ∃ A c G, e = .returned (.slice A L.length c) ∧ Below w.heap.size w w' ∧ G < w'.heap.size ∧ (w.heap.size ≤ G ∨ G = lb) ∧
      (0 < L.length → A = some ⟨G, 0, none⟩ ∧ ∀ j, j < L.length → w'.cell? ⟨G, j, none⟩ = some (.int .i64 (L.getD j (0, (0, 0))).1)) ∧ St w0 w' lb mb made L :=
  (all_any w lb mb made L h.K g.sorted (by have := g.len; omega)).mono fun e w' ⟨v, he, hr, hb⟩ => by
    subst he
    rcases row_open hr with ⟨rfl, h0, _⟩ | ⟨g, c, cur, rfl, hg, hh, _, hkl, hcur⟩
    · refine ⟨none, 0, lb, by rw [h0], hb, ?_, .inr rfl, fun hp => by omega, h.below hb⟩
      have := h.K.lt; have := hb.size; omega
    · refine ⟨_, c, g, rfl, hb, (Array.getElem?_eq_some_iff.1 hh).1, .inl hg, fun hp => ⟨rfl, fun j hj => ?_⟩, h.below hb⟩
      have h9 := hcur j (by simpa using hj)
      simp only [List.getElem_map] at h9
      simp only [World.cell?, hh, List.getD, List.getElem?_eq_getElem hj]
      exact h9

end Go.Proofs.Ytnenehdecbbfcaa
