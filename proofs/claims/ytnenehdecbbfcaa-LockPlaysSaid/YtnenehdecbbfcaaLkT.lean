/- The walk of LockTurns. -/
import Derived.Test.YtnenehdecbbfcaaLkE
import Derived.OpenShut
namespace Go.Proofs.Ytnenehdecbbfcaa
open Go.RowKit Go.Maps Go.ChangeShapes Go.WideShapes

section
variable {W : World} {lb mb : Nat} {who c x : Int}
theorem own_one (who c : Int) : own [(1, (who, c))] 1 = (who, c) := rfl
theorem find_one (who c x : Int) (hx : 1 ≤ x) : findE [(1, (who, c))] 1 x = 0 := by
  unfold findE
  rw [if_pos (by rfl), if_neg (by omega)]
theorem one_i64 : I64 1 := ⟨by omega, by omega⟩

theorem take_wait (h : LocksAt W lb mb 1 [(1, (who, c))]) (hx : 1 ≤ x) (hc : 0 < c ∧ c < 9223372036854775807) (hw : who ≠ x) :
    Calls Try.prog 16 #[.pointer (some ⟨lb, 0, none⟩), .int .i64 1, .int .i64 x] W fun e w' => e = .returned (.int .i64 141) ∧ LocksAt w' lb mb 1 [(1, (who, c))] ∧ Fr lb mb W w' := by
  have e1 : takeE [(1, (who, c))] 1 x = 141 := by
    unfold takeE
    rw [find_one _ _ _ hx, own_one]
    simp only [ne_eq, not_true, if_false]
    rw [if_pos ⟨hc.1, hw⟩]
  have := take_any W lb mb 1 1 x _ h one_i64 (by rw [own_one]; exact ⟨by omega, hc.2⟩) (by simp)
  unfold takeL at this
  rw [e1, if_neg (by omega)] at this
  exact this

theorem take_ok (h : LocksAt W lb mb 1 [(1, (who, c))]) (hx : 1 ≤ x) (hc : 0 ≤ c ∧ c < 9223372036854775807) (hw : ¬ (c > 0 ∧ who ≠ x)) :
    Calls Try.prog 16 #[.pointer (some ⟨lb, 0, none⟩), .int .i64 1, .int .i64 x] W fun e w' => e = .returned (.int .i64 0) ∧ LocksAt w' lb mb 1 [(1, (x, c + 1))] ∧ Fr lb mb W w' := by
  have e1 : takeE [(1, (who, c))] 1 x = 0 := by
    unfold takeE
    rw [find_one _ _ _ hx, own_one]
    simp only [ne_eq, not_true, if_false]
    rw [if_neg hw]
  have := take_any W lb mb 1 1 x _ h one_i64 (by rw [own_one]; exact ⟨by omega, hc.2⟩) (by simp)
  unfold takeL at this
  rw [e1, if_pos rfl] at this
  exact this

theorem give_no (h : LocksAt W lb mb 1 [(1, (who, c))]) (hx : 1 ≤ x) (hc : 0 ≤ c ∧ c < 9223372036854775807) (hw : who ≠ x) :
    Calls Try.prog 17 #[.pointer (some ⟨lb, 0, none⟩), .int .i64 1, .int .i64 x] W fun e w' => e = .returned (.int .i64 150) ∧ LocksAt w' lb mb 1 [(1, (who, c))] ∧ Fr lb mb W w' := by
  have e1 : giveE [(1, (who, c))] 1 x = 150 := by
    unfold giveE
    rw [find_one _ _ _ hx, own_one]
    simp only [ne_eq, not_true, if_false]
    rw [if_pos hw]
  have := give_any W lb mb 1 1 x _ h one_i64 (by rw [own_one]; exact ⟨by omega, hc.2⟩) (by simp)
  unfold giveL at this
  rw [e1, if_neg (by omega)] at this
  exact this

theorem give_ok (h : LocksAt W lb mb 1 [(1, (x, c))]) (hx : 1 ≤ x) (hc : 0 ≤ c ∧ c < 9223372036854775807) :
    Calls Try.prog 17 #[.pointer (some ⟨lb, 0, none⟩), .int .i64 1, .int .i64 x] W fun e w' => e = .returned (.int .i64 0) ∧ LocksAt w' lb mb 1 [(1, (if c = 1 then 0 else x, c - 1))] ∧ Fr lb mb W w' := by
  have e1 : giveE [(1, (x, c))] 1 x = 0 := by
    unfold giveE
    rw [find_one _ _ _ hx, own_one]
    simp
  have := give_any W lb mb 1 1 x _ h one_i64 (by rw [own_one]; exact ⟨by omega, hc.2⟩) (by simp)
  unfold giveL at this
  rw [e1, if_pos rfl, own_one] at this
  by_cases h1 : c = 1
  · subst h1; exact this
  · rw [if_neg h1] at this ⊢
    exact this

theorem owner_one (h : LocksAt W lb mb 1 [(1, (who, c))]) :
    Calls Try.prog 10 #[.pointer (some ⟨lb, 0, none⟩), .int .i64 1] W fun e w' => e = .returned (.tuple #[.int .i64 who, .int .i64 c]) ∧ LocksAt w' lb mb 1 [(1, (who, c))] ∧ Fr lb mb W w' :=
  (owner_any W lb mb 1 1 _ h one_i64).mono fun e w' ⟨he, n, hw⟩ => by
    subst hw
    exact ⟨he, ⟨h.blk, h.map.alike rfl⟩, ⟨rfl, rfl, rfl, Nat.le_refl _, fun _ _ _ _ => rfl⟩⟩
end

/-- New and Make, as the law uses them. -/
theorem new_ (w : World) : Calls Try.prog 7 #[] w fun e w' => e = .returned (.pointer (some ⟨w.heap.size + 1, 0, none⟩)) ∧ LocksAt w' (w.heap.size + 1) w.heap.size 0 [] ∧ Below w.heap.size w w' :=
  (new_any w).mono fun e w' ⟨he, hw⟩ => by
    subst hw
    exact ⟨he, new_at w, ((Below.refl _ _).alloc (Nat.le_refl _) _).alloc (by simp) _⟩
theorem make_ (W : World) (lb mb : Nat) (h : LocksAt W lb mb 0 []) : Calls Try.prog 19 #[.pointer (some ⟨lb, 0, none⟩)] W fun e w' => e = .returned (.tuple #[.int .i64 1, .int .i64 0]) ∧ LocksAt w' lb mb 1 [(1, (0, 0))] ∧ Fr lb mb W w' :=
  (make_any W lb mb 0 [] h (by decide) (by decide)).mono fun e w' hp => by
    rw [if_neg (by decide)] at hp
    exact hp

set_option maxHeartbeats 1000000 in
set_option maxRecDepth 100000 in
theorem turns_early (a0 : Option Addr) (n cap : Nat) (t u : Int) (w : World) (hg : t < 1 ∨ u < 1 ∨ t = u) :
    Calls Try.prog 6 #[.slice a0 n cap, .int .i64 t, .int .i64 u] w fun e w' => e = .returned (.bool true) ∧ Below w.heap.size w w' := by
  have cn := new_ w
  have cal := fun W => alive_any W
  by_cases h1 : t < 1
  · clear hg
    go_enter Try.func6, Try.ntmps6
    go_wp2_with (first
      | (go_at_call 7; refine cn.mono ?_; rintro e w1 ⟨rfl, h1, b1⟩)
      | (go_at_call 8; refine (cal _).mono ?_; rintro e w2 ⟨rfl, b2⟩))
    go_ret
    exact ⟨rfl, b1.trans (b2.mono b1.size)⟩
  · by_cases h2 : u < 1
    · clear hg
      go_enter Try.func6, Try.ntmps6
      go_wp2_with (first
        | (go_at_call 7; refine cn.mono ?_; rintro e w1 ⟨rfl, h1, b1⟩)
        | (go_at_call 8; refine (cal _).mono ?_; rintro e w2 ⟨rfl, b2⟩))
      go_ret
      exact ⟨rfl, b1.trans (b2.mono b1.size)⟩
    · obtain rfl : t = u := by omega
      clear hg
      go_enter Try.func6, Try.ntmps6
      go_wp2_with (first
        | (go_at_call 7; refine cn.mono ?_; rintro e w1 ⟨rfl, h1, b1⟩)
        | (go_at_call 8; refine (cal _).mono ?_; rintro e w2 ⟨rfl, b2⟩))
      go_ret
      exact ⟨rfl, b1.trans (b2.mono b1.size)⟩

set_option maxHeartbeats 4000000 in
set_option maxRecDepth 100000 in
theorem turns_main (a0 : Option Addr) (n cap : Nat) (zs : List Int) (t u : Int) (w : World) (hn : n ≤ zs.length) (hm : n ≤ maxLen) (hab : 0 < n → ∃ b off, a0 = some ⟨b, off, none⟩ ∧ b < w.heap.size ∧ ∀ j, j < zs.length → w.cell? ⟨b, off + j, none⟩ = some (.int .i64 (zs.getD j 0)))
    (ht : 1 ≤ t) (hu : 1 ≤ u) (htu : t ≠ u) :
    Calls Try.prog 6 #[.slice a0 n cap, .int .i64 t, .int .i64 u] w fun e w' => e = .returned (.bool true) ∧ Below w.heap.size w w' := by
  have cn := new_ w
  have cal := fun W => alive_any W
  unfold maxLen at hm
  obtain ⟨lb, hlb⟩ : ∃ lb, lb = w.heap.size + 1 := ⟨_, rfl⟩
  obtain ⟨mb, hmb⟩ : ∃ mb, mb = w.heap.size := ⟨_, rfl⟩
  rw [← hlb] at cn
  have cn : Calls Try.prog 7 #[] w fun e w' => e = .returned (.pointer (some ⟨lb, 0, none⟩)) ∧ LocksAt w' lb mb 0 [] ∧ Below w.heap.size w w' := by rw [hmb]; exact cn
  have HL := Lib.hid hlb
  have HM := Lib.hid hmb
  have HA := Lib.hid hab
  clear hlb hmb hab
  have h1 : ¬ t < 1 := by omega
  have h2 : ¬ u < 1 := by omega
  have h3 : (t == u) = false := by simpa using htu
  go_enter Try.func6, Try.ntmps6
  go_wp2_with (first
    | (go_at_call 7; refine cn.mono ?_; rintro e w1 ⟨rfl, l1, b1⟩)
    | (go_at_call 8; refine (cal _).mono ?_; rintro e w2 ⟨rfl, b2⟩; have l2 := l1.below b2)
    | (go_at_call 19; refine (make_ w2 lb mb l2).mono ?_; rintro e w3 ⟨rfl, l3, fr3⟩))
  have fr1 := (Fr.below (lb := lb) (mb := mb) b2).trans fr3
  have B1 : Below w.heap.size w w3 := Fr.below_of b1 fr1 (by have := HL.out; omega) (by have := HM.out; omega)
  clear cn l1 b1 b2 l2 fr3 fr1
  go_loopw [10, 11, 46] (fun a b i wr => ∃ (k : Nat) (who c : Int), k ≤ n ∧ i = .int .i64 k ∧ a = .int .i64 who ∧ b = .int .i64 c ∧ 0 ≤ c ∧ c ≤ k ∧ (c = 0 → who = 0) ∧ (0 < c → 1 ≤ who) ∧ LocksAt wr lb mb 1 [(1, (who, c))] ∧ Below w.heap.size w wr)
    (fun _ _ i _ => n - (intOf i).toNat)
  case atStart => exact ⟨0, 0, 0, Nat.zero_le _, rfl, rfl, rfl, by omega, by omega, fun _ => rfl, by omega, l3, B1⟩
  case round =>
    obtain ⟨k, who, c, hk, rfl, rfl, rfl, hc0, hck, hz, hp, hl, hbel⟩ := hrel
    by_cases hlt : k < n
    · obtain ⟨b, off, rfl, hbs, hcell⟩ := HA.out (by omega)
      have g0 := (hbel.cell (p := ⟨b, off + k, none⟩) hbs).trans (hcell k (by omega))
      generalize zs.getD k 0 = p at g0
      have frb : ∀ W', Fr lb mb wr W' → Below w.heap.size w W' := fun W' f => Fr.below_of hbel f (by have := HL.out; omega) (by have := HM.out; omega)
      have HF := Lib.hid frb
      have HZ := Lib.hid hz
      have HP := Lib.hid hp
      clear hcell frb hz hp
      go_wp2_with fail
      · by_cases hw : c > 0 ∧ who ≠ u
        · obtain ⟨hw1, hw2⟩ := hw
          have hw3 : (who != u) = true := by simpa using hw2
          have hcz : (c == 0) = false := by simp; omega
          refine (take_wait hl hu ⟨hw1, by omega⟩ hw2).mono ?_
          rintro e w4 ⟨rfl, l4, f4⟩
          go_wp2_with fail
          refine (owner_one l4).mono ?_
          rintro e w5 ⟨rfl, l5, f5⟩
          go_wp2
          go_roundw
          case rel => exact ⟨k + 1, who, c, by omega, by go_num, rfl, rfl, by omega, by omega, HZ.out, HP.out, l5, HF.out _ (f4.trans f5)⟩
          case measure => simp [intOf]; omega
        · refine (take_ok hl hu ⟨hc0, by omega⟩ hw).mono ?_
          have hcz : (c + 1 == 0) = false := by simp; omega
          rintro e w4 ⟨rfl, l4, f4⟩
          by_cases hw1 : c > 0
          · have hw3 : (who != u) = false := by
              have : who = u := by simpa [hw1] using hw
              simp [this]
            clear hw
            go_wp2_with fail
            refine (owner_one l4).mono ?_
            rintro e w5 ⟨rfl, l5, f5⟩
            go_wp2
            go_roundw
            case rel => exact ⟨k + 1, u, c + 1, by omega, by go_num, rfl, rfl, by omega, by omega, by omega, fun _ => hu, l5, HF.out _ (f4.trans f5)⟩
            case measure => simp [intOf]; omega
          · clear hw
            go_wp2_with fail
            refine (owner_one l4).mono ?_
            rintro e w5 ⟨rfl, l5, f5⟩
            go_wp2
            go_roundw
            case rel => exact ⟨k + 1, u, c + 1, by omega, by go_num, rfl, rfl, by omega, by omega, by omega, fun _ => hu, l5, HF.out _ (f4.trans f5)⟩
            case measure => simp [intOf]; omega
      · by_cases hw : who = u
        · subst hw
          have hc1 : 0 < c := by
            rcases Int.lt_or_le 0 c with h | h
            · exact h
            · have := HZ.out (by omega); omega
          refine (give_ok hl hu ⟨hc0, by omega⟩).mono ?_
          rintro e w4 ⟨rfl, l4, f4⟩
          by_cases h5 : c = 1
          · subst h5
            rw [if_pos rfl] at l4
            go_wp2_with fail
            refine (owner_one l4).mono ?_
            rintro e w5 ⟨rfl, l5, f5⟩
            go_wp2
            go_roundw
            case rel => exact ⟨k + 1, 0, 0, by omega, by go_num, rfl, by go_num, by omega, by omega, fun _ => rfl, by omega, l5, HF.out _ (f4.trans f5)⟩
            case measure => simp [intOf]; omega
          · rw [if_neg h5] at l4
            have hcz : (c - 1 == 0) = false := by simp; omega
            go_wp2_with fail
            refine (owner_one l4).mono ?_
            rintro e w5 ⟨rfl, l5, f5⟩
            go_wp2
            go_roundw
            case rel => exact ⟨k + 1, who, c - 1, by omega, by go_num, rfl, rfl, by omega, by omega, by omega, fun _ => hu, l5, HF.out _ (f4.trans f5)⟩
            case measure => simp [intOf]; omega
        · have hw3 : (who == u) = false := by simpa using hw
          refine (give_no hl hu ⟨hc0, by omega⟩ hw).mono ?_
          rintro e w4 ⟨rfl, l4, f4⟩
          by_cases hw1 : c > 0
          · have hcz : (c == 0) = false := by simp; omega
            go_wp2_with fail
            refine (owner_one l4).mono ?_
            rintro e w5 ⟨rfl, l5, f5⟩
            go_wp2
            go_roundw
            case rel => exact ⟨k + 1, who, c, by omega, by go_num, rfl, rfl, by omega, by omega, HZ.out, HP.out, l5, HF.out _ (f4.trans f5)⟩
            case measure => simp [intOf]; omega
          · obtain rfl : c = 0 := by omega
            obtain rfl : who = 0 := HZ.out rfl
            go_wp2_with fail
            refine (owner_one l4).mono ?_
            rintro e w5 ⟨rfl, l5, f5⟩
            go_wp2
            go_roundw
            case rel => exact ⟨k + 1, 0, 0, by omega, by go_num, rfl, rfl, by omega, by omega, fun _ => rfl, by omega, l5, HF.out _ (f4.trans f5)⟩
            case measure => simp [intOf]; omega
      · by_cases hw : c > 0 ∧ who ≠ t
        · obtain ⟨hw1, hw2⟩ := hw
          have hw3 : (who != t) = true := by simpa using hw2
          have hcz : (c == 0) = false := by simp; omega
          refine (take_wait hl ht ⟨hw1, by omega⟩ hw2).mono ?_
          rintro e w4 ⟨rfl, l4, f4⟩
          go_wp2_with fail
          refine (owner_one l4).mono ?_
          rintro e w5 ⟨rfl, l5, f5⟩
          go_wp2
          go_roundw
          case rel => exact ⟨k + 1, who, c, by omega, by go_num, rfl, rfl, by omega, by omega, HZ.out, HP.out, l5, HF.out _ (f4.trans f5)⟩
          case measure => simp [intOf]; omega
        · refine (take_ok hl ht ⟨hc0, by omega⟩ hw).mono ?_
          have hcz : (c + 1 == 0) = false := by simp; omega
          rintro e w4 ⟨rfl, l4, f4⟩
          by_cases hw1 : c > 0
          · have hw3 : (who != t) = false := by
              have : who = t := by simpa [hw1] using hw
              simp [this]
            clear hw
            go_wp2_with fail
            refine (owner_one l4).mono ?_
            rintro e w5 ⟨rfl, l5, f5⟩
            go_wp2
            go_roundw
            case rel => exact ⟨k + 1, t, c + 1, by omega, by go_num, rfl, rfl, by omega, by omega, by omega, fun _ => ht, l5, HF.out _ (f4.trans f5)⟩
            case measure => simp [intOf]; omega
          · clear hw
            go_wp2_with fail
            refine (owner_one l4).mono ?_
            rintro e w5 ⟨rfl, l5, f5⟩
            go_wp2
            go_roundw
            case rel => exact ⟨k + 1, t, c + 1, by omega, by go_num, rfl, rfl, by omega, by omega, by omega, fun _ => ht, l5, HF.out _ (f4.trans f5)⟩
            case measure => simp [intOf]; omega
      · by_cases hw : who = t
        · subst hw
          have hc1 : 0 < c := by
            rcases Int.lt_or_le 0 c with h | h
            · exact h
            · have := HZ.out (by omega); omega
          refine (give_ok hl ht ⟨hc0, by omega⟩).mono ?_
          rintro e w4 ⟨rfl, l4, f4⟩
          by_cases h5 : c = 1
          · subst h5
            rw [if_pos rfl] at l4
            go_wp2_with fail
            refine (owner_one l4).mono ?_
            rintro e w5 ⟨rfl, l5, f5⟩
            go_wp2
            go_roundw
            case rel => exact ⟨k + 1, 0, 0, by omega, by go_num, rfl, by go_num, by omega, by omega, fun _ => rfl, by omega, l5, HF.out _ (f4.trans f5)⟩
            case measure => simp [intOf]; omega
          · rw [if_neg h5] at l4
            have hcz : (c - 1 == 0) = false := by simp; omega
            go_wp2_with fail
            refine (owner_one l4).mono ?_
            rintro e w5 ⟨rfl, l5, f5⟩
            go_wp2
            go_roundw
            case rel => exact ⟨k + 1, who, c - 1, by omega, by go_num, rfl, rfl, by omega, by omega, by omega, fun _ => ht, l5, HF.out _ (f4.trans f5)⟩
            case measure => simp [intOf]; omega
        · have hw3 : (who == t) = false := by simpa using hw
          refine (give_no hl ht ⟨hc0, by omega⟩ hw).mono ?_
          rintro e w4 ⟨rfl, l4, f4⟩
          by_cases hw1 : c > 0
          · have hcz : (c == 0) = false := by simp; omega
            go_wp2_with fail
            refine (owner_one l4).mono ?_
            rintro e w5 ⟨rfl, l5, f5⟩
            go_wp2
            go_roundw
            case rel => exact ⟨k + 1, who, c, by omega, by go_num, rfl, rfl, by omega, by omega, HZ.out, HP.out, l5, HF.out _ (f4.trans f5)⟩
            case measure => simp [intOf]; omega
          · obtain rfl : c = 0 := by omega
            obtain rfl : who = 0 := HZ.out rfl
            go_wp2_with fail
            refine (owner_one l4).mono ?_
            rintro e w5 ⟨rfl, l5, f5⟩
            go_wp2
            go_roundw
            case rel => exact ⟨k + 1, 0, 0, by omega, by go_num, rfl, rfl, by omega, by omega, fun _ => rfl, by omega, l5, HF.out _ (f4.trans f5)⟩
            case measure => simp [intOf]; omega
    · obtain rfl : k = n := by omega
      have H1 := Lib.hid hz
      have H2 := Lib.hid hp
      clear hz hp
      go_wp2
      go_ret
      exact ⟨rfl, hbel⟩

theorem turns_any (a0 : Option Addr) (n cap : Nat) (zs : List Int) (t u : Int) (w : World) (hn : n ≤ zs.length) (hm : n ≤ maxLen) (hab : 0 < n → ∃ b off, a0 = some ⟨b, off, none⟩ ∧ b < w.heap.size ∧ ∀ j, j < zs.length → w.cell? ⟨b, off + j, none⟩ = some (.int .i64 (zs.getD j 0))) :
    Calls Try.prog 6 #[.slice a0 n cap, .int .i64 t, .int .i64 u] w fun e w' => e = .returned (.bool true) ∧ Below w.heap.size w w' := by
  by_cases hg : t < 1 ∨ u < 1 ∨ t = u
  · exact turns_early a0 n cap t u w hg
  · exact turns_main a0 n cap zs t u w hn hm hab (by omega) (by omega) (by omega)

end Go.Proofs.Ytnenehdecbbfcaa
