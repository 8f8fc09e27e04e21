/- The document's decimals of numbers that are not below nought. -/
import Derived.Test.YtlphglmjfklndaaDoorOpLa
import Derived.Lib.AppendStr
import Derived.WalkLawsBesides
namespace Go.Proofs.YtlphglmjfklndaaDoor
set_option linter.unusedVariables false
open Go.RowKit Go.Shelf Go.Maps Go.Proofs.YtlphglmjfklndaaDoorW.PrintWords Go.Proofs.YtlphglmjfklndaaDoorW.PrintLast Go.Proofs.YtlphglmjfklndaaDoorW.PrintMore Go.Proofs.YtlphglmjfklndaaDoor.POpsApart Go.Extern

theorem ba_append (l m : List UInt8) : ba l ++ ba m = ba (l ++ m) := by
  unfold ba
  apply ByteArray.ext
  simp [ByteArray.data_append]
theorem ba_nil : ba [] = ⟨#[]⟩ := rfl
/-- The decimal digits of a number, the last one first reckoned. -/
def decL : Nat → Nat → List UInt8
  | 0, _ => []
  | f + 1, n => if n < 10 then [(48 + n).toUInt8] else decL f (n / 10) ++ [(48 + n % 10).toUInt8]
theorem decL_more : ∀ (f g n : Nat), n < 10 ^ f → f ≤ g → 0 < f → decL f n = decL g n
  | 0, _, _, _, _, h => absurd h (Nat.lt_irrefl _)
  | f + 1, 0, _, _, h, _ => absurd h (by omega)
  | f + 1, g + 1, n, hn, hg, _ => by
    unfold decL
    by_cases h : n < 10
    · rw [if_pos h, if_pos h]
    · rw [if_neg h, if_neg h]
      have hf : 0 < f := by
        rcases Nat.eq_zero_or_pos f with rfl | hf
        · simp at hn; omega
        · exact hf
      rw [decL_more f g (n / 10) (by rw [Nat.pow_succ] at hn; omega) (by omega) hf]
theorem decL_len : ∀ f n, (decL f n).length ≤ f
  | 0, _ => Nat.le_refl _
  | f + 1, n => by
    unfold decL
    split
    · simp
    · rw [List.length_append]
      have := decL_len f (n / 10)
      simp
      omega
theorem enc_digit (d : Nat) (h : d < 10) : Utf8.encode (48 + (d : Int)) = ba [(48 + d).toUInt8] := by
  have : ∀ d : Fin 10, (Utf8.encode (48 + (d.1 : Int))).data.toList = [(48 + d.1).toUInt8] := by decide
  have h2 := this ⟨d, h⟩
  unfold ba
  apply ByteArray.ext
  rw [← Array.toList_inj]
  simpa using h2

set_option maxHeartbeats 4000000 in
set_option maxRecDepth 100000 in
theorem Decimal_any (n : Nat) (hn : n < 9223372036854775808) (w : World) : Calls Tryd.prog 18 #[.int .i64 n] w fun e w' => e = .returned (.string (ba (decL 20 n))) ∧ w' = w := by
  by_cases hz : n = 0
  · subst hz
    go_enter Tryd.func18, Tryd.ntmps18
    go_wp2
    go_ret
    exact ⟨rfl, rfl⟩
  have hz1 : ((n : Int) == 0) = false := by simpa using hz
  have hz2 : decide ((n : Int) < 0) = false := decide_eq_false (by omega)
  go_enter Tryd.func18, Tryd.ntmps18
  go_wp2
  go_loop [0, 3] (fun a b => ∃ (m : Nat) (out : List UInt8), m < 9223372036854775808 ∧ a = .int .i64 m ∧ b = .string (ba out) ∧ decL 20 n = (if m = 0 then out else decL 20 m ++ out)) (fun a _ => (intOf a).toNat)
  case atStart => exact ⟨n, [], hn, rfl, by rw [ba_nil], by rw [if_neg hz]; simp⟩
  case round =>
    obtain ⟨m, out, hm, rfl, rfl, hd⟩ := hrel
    clear hz1 hz2
    by_cases h0 : m = 0
    · subst h0
      rw [if_pos rfl] at hd
      have HD := Lib.hid hd
      clear hd
      go_wp2
      go_ret
      exact ⟨by rw [HD.out]; rfl, rfl⟩
    · rw [if_neg h0] at hd
      have c1 : ((m : Int) != 0) = true := by simpa using h0
      have e1 : (m : Int).tmod 10 = ((m % 10 : Nat) : Int) := by rw [Int.tmod_eq_emod_of_nonneg (by omega)]; omega
      have e2 : (m : Int).tdiv 10 = ((m / 10 : Nat) : Int) := by rw [Int.tdiv_eq_ediv_of_nonneg (by omega)]; omega
      obtain ⟨d, hdd⟩ : ∃ d, d = m % 10 := ⟨_, rfl⟩
      obtain ⟨r, hr⟩ : ∃ r, r = m / 10 := ⟨_, rfl⟩
      rw [← hdd] at e1
      rw [← hr] at e2
      have hd9 : d < 10 := by omega
      have c2 : decide ((d : Int) < 0) = false := decide_eq_false (by omega)
      have hsz : ¬ 9223372036854775807 < (Utf8.encode (48 + (d : Int))).size + (ba out).size := by
        have h1 := decL_len 20 n
        rw [hd, List.length_append] at h1
        rw [enc_digit d hd9, ba_size, ba_size]
        simp
        omega
      have HD := Lib.hid hd
      have HE := Lib.hid (And.intro hdd hr)
      have HZ := Lib.hid h0
      have HM := Lib.hid hm
      clear hd hdd hr h0 hm
      go_wp2
      have hw : wrap64 (r : Int) = r := by have := HM.out; have := HE.out.2; unfold wrap64; omega
      have hz := HZ.out
      have hm := HM.out
      obtain ⟨e3, e4⟩ := HE.out
      have hs : decL 20 m = if r = 0 then [(48 + d).toUInt8] else decL 20 r ++ [(48 + d).toUInt8] := by
        rw [decL]
        by_cases h10 : m < 10
        · rw [if_pos h10, if_pos (by omega), show d = m by omega]
        · rw [if_neg h10, if_neg (by omega), ← e3, ← e4, decL_more 19 20 r (by omega) (by omega) (by omega)]
      refine ⟨⟨r, (48 + d).toUInt8 :: out, by omega, by rw [hw], by rw [enc_digit d hd9, ba_append]; rfl, ?_⟩, ?_⟩
      · rw [HD.out, hs]
        by_cases hr0 : r = 0
        · rw [if_pos hr0, if_pos hr0]; rfl
        · rw [if_neg hr0, if_neg hr0]; simp
      · rw [hw]; simp [intOf]; omega

end Go.Proofs.YtlphglmjfklndaaDoor
