/- The plain law of answers as text: the program's text and the document's are one. -/
import Derived.Test.YtbkkobbjmhgkjaaDoorW0
import Derived.Test.YtbkkobbjmhgkjaaDoorMgP
import Derived.Lib.Join
import Derived.Lib.ItoaNum
namespace Go.Proofs.YtbkkobbjmhgkjaaDoor
open Go Go.Mg
set_option linter.unusedVariables false
set_option linter.unusedSimpArgs false

def ba (l : List UInt8) : ByteArray := ⟨l.toArray⟩
theorem ba_size (l : List UInt8) : (ba l).size = l.length := by simp [ba, ByteArray.size]
theorem ba_append (a b : List UInt8) : ba a ++ ba b = ba (a ++ b) := by
  apply ByteArray.ext
  simp [ba, ByteArray.data_append]
theorem ba_of (s : ByteArray) : ba s.data.toList = s := by cases s; simp [ba]
theorem ba_nil : ByteArray.empty = ba [] := rfl
theorem sadd_ba {a b : List UInt8} (h : a.length + b.length ≤ 9223372036854775807) : sadd_ (ba a) (ba b) = some (ba (a ++ b)) := by
  unfold sadd_
  rw [ba_size, ba_size, if_pos h, ba_append]
theorem bw_ba {a b : List UInt8} (h : a.length + b.length ≤ 140737488355328) : bw_ (ba a) (ba b) = some (ba (a ++ b)) := by
  unfold bw_
  rw [ba_size, ba_size, if_pos h, ba_append]
theorem lit44 : ByteArray.mk #[44] = ba [44] := rfl
theorem lit61 : ByteArray.mk #[61] = ba [61] := rfl
theorem lit32 : ByteArray.mk #[32] = ba [32] := rfl
theorem lit10 : ByteArray.mk #[10] = ba [10] := rfl
theorem lit58 : ByteArray.mk #[58] = ba [58] := rfl
theorem lit45 : ByteArray.mk #[45] = ba [45] := rfl

/-! ### Numbers as text -/
theorem dec_step {n : Nat} (h : ¬ n < 10) : Lib.decDigits n = Lib.decDigits (n / 10) ++ [UInt8.ofNat (48 + n % 10)] := by rw [Lib.decDigits, dif_neg h]
theorem dec_one {n : Nat} (h : n < 10) : Lib.decDigits n = [UInt8.ofNat (48 + n)] := by rw [Lib.decDigits, dif_pos h]
theorem dec_len (n : Nat) : (Lib.decDigits n).length ≤ n + 1 := by
  induction n using Nat.strongRecOn with
  | _ n ih =>
    by_cases h : n < 10
    · rw [dec_one h]; simp
    · rw [dec_step h, List.length_append]
      have := ih (n / 10) (by omega)
      simp only [List.length_singleton]
      omega
theorem digits_nat : ∀ (k n : Nat), n < 10 ^ k → n ≤ 9223372036854775807 → 0 < k → marigraphref16_Digits k (n : Int) = some (ba (Lib.decDigits n)) := by
  intro k
  induction k with
  | zero => intro n _ _ h; omega
  | succ k ih =>
    intro n hn hm _
    rw [marigraphref16_Digits]
    rw [decide_eq_false (by omega), cond_false, decide_eq_false (by omega), cond_false]
    by_cases h : n < 10
    · rw [decide_eq_false (by omega), cond_false, pur_eq, pur_eq, wrap64 (by omega) (by omega), dec_one h]
      have h1 : IntKind.u8.wrap (48 + (n : Int)) = ((48 + n : Nat) : Int) := by
        simp only [IntKind.wrap, IntKind.signed, IntKind.bits]
        first | (simp; omega) | omega
      rw [h1]
      rfl
    · have hk : 0 < k := by
        rcases Nat.eq_zero_or_pos k with rfl | h2
        · simp at hn; omega
        · exact h2
      have hk1 : 10 ≤ 10 ^ k := by
        obtain ⟨j, rfl⟩ : ∃ j, k = j + 1 := ⟨k - 1, by omega⟩
        have := Nat.pow_pos (n := j) (show 0 < 10 by decide)
        rw [Nat.pow_succ]; omega
      have hd : n / 10 < 10 ^ k := by rw [Nat.pow_succ] at hn; omega
      rw [decide_eq_true (by omega), cond_true, pur_eq, show Int.tdiv (n : Int) 10 = ((n / 10 : Nat) : Int) from (Int.ofNat_tdiv n 10).symm, wrap64 (by omega) (by omega), ih _ hd (by omega) hk, Option.bind_some, pur_eq,
        show Int.tmod (n : Int) 10 = ((n % 10 : Nat) : Int) from (Int.ofNat_tmod n 10).symm, ih _ (by omega) (by omega) hk, Option.bind_some, dec_one (show n % 10 < 10 by omega)]
      have := dec_len (n / 10)
      rw [sadd_ba (by simp only [List.length_singleton]; omega), Option.bind_some, ← dec_step h]
theorem itoa_nat (n : Nat) : Lib.itoa (n : Int) = Lib.decDigits n := by unfold Lib.itoa; rw [if_neg (by omega)]; simp
theorem itoa_neg (n : Nat) (h : 1 ≤ n) : Lib.itoa (-(n : Int)) = 45 :: Lib.decDigits n := by unfold Lib.itoa; rw [if_pos (by omega)]; simp
theorem digits_eq {x : Int} (h1 : -9223372036854775808 ≤ x) (h2 : x ≤ 9223372036854775807) : marigraphref16_Digits 64 x = some (ba (Lib.itoa x)) := by
  rcases Int.lt_or_le x 0 with h | h
  · obtain ⟨n, rfl⟩ : ∃ n : Nat, x = -(n : Int) := ⟨x.natAbs, by omega⟩
    have hn : n ≤ 9223372036854775808 := by omega
    rw [itoa_neg n (by omega), show (64 : Nat) = 63 + 1 from rfl, marigraphref16_Digits]
    by_cases h9 : n < 10
    · rw [decide_eq_false (by omega), cond_false, decide_eq_true (by omega), cond_true, pur_eq, show (0 : Int) - -(n : Int) = (n : Int) by omega, wrap64 (by omega) (by omega), digits_nat 63 n (by omega) (by omega) (by decide), Option.bind_some, lit45,
        sadd_ba (by have := dec_len n; simp only [List.length_singleton]; omega), Option.bind_some]
      rfl
    · have e1 : IntKind.i64.wrap (0 - IntKind.i64.wrap (Int.tdiv (-(n : Int)) 10)) = ((n / 10 : Nat) : Int) := by
        rw [Int.neg_tdiv, show Int.tdiv (n : Int) 10 = ((n / 10 : Nat) : Int) from (Int.ofNat_tdiv n 10).symm, wrap64 (x := -((n / 10 : Nat) : Int)) (by omega) (by omega), show (0 : Int) - -((n / 10 : Nat) : Int) = ((n / 10 : Nat) : Int) by omega, wrap64 (by omega) (by omega)]
      have e2 : IntKind.i64.wrap (0 - Int.tmod (-(n : Int)) 10) = ((n % 10 : Nat) : Int) := by
        rw [Int.neg_tmod, show Int.tmod (n : Int) 10 = ((n % 10 : Nat) : Int) from (Int.ofNat_tmod n 10).symm, show (0 : Int) - -((n % 10 : Nat) : Int) = ((n % 10 : Nat) : Int) by omega, wrap64 (by omega) (by omega)]
      rw [decide_eq_true (by omega), cond_true, pur_eq, pur_eq, e1, digits_nat 63 (n / 10) (by omega) (by omega) (by decide), Option.bind_some, lit45]
      have := dec_len (n / 10)
      rw [sadd_ba (by simp only [List.length_singleton]; omega), Option.bind_some, pur_eq, pur_eq, e2, digits_nat 63 (n % 10) (by omega) (by omega) (by decide), Option.bind_some, dec_one (show n % 10 < 10 by omega),
        sadd_ba (by simp only [List.length_append, List.length_singleton]; omega), Option.bind_some, dec_step (n := n) h9]
      rfl
  · obtain ⟨n, rfl⟩ : ∃ n : Nat, x = (n : Int) := ⟨x.toNat, by omega⟩
    rw [itoa_nat, digits_nat 64 n (by omega) (by omega) (by decide)]
theorem itoa_eq {x : Int} (h1 : -9223372036854775808 ≤ x) (h2 : x ≤ 9223372036854775807) : strconv_Itoa x = some (ba (Lib.itoa x)) := by
  unfold strconv_Itoa itoa_
  rw [if_pos ⟨h1, h2⟩]
  rfl
end Go.Proofs.YtbkkobbjmhgkjaaDoor
