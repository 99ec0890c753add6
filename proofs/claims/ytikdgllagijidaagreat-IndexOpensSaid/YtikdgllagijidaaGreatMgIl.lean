/- Numbers, texts, labels out of bytes. -/
import Derived.Test.YtikdgllagijidaaGreatMgIi
namespace Go.Proofs.YtikdgllagijidaaGreat
open Go Go.Mg
set_option linter.unusedVariables false
set_option linter.unusedSimpArgs false

/-! ### Bits -/
theorem or64 {a b : Nat} (ha : a < 2 ^ 64) (hb : b < 2 ^ 64) : ior .u64 (a : Int) (b : Int) = ((a ||| b : Nat) : Int) := by
  unfold ior
  have h := Nat.or_lt_two_pow ha hb
  show IntKind.u64.wrap ((BitVec.ofInt 64 (a : Int) ||| BitVec.ofInt 64 (b : Int)).toNat : Int) = _
  rw [BitVec.toNat_or, BitVec.toNat_ofInt, BitVec.toNat_ofInt]
  rw [show ((a : Int) % ((2 ^ 64 : Nat) : Int)).toNat = a by omega, show ((b : Int) % ((2 ^ 64 : Nat) : Int)).toNat = b by omega]
  exact wrapu64 (by omega) (by omega)
theorem shl64 {a k : Nat} (hk : k ≤ 64) (h : a * 2 ^ k < 2 ^ 64) : ishl .u64 (a : Int) (k : Int) = ((a * 2 ^ k : Nat) : Int) := by
  unfold ishl
  rw [show min ((k : Int)).toNat (IntKind.u64.bits) = k by simp [IntKind.bits]; omega]
  rw [show ((a : Int) * 2 ^ k) = ((a * 2 ^ k : Nat) : Int) by rw [Int.natCast_mul, Int.natCast_pow]; rfl]
  exact wrapu64 (by omega) (by omega)
theorem and7 {c : Nat} (h : c < 256) : iandn .u8 (c : Int) 128 = ((c % 128 : Nat) : Int) := by
  unfold iandn
  show IntKind.u8.wrap ((BitVec.ofInt 8 (c : Int) &&& ~~~ BitVec.ofInt 8 128).toNat : Int) = _
  rw [show (~~~ BitVec.ofInt 8 128) = 127#8 by rfl, BitVec.toNat_and, BitVec.toNat_ofInt]
  rw [show ((c : Int) % ((2 ^ 8 : Nat) : Int)).toNat = c by omega, show (127#8).toNat = 2 ^ 7 - 1 by rfl, Nat.and_two_pow_sub_one_eq_mod]
  exact u8_low (by omega)
theorem and8 {c : Nat} (h : c < 256) : (iand .u8 (c : Int) 128 != 0) = decide (128 ≤ c) := by
  unfold iand
  show (IntKind.u8.wrap ((BitVec.ofInt 8 (c : Int) &&& BitVec.ofInt 8 128).toNat : Int) != 0) = _
  rw [BitVec.toNat_and, BitVec.toNat_ofInt]
  rw [show ((c : Int) % ((2 ^ 8 : Nat) : Int)).toNat = c by omega, show (BitVec.ofInt 8 128).toNat = 2 ^ 7 by rfl]
  have ht : c.testBit 7 = decide (128 ≤ c) := by
    rw [Nat.testBit_eq_decide_div_mod_eq]
    exact decide_eq_decide.2 (by omega)
  have he : c &&& 2 ^ 7 = if 128 ≤ c then 2 ^ 7 else 0 := by
    refine Nat.eq_of_testBit_eq fun i => ?_
    rw [Nat.testBit_and, Nat.testBit_two_pow]
    by_cases h7 : 7 = i
    · subst h7
      rw [ht]
      by_cases h1 : 128 ≤ c
      · rw [if_pos h1, decide_eq_true h1]; decide
      · rw [if_neg h1, decide_eq_false h1]; simp
    · rw [decide_eq_false h7, Bool.and_false]
      by_cases h1 : 128 ≤ c
      · rw [if_pos h1, Nat.testBit_two_pow, decide_eq_false h7]
      · rw [if_neg h1]; simp
  rw [he]
  by_cases h1 : 128 ≤ c
  · rw [decide_eq_true h1, if_pos h1]; rfl
  · rw [decide_eq_false h1, if_neg h1]; rfl
theorem or_add {acc c i : Nat} (h : acc < 128 ^ i) : acc ||| (c * 2 ^ (7 * i)) = acc + 128 ^ i * c := by
  have hp : 128 ^ i = 2 ^ (7 * i) := by rw [Nat.pow_mul]
  rw [hp] at h ⊢
  rw [Nat.mul_comm c, Nat.or_comm, ← Nat.two_pow_add_eq_or_of_lt h c, Nat.add_comm]

/-! ### How many bytes a number has -/
theorem bitLen_pos {n : Nat} (h : n ≠ 0) : ∀ f, n < 2 ^ f → 2 ^ (Lib.bitLenAux f n - 1) ≤ n ∧ n < 2 ^ (Lib.bitLenAux f n) ∧ 1 ≤ Lib.bitLenAux f n ∧ Lib.bitLenAux f n ≤ f := by
  intro f
  induction f generalizing n with
  | zero => intro h2; omega
  | succ f ih =>
    intro h2
    unfold Lib.bitLenAux
    rw [if_neg h]
    by_cases h3 : n / 2 = 0
    · have h1 : n = 1 := by omega
      subst h1
      have : Lib.bitLenAux f (1 / 2) = 0 := by cases f <;> rfl
      rw [this]
      exact ⟨by decide, by decide, by omega, by omega⟩
    · obtain ⟨a, b, c, d⟩ := ih h3 (by rw [Nat.pow_succ] at h2; omega)
      obtain ⟨k, hk⟩ : ∃ k, Lib.bitLenAux f (n / 2) = k + 1 := ⟨_, (Nat.sub_add_cancel c).symm⟩
      rw [hk] at a b d ⊢
      rw [Nat.add_sub_cancel] at a
      rw [show 1 + (k + 1) - 1 = k + 1 by omega, show 1 + (k + 1) = k + 1 + 1 by omega, Nat.pow_succ 2 (k + 1)]
      rw [Nat.pow_succ] at b ⊢
      exact ⟨by omega, by omega, by omega, by omega⟩
/-- A number of some bytes: what the code reckons is how many. -/
theorem bytes_many {n i : Nat} (hn : n < 2 ^ 64) (hlo : i = 0 ∨ 128 ^ i ≤ n) (hhi : n < 128 ^ (i + 1)) :
    (if (1 : Int) < Int.tdiv ((Lib.bitLen n : Int) + 7 - 1) 7 then Int.tdiv ((Lib.bitLen n : Int) + 7 - 1) 7 else 1) = ((i + 1 : Nat) : Int) := by
  have htd : Int.tdiv ((Lib.bitLen n : Int) + 7 - 1) 7 = (((Lib.bitLen n + 6) / 7 : Nat) : Int) := by
    rw [Int.tdiv_eq_ediv_of_nonneg (by omega)]; omega
  rw [htd]
  by_cases h0 : n = 0
  · subst h0
    rcases hlo with rfl | h
    · rfl
    · have := Nat.pow_pos (n := i) (show 0 < 128 by decide); omega
  · obtain ⟨a, b, c, d⟩ := bitLen_pos h0 64 hn
    have e : Lib.bitLen n = Lib.bitLenAux 64 n := rfl
    rw [e]
    generalize Lib.bitLenAux 64 n = L at a b c d
    have p1 : (128 : Nat) ^ (i + 1) = 2 ^ (7 * (i + 1)) := by rw [Nat.pow_mul]
    have p2 : (128 : Nat) ^ i = 2 ^ (7 * i) := by rw [Nat.pow_mul]
    have u1 : L - 1 < 7 * (i + 1) := (Nat.pow_lt_pow_iff_right (a := 2) (by decide)).1 (by rw [← p1]; omega)
    have u2 : i = 0 ∨ 7 * i < L := by
      rcases hlo with h | h
      · exact .inl h
      · exact .inr ((Nat.pow_lt_pow_iff_right (a := 2) (by decide)).1 (by rw [← p2]; omega))
    have : (L + 6) / 7 = i + 1 := by
      rcases u2 with h | h
      · subst h; omega
      · omega
    rw [this]
    by_cases hi : i = 0
    · subst hi; rfl
    · rw [if_pos (by omega)]
theorem len64_eq {n : Nat} (h : n < 2 ^ 64) : math_bits_Len64 (n : Int) = some ((Lib.bitLen n : Nat) : Int) := by
  unfold math_bits_Len64
  rw [if_pos ⟨by omega, by omega⟩]; rfl
theorem bitLen_le {n : Nat} (h : n < 2 ^ 64) : Lib.bitLen n ≤ 64 := by
  by_cases h0 : n = 0
  · subst h0; decide
  · exact (bitLen_pos h0 64 h).2.2.2

/-- A number is taken. -/
theorem num_loop (rest : List Int) (bad : Bool) (b : List Int) : ∀ (m i acc : Nat) (pre : List Int), b = pre ++ vint m ++ rest → pre.length = i → acc < 128 ^ i → m * 128 ^ i + acc < 2 ^ 64 → (i = 0 ∨ 0 < m) →
    iter (fun s : Int × Int => octs_Taker_Num.b2 ⟨b, bad⟩ s.1 s.2) ((acc : Int), (i : Int)) = some (.inr (((128 ^ i * m + acc : Nat) : Int), some ⟨rest, bad⟩)) := by
  intro m
  induction m using Nat.strongRecOn with
  | _ m ih =>
    intro i acc pre hb hp hacc hlt hpos
    have pow9 : (128 : Nat) ^ 9 = 2 ^ 63 := by decide
    have hi9 : i ≤ 9 := by
      rcases hpos with h | h
      · omega
      · rcases Nat.lt_or_ge 9 i with h2 | h2
        · have := Nat.pow_le_pow_right (show 0 < 128 by decide) (show 10 ≤ i from h2)
          have h3 := Nat.le_mul_of_pos_left (128 ^ i) h
          have : (128 : Nat) ^ 10 = 2 ^ 70 := by decide
          omega
        · exact h2
    by_cases hm : m < 128
    · rw [vint_low hm] at hb
      have hat : at_ b (i : Int) = some (m : Int) := by
        rw [hb, List.append_assoc]; exact at_app (by rw [hp])
      have hlen : b.length = i + 1 + rest.length := by rw [hb]; simp; omega
      have h91 : i = 9 → m ≤ 1 := by
        intro h; subst h; rw [pow9] at hlt; omega
      have hc : (bif ((i : Int) == 10) then some true else (bif ((i : Int) == 9) then some (decide ((1 : Int) < (m : Int))) else some false)) = some false := by
        rw [beqF (by omega)]
        rw [cond_false]
        by_cases h9 : i = 9
        · have := h91 h9
          rw [show ((i : Int) == 9) = true by simp; omega, cond_true, decide_eq_false (by omega)]
        · rw [beqF (by omega), cond_false]
      have hle : m * 2 ^ (7 * i) = 128 ^ i * m := by rw [show (128 : Nat) ^ i = 2 ^ (7 * i) by rw [Nat.pow_mul], Nat.mul_comm]
      have hml : 128 ^ i * m + acc < 2 ^ 64 := by rw [Nat.mul_comm]; exact hlt
      refine iter_end ?_
      unfold octs_Taker_Num.b2
      dsimp only
      rw [decide_eq_true (by omega), cond_true, hat, Option.bind_some, hc, Option.bind_some, cond_false]
      simp only [Option.bind_some, Sum.elim_inl, pur_eq]
      rw [and7 (by omega), Nat.mod_eq_of_lt hm, wu64 (by omega), wrap64 (x := 7 * (i : Int)) (by omega) (by omega), show (7 : Int) * (i : Int) = ((7 * i : Nat) : Int) by omega, shl64 (by omega) (by omega)]
      rw [show pos_ ((7 * i : Nat) : Int) ((m * 2 ^ (7 * i) : Nat) : Int) = some ((m * 2 ^ (7 * i) : Nat) : Int) by unfold pos_; rw [if_pos (by omega)], Option.bind_some]
      rw [or64 (by omega) (by omega), or_add hacc, and8 (by omega), decide_eq_false (by omega), cond_false, len64_eq (by omega), Option.bind_some]
      have hbl := bitLen_le (n := acc + 128 ^ i * m) (by omega)
      rw [wrap64 (x := (i : Int) + 1) (by omega) (by omega), wrap64 (x := ((Lib.bitLen (acc + 128 ^ i * m) : Nat) : Int) + 7) (by omega) (by omega), wrap64 (x := ((Lib.bitLen (acc + 128 ^ i * m) : Nat) : Int) + 7 - 1) (by omega) (by omega)]
      have htd : Int.tdiv ((Lib.bitLen (acc + 128 ^ i * m) : Int) + 7 - 1) 7 = (((Lib.bitLen (acc + 128 ^ i * m) + 6) / 7 : Nat) : Int) := by
        rw [Int.tdiv_eq_ediv_of_nonneg (by omega)]; omega
      rw [wrap64 (x := Int.tdiv _ _) (by rw [htd]; omega) (by rw [htd]; omega), bytes_many (i := i) (by omega) ?_ ?_]
      · rw [show (((i : Int) + 1) != ((i + 1 : Nat) : Int)) = false by simp, cond_false]
        rw [show ((i : Int) + 1) = ((i + 1 : Nat) : Int) by omega, from_nat (by omega), Option.bind_some]
        have hd : b.drop (i + 1) = rest := by
          rw [hb, List.drop_append_of_le_length (by simp; omega), List.drop_eq_nil_of_le (by simp; omega)]; rfl
        rw [hd, Nat.add_comm acc]
        rfl
      · rcases hpos with h | h
        · exact .inl h
        · refine .inr ?_
          have := Nat.le_mul_of_pos_right (128 ^ i) h
          omega
      · rw [Nat.pow_succ]
        have : 128 ^ i * m ≤ 128 ^ i * 127 := Nat.mul_le_mul_left _ (by omega)
        omega
    · rw [vint_high hm] at hb
      have hat : at_ b (i : Int) = some ((m % 128 + 128 : Nat) : Int) := by
        rw [hb, List.append_assoc]; exact at_app (by rw [hp])
      have hlen : i < b.length := by rw [hb]; simp; omega
      have hi8 : i ≤ 8 := by
        rcases Nat.lt_or_ge 8 i with h2 | h2
        · have h9 : i = 9 := by omega
          subst h9
          rw [pow9] at hlt
          omega
        · exact h2
      have hc : (bif ((i : Int) == 10) then some true else (bif ((i : Int) == 9) then some (decide ((1 : Int) < ((m % 128 + 128 : Nat) : Int))) else some false)) = some false := by
        rw [beqF (by omega), cond_false, beqF (by omega), cond_false]
      have hmod : 128 ^ i * (m % 128) ≤ 128 ^ i * m := Nat.mul_le_mul_left _ (Nat.mod_le _ _)
      have hml : 128 ^ i * m + acc < 2 ^ 64 := by rw [Nat.mul_comm]; exact hlt
      have hle : m % 128 * 2 ^ (7 * i) = 128 ^ i * (m % 128) := by rw [show (128 : Nat) ^ i = 2 ^ (7 * i) by rw [Nat.pow_mul], Nat.mul_comm]
      have hstep : octs_Taker_Num.b2 ⟨b, bad⟩ (acc : Int) (i : Int) = some (.inl (((acc + 128 ^ i * (m % 128) : Nat) : Int), ((i + 1 : Nat) : Int))) := by
        unfold octs_Taker_Num.b2
        dsimp only
        rw [decide_eq_true (by omega), cond_true, hat, Option.bind_some, hc, Option.bind_some, cond_false]
        simp only [Option.bind_some, Sum.elim_inl, pur_eq]
        rw [and7 (by omega), show (m % 128 + 128) % 128 = m % 128 by omega, wu64 (by omega), wrap64 (x := 7 * (i : Int)) (by omega) (by omega), show (7 : Int) * (i : Int) = ((7 * i : Nat) : Int) by omega, shl64 (by omega) (by omega)]
        rw [show pos_ ((7 * i : Nat) : Int) ((m % 128 * 2 ^ (7 * i) : Nat) : Int) = some ((m % 128 * 2 ^ (7 * i) : Nat) : Int) by unfold pos_; rw [if_pos (by omega)], Option.bind_some]
        rw [or64 (by omega) (by omega), or_add hacc, and8 (by omega), decide_eq_true (by omega), cond_true]
        simp only [Option.bind_some, Sum.elim_inl]
        rw [wrap64 (by omega) (by omega)]; rfl
      have hdm : 128 * (m / 128) + m % 128 = m := Nat.div_add_mod m 128
      have e2 : 128 ^ (i + 1) * (m / 128) + (acc + 128 ^ i * (m % 128)) = 128 ^ i * m + acc := by
        rw [Nat.pow_succ, Nat.mul_assoc]
        have := Nat.mul_add (128 ^ i) (128 * (m / 128)) (m % 128)
        rw [hdm] at this
        omega
      rw [iter_next hstep, ih (m / 128) (by omega) (i + 1) (acc + 128 ^ i * (m % 128)) (pre ++ [((m % 128 + 128 : Nat) : Int)]) (by rw [hb]; simp) (by simp; omega) ?_ ?_ (.inr (by omega)), e2]
      · rw [Nat.pow_succ]
        have : 128 ^ i * (m % 128) ≤ 128 ^ i * 127 := Nat.mul_le_mul_left _ (by omega)
        omega
      · rw [Nat.mul_comm, e2]; exact hml
theorem num_vint {n : Nat} (rest : List Int) (bad : Bool) (hn : n < 2 ^ 64) : octs_Taker_Num (some ⟨vint n ++ rest, bad⟩) = some ((n : Int), some ⟨rest, bad⟩) := by
  unfold octs_Taker_Num
  have := num_loop rest bad (vint n ++ rest) n 0 0 [] (by simp) rfl (by decide) (by simpa using hn) (.inl rfl)
  rw [show (some (⟨vint n ++ rest, bad⟩ : octs_Taker)).isNone = false from rfl, cond_false, Option.bind_some]
  rw [show (((0 : Nat) : Int), ((0 : Nat) : Int)) = ((0 : Int), (0 : Int)) from rfl] at this
  rw [this]
  simp

/-- A text is taken. -/
theorem text_enc {s : ByteArray} (rest : List Int) (bad : Bool) (hs : s.size < 1000) (hr : rest.length < 1000000) : octs_Taker_Text (some ⟨encT s ++ rest, bad⟩) = some (s, some ⟨rest, bad⟩) := by
  unfold octs_Taker_Text encT
  rw [List.append_assoc, num_vint _ _ (by omega), Option.bind_some]
  simp only [Option.isNone_some, cond_false, Option.bind_some, pur_eq]
  have hl := strB_length s
  rw [wu64 (by simp; omega), decide_eq_false (by simp; omega), cond_false, upto_nat (by simp; omega), Option.bind_some, from_nat (by simp; omega), Option.bind_some]
  rw [List.take_append_of_le_length (by omega), List.take_of_length_le (by omega), List.drop_append_of_le_length (by omega), List.drop_eq_nil_of_le (by omega), strOf_strB]
  rfl
end Go.Proofs.YtikdgllagijidaaGreat
