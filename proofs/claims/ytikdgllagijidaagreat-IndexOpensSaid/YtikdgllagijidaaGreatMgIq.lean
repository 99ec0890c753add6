/- Numbers and texts out of any bytes: ours and the document's are alike. -/
import Derived.Test.YtikdgllagijidaaGreatMgIl
import Derived.Test.YtikdgllagijidaaGreatMgIo
namespace Go.Proofs.YtikdgllagijidaaGreat
open Go Go.Mg
set_option linter.unusedVariables false
set_option linter.unusedSimpArgs false

/-! ### What a number is, told byte by byte -/
def dec : Nat → Nat → List Int → Option (Nat × List Int)
  | _, _, [] => none
  | i, acc, c :: s => if i = 10 ∨ i = 9 ∧ 1 < c then none else if 128 ≤ c then dec (i + 1) (acc + 128 ^ i * (c.toNat % 128)) s else if i = 0 ∨ 1 ≤ c then some (acc + 128 ^ i * c.toNat, s) else none
/-- The number that bytes begin with, and the bytes behind. -/
def numS (b : List Int) : Option (Nat × List Int) := dec 0 0 b

theorem pow9 : (128 : Nat) ^ 9 = 9223372036854775808 := by decide
theorem pow_le9 {i : Nat} (h : i ≤ 9) : (128 : Nat) ^ i ≤ 9223372036854775808 := by rw [← pow9]; exact Nat.pow_le_pow_right (by decide) h
theorem pow_le8 {i : Nat} (h : i ≤ 8) : (128 : Nat) ^ i ≤ 72057594037927936 := by
  rw [show (72057594037927936 : Nat) = 128 ^ 8 by decide]; exact Nat.pow_le_pow_right (by decide) h
theorem acc_next {acc i m : Nat} (h : acc < 128 ^ i) (hm : m < 128) : acc + 128 ^ i * m < 128 ^ (i + 1) := by
  rw [Nat.pow_succ]
  have : 128 ^ i * m ≤ 128 ^ i * 127 := Nat.mul_le_mul_left _ (by omega)
  omega
/-- The bound on what is told so far: below 2^64. -/
theorem acc_lt {acc i m : Nat} (h : acc < 128 ^ i) (hi : i ≤ 9) (hm : m < 128) (h9 : i = 9 → m ≤ 1) : acc + 128 ^ i * m < 2 ^ 64 := by
  by_cases h1 : i = 9
  · subst h1
    have := h9 rfl
    rw [pow9] at h ⊢
    have : 9223372036854775808 * m ≤ 9223372036854775808 * 1 := Nat.mul_le_mul_left _ this
    omega
  · have h2 := acc_next h hm
    have h3 := pow_le9 (i := i + 1) (by omega)
    omega

theorem dec_form : ∀ (suf : List Int) (i acc n : Nat) (s : List Int), Byt suf → dec i acc suf = some (n, s) → acc < 128 ^ i → i ≤ 10 →
    ∃ m, suf = vint m ++ s ∧ n = acc + 128 ^ i * m ∧ (i = 0 ∨ 1 ≤ m) ∧ n < 2 ^ 64 ∧ i ≤ 9
  | [], _, _, _, _, _, h, _, _ => by simp [dec] at h
  | c :: suf, i, acc, n, s, hb, h, hacc, hi10 => by
    have hc := hb c (by simp)
    have hb2 : Byt suf := fun x hx => hb x (by simp [hx])
    unfold dec at h
    split at h
    · cases h
    · rename_i h1
      have hi9 : i ≤ 9 := by omega
      have h91 : i = 9 → c ≤ 1 := by omega
      split at h
      · rename_i h2
        have hi8 : i ≤ 8 := by omega
        obtain ⟨m, e1, e2, e3, e4, e5⟩ := dec_form suf (i + 1) _ n s hb2 h (acc_next hacc (Nat.mod_lt _ (by decide))) (by omega)
        have hm : 1 ≤ m := by omega
        refine ⟨c.toNat % 128 + 128 * m, ?_, ?_, .inr (by omega), e4, hi9⟩
        · rw [vint_high (by omega), show (c.toNat % 128 + 128 * m) / 128 = m by omega, e1]
          rw [List.cons_append]
          congr 1
          omega
        · rw [e2, Nat.pow_succ, Nat.mul_add, Nat.mul_assoc]; omega
      · rename_i h2
        split at h
        · rename_i h3
          cases h
          refine ⟨c.toNat, ?_, rfl, by omega, acc_lt hacc hi9 (by omega) (fun h => by have := h91 h; omega), hi9⟩
          rw [vint_low (by omega), List.cons_append, List.nil_append]
          congr 1
          omega
        · cases h
theorem numS_form {b s : List Int} {n : Nat} (hb : Byt b) (h : numS b = some (n, s)) : b = vint n ++ s ∧ n < 2 ^ 64 := by
  obtain ⟨m, e1, e2, _, e4, _⟩ := dec_form b 0 0 n s hb h (by decide) (by decide)
  simp at e2
  subst e2
  exact ⟨e1, e4⟩
theorem dec_vint (s : List Int) : ∀ (m i acc : Nat), m * 128 ^ i + acc < 2 ^ 64 → acc < 128 ^ i → (i = 0 ∨ 0 < m) → dec i acc (vint m ++ s) = some (128 ^ i * m + acc, s) := by
  intro m
  induction m using Nat.strongRecOn with
  | _ m ih =>
    intro i acc hlt hacc hpos
    have hi9 : i ≤ 9 := by
      rcases hpos with h | h
      · omega
      · rcases Nat.lt_or_ge 9 i with h2 | h2
        · have := Nat.pow_le_pow_right (show 0 < 128 by decide) (show 10 ≤ i from h2)
          have h3 := Nat.le_mul_of_pos_left (128 ^ i) h
          have : (128 : Nat) ^ 10 = 2 ^ 70 := by decide
          omega
        · exact h2
    by_cases hm : m < 128
    · rw [vint_low hm, List.cons_append, List.nil_append]
      unfold dec
      have h91 : i = 9 → m ≤ 1 := by
        intro h; subst h; rw [pow9] at hlt; omega
      rw [if_neg (by omega), if_neg (by omega), if_pos (by omega)]
      congr 2
      simp; omega
    · rw [vint_high hm, List.cons_append]
      unfold dec
      have hi8 : i ≤ 8 := by
        rcases Nat.lt_or_ge 8 i with h2 | h2
        · have h9 : i = 9 := by omega
          subst h9
          rw [pow9] at hlt
          omega
        · exact h2
      have hdm : 128 * (m / 128) + m % 128 = m := Nat.div_add_mod m 128
      have e2 : 128 ^ (i + 1) * (m / 128) + (acc + 128 ^ i * (m % 128)) = 128 ^ i * m + acc := by
        rw [Nat.pow_succ, Nat.mul_assoc]
        have := Nat.mul_add (128 ^ i) (128 * (m / 128)) (m % 128)
        rw [hdm] at this
        omega
      rw [if_neg (by omega), if_pos (by omega), show (((m % 128 + 128 : Nat) : Int).toNat % 128) = m % 128 by omega, ih (m / 128) (by omega) (i + 1) _ ?_ (acc_next hacc (Nat.mod_lt _ (by decide))) (.inr (by omega)), e2]
      rw [Nat.mul_comm, e2, Nat.mul_comm]; exact hlt
theorem numS_vint {n : Nat} (s : List Int) (hn : n < 2 ^ 64) : numS (vint n ++ s) = some (n, s) := by
  unfold numS
  rw [dec_vint s n 0 0 (by simpa using hn) (by decide) (.inl rfl)]
  simp

/-! ### Ours -/
theorem bytes_few {n i : Nat} (hn : n < 128 ^ i) (hi : 1 ≤ i) (h64 : n < 2 ^ 64) :
    ((((i + 1 : Nat) : Int)) != (if (1 : Int) < Int.tdiv ((Lib.bitLen n : Int) + 7 - 1) 7 then Int.tdiv ((Lib.bitLen n : Int) + 7 - 1) 7 else 1)) = true := by
  have htd : Int.tdiv ((Lib.bitLen n : Int) + 7 - 1) 7 = (((Lib.bitLen n + 6) / 7 : Nat) : Int) := by
    rw [Int.tdiv_eq_ediv_of_nonneg (by omega)]; omega
  rw [htd]
  have hL : Lib.bitLen n ≤ 7 * i := by
    by_cases h0 : n = 0
    · subst h0; have : Lib.bitLen 0 = 0 := by decide
      omega
    · obtain ⟨a, b, c, d⟩ := bitLen_pos h0 64 h64
      have e : Lib.bitLen n = Lib.bitLenAux 64 n := rfl
      rw [e]
      generalize Lib.bitLenAux 64 n = L at a b c d
      have p2 : (128 : Nat) ^ i = 2 ^ (7 * i) := by rw [Nat.pow_mul]
      have u1 : L - 1 < 7 * i := (Nat.pow_lt_pow_iff_right (a := 2) (by decide)).1 (by rw [← p2]; omega)
      omega
  rw [bne_dec, Bool.not_eq_true', decide_eq_false_iff_not]
  split <;> omega
theorem octs_step {b : List Int} {bad : Bool} {i acc : Nat} {c : Int} (hat : at_ b (i : Int) = some c) (hc : 0 ≤ c ∧ c ≤ 255) (hacc : acc < 128 ^ i) (hi : i ≤ 10) (hl : b.length < 10000000) :
    octs_Taker_Num.b2 ⟨b, bad⟩ (acc : Int) (i : Int) = some (if i = 10 ∨ i = 9 ∧ 1 < c then .inr (.inl ()) else if 128 ≤ c then .inl (((acc + 128 ^ i * (c.toNat % 128) : Nat) : Int), ((i + 1 : Nat) : Int)) else
      if i = 0 ∨ 1 ≤ c then .inr (.inr (((acc + 128 ^ i * c.toNat : Nat) : Int), some ⟨b.drop (i + 1), bad⟩)) else .inr (.inl ())) := by
  obtain ⟨_, hil, _⟩ := at_some hat
  obtain ⟨n, rfl⟩ : ∃ n : Nat, c = (n : Int) := ⟨c.toNat, by omega⟩
  unfold octs_Taker_Num.b2
  dsimp only
  rw [decide_eq_true (by omega), cond_true, hat, Option.bind_some]
  by_cases h10 : i = 10
  · rw [if_pos (.inl h10), show ((i : Int) == 10) = true by simp; omega]
    rfl
  rw [beqF (by omega : ¬ (i : Int) = 10), cond_false]
  by_cases h9 : i = 9 ∧ 1 < (n : Int)
  · rw [if_pos (.inr h9), show ((i : Int) == 9) = true by simp; omega, cond_true, decide_eq_true h9.2]
    rfl
  have hcond : (bif ((i : Int) == 9) then some (decide ((1 : Int) < (n : Int))) else some false) = some false := by
    by_cases h : i = 9
    · rw [show ((i : Int) == 9) = true by simp; omega, cond_true, decide_eq_false (by omega)]
    · rw [beqF (by omega), cond_false]
  have h91 : i = 9 → n ≤ 1 := by omega
  rw [if_neg (by omega), hcond]
  simp only [Option.bind_some, cond_false, Sum.elim_inl, pur_eq]
  have hm128 : n % 128 < 128 := Nat.mod_lt _ (by decide)
  have hlt := acc_lt hacc (by omega) hm128 (fun h => by have := h91 h; omega)
  have hle : n % 128 * 2 ^ (7 * i) = 128 ^ i * (n % 128) := by rw [show (128 : Nat) ^ i = 2 ^ (7 * i) by rw [Nat.pow_mul], Nat.mul_comm]
  rw [and7 (by omega), wu64 (by omega), wrap64 (x := 7 * (i : Int)) (by omega) (by omega), show (7 : Int) * (i : Int) = ((7 * i : Nat) : Int) by omega, shl64 (by omega) (by omega)]
  rw [show pos_ ((7 * i : Nat) : Int) ((n % 128 * 2 ^ (7 * i) : Nat) : Int) = some ((n % 128 * 2 ^ (7 * i) : Nat) : Int) by unfold pos_; rw [if_pos (by omega)], Option.bind_some]
  rw [or64 (by omega) (by omega), or_add hacc, and8 (by omega)]
  by_cases h128 : 128 ≤ n
  · rw [decide_eq_true h128, cond_true, if_pos (by omega)]
    simp only [Option.bind_some, Sum.elim_inl]
    rw [wrap64 (by omega) (by omega)]; rfl
  · have hmod : n % 128 = n := Nat.mod_eq_of_lt (by omega)
    rw [decide_eq_false h128, cond_false, if_neg (by omega), hmod]
    rw [hmod] at hlt
    have hbl := bitLen_le hlt
    rw [len64_eq hlt, Option.bind_some]
    rw [wrap64 (x := (i : Int) + 1) (by omega) (by omega), wrap64 (x := ((Lib.bitLen (acc + 128 ^ i * n) : Nat) : Int) + 7) (by omega) (by omega), wrap64 (x := ((Lib.bitLen (acc + 128 ^ i * n) : Nat) : Int) + 7 - 1) (by omega) (by omega)]
    have htd : Int.tdiv ((Lib.bitLen (acc + 128 ^ i * n) : Int) + 7 - 1) 7 = (((Lib.bitLen (acc + 128 ^ i * n) + 6) / 7 : Nat) : Int) := by
      rw [Int.tdiv_eq_ediv_of_nonneg (by omega)]; omega
    rw [wrap64 (x := Int.tdiv _ _) (by rw [htd]; omega) (by rw [htd]; omega)]
    by_cases hcan : i = 0 ∨ 1 ≤ (n : Int)
    · rw [if_pos hcan, bytes_many (i := i) hlt ?_ (acc_next hacc (by omega))]
      · rw [show (((i : Int) + 1) != ((i + 1 : Nat) : Int)) = false by simp, cond_false]
        rw [show ((i : Int) + 1) = ((i + 1 : Nat) : Int) by omega, from_nat (by omega), Option.bind_some]
        rfl
      · rcases hcan with h | h
        · exact .inl h
        · refine .inr ?_
          have := Nat.le_mul_of_pos_right (128 ^ i) (show 0 < n by omega)
          omega
    · have h0 : n = 0 := by omega
      subst h0
      rw [if_neg hcan]
      rw [show ((i : Int) + 1) = ((i + 1 : Nat) : Int) by omega]
      simp only [Nat.mul_zero, Nat.add_zero]
      rw [bytes_few hacc (by omega) (by have := acc_lt hacc (by omega) (show 0 < 128 by decide) (fun _ => by omega); omega), cond_true]
      rfl
theorem octs_loop (b : List Int) (bad : Bool) (hb : Byt b) (hl : b.length < 10000000) : ∀ (suf pre : List Int) (i acc : Nat), b = pre ++ suf → pre.length = i → acc < 128 ^ i → i ≤ 10 →
    iter (fun s : Int × Int => octs_Taker_Num.b2 ⟨b, bad⟩ s.1 s.2) ((acc : Int), (i : Int)) = some (match dec i acc suf with | none => .inl () | some (n, s) => .inr ((n : Int), some ⟨s, bad⟩)) := by
  intro suf
  induction suf with
  | nil =>
    intro pre i acc h1 h2 h3 h4
    refine iter_end ?_
    have : b.length = i := by rw [h1]; simp [h2]
    unfold octs_Taker_Num.b2 dec
    dsimp only
    rw [decide_eq_false (by omega)]; rfl
  | cons c suf ih =>
    intro pre i acc h1 h2 h3 h4
    have hat : at_ b (i : Int) = some c := by rw [h1]; exact at_app (by rw [h2])
    have hc := hb c (by rw [h1]; simp)
    have hst := octs_step (bad := bad) hat hc h3 h4 hl
    unfold dec
    by_cases q1 : i = 10 ∨ i = 9 ∧ 1 < c
    · rw [if_pos q1] at hst ⊢
      exact iter_end hst
    · rw [if_neg q1] at hst ⊢
      by_cases q2 : 128 ≤ c
      · rw [if_pos q2] at hst ⊢
        rw [iter_next hst, ih (pre ++ [c]) (i + 1) _ (by rw [h1]; simp) (by simp [h2]) (acc_next h3 (Nat.mod_lt _ (by decide))) (by omega)]
      · rw [if_neg q2] at hst ⊢
        by_cases q3 : i = 0 ∨ 1 ≤ c
        · rw [if_pos q3] at hst ⊢
          rw [iter_end hst]
          have hd : b.drop (i + 1) = suf := by
            rw [h1, ← h2]
            simp
          rw [hd]
        · rw [if_neg q3] at hst ⊢
          exact iter_end hst
theorem octs_num {b : List Int} {bad : Bool} (hb : Byt b) (hl : b.length < 10000000) : octs_Taker_Num (some ⟨b, bad⟩) = some (match numS b with | none => (0, some ⟨[], true⟩) | some (n, s) => ((n : Int), some ⟨s, bad⟩)) := by
  unfold octs_Taker_Num numS
  rw [show (some (⟨b, bad⟩ : octs_Taker)).isNone = false from rfl, cond_false, Option.bind_some]
  have := octs_loop b bad hb hl b [] 0 0 rfl rfl (by decide) (by decide)
  rw [show (((0 : Nat) : Int), ((0 : Nat) : Int)) = ((0 : Int), (0 : Int)) from rfl] at this
  rw [this]
  cases dec 0 0 b with
  | none => rfl
  | some q => rfl

/-! ### The document's -/
/-- What a prefix of bytes, each with more behind it, tells; m is what is told behind. -/
def valL : List Int → Nat → Nat
  | [], m => m
  | p :: pre, m => p.toNat % 128 + 128 * valL pre m
theorem valL_pos {m : Nat} (h : 1 ≤ m) : ∀ pre, 1 ≤ valL pre m
  | [] => h
  | p :: pre => by have := valL_pos h pre; unfold valL; omega
theorem valL_add : ∀ (pre : List Int) (m : Nat), valL pre m = valL pre 0 + 128 ^ pre.length * m
  | [], m => by simp [valL]
  | p :: pre, m => by
    unfold valL
    rw [valL_add pre m, List.length_cons, Nat.pow_succ, Nat.mul_add, Nat.mul_right_comm, Nat.mul_comm (128 ^ pre.length * m)]
    rw [Nat.mul_comm 128 (128 ^ pre.length * m)]
    omega
theorem valL_lt : ∀ pre : List Int, valL pre 0 < 128 ^ pre.length
  | [] => by simp [valL]
  | p :: pre => by
    have := valL_lt pre
    unfold valL
    rw [List.length_cons, Nat.pow_succ]; omega
theorem valL_snoc : ∀ (pre : List Int) (c : Int), valL (pre ++ [c]) 0 = valL pre (c.toNat % 128)
  | [], c => by simp [valL]
  | p :: pre, c => by
    rw [List.cons_append]
    unfold valL
    rw [valL_snoc pre c]
theorem vint_valL {m : Nat} : ∀ (pre : List Int), (∀ p ∈ pre, 128 ≤ p ∧ p ≤ 255) → (pre = [] ∨ 1 ≤ m) → vint (valL pre m) = pre ++ vint m
  | [], _, _ => by simp [valL]
  | p :: pre, hp, h => by
    have hm : 1 ≤ m := h.resolve_left (by simp)
    have h1 := valL_pos hm pre
    have h2 := hp p (by simp)
    unfold valL
    rw [vint_high (by omega), show (p.toNat % 128 + 128 * valL pre m) / 128 = valL pre m by omega, vint_valL pre (fun q hq => hp q (by simp [hq])) (.inr hm), List.cons_append]
    congr 1
    omega
theorem vint_short {n k : Nat} (h : n < 128 ^ (k + 1)) : (vint n).length ≤ k + 1 := by
  induction k generalizing n with
  | zero => rw [vint_low (by simpa using h)]; simp
  | succ k ih =>
    by_cases h1 : n < 128
    · rw [vint_low h1]; simp
    · rw [vint_high h1]
      have := ih (n := n / 128) (Nat.div_lt_of_lt_mul (by rw [Nat.mul_comm]; exact h))
      simp; omega
/-- The bytes told so far are the number's own: exactly then. -/
theorem put_same {pre : List Int} {c n : Nat} (hp : ∀ p ∈ pre, 128 ≤ p ∧ p ≤ 255) (hc : c < 128) (hi : pre.length ≤ 9) (hn : n = (valL pre 0 + 128 ^ pre.length * c) % 2 ^ 64) :
    vint n = pre ++ [(c : Int)] ↔ ¬ (pre.length = 9 ∧ 1 < c) ∧ (pre.length = 0 ∨ 1 ≤ c) := by
  have hlt := valL_lt pre
  by_cases h9 : pre.length = 9 ∧ 1 < c
  · constructor
    · intro h
      exfalso
      have hv : n = valL pre (c % 2) := by
        rw [valL_add, h9.1, hn, h9.1, pow9]
        rw [h9.1, pow9] at hlt
        omega
      rcases Nat.mod_two_eq_zero_or_one c with h2 | h2
      · rw [hv, h2] at h
        have hl : (vint (valL pre 0)).length ≤ 9 := vint_short (k := 8) (by have h := hlt; rw [h9.1] at h; exact h)
        rw [h] at hl
        simp [h9.1] at hl
      · rw [hv, h2, vint_valL pre hp (.inr (by omega)), vint_low (by decide)] at h
        have := List.append_cancel_left h
        simp at this
        omega
    · intro h; exact absurd h9 h.1
  · have hb := acc_lt hlt hi hc (fun h => by omega)
    rw [Nat.mod_eq_of_lt hb, ← valL_add] at hn
    by_cases hcan : pre.length = 0 ∨ 1 ≤ c
    · constructor
      · intro _; exact ⟨h9, hcan⟩
      · intro _
        rw [hn, vint_valL pre hp (by rcases hcan with h | h; exact .inl (List.length_eq_zero_iff.1 h); exact .inr h), vint_low hc]
    · constructor
      · intro h
        exfalso
        have h0 : c = 0 := by omega
        subst h0
        obtain ⟨k, hk⟩ : ∃ k, pre.length = k + 1 := ⟨pre.length - 1, by omega⟩
        have hl := vint_short (n := valL pre 0) (k := k) (by rw [← hk]; exact hlt)
        rw [← hn, h] at hl
        simp [hk] at hl
        omega
      · intro h; exact absurd h.2 hcan
theorem ref_step {b pre suf : List Int} {bad : Bool} {i : Nat} {c : Int} (h1 : b = pre ++ c :: suf) (h2 : pre.length = i) (hp : ∀ p ∈ pre, 128 ≤ p ∧ p ≤ 255) (hc : 0 ≤ c ∧ c ≤ 255) (hi : i ≤ 9) (hl : b.length < 10000000) :
    marigraphref01_Taker_Num.b2 ⟨b, bad⟩ (valL pre 0 : Int) ((128 ^ i : Nat) : Int) (i : Int) = some (if 128 ≤ c then .inl (((valL pre 0 + 128 ^ i * (c.toNat % 128)) % 2 ^ 64 : Nat), ((128 ^ (i + 1) % 2 ^ 64 : Nat) : Int), ((i + 1 : Nat) : Int)) else
      if ¬ (i = 9 ∧ 1 < c) ∧ (i = 0 ∨ 1 ≤ c) then .inr (.inr (((valL pre 0 + 128 ^ i * c.toNat : Nat) : Int), ⟨suf, bad⟩)) else .inr (.inl ())) := by
  have hat : at_ b (i : Int) = some c := by rw [h1]; exact at_app (by rw [h2])
  have hbl : b.length = i + (suf.length + 1) := by rw [h1]; simp [h2]
  obtain ⟨n, rfl⟩ : ∃ n : Nat, c = (n : Int) := ⟨c.toNat, by omega⟩
  have hlt := valL_lt pre
  rw [h2] at hlt
  have hp9 := pow_le9 hi
  have hmul : (n % 128) * 128 ^ i ≤ 127 * 128 ^ i := Nat.mul_le_mul_right _ (by omega)
  unfold marigraphref01_Taker_Num.b2
  dsimp only
  rw [decide_eq_true (by omega), cond_true, decide_eq_true (by omega)]
  simp only [Option.bind_some, cond_true, Sum.elim_inl]
  rw [hat]
  simp only [Option.bind_some, pur_eq]
  have wmod : ∀ m : Nat, IntKind.u64.wrap (m : Int) = ((m % 2 ^ 64 : Nat) : Int) := fun m => by
    simp [IntKind.wrap, IntKind.signed, IntKind.bits]
  rw [show Int.tmod (n : Int) 128 = ((n % 128 : Nat) : Int) by rw [Int.tmod_eq_emod_of_nonneg (by omega)]; omega, wu64 (by omega)]
  rw [← Int.natCast_mul, wmod, ← Int.natCast_add, wmod, show (((128 ^ i : Nat) : Int) * 128) = ((128 ^ (i + 1) : Nat) : Int) by rw [Nat.pow_succ, Int.natCast_mul]; rfl, wmod]
  have hsum : (valL pre 0 + n % 128 * 128 ^ i % 2 ^ 64) % 2 ^ 64 = (valL pre 0 + 128 ^ i * (n % 128)) % 2 ^ 64 := by rw [Nat.add_mod, Nat.mod_mod, ← Nat.add_mod, Nat.mul_comm]
  rw [hsum]
  by_cases h128 : 128 ≤ n
  · rw [decide_eq_false (by omega), cond_false, if_pos (by omega)]
    rw [wrap64 (by omega) (by omega)]
    rfl
  · have hmod : n % 128 = n := Nat.mod_eq_of_lt (by omega)
    rw [decide_eq_true (by omega), cond_true, if_neg (by omega), hmod, wrap64 (x := (i : Int) + 1) (by omega) (by omega), show ((i : Int) + 1) = ((i + 1 : Nat) : Int) by omega, upto_nat (by omega), Option.bind_some]
    generalize hN : (valL pre 0 + 128 ^ i * n) % 2 ^ 64 = N
    have hN64 : N < 2 ^ 64 := by rw [← hN]; exact Nat.mod_lt _ (by decide)
    rw [ref_put (by simp) hN64]
    simp only [Option.bind_some, List.nil_append]
    have htake : b.take (i + 1) = pre ++ [(n : Int)] := by rw [h1, ← h2, show pre ++ (n : Int) :: suf = (pre ++ [(n : Int)]) ++ suf by simp, show pre.length + 1 = (pre ++ [(n : Int)]).length by simp, List.take_left]
    rw [htake]
    have hps := put_same (pre := pre) (c := n) (n := N) hp (by omega) (by omega) (by rw [← hN, h2])
    rw [h2] at hps
    have hbytes : Byt (pre ++ [(n : Int)]) := by
      intro x hx
      rcases List.mem_append.1 hx with hx | hx
      · have := hp x hx; omega
      · simp at hx; omega
    have hiff : strEq (strOf (vint N)) (strOf (pre ++ [(n : Int)])) = decide (¬ (i = 9 ∧ 1 < n) ∧ (i = 0 ∨ 1 ≤ n)) := by
      rw [strEq_eq]
      refine decide_eq_decide.2 ⟨fun h => hps.1 (strOf_inj (byt_vint _) hbytes h), fun h => by rw [hps.2 h]⟩
    rw [hiff]
    by_cases hok : ¬ (i = 9 ∧ 1 < n) ∧ (i = 0 ∨ 1 ≤ n)
    · rw [decide_eq_true hok, if_pos ⟨by omega, by omega⟩]
      simp only [Bool.not_true, cond_false, Option.bind_some, Sum.elim_inl]
      rw [from_nat (by omega), Option.bind_some]
      have hN2 : N = valL pre 0 + 128 ^ i * n := by rw [← hN]; exact Nat.mod_eq_of_lt (acc_lt hlt hi (by omega) (fun h => by omega))
      have hd : b.drop (i + 1) = suf := by rw [h1, ← h2]; simp
      rw [hd, hN2]
      rfl
    · rw [decide_eq_false hok, if_neg (fun h => hok ⟨by omega, by omega⟩)]
      rfl
theorem ref_loop2 (b : List Int) (bad : Bool) (hb : Byt b) (hl : b.length < 10000000) : ∀ (suf pre : List Int) (i : Nat), b = pre ++ suf → pre.length = i → (∀ p ∈ pre, 128 ≤ p ∧ p ≤ 255) → i ≤ 9 →
    iter (fun s : Int × Int × Int => marigraphref01_Taker_Num.b2 ⟨b, bad⟩ s.1 s.2.1 s.2.2) ((valL pre 0 : Int), ((128 ^ i : Nat) : Int), (i : Int)) = some (match dec i (valL pre 0) suf with | none => .inl () | some (n, s) => .inr ((n : Int), ⟨s, bad⟩)) := by
  intro suf
  induction suf with
  | nil =>
    intro pre i h1 h2 h3 h4
    refine iter_end ?_
    have : b.length = i := by rw [h1]; simp [h2]
    unfold marigraphref01_Taker_Num.b2 dec
    dsimp only
    rw [decide_eq_false (by omega)]; rfl
  | cons c suf ih =>
    intro pre i h1 h2 h3 h4
    have hc := hb c (by rw [h1]; simp)
    have hst := ref_step (bad := bad) h1 h2 h3 hc h4 hl
    have hlt := valL_lt pre
    rw [h2] at hlt
    unfold dec
    by_cases q2 : 128 ≤ c
    · rw [if_pos q2] at hst
      by_cases q9 : i = 9
      · rw [if_pos (.inr ⟨q9, by omega⟩)]
        -- one more round, that ends
        rw [iter_next hst]
        refine iter_end ?_
        unfold marigraphref01_Taker_Num.b2
        dsimp only
        have hbl : b.length = i + (suf.length + 1) := by rw [h1]; simp [h2]
        by_cases hlen : ((i + 1 : Nat) : Int) < (b.length : Int)
        · rw [decide_eq_true hlen, cond_true, decide_eq_false (by omega)]; rfl
        · rw [decide_eq_false hlen]; rfl
      · have hacc := acc_next hlt (m := c.toNat % 128) (Nat.mod_lt _ (by decide))
        have hp9 := pow_le9 (i := i + 1) (by omega)
        rw [if_neg (by omega), if_pos q2]
        rw [Nat.mod_eq_of_lt (a := valL pre 0 + 128 ^ i * (c.toNat % 128)) (b := 2 ^ 64) (by omega), Nat.mod_eq_of_lt (a := 128 ^ (i + 1)) (b := 2 ^ 64) (by omega)] at hst
        have hv : valL (pre ++ [c]) 0 = valL pre 0 + 128 ^ i * (c.toNat % 128) := by rw [valL_snoc, valL_add, h2]
        rw [iter_next hst, ← hv]
        refine ih (pre ++ [c]) (i + 1) (by rw [h1]; simp) (by simp [h2]) (fun p hp => ?_) (by omega)
        rcases List.mem_append.1 hp with hp | hp
        · exact h3 p hp
        · simp at hp; subst hp; exact ⟨q2, hc.2⟩
    · rw [if_neg q2] at hst
      by_cases q1 : i = 10 ∨ i = 9 ∧ 1 < c
      · rw [if_pos q1]
        rw [if_neg (fun h => h.1 (q1.resolve_left (by omega)))] at hst
        exact iter_end hst
      · rw [if_neg q1, if_neg q2]
        by_cases q3 : i = 0 ∨ 1 ≤ c
        · rw [if_pos q3]
          rw [if_pos ⟨fun h => q1 (.inr h), q3⟩] at hst
          exact iter_end hst
        · rw [if_neg q3]
          rw [if_neg (fun h => q3 h.2)] at hst
          exact iter_end hst
theorem ref_num {b : List Int} {bad : Bool} (hb : Byt b) (hl : b.length < 10000000) : marigraphref01_Taker_Num ⟨b, bad⟩ = some (match numS b with | none => (0, ⟨[], true⟩) | some (n, s) => ((n : Int), ⟨s, bad⟩)) := by
  unfold marigraphref01_Taker_Num numS
  have := ref_loop2 b bad hb hl b [] 0 rfl rfl (by simp) (by decide)
  rw [show ((valL [] 0 : Int), ((128 ^ 0 : Nat) : Int), ((0 : Nat) : Int)) = ((0 : Int), (1 : Int), (0 : Int)) from rfl] at this
  rw [this]
  rw [show valL [] 0 = 0 from rfl]
  cases dec 0 0 b with
  | none => rfl
  | some q => rfl
end Go.Proofs.YtikdgllagijidaaGreat
