/- Plain laws of the index: names. -/
import Derived.Test.YtikdgllagijidaaGreatMgIa
import Derived.Test.YtikdgllagijidaaGreatMgSt
import Derived.Test.YtikdgllagijidaaGreatMgSi
namespace Go.Proofs.YtikdgllagijidaaGreat
open Go Go.Mg
set_option linter.unusedVariables false
set_option linter.unusedSimpArgs false

/-- A text's byte. -/
def bt (s : ByteArray) (i : Nat) : Int := ((s.data.toList.getD i 0).toNat : Int)
theorem bt_range (s : ByteArray) (i : Nat) : 0 ≤ bt s i ∧ bt s i ≤ 255 := by
  unfold bt
  have := (s.data.toList.getD i 0).toNat_lt
  omega
theorem sat_nat {s : ByteArray} {i : Nat} (h : i < s.size) : sat_ s (i : Int) = some (bt s i) := by
  unfold sat_ bt
  rw [if_pos ⟨by omega, by omega⟩, Int.toNat_natCast]
theorem get_eq (s : ByteArray) (i : Nat) : s.get! i = s.data.toList.getD i 0 := by
  cases s with | mk d =>
  show d[i]! = d.toList.getD i 0
  rw [List.getD_eq_getElem?_getD]
  by_cases h : i < d.size
  · rw [getElem!_pos d i h, List.getElem?_eq_getElem (by simpa using h)]
    simp
  · rw [getElem!_neg d i h, List.getElem?_eq_none (by simpa using h)]
    rfl
theorem dec_low {s : ByteArray} {i : Nat} (h : bt s i < 128) : Utf8.decode s i = ((s.data.toList.getD i 0).toNat, 1) := by
  unfold bt at h
  unfold Utf8.decode
  simp only [Nat.add_zero, get_eq]
  rw [if_pos (by omega)]
theorem dec_high {s : ByteArray} {i : Nat} (h : 128 ≤ bt s i) : 128 ≤ (Utf8.decode s i).1 := by
  unfold bt at h
  unfold Utf8.decode
  simp only [Nat.add_zero, get_eq]
  rw [if_neg (by omega)]
  have hr : 128 ≤ Utf8.runeError := by decide
  split
  · split
    · assumption
    · exact hr
  · split
    · split
      · rename_i h1
        simp only [Bool.and_eq_true, decide_eq_true_eq] at h1
        have := h1.1
        dsimp only
        omega
      · exact hr
    · split
      · split
        · rename_i h1
          simp only [Bool.and_eq_true, decide_eq_true_eq] at h1
          have := h1.1
          dsimp only
          omega
        · exact hr
      · exact hr

/-- Letters; what else may stand in a name. -/
def letB (r : Int) : Bool := decide (97 ≤ r) && decide (r ≤ 122)
def digB (r : Int) : Bool := decide (48 ≤ r) && decide (r ≤ 57)
def okB (r : Int) : Bool := letB r || digB r || decide (r = 95)
theorem okB_low {r : Int} (h : okB r = true) : r < 128 := by
  unfold okB letB digB at h
  simp at h
  omega
theorem lt_not (a b : Int) : decide (a < b) = !decide (b ≤ a) := by
  by_cases h : a < b
  · rw [decide_eq_true h, decide_eq_false (by omega)]; rfl
  · rw [decide_eq_false h, decide_eq_true (by omega)]; rfl
theorem bne_dec (a b : Int) : (a != b) = !decide (a = b) := by
  by_cases h : a = b
  · rw [decide_eq_true h]; simp [h]
  · rw [decide_eq_false h]; simpa using h
theorem name1_eq (r : Int) : label_Name_1 r = some (!okB r) := by
  unfold label_Name_1 okB letB digB
  simp only [lt_not, bne_dec]
  cases decide (97 ≤ r) <;> cases decide (r ≤ 122) <;> cases decide (48 ≤ r) <;> cases decide (r ≤ 57) <;> cases decide (r = 95) <;> rfl

theorem sidx_name (s : ByteArray) : ∀ n pos, pos + n = s.size → ∃ r, sidxF label_Name_1 s true n pos = some r ∧ decide (0 ≤ r) = !((List.range' pos n).all fun j => okB (bt s j)) := by
  intro n
  induction n with
  | zero => intro pos h; exact ⟨-1, by unfold sidxF; rw [if_neg (by omega)], by simp⟩
  | succ n ih =>
    intro pos h
    unfold sidxF
    rw [if_pos (by omega), name1_eq, Option.bind_some]
    rw [List.range'_succ, List.all_cons]
    cases hb : okB (bt s pos) with
    | true =>
      have hlow := okB_low hb
      rw [dec_low hlow]
      have hbt : ((s.data.toList.getD pos 0).toNat : Int) = bt s pos := rfl
      dsimp only
      rw [hbt, hb]
      obtain ⟨r, h1, h2⟩ := ih (pos + 1) (by omega)
      exact ⟨r, by simpa using h1, by simpa using h2⟩
    | false =>
      have : okB ((Utf8.decode s pos).1 : Int) = false := by
        rcases Int.lt_or_le (bt s pos) 128 with hl | hl
        · rw [dec_low hl]; exact hb
        · have h1 := dec_high hl
          cases hq : okB ((Utf8.decode s pos).1 : Int) with
          | false => rfl
          | true => have := okB_low hq; omega
      rw [this]
      exact ⟨(pos : Int), by simp, by simp⟩
def allOk (s : ByteArray) : Bool := (List.range s.size).all fun j => okB (bt s j)
theorem contains_eq (s : ByteArray) : strings_ContainsFunc__label_Name_1 s = some (!allOk s) := by
  unfold strings_ContainsFunc__label_Name_1 strings_IndexFunc__label_Name_1 strings_indexFunc__label_Name_1 sidx_
  obtain ⟨r, h1, h2⟩ := sidx_name s s.size 0 (by omega)
  rw [h1]
  simp only [Option.bind_some, h2, allOk, List.range_eq_range']

/-- A text that may name a label. -/
def nameS (s : ByteArray) : Bool := decide (1 ≤ s.size) && decide (s.size ≤ 16) && letB (bt s 0) && allOk s
theorem name_eq (s : ByteArray) : label_Name s = some (nameS s) := by
  unfold label_Name label_within_string nameS
  rw [contains_eq]
  by_cases h1 : (1 : Int) ≤ (s.size : Int)
  · have h1' : 1 ≤ s.size := by omega
    by_cases h2 : (s.size : Int) ≤ 16
    · have h2' : s.size ≤ 16 := by omega
      rw [show sat_ s (0 : Int) = some (bt s 0) from sat_nat (i := 0) (by omega)]
      unfold letB
      by_cases h3 : bt s 0 < 97
      · have : ¬ 97 ≤ bt s 0 := by omega
        simp [h1, h2, h1', h2', h3, this]
      · have h3' : 97 ≤ bt s 0 := by omega
        by_cases h4 : 122 < bt s 0
        · have : ¬ bt s 0 ≤ 122 := by omega
          simp [h1, h2, h1', h2', h3, h3', h4, this]
        · have : bt s 0 ≤ 122 := by omega
          simp [h1, h2, h1', h2', h3, h3', h4, this]
    · have h2' : ¬ s.size ≤ 16 := by omega
      simp [h1, h2, h1', h2']
  · have h1' : ¬ 1 ≤ s.size := by omega
    simp [h1, h1']

/-- What the reference asks of a byte. -/
def refB (s : ByteArray) (j : Nat) : Bool := letB (bt s j) || (!(decide (j = 0)) && (digB (bt s j) || decide (bt s j = 95)))
theorem ref_loop (s : ByteArray) (hs : s.size < 1000000000000) : ∀ n pos, pos + n = s.size → iter (fun q : Int => marigraphref05_Name.b2 s q) (pos : Int) = some (if ((List.range' pos n).all fun j => refB s j) = true then .inl () else .inr false) := by
  intro n
  induction n with
  | zero =>
    intro pos h
    refine iter_end ?_
    unfold marigraphref05_Name.b2
    rw [decide_eq_false (by omega)]
    rfl
  | succ n ih =>
    intro pos h
    have hp : pos < s.size := by omega
    rw [List.range'_succ, List.all_cons]
    have hc : (bif decide ((97 : Int) ≤ bt s pos) then some (decide (bt s pos ≤ 122)) else some false) = some (letB (bt s pos)) := by
      unfold letB; by_cases h1 : 97 ≤ bt s pos <;> simp [h1]
    have hd : (bif decide ((48 : Int) ≤ bt s pos) then some (decide (bt s pos ≤ 57)) else some false) = some (digB (bt s pos)) := by
      unfold digB; by_cases h1 : 48 ≤ bt s pos <;> simp [h1]
    cases hb : refB s pos with
    | true =>
      refine (iter_next (s' := ((pos + 1 : Nat) : Int)) ?_).trans ((ih (pos + 1) (by omega)).trans (by rw [Bool.true_and]))
      unfold marigraphref05_Name.b2
      rw [decide_eq_true (by omega), cond_true, sat_nat hp]
      simp only [Option.bind_some, hc, hd]
      unfold refB at hb
      cases hl : letB (bt s pos) with
      | true => simp only [Bool.not_true, cond_false, Option.bind_some, Sum.elim_inl, pur_eq]; rw [wrap64 (by omega) (by omega)]; rfl
      | false =>
        rw [hl] at hb
        simp only [Bool.false_or, Bool.and_eq_true, Bool.not_eq_true', decide_eq_false_iff_not] at hb
        have h0 : ((pos : Int) == 0) = false := by simp; omega
        simp only [Bool.not_false, cond_true, h0, cond_false]
        cases hg : digB (bt s pos) with
        | true => simp only [Bool.not_true, cond_false, Option.bind_some, Sum.elim_inl, pur_eq]; rw [wrap64 (by omega) (by omega)]; rfl
        | false =>
          have h95 : bt s pos = 95 := by
            have := hb.2
            rw [hg] at this
            simpa using this
          simp only [Bool.not_false, cond_true, Option.bind_some, h95, bne_self_eq_false, cond_false, Sum.elim_inl, pur_eq]
          rw [wrap64 (by omega) (by omega)]; rfl
    | false =>
      rw [iter_end (r := .inr false)]
      · simp
      · unfold marigraphref05_Name.b2
        rw [decide_eq_true (by omega), cond_true, sat_nat hp]
        simp only [Option.bind_some, hc, hd]
        unfold refB at hb
        simp only [Bool.or_eq_false_iff, Bool.and_eq_false_iff, Bool.not_eq_false', decide_eq_true_eq, Bool.or_eq_false_iff, decide_eq_false_iff_not] at hb
        obtain ⟨hl, hb⟩ := hb
        rw [hl]
        simp only [Bool.not_false, cond_true]
        rcases hb with h0 | ⟨hg, h95⟩
        · have h0 : ((pos : Int) == 0) = true := by simp; omega
          simp [h0]
        · by_cases h0 : pos = 0
          · have h0 : ((pos : Int) == 0) = true := by simp; omega
            simp [h0]
          · have h0 : ((pos : Int) == 0) = false := by simp; omega
            rw [h0, hg, bne_dec, decide_eq_false h95]
            rfl
theorem refName_eq {s : ByteArray} (hs : s.size < 1000000000000) : marigraphref05_Name s = some (nameS s) := by
  unfold marigraphref05_Name
  have := ref_loop s hs s.size 0 (by omega)
  rw [show ((0 : Nat) : Int) = 0 from rfl] at this
  rw [this, ← List.range_eq_range']
  have hfin : (bif decide ((1 : Int) ≤ (s.size : Int)) then some (decide ((s.size : Int) ≤ 16)) else some false) = some (decide (1 ≤ s.size) && decide (s.size ≤ 16)) := by
    by_cases h1 : (1 : Int) ≤ (s.size : Int)
    · have h1' : 1 ≤ s.size := by omega
      by_cases h2 : (s.size : Int) ≤ 16
      · have h2' : s.size ≤ 16 := by omega
        simp [h1, h2, h1', h2']
      · have h2' : ¬ s.size ≤ 16 := by omega
        simp [h1, h2, h1', h2']
    · have h1' : ¬ 1 ≤ s.size := by omega
      simp [h1, h1']
  have hall : 1 ≤ s.size → ((List.range s.size).all fun j => refB s j) = (letB (bt s 0) && allOk s) := by
    intro h1
    rw [Bool.eq_iff_iff]
    unfold allOk
    rw [Bool.and_eq_true, List.all_eq_true, List.all_eq_true]
    constructor
    · intro h
      have h0 := h 0 (List.mem_range.2 (by omega))
      unfold refB at h0
      simp only [decide_true, Bool.not_true, Bool.false_and, Bool.or_false] at h0
      refine ⟨h0, fun j hj => ?_⟩
      have hj := h j hj
      unfold refB at hj
      unfold okB
      cases hl : letB (bt s j) with
      | true => simp
      | false =>
        rw [hl] at hj
        simp only [Bool.false_or, Bool.and_eq_true] at hj
        simpa using hj.2
    · rintro ⟨h0, h⟩ j hj
      have hj2 := h j hj
      unfold okB at hj2
      unfold refB
      by_cases hz : j = 0
      · subst hz; rw [h0]; rfl
      · cases hl : letB (bt s j) with
        | true => simp
        | false =>
          rw [hl] at hj2
          simpa [hz] using hj2
  unfold nameS
  by_cases h1 : 1 ≤ s.size
  · rw [hall h1]
    cases hq : (letB (bt s 0) && allOk s) with
    | true =>
      rw [if_pos rfl]
      simp only [Option.bind_some, Sum.elim_inl, hfin]
      rw [Bool.and_assoc, hq, Bool.and_true]
    | false =>
      rw [if_neg (by simp)]
      simp only [Option.bind_some, Sum.elim_inr]
      rw [Bool.and_assoc, hq, Bool.and_false]
  · have h0 : s.size = 0 := by omega
    rw [h0]
    simp only [List.range_zero, List.all_nil, if_true, Option.bind_some, Sum.elim_inl]
    simp
theorem nameS_size {s : ByteArray} (h : nameS s = true) : 1 ≤ s.size ∧ s.size ≤ 16 := by
  unfold nameS at h
  simp only [Bool.and_eq_true, decide_eq_true_eq] at h
  exact ⟨h.1.1.1, h.1.1.2⟩
end Go.Proofs.YtikdgllagijidaaGreat
