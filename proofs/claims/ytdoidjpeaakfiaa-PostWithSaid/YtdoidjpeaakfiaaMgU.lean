/- Plain laws of the post layer: the statements. -/
import Derived.Test.YtdoidjpeaakfiaaMgT
namespace Go.Proofs.Ytdoidjpeaakfiaa
open Go Go.Mg
set_option linter.unusedVariables false
set_option linter.unusedSimpArgs false

theorem search_eq {l : List Int} {n : Int} (hs : SR l) (hl : l.length ≤ lim) : ∃ k, slices_BinarySearch_int_int l n = some (k, decide (n ∈ l)) := by
  have hl' := hl
  rw [limv] at hl'
  unfold slices_BinarySearch_int_int
  have hless : ∀ a b : Int, cmp_Less_int a b = some (decide (a < b)) := fun a b => by simp [cmp_Less_int, cmp_isNaN_int]
  obtain ⟨k, hk, h1, h2, h3⟩ := iter_search (step := fun s : Int × Int => slices_BinarySearch_int_int.b2 l n s.1 s.2) l n hs (fun lo hi hlt hhi x hx => by
      have hm : ishr .u64 ((lo : Int) + (hi : Int)) 1 = (((lo + hi) / 2 : Nat) : Int) := by
        have : ishr .u64 ((lo : Int) + (hi : Int)) 1 = ((lo : Int) + hi).fdiv 2 := rfl
        rw [this, Int.fdiv_eq_ediv_of_nonneg _ (by omega)]
        omega
      unfold slices_BinarySearch_int_int.b2
      simp only [pur_eq, hless, Option.bind_some]
      rw [decide_eq_true (by omega : (lo : Int) < hi), cond_true, wrap64 (x := (lo : Int) + hi) (by omega) (by omega), wrapu64 (by omega) (by omega), hm, wrap64 (x := (((lo + hi) / 2 : Nat) : Int)) (by omega) (by omega), at_nat hx]
      simp only [Option.bind_some]
      rw [wrap64 (by omega) (by omega)]
      by_cases h : x < n <;> simp [h]) (fun lo => by simp [slices_BinarySearch_int_int.b2])
  rw [h1]
  simp only [Option.bind_some]
  have hm := mem_search h2 h3 hs
  refine ⟨(k : Int), ?_⟩
  by_cases hkl : k < l.length
  · have hx := List.getElem?_eq_getElem hkl
    rw [decide_eq_true (by omega : (k : Int) < l.length), cond_true, at_nat hx]
    simp only [Option.bind_some]
    rw [hx] at hm
    by_cases h : l[k] = n
    · rw [decide_eq_true (hm.2 (by rw [h]))]; simp [h]
    · rw [decide_eq_false fun hh => h (Option.some.inj (hm.1 hh))]
      have hb : (l[k] == n) = false := by simpa using h
      rw [hb]
      simp [slices_isNaN_int]
  · rw [decide_eq_false (by omega), cond_false, decide_eq_false]
    · rfl
    · intro h
      have := hm.1 h
      rw [List.getElem?_eq_none (by omega)] at this
      cases this

theorem has_eq {l : List Int} (n : Int) (hl : l.length ≤ lim) : post_Has l n = some (decide (Good l ∧ n ∈ l)) := by
  unfold post_Has
  rw [right_eq hl]
  simp only [Option.bind_some]
  by_cases h : Good l
  · obtain ⟨k, hk⟩ := search_eq (n := n) h.1.1 hl
    rw [decide_eq_true h, hk]
    simp only [Bool.not_true, cond_false, Option.bind_some]
    congr 1
    exact decide_eq_decide.2 ⟨fun h2 => ⟨h, h2⟩, fun h2 => h2.2⟩
  · rw [decide_eq_false h, decide_eq_false fun h2 => h h2.1]
    rfl

theorem refHas_eq {l : List Int} (n : Int) (hl : l.length ≤ lim) : marigraphref06_Has l n = some (decide (Good l ∧ n ∈ l)) := by
  unfold marigraphref06_Has
  rw [refRight_eq hl]
  simp only [Option.bind_some]
  by_cases h : Good l
  · rw [decide_eq_true h, in_eq h.1.1 hl]
    simp only [cond_true, Option.bind_some]
    congr 1
    exact decide_eq_decide.2 ⟨fun h2 => ⟨h, h2⟩, fun h2 => h2.2⟩
  · rw [decide_eq_false h, decide_eq_false fun h2 => h h2.1]
    rfl

theorem and_merge (a b : List Int) : post_And a b = post_merge a b false true false := by
  unfold post_And; cases post_merge a b false true false <;> rfl
theorem or_merge (a b : List Int) : post_Or a b = post_merge a b true true true := by
  unfold post_Or; cases post_merge a b true true true <;> rfl
theorem minus_merge (a b : List Int) : post_Minus a b = post_merge a b true false false := by
  unfold post_Minus; cases post_merge a b true false false <;> rfl

theorem Good.lim {l : List Int} (h : Good l) : l.length ≤ lim := by have := h.2; rw [limv]; omega

theorem and_good {a b : List Int} (ha : Good a) (hb : Good b) : ∃ r, post_And a b = some (r, 0) ∧ Good r ∧ r.length ≤ a.length ∧ ∀ x, x ∈ r ↔ x ∈ a ∧ x ∈ b := by
  rw [and_merge]
  obtain ⟨h, _⟩ | ⟨_, r, h1, h2, h3, h4⟩ := merge_eq false true false ha.lim hb.lim
  · exact absurd ⟨ha, hb⟩ h
  · have hm : ∀ x, x ∈ r ↔ x ∈ a ∧ x ∈ b := fun x => by rw [h4]; simp
    have hl : r.length ≤ a.length := h2.le_length fun x hx => ((hm x).1 hx).1
    have hl2 := ha.2
    rw [told_ok (by omega)] at h1
    exact ⟨r, h1, good_of h2 (fun x hx => ha.1.2 x ((hm x).1 hx).1) (by omega), hl, hm⟩

theorem minus_good {a b : List Int} (ha : Good a) (hb : Good b) : ∃ r, post_Minus a b = some (r, 0) ∧ Good r ∧ r.length ≤ a.length ∧ ∀ x, x ∈ r ↔ x ∈ a ∧ x ∉ b := by
  rw [minus_merge]
  obtain ⟨h, _⟩ | ⟨_, r, h1, h2, h3, h4⟩ := merge_eq true false false ha.lim hb.lim
  · exact absurd ⟨ha, hb⟩ h
  · have hm : ∀ x, x ∈ r ↔ x ∈ a ∧ x ∉ b := fun x => by rw [h4]; simp
    have hl : r.length ≤ a.length := h2.le_length fun x hx => ((hm x).1 hx).1
    have hl2 := ha.2
    rw [told_ok (by omega)] at h1
    exact ⟨r, h1, good_of h2 (fun x hx => ha.1.2 x ((hm x).1 hx).1) (by omega), hl, hm⟩

theorem or_good {a b : List Int} (ha : Good a) (hb : Good b) (hab : a.length + b.length ≤ 4096) : ∃ r, post_Or a b = some (r, 0) ∧ Good r ∧ r.length ≤ a.length + b.length ∧ ∀ x, x ∈ r ↔ x ∈ a ∨ x ∈ b := by
  rw [or_merge]
  obtain ⟨h, _⟩ | ⟨_, r, h1, h2, h3, h4⟩ := merge_eq true true true ha.lim hb.lim
  · exact absurd ⟨ha, hb⟩ h
  · have hm : ∀ x, x ∈ r ↔ x ∈ a ∨ x ∈ b := fun x => by
      rw [h4]
      by_cases p : x ∈ a <;> by_cases q : x ∈ b <;> simp [p, q]
    rw [told_ok (by omega)] at h1
    exact ⟨r, h1, good_of h2 (fun x hx => ((hm x).1 hx).elim (ha.1.2 x) (hb.1.2 x)) (by omega), h3, hm⟩

theorem good_nil : Good [] := ⟨⟨.nil, by simp⟩, Nat.zero_le _⟩

theorem postSelf_ok {a : List Int} (ha : OkL (OkI .i64) a) : marigraphlaw06_PostSelf a = some true := by
  unfold marigraphlaw06_PostSelf
  rw [shown_eq]
  obtain ⟨x, e0, gx, lx⟩ := some_eq ha.1
  obtain ⟨p, e1, g1, l1, m1⟩ := and_good gx gx
  obtain ⟨q, e2, g2, l2, m2⟩ := or_good gx gx (by omega)
  obtain ⟨r, e3, g3, l3, m3⟩ := minus_good gx gx
  obtain ⟨s, e4, g4, l4, m4⟩ := or_good gx good_nil (by simp; omega)
  obtain rfl : p = x := g1.1.1.ext gx.1.1 fun y => by rw [m1]; simp
  obtain rfl : q = p := g2.1.1.ext gx.1.1 fun y => by rw [m2]; simp
  obtain rfl : s = q := g4.1.1.ext gx.1.1 fun y => by rw [m4]; simp
  obtain rfl : r = [] := List.eq_nil_iff_forall_not_mem.2 fun y hy => ((m3 y).1 hy).2 ((m3 y).1 hy).1
  simp only [Option.bind_some, e0, e1, e2, e3, e4]
  rw [ints_eq gx.lim]
  simp

theorem all_two {a b : List Int} (ha : Good a) (hb : Good b) : ∃ r, post_All [a, b] = some (r, 0) ∧ Good r ∧ ∀ x, x ∈ r ↔ x ∈ a ∧ x ∈ b := by
  obtain ⟨p, e1, g1, l1, m1⟩ := and_good ha ha
  obtain ⟨q, e2, g2, l2, m2⟩ := and_good g1 hb
  refine ⟨q, ?_, g2, fun x => by rw [m2, m1]; simp⟩
  unfold post_All
  simp only [List.length_cons, List.length_nil, at_cons0, Option.bind_some]
  rw [iter_next (s' := (p, 1)), iter_next (s' := (q, 2)), iter_end (r := .inl q)]
  · rfl
  · rfl
  · unfold post_All.b2
    have : at_ [a, b] 1 = some b := rfl
    simp only [this, Option.bind_some, e2]
    rfl
  · unfold post_All.b2
    simp only [at_cons0, Option.bind_some, e1]
    rfl

theorem all_three {a b c : List Int} (ha : Good a) (hb : Good b) (hc : Good c) : ∃ r, post_All [a, b, c] = some (r, 0) ∧ Good r ∧ ∀ x, x ∈ r ↔ x ∈ a ∧ x ∈ b ∧ x ∈ c := by
  obtain ⟨p, e1, g1, l1, m1⟩ := and_good ha ha
  obtain ⟨q, e2, g2, l2, m2⟩ := and_good g1 hb
  obtain ⟨r, e3, g3, l3, m3⟩ := and_good g2 hc
  refine ⟨r, ?_, g3, fun x => by rw [m3, m2, m1]; simp [and_assoc]⟩
  unfold post_All
  simp only [List.length_cons, List.length_nil, at_cons0, Option.bind_some]
  rw [iter_next (s' := (p, 1)), iter_next (s' := (q, 2)), iter_next (s' := (r, 3)), iter_end (r := .inl r)]
  · rfl
  · rfl
  · unfold post_All.b2
    have : at_ [a, b, c] 2 = some c := rfl
    simp only [this, Option.bind_some, e3]
    rfl
  · unfold post_All.b2
    have : at_ [a, b, c] 1 = some b := rfl
    simp only [this, Option.bind_some, e2]
    rfl
  · unfold post_All.b2
    simp only [at_cons0, Option.bind_some, e1]
    rfl

theorem postTwo_ok {a b : List Int} (ha : OkL (OkI .i64) a) (hb : OkL (OkI .i64) b) : marigraphlaw06_PostTwo a b = some true := by
  unfold marigraphlaw06_PostTwo
  rw [shown_eq]
  obtain ⟨x, ex, gx, lx⟩ := some_eq ha.1
  obtain ⟨y, ey, gy, ly⟩ := some_eq hb.1
  obtain ⟨p, e1, g1, m1⟩ := all_two gx gy
  obtain ⟨q, e2, g2, m2⟩ := all_three gy gx gy
  obtain ⟨r, e3, g3, l3, m3⟩ := and_good gx gy
  obtain rfl : p = r := g1.1.1.ext g3.1.1 fun z => by rw [m1, m3]
  obtain rfl : q = p := g2.1.1.ext g1.1.1 fun z => by
    rw [m2, m1]
    exact ⟨fun h => ⟨h.2.1, h.1⟩, fun h => ⟨h.2, h.1, h.2⟩⟩
  simp only [Option.bind_some, ex, ey, e1, e2, e3]
  rw [ints_eq g1.lim]
  simp

theorem few_eq (a : List Int) : ∃ x, marigraphlaw06_few a = some x ∧ x.length ≤ 4200 := by
  unfold marigraphlaw06_few
  simp only [pur_eq]
  have : (if (4200 : Int) < (a.length : Int) then (4200 : Int) else (a.length : Int)) = ((min a.length 4200 : Nat) : Int) := by split <;> omega
  rw [this, upto_nat (Nat.min_le_left _ _)]
  exact ⟨_, rfl, by rw [List.length_take]; omega⟩

theorem told_len {r : List Int} {n : Nat} (h : r.length ≤ n) : (told r).1.length ≤ n := by
  unfold told; split
  · exact Nat.zero_le _
  · exact h

theorem postOf_ok {a : List Int} {n : Int} (ha : OkL (OkI .i64) a) (hn : -9223372036854775808 ≤ n ∧ n ≤ 9223372036854775807) : marigraphlaw06_PostOf a n = some true := by
  unfold marigraphlaw06_PostOf
  obtain ⟨x, ex, lx⟩ := few_eq a
  have lx2 : x.length ≤ lim := by rw [limv]; omega
  rw [shown_eq, ex]
  simp only [Option.bind_some]
  rw [right_eq lx2, refRight_eq lx2, has_eq n lx2, refHas_eq n lx2]
  have hof : post_Of x = marigraphref06_Of x ∧ ∃ r, post_Of x = some r ∧ r.1.length ≤ lim := by
    obtain ⟨⟨z, hz, hz0⟩, e1⟩ | ⟨h0, r, hr, hs, hl, hm⟩ := of_eq (l := x) (by rw [limv]; omega)
    · obtain ⟨_, e2⟩ | ⟨h0, _⟩ := refOf_eq (l := x) (by omega)
      · exact ⟨by rw [e1, e2], _, e1, by decide⟩
      · have := h0 z hz; omega
    · obtain ⟨⟨z, hz, hz0⟩, _⟩ | ⟨_, q, hq, qs, ql, qm⟩ := refOf_eq (l := x) (by omega)
      · have := h0 z hz; omega
      · obtain rfl : r = q := hs.ext qs fun y => by rw [hm, qm]
        exact ⟨by rw [hr, hq], _, hr, Nat.le_trans (told_len hl) lx2⟩
  obtain ⟨e1, r, e2, e3⟩ := hof
  rw [← e1, e2]
  simp only [Option.bind_some]
  rw [ints_eq e3]
  simp

/-- The reference's merge. -/
theorem both_eq {a b : List Int} (how : Int) (hw : how = 0 ∨ how = 1 ∨ how = 2) (ha : a.length ≤ 4200) (hb : b.length ≤ 4200) :
    (¬ (Good a ∧ Good b) ∧ marigraphref06_Both a b how = some ([], 1)) ∨
    (Good a ∧ Good b) ∧ ∃ r, marigraphref06_Both a b how = some (told r) ∧ SR r ∧ r.length ≤ a.length + b.length ∧
      ∀ x, x ∈ r ↔ (x ∈ a ∧ (how = 1 ∨ (x ∈ b ↔ how = 0))) ∨ (how = 1 ∧ x ∈ b) := by
  have ha' : a.length ≤ lim := by rw [limv]; omega
  have hb' : b.length ≤ lim := by rw [limv]; omega
  unfold marigraphref06_Both
  rw [refRight_eq ha', refRight_eq hb']
  simp only [Option.bind_some]
  by_cases h1 : Good a
  · by_cases h2 : Good b
    · right
      refine ⟨⟨h1, h2⟩, ?_⟩
      rw [decide_eq_true h1, decide_eq_true h2]
      simp only [Bool.not_true, cond_false, Option.bind_some, Sum.elim_inl]
      obtain ⟨r, r1, r2, r3, r4⟩ := iter_inv (step := fun s : List Int × Int => marigraphref06_Both.b4 a b how s.1 s.2) (fun (s : List Int) (i : Int) => (s, i)) a
        (fun s i => SR s ∧ s.length ≤ i ∧ ∀ x, x ∈ s ↔ x ∈ a.take i ∧ (how = 1 ∨ (x ∈ b ↔ how = 0))) (fun r => SR r ∧ r.length ≤ a.length ∧ ∀ x, x ∈ r ↔ x ∈ a ∧ (how = 1 ∨ (x ∈ b ↔ how = 0)))
        (fun s i x hx ⟨hI, hIl, hIm⟩ => by
          have hi := lt_of_get hx
          have hxe : a[i] = x := (List.getElem?_eq_some_iff.1 hx).2
          have htake : a.take (i + 1) = a.take i ++ [x] := by rw [List.take_succ_eq_append_getElem hi, hxe]
          have hlt : ∀ y ∈ a.take i, y < x := fun y hy => by
            obtain ⟨k, hk, rfl⟩ := List.getElem_of_mem hy
            simp only [List.length_take] at hk
            simp only [List.getElem_take]
            have := List.pairwise_iff_getElem.1 h1.1.1 k i (by omega) hi (by omega)
            omega
          left
          unfold marigraphref06_Both.b4
          simp only [pur_eq]
          rw [decide_eq_true (by omega : (i : Int) < a.length), cond_true, at_nat hx, wrap64 (by omega) (by omega)]
          simp only [Option.bind_some]
          rw [in_eq h2.1.1 hb']
          simp only [Option.bind_some]
          have hc : (bif how == 1 then some true else some (decide (x ∈ b) == (how == 0))) = some (decide (how = 1 ∨ (x ∈ b ↔ how = 0))) := by
            rcases hw with rfl | rfl | rfl
            · by_cases q3 : x ∈ b <;> simp [q3]
            · simp
            · by_cases q3 : x ∈ b <;> simp [q3]
          rw [hc]
          simp only [Option.bind_some]
          by_cases hq : how = 1 ∨ (x ∈ b ↔ how = 0)
          · rw [decide_eq_true hq, cond_true, app_ok (by rw [limv]; simp only [List.length_cons, List.length_nil]; omega)]
            refine ⟨s ++ [x], rfl, hI.append (by simp) fun y hy z hz => ?_, by simp; omega, fun y => ?_⟩
            · simp at hz
              subst hz
              exact hlt y ((hIm y).1 hy).1
            · rw [htake, List.mem_append, List.mem_append, hIm]
              by_cases hyx : y = x
              · subst hyx; simp [hq]
              · simp [hyx]
          · rw [decide_eq_false hq, cond_false]
            refine ⟨s, rfl, hI, by omega, fun y => ?_⟩
            rw [hIm, htake, List.mem_append]
            by_cases hyx : y = x
            · subst hyx
              have : y ∉ a.take i := fun h => by have := hlt y h; omega
              simp [hq, this]
            · simp [hyx])
        (fun s ⟨hI, hIl, hIm⟩ => ⟨s, by simp [marigraphref06_Both.b4], hI, hIl, by simpa using hIm⟩) [] ⟨.nil, Nat.zero_le _, by simp⟩
      rw [r1]
      simp only [Option.bind_some]
      have second : ∃ q, iter (fun s : List Int × Int => marigraphref06_Both.b8 b how s.1 s.2) (r, 0) = some q ∧ SR q ∧ q.length ≤ a.length + b.length ∧ ∀ x, x ∈ q ↔ x ∈ r ∨ (how = 1 ∧ x ∈ b) := by
        by_cases q1 : how = 1
        · obtain ⟨q, q2, q3, q4, q5⟩ := iter_inv (step := fun s : List Int × Int => marigraphref06_Both.b8 b how s.1 s.2) (fun (s : List Int) (i : Int) => (s, i)) b
            (fun s i => SR s ∧ s.length ≤ a.length + i ∧ ∀ x, x ∈ s ↔ x ∈ r ∨ x ∈ b.take i) (fun q => SR q ∧ q.length ≤ a.length + b.length ∧ ∀ x, x ∈ q ↔ x ∈ r ∨ x ∈ b)
            (fun s i x hx ⟨hI, hIl, hIm⟩ => by
              have hi := lt_of_get hx
              have hxe : b[i] = x := (List.getElem?_eq_some_iff.1 hx).2
              have htake : b.take (i + 1) = b.take i ++ [x] := by rw [List.take_succ_eq_append_getElem hi, hxe]
              obtain ⟨t, p1, p2, p3, p4⟩ := put_eq (n := x) hI (by omega)
              refine .inl ⟨t, ?_, p2, by omega, fun y => by rw [p3, htake, hIm]; simp [or_comm, or_assoc, or_left_comm]⟩
              unfold marigraphref06_Both.b8
              simp only [pur_eq, q1]
              rw [decide_eq_true (by omega : (i : Int) < b.length), cond_true, at_nat hx, wrap64 (by omega) (by omega)]
              simp only [Option.bind_some, p1]
              rfl)
            (fun s ⟨hI, hIl, hIm⟩ => ⟨s, by simp [marigraphref06_Both.b8], hI, hIl, by simpa using hIm⟩) r ⟨r2, by omega, by simp⟩
          exact ⟨q, q2, q3, q4, fun x => by rw [q5]; simp [q1]⟩
        · refine ⟨r, iter_end ?_, r2, by omega, fun x => by simp [q1]⟩
          unfold marigraphref06_Both.b8
          have : (how == 1) = false := by simpa using q1
          rw [this]
          by_cases hbl : (0 : Int) < (b.length : Int)
          · rw [decide_eq_true hbl]; rfl
          · rw [decide_eq_false hbl]; rfl
      obtain ⟨q, q1, q2, q3, q4⟩ := second
      rw [q1]
      simp only [Option.bind_some]
      refine ⟨q, ?_, q2, q3, fun x => by rw [q4, r4]⟩
      unfold told
      by_cases hq : 4096 < q.length
      · rw [decide_eq_true (by omega), if_pos hq]; rfl
      · rw [decide_eq_false (by omega), if_neg hq]; rfl
    · left
      refine ⟨fun h => h2 h.2, ?_⟩
      rw [decide_eq_true h1, decide_eq_false h2]
      simp
  · left
    refine ⟨fun h => h1 h.1, ?_⟩
    rw [decide_eq_false h1]
    simp

/-- A merge and the reference's answer the same. -/
theorem merge_both {a b : List Int} {f m s : Bool} {how : Int} (hw : (f, m, s, how) = (false, true, false, 0) ∨ (f, m, s, how) = (true, true, true, 1) ∨ (f, m, s, how) = (true, false, false, 2)) (ha : a.length ≤ 4200) (hb : b.length ≤ 4200) :
    ∃ r, post_merge a b f m s = some r ∧ marigraphref06_Both a b how = some r ∧ r.1.length ≤ 8400 := by
  have hw' : how = 0 ∨ how = 1 ∨ how = 2 := by rcases hw with h | h | h <;> simp at h <;> omega
  obtain ⟨h, e⟩ | ⟨h, r, hr, hs, hl, hm⟩ := merge_eq (a := a) (b := b) f m s (by rw [limv]; omega) (by rw [limv]; omega)
  · obtain ⟨_, e2⟩ | ⟨h2, _⟩ := both_eq how hw' ha hb
    · exact ⟨_, e, e2, Nat.zero_le _⟩
    · exact absurd h2 h
  · obtain ⟨h2, _⟩ | ⟨_, q, hq, qs, ql, qm⟩ := both_eq how hw' ha hb
    · exact absurd h h2
    · obtain rfl : r = q := hs.ext qs fun x => by
        rw [hm, qm]
        rcases hw with h | h | h <;> simp at h <;> obtain ⟨rfl, rfl, rfl, rfl⟩ := h
        · simp
        · by_cases p : x ∈ a <;> by_cases q : x ∈ b <;> simp [p, q]
        · by_cases p : x ∈ a <;> by_cases q : x ∈ b <;> simp [p, q]
      exact ⟨_, hr, hq, told_len (by omega)⟩

theorem with_both {a : List Int} {n : Int} (ha : a.length ≤ 4200) : ∃ r, post_With a n = some r ∧ marigraphref06_With a n = some r ∧ r.1.length ≤ 8400 := by
  have ha' : a.length ≤ lim := by rw [limv]; omega
  unfold post_With marigraphref06_With
  rw [refRight_eq ha']
  by_cases hn : n < 0
  · rw [decide_eq_true hn]
    refine ⟨([], 1), rfl, ?_, Nat.zero_le _⟩
    by_cases hg : Good a
    · rw [decide_eq_true hg]; rfl
    · rw [decide_eq_false hg]; rfl
  · rw [decide_eq_false hn]
    simp only [cond_false, Option.bind_some, or_merge]
    have gn : Good [n] := ⟨⟨by simp, fun x hx => by simp at hx; omega⟩, by simp⟩
    obtain ⟨h, e⟩ | ⟨h, r, hr, hs, hl, hm⟩ := merge_eq (a := a) (b := [n]) true true true ha' gn.lim
    · have hg : ¬ Good a := fun h2 => h ⟨h2, gn⟩
      rw [e, decide_eq_false hg]
      exact ⟨_, rfl, rfl, Nat.zero_le _⟩
    · rw [hr, decide_eq_true h.1]
      refine ⟨told r, rfl, ?_, told_len (by simp at hl; omega)⟩
      simp only [Bool.not_true, cond_false, Option.bind_some, Sum.elim_inl]
      rw [app_ok (by rw [limv]; simp only [List.length_nil]; omega)]
      simp only [Option.bind_some, List.nil_append]
      obtain ⟨t, p1, p2, p3, p4⟩ := put_eq (n := n) h.1.1.1 (by omega)
      obtain rfl : r = t := hs.ext p2 fun x => by
        rw [hm, p3]
        by_cases q : x = n
        · subst q
          by_cases p : x ∈ a <;> simp [p]
        · simp [q]
      rw [p1]
      simp only [Option.bind_some]
      unfold told
      by_cases hq : 4096 < r.length
      · rw [decide_eq_true (by omega), if_pos hq]; rfl
      · rw [decide_eq_false (by omega), if_neg hq]; rfl

theorem postBoth_ok {a b : List Int} {n : Int} (ha : OkL (OkI .i64) a) (hb : OkL (OkI .i64) b) (hn : -9223372036854775808 ≤ n ∧ n ≤ 9223372036854775807) : marigraphlaw06_PostBoth a b n = some true := by
  unfold marigraphlaw06_PostBoth
  obtain ⟨x, ex, lx⟩ := few_eq a
  obtain ⟨y, ey, ly⟩ := few_eq b
  obtain ⟨p, p1, p2, p3⟩ := merge_both (.inl rfl) lx ly
  obtain ⟨q, q1, q2, q3⟩ := merge_both (.inr (.inl rfl)) lx ly
  obtain ⟨r, r1, r2, r3⟩ := merge_both (.inr (.inr rfl)) lx ly
  obtain ⟨s, s1, s2, s3⟩ := with_both (n := n) lx
  rw [shown_eq, ex, ey]
  simp only [Option.bind_some, and_merge, or_merge, minus_merge, p1, p2, q1, q2, r1, r2, s1, s2]
  rw [ints_eq (by rw [limv]; omega), ints_eq (by rw [limv]; omega), ints_eq (by rw [limv]; omega), ints_eq (by rw [limv]; omega)]
  simp

theorem all_both {l : List (List Int)} (hl : l.length ≤ 10) (h : ∀ x ∈ l, x.length ≤ 300) : ∃ r, post_All l = some r ∧ marigraphref06_All l = some r ∧ r.1.length ≤ lim := by
  unfold post_All marigraphref06_All
  cases l with
  | nil => exact ⟨_, rfl, rfl, by decide⟩
  | cons x l =>
    have h0 : (((x :: l).length : Int) == (0 : Int)) = false := by simp; omega
    rw [h0]
    simp only [cond_false, at_cons0, Option.bind_some]
    rw [iter_list (fun (s : List Int) (i : Int) => (s, i)) (x :: l) (fun s _ y => (post_And s y).map fun z => if z.2 = 0 then .inl z.1 else .inr (.inr ([], z.2))) (fun s => .inl s)
      (fun s i y hy => by
        have hi := lt_of_get hy
        unfold post_All.b2
        simp only [pur_eq]
        rw [decide_eq_true (by omega : (i : Int) < (x :: l).length), cond_true, at_nat hy, wrap64 (by omega) (by omega)]
        simp only [Option.bind_some]
        cases post_And s y with
        | none => rfl
        | some z =>
          by_cases hz : z.2 = 0
          · simp [hz]
          · have hb : (z.2 != 0) = true := by simpa using hz
            simp only [Option.bind_some, Option.map_some, hb, cond_true, if_neg hz])
      (fun s => by simp [post_All.b2])]
    rw [iter_list (fun (s : List Int) (i : Int) => (s, i)) (x :: l) (fun s _ y => (marigraphref06_Both s y 0).map fun z => if z.2 = 0 then .inl z.1 else .inr (.inr ([], z.2))) (fun s => .inl s)
      (fun s i y hy => by
        have hi := lt_of_get hy
        unfold marigraphref06_All.b2
        simp only [pur_eq]
        rw [decide_eq_true (by omega : (i : Int) < (x :: l).length), cond_true, at_nat hy, wrap64 (by omega) (by omega)]
        simp only [Option.bind_some]
        cases marigraphref06_Both s y 0 with
        | none => rfl
        | some z =>
          by_cases hz : z.2 = 0
          · simp [hz]
          · have hb : (z.2 != 0) = true := by simpa using hz
            simp only [Option.bind_some, Option.map_some, hb, cond_true, if_neg hz])
      (fun s => by simp [marigraphref06_All.b2])]
    suffices H : ∀ (t : List (List Int)) (i : Nat) (s : List Int), s.length ≤ 300 → (∀ y ∈ t, y.length ≤ 300) → ∃ r : List Int ⊕ (List Int × Int),
        foldI (fun s (_ : Nat) y => (post_And s y).map fun z => if z.2 = 0 then (.inl z.1 : List Int ⊕ (List Int ⊕ (List Int × Int))) else .inr (.inr ([], z.2))) (fun s => .inl s) s i t = some r ∧
        foldI (fun s (_ : Nat) y => (marigraphref06_Both s y 0).map fun z => if z.2 = 0 then (.inl z.1 : List Int ⊕ (List Int ⊕ (List Int × Int))) else .inr (.inr ([], z.2))) (fun s => .inl s) s i t = some r ∧
        (match r with | .inl s => s.length ≤ 300 | .inr q => q.1 = []) by
      obtain ⟨r, e1, e2, e3⟩ := H (x :: l) 0 x (h x (by simp)) h
      rw [e1, e2]
      cases r with
      | inl s => exact ⟨_, rfl, rfl, by rw [limv]; have : s.length ≤ 300 := e3; simp; omega⟩
      | inr q => exact ⟨_, rfl, rfl, by have : q.1 = [] := e3; simp [this]⟩
    intro t
    induction t with
    | nil => intro i s hs _; exact ⟨.inl s, rfl, rfl, hs⟩
    | cons y t ih =>
      intro i s hs ht
      obtain ⟨r, r1, r2, _⟩ := merge_both (a := s) (b := y) (.inl rfl) (by omega) (by have := ht y (by simp); omega)
      unfold foldI
      rw [and_merge, r1, r2]
      simp only [Option.map_some, Option.bind_some]
      by_cases hz : r.2 = 0
      · rw [if_pos hz]
        refine ih (i + 1) r.1 ?_ fun z hz => ht z (by simp [hz])
        obtain ⟨hg, e⟩ | ⟨hg, q, hq, qs, ql, qm⟩ := merge_eq (a := s) (b := y) false true false (by rw [limv]; omega) (by rw [limv]; have := ht y (by simp); omega)
        · rw [e] at r1; cases r1; simp
        · rw [hq] at r1
          cases r1
          refine told_len (Nat.le_trans (qs.le_length fun z hz => ?_) hs)
          have := (qm z).1 hz
          simp at this
          exact this.1
      · rw [if_neg hz]
        exact ⟨_, rfl, rfl, rfl⟩

theorem postAll_ok {a : List (List Int)} (ha : OkL (OkL (OkI .i64)) a) : marigraphlaw06_PostAll a = some true := by
  unfold marigraphlaw06_PostAll
  have hl := ha.1
  rw [limv] at hl
  obtain ⟨x, e1, l1, h1⟩ := iter_inv (step := fun s : List (List Int) × Int => marigraphlaw06_PostAll.b2 a s.1 s.2) (fun (s : List (List Int)) (i : Int) => (s, i)) a
    (fun s i => s.length ≤ min i 10 ∧ ∀ y ∈ s, y.length ≤ 300) (fun r => r.length ≤ 10 ∧ ∀ y ∈ r, y.length ≤ 300)
    (fun s i y hy ⟨hI, hI0⟩ => by
      have hi := lt_of_get hy
      left
      unfold marigraphlaw06_PostAll.b2
      simp only [pur_eq]
      rw [decide_eq_true (by omega : (i : Int) < a.length), cond_true, at_nat hy, wrap64 (by omega) (by omega)]
      simp only [Option.bind_some]
      by_cases h : (i : Int) < 10
      · rw [decide_eq_true h, cond_true, few300, upto_nat (Nat.min_le_left _ _)]
        simp only [Option.bind_some]
        rw [app_ok (by rw [limv]; simp only [List.length_cons, List.length_nil]; omega)]
        refine ⟨s ++ [y.take (min y.length 300)], rfl, by simp; omega, fun z hz => ?_⟩
        rcases List.mem_append.1 hz with hz | hz
        · exact hI0 z hz
        · simp only [List.mem_singleton] at hz
          subst hz
          rw [List.length_take]
          omega
      · rw [decide_eq_false h]
        exact ⟨s, rfl, by omega, hI0⟩)
    (fun s ⟨hI, hI0⟩ => ⟨s, by simp [marigraphlaw06_PostAll.b2], by omega, hI0⟩) [] ⟨Nat.zero_le _, by simp⟩
  obtain ⟨r, r1, r2, r3⟩ := all_both l1 h1
  rw [e1, shown_eq]
  simp only [Option.bind_some]
  rw [r1, r2]
  simp only [Option.bind_some]
  rw [ints_eq r3]
  simp

theorem union_count {x y r p : List Int} (hx : SR x) (hy : SR y) (hr : SR r) (hp : SR p) (mr : ∀ z, z ∈ r ↔ z ∈ x ∨ z ∈ y) (mp : ∀ z, z ∈ p ↔ z ∈ x ∧ z ∈ y) : r.length + p.length = x.length + y.length := by
  obtain rfl : p = y.filter (fun z => decide (z ∈ x)) := hp.ext (hy.filter _) fun z => by rw [mp, List.mem_filter]; simp [and_comm]
  have hperm : r.Perm (x ++ y.filter (fun z => !decide (z ∈ x))) := by
    refine (List.perm_ext_iff_of_nodup hr.nodup ?_).2 fun z => ?_
    · refine List.nodup_append.2 ⟨hx.nodup, (hy.filter _).nodup, fun a ha b hb hab => ?_⟩
      subst hab
      simp [List.mem_filter] at hb
      exact hb.2 ha
    · rw [mr, List.mem_append, List.mem_filter]
      by_cases h : z ∈ x <;> simp [h]
  rw [hperm.length_eq, List.length_append]
  have H : ∀ l : List Int, (l.filter (fun z => !decide (z ∈ x))).length + (l.filter (fun z => decide (z ∈ x))).length = l.length := by
    intro l
    induction l with
    | nil => rfl
    | cons a l ih => by_cases h : a ∈ x <;> simp [List.filter_cons, h] <;> omega
  have := H y
  omega

theorem postSets_ok {a b : List Int} {n : Int} (ha : OkL (OkI .i64) a) (hb : OkL (OkI .i64) b) (hn : -9223372036854775808 ≤ n ∧ n ≤ 9223372036854775807) : marigraphlaw06_PostSets a b n = some true := by
  unfold marigraphlaw06_PostSets
  obtain ⟨x, ex, gx, lx⟩ := some_eq ha.1
  obtain ⟨y, ey, gy, ly⟩ := some_eq hb.1
  obtain ⟨p, e1, g1, l1, m1⟩ := and_good gx gy
  obtain ⟨q, e2, g2, l2, m2⟩ := minus_good gx gy
  obtain ⟨r, e3, g3, l3, m3⟩ := or_good gx gy (by omega)
  obtain ⟨s, e4, g4, l4, m4⟩ := or_good gy gx (by omega)
  obtain ⟨t, e5, g5, l5, m5⟩ := or_good g1 g2 (by omega)
  obtain rfl : r = s := g3.1.1.ext g4.1.1 fun z => by rw [m3, m4, or_comm]
  obtain rfl : t = x := g5.1.1.ext gx.1.1 fun z => by
    rw [m5, m1, m2]
    by_cases h1 : z ∈ x <;> by_cases h2 : z ∈ y <;> simp [h1, h2]
  have hc := union_count gx.1.1 gy.1.1 g3.1.1 g1.1.1 m3 m1
  rw [shown_eq, ex, ey]
  simp only [Option.bind_some, e1, e2, e3, e4, e5, pur_eq]
  rw [ints_eq g3.lim, ints_eq gx.lim, has_eq n g3.lim, has_eq n gx.lim, has_eq n gy.lim, has_eq n g1.lim, has_eq n g2.lim]
  rw [wrap64 (by omega) (by omega), wrap64 (by omega) (by omega)]
  have hne : (((r.length : Int) + (p.length : Int)) != ((t.length : Int) + (y.length : Int))) = false := by simp; omega
  rw [hne]
  have f : ∀ {l : List Int}, Good l → (decide (Good l ∧ n ∈ l)) = decide (n ∈ l) := fun h => decide_eq_decide.2 ⟨fun h => h.2, fun h2 => ⟨h, h2⟩⟩
  rw [f g3, f gx, f gy, f g1, f g2]
  have h1 := m1 n
  have h2 := m2 n
  have h3 := m3 n
  by_cases p1 : n ∈ t <;> by_cases p2 : n ∈ y <;> simp [p1, p2] at h1 h2 h3 <;> simp [p1, p2, h1, h2, h3]

theorem with_good {a : List Int} {n : Int} (ha : Good a) (hn : 0 ≤ n) (hl : a.length ≤ 4000) : ∃ r, post_With a n = some (r, 0) ∧ Good r ∧ r.length ≤ a.length + 1 ∧ ∀ x, x ∈ r ↔ x ∈ a ∨ x = n := by
  have gn : Good [n] := ⟨⟨by simp, fun x hx => by simp at hx; omega⟩, by simp⟩
  obtain ⟨r, e, g, l, m⟩ := or_good ha gn (by simp; omega)
  refine ⟨r, ?_, g, by simpa using l, fun x => by rw [m]; simp⟩
  unfold post_With
  rw [decide_eq_false (by omega), e]
  rfl

theorem postWith_ok {a : List Int} {n m : Int} (ha : OkL (OkI .i64) a) (hn : -9223372036854775808 ≤ n ∧ n ≤ 9223372036854775807) (hm : -9223372036854775808 ≤ m ∧ m ≤ 9223372036854775807) : marigraphlaw06_PostWith a n m = some true := by
  unfold marigraphlaw06_PostWith
  obtain ⟨x, ex, gx, lx⟩ := some_eq ha.1
  rw [shown_eq, ex]
  simp only [Option.bind_some]
  by_cases h : n < 0
  · rw [decide_eq_true h]
    unfold post_With
    rw [decide_eq_true h]
    simp
  · rw [decide_eq_false h]
    obtain ⟨y, ey, gy, ly, my⟩ := with_good (n := n) gx (by omega) (by omega)
    obtain ⟨z, ez, gz, lz, mz⟩ := with_good (n := n) gy (by omega) (by omega)
    obtain rfl : z = y := gz.1.1.ext gy.1.1 fun w => by rw [mz, my]; simp [or_assoc]
    rw [ey]
    simp only [Option.bind_some, ez, cond_false]
    have f : ∀ {l : List Int} {n : Int}, Good l → (decide (Good l ∧ n ∈ l)) = decide (n ∈ l) := fun h => decide_eq_decide.2 ⟨fun h => h.2, fun h2 => ⟨h, h2⟩⟩
    rw [has_eq n gy.lim, has_eq m gy.lim, has_eq m gx.lim, ints_eq gy.lim, right_eq gy.lim, f gy, f gy, f gx, decide_eq_true gy, decide_eq_true ((my n).2 (.inr rfl))]
    by_cases hmn : m = n
    · simp [hmn]
    · have := my m
      have hb : (m == n) = false := by simpa using hmn
      by_cases hmx : m ∈ x <;> simp [hmx, hmn] at this <;> simp [hb, hmx, this]
end Go.Proofs.Ytdoidjpeaakfiaa
