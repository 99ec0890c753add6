/- Plain laws of the post layer: the reference. -/
import Derived.Test.YtdoidjpeaakfiaaMgQ
namespace Go.Proofs.Ytdoidjpeaakfiaa
open Go Go.Mg
set_option linter.unusedVariables false
set_option linter.unusedSimpArgs false

theorem refRight_eq {l : List Int} (hl : l.length ≤ lim) : marigraphref06_Right l = some (decide (Good l)) := by
  have hl' := hl
  rw [limv] at hl'
  unfold marigraphref06_Right
  have key := iter_inv (step := fun s : Int => marigraphref06_Right.b2 l s) (fun (_ : Unit) (i : Int) => i) l
    (fun _ i => SR (l.take i) ∧ ∀ x ∈ l.take i, 0 ≤ x) (fun r => (r = .inl () ∧ SR l ∧ ∀ x ∈ l, 0 ≤ x) ∨ (r = .inr false ∧ ¬ Good l)) ?_ ?_ () (by simp)
  · obtain ⟨r, h1, h2⟩ := key
    rw [h1]
    rcases h2 with ⟨rfl, h2⟩ | ⟨rfl, h2⟩
    · have hg : Good l ↔ l.length ≤ 4096 := ⟨fun h => h.2, fun h => ⟨h2, h⟩⟩
      simp only [Option.bind_some, Sum.elim_inl]
      congr 1
      exact decide_eq_decide.2 (by rw [hg]; omega)
    · rw [decide_eq_false h2]; rfl
  · intro _ i x hx ⟨hI, hI0⟩
    have hi := lt_of_get hx
    have hxe : l[i] = x := (List.getElem?_eq_some_iff.1 hx).2
    have htake : l.take (i + 1) = l.take i ++ [x] := by rw [List.take_succ_eq_append_getElem hi, hxe]
    unfold marigraphref06_Right.b2
    rw [decide_eq_true (by omega : (i : Int) < l.length), cond_true, at_nat hx]
    simp only [Option.bind_some]
    by_cases h0 : x < 0
    · right
      refine ⟨_, by rw [decide_eq_true h0]; rfl, .inr ⟨rfl, fun hg => ?_⟩⟩
      have := hg.1.2 x (List.mem_of_getElem? hx)
      omega
    · rw [decide_eq_false h0, cond_false]
      cases i with
      | zero =>
        left
        refine ⟨(), ?_, ?_⟩
        · simp [pur_eq]
          rfl
        · rw [htake]
          simp
          omega
      | succ j =>
        have hj : j < l.length := by omega
        have hjx := List.getElem?_eq_getElem hj
        have hw : IntKind.i64.wrap (((j + 1 : Nat) : Int) - 1) = (j : Int) := by rw [wrap64 (by omega) (by omega)]; omega
        rw [decide_eq_true (by omega : (0 : Int) < ((j + 1 : Nat) : Int)), cond_true]
        simp only [pur_eq, hw, at_nat hjx, Option.bind_some]
        by_cases hle : x ≤ l[j]
        · right
          refine ⟨_, by rw [decide_eq_true hle]; rfl, .inr ⟨rfl, fun hg => ?_⟩⟩
          have := List.pairwise_iff_getElem.1 hg.1.1 j (j + 1) hj hi (by omega)
          omega
        · left
          refine ⟨(), ?_, ?_⟩
          · rw [decide_eq_false hle]
            simp only [cond_false, Option.bind_some, Sum.elim_inl]
            rw [wrap64 (by omega) (by omega)]
            rfl
          · rw [htake]
            refine ⟨hI.append (by simp) fun y hy z hz => ?_, fun y hy => ?_⟩
            · simp at hz
              subst hz
              have hlast : y ≤ l[j] := by
                obtain ⟨k, hk, rfl⟩ := List.getElem_of_mem hy
                simp only [List.length_take] at hk
                simp only [List.getElem_take]
                by_cases hq : k = j
                · subst hq; exact Int.le_refl _
                · have := List.pairwise_iff_getElem.1 hI k j (by simp; omega) (by simp; omega) (by omega)
                  simp only [List.getElem_take] at this
                  omega
              omega
            · rcases List.mem_append.1 hy with hy | hy
              · exact hI0 y hy
              · simp at hy; omega
  · intro _ ⟨hI, hI0⟩
    refine ⟨.inl (), ?_, .inl ⟨rfl, by simpa using hI, by simpa using hI0⟩⟩
    simp [marigraphref06_Right.b2]

theorem in_eq {l : List Int} {n : Int} (hs : SR l) (hl : l.length ≤ lim) : marigraphref06_in l n = some (decide (n ∈ l)) := by
  have hl' := hl
  rw [limv] at hl'
  unfold marigraphref06_in
  obtain ⟨k, hk, h1, h2, h3⟩ := iter_search (step := fun s : Int × Int => marigraphref06_in.b2 l n s.1 s.2) l n hs (fun lo hi hlt hhi x hx => by
      have hm : Int.tdiv ((lo : Int) + (hi : Int)) 2 = (((lo + hi) / 2 : Nat) : Int) := rfl
      unfold marigraphref06_in.b2
      simp only [pur_eq]
      rw [decide_eq_true (by omega : (lo : Int) < hi), cond_true, wrap64 (x := (lo : Int) + hi) (by omega) (by omega), hm, wrap64 (x := (((lo + hi) / 2 : Nat) : Int)) (by omega) (by omega), at_nat hx]
      simp only [Option.bind_some]
      rw [wrap64 (by omega) (by omega)]
      by_cases h : x < n <;> simp [h]) (fun lo => by simp [marigraphref06_in.b2])
  rw [h1]
  simp only [Option.bind_some]
  have hm := mem_search h2 h3 hs
  by_cases hkl : k < l.length
  · have hx := List.getElem?_eq_getElem hkl
    rw [decide_eq_true (by omega : (k : Int) < l.length), cond_true, at_nat hx]
    simp only [Option.bind_some]
    congr 1
    rw [hx] at hm
    by_cases h : l[k] = n
    · rw [decide_eq_true (hm.2 (by rw [h]))]; simp [h]
    · rw [decide_eq_false fun hh => h (Option.some.inj (hm.1 hh))]; simp [h]
  · rw [decide_eq_false (by omega), cond_false, decide_eq_false]
    · rfl
    · intro h
      have := hm.1 h
      rw [List.getElem?_eq_none (by omega)] at this
      cases this

theorem put_eq {l : List Int} {n : Int} (hs : SR l) (hl : l.length ≤ 1000000) :
    ∃ r, marigraphref06_put l n = some r ∧ SR r ∧ (∀ x, x ∈ r ↔ x = n ∨ x ∈ l) ∧ r.length ≤ l.length + 1 := by
  unfold marigraphref06_put
  have H : ∀ k : Nat, k ≤ l.length → (∀ j x, k ≤ j → l[j]? = some x → n < x) →
      ∃ k' : Nat, k' ≤ l.length ∧ iter (fun s : Int => marigraphref06_put.b2 l n s) (k : Int) = some (k' : Int) ∧ (∀ j x, k' ≤ j → l[j]? = some x → n < x) ∧ (∀ x, 0 < k' → l[k' - 1]? = some x → x ≤ n) := by
    intro k
    induction k with
    | zero =>
      intro _ hA
      exact ⟨0, Nat.zero_le _, iter_end (by simp [marigraphref06_put.b2]), hA, fun x h => absurd h (Nat.not_lt_zero _)⟩
    | succ k ih =>
      intro hk hA
      have hkl : k < l.length := by omega
      have hx := List.getElem?_eq_getElem hkl
      have hw : IntKind.i64.wrap (((k + 1 : Nat) : Int) - 1) = (k : Int) := by rw [wrap64 (by omega) (by omega)]; omega
      by_cases h : n < l[k]
      · rw [iter_next (s' := (k : Int))]
        · refine ih (by omega) fun j x hj hjx => ?_
          by_cases hq : j = k
          · subst hq; rw [hx] at hjx; cases hjx; exact h
          · exact hA j x (by omega) hjx
        · unfold marigraphref06_put.b2
          simp only [pur_eq, hw, at_nat hx, Option.bind_some]
          rw [decide_eq_true (by omega : (0 : Int) < ((k + 1 : Nat) : Int)), decide_eq_true h]
          rfl
      · refine ⟨k + 1, hk, iter_end ?_, hA, fun x _ hx2 => ?_⟩
        · unfold marigraphref06_put.b2
          simp only [pur_eq, hw, at_nat hx, Option.bind_some]
          rw [decide_eq_true (by omega : (0 : Int) < ((k + 1 : Nat) : Int)), decide_eq_false h]
          rfl
        · simp only [Nat.add_sub_cancel] at hx2
          rw [hx] at hx2
          cases hx2
          omega
  obtain ⟨k, hk, h1, h2, h3⟩ := H l.length (Nat.le_refl _) fun j x hj hx => absurd (lt_of_get hx) (by omega)
  rw [h1]
  simp only [Option.bind_some]
  have hlt : ∀ x ∈ l.take k, ∀ m, (∀ y, 0 < k → l[k - 1]? = some y → y ≤ m) → x ≤ m := fun x hx m hm => by
    obtain ⟨i, hi, rfl⟩ := List.getElem_of_mem hx
    simp only [List.length_take] at hi
    simp only [List.getElem_take]
    have hk1 : k - 1 < l.length := by omega
    have := hm _ (by omega) (List.getElem?_eq_getElem hk1)
    by_cases hq : i = k - 1
    · subst hq; exact this
    · have := List.pairwise_iff_getElem.1 hs i (k - 1) (by omega) hk1 (by omega); omega
  have hgt : ∀ x ∈ l.drop k, n < x := fun x hx => by
    obtain ⟨i, hi⟩ := List.getElem?_of_mem hx
    rw [List.getElem?_drop] at hi
    exact h2 _ _ (by omega) hi
  have hfin : (0 < k ∧ l[k - 1]? = some n) ∨ ∀ x, 0 < k → l[k - 1]? = some x → x < n := by
    by_cases hq : 0 < k ∧ l[k - 1]? = some n
    · exact .inl hq
    · right
      intro x h0 hx
      have := h3 x h0 hx
      by_cases hxn : x = n
      · subst hxn; exact absurd ⟨h0, hx⟩ hq
      · omega
  have hw : 0 < k → IntKind.i64.wrap ((k : Int) - 1) = ((k - 1 : Nat) : Int) := fun h => by rw [wrap64 (by omega) (by omega)]; omega
  rcases hfin with ⟨h0, hx⟩ | hlt'
  · refine ⟨l, ?_, hs, fun x => ⟨.inr, fun h => h.elim (fun h => h ▸ List.mem_of_getElem? hx) id⟩, by omega⟩
    simp only [pur_eq]
    rw [decide_eq_true (by omega : (0 : Int) < k), hw h0, at_nat hx]
    simp
  · refine ⟨l.take k ++ [n] ++ l.drop k, ?_, ?_, fun x => ?_, by simp; omega⟩
    · have hc : (bif decide ((0 : Int) < (k : Int)) then pur (IntKind.i64.wrap ((k : Int) - 1)) fun y51 => (at_ l y51).bind fun y53 => some (y53 == n) else some false) = some false := by
        by_cases h0 : 0 < k
        · have hk1 : k - 1 < l.length := by omega
          have hx := List.getElem?_eq_getElem hk1
          have := hlt' _ h0 hx
          rw [decide_eq_true (by omega : (0 : Int) < k)]
          simp only [pur_eq]
          rw [hw h0, at_nat hx]
          simp
          omega
        · rw [decide_eq_false (by omega)]; rfl
      rw [hc]
      simp only [Option.bind_some, cond_false, Sum.elim_inl]
      rw [from_nat hk, upto_nat hk]
      simp only [Option.bind_some]
      have hd : (l.drop k).length = l.length - k := by simp
      have ht : (l.take k).length = k := by simp; omega
      rw [app_ok (by rw [limv]; simp only [List.length_nil]; omega)]
      simp only [Option.bind_some, List.nil_append]
      rw [app_ok (by rw [limv]; simp only [List.length_nil]; omega)]
      simp only [Option.bind_some, List.nil_append]
      rw [app_ok (by rw [limv]; simp only [List.length_cons, List.length_nil]; omega)]
      simp only [Option.bind_some]
      rw [app_ok (by rw [limv]; simp only [List.length_cons, List.length_nil, List.length_append]; omega)]
      rfl
    · have hA : SR (l.take k) := List.Pairwise.sublist (List.take_sublist _ _) hs
      have hB : SR (l.drop k) := List.Pairwise.sublist (List.drop_sublist _ _) hs
      have hlt2 : ∀ x ∈ l.take k, x < n := fun x hx => by
        have := hlt x hx (n - 1) fun y h0 hy => by have := hlt' y h0 hy; omega
        omega
      refine (hA.append (by simp) fun x hx y hy => ?_).append hB fun x hx y hy => ?_
      · simp at hy; subst hy; exact hlt2 x hx
      · have := hgt y hy
        rcases List.mem_append.1 hx with hx | hx
        · have := hlt2 x hx; omega
        · simp at hx; omega
    · have hmem : x ∈ l ↔ x ∈ l.take k ∨ x ∈ l.drop k := by rw [← List.mem_append, List.take_append_drop]
      rw [hmem]
      simp only [List.mem_append, List.mem_singleton]
      constructor
      · rintro ((h | h) | h)
        · exact .inr (.inl h)
        · exact .inl h
        · exact .inr (.inr h)
      · rintro (h | h | h)
        · exact .inl (.inr h)
        · exact .inl (.inl h)
        · exact .inr h

theorem refOf_eq {l : List Int} (hl : l.length ≤ 1000000) :
    ((∃ x ∈ l, x < 0) ∧ marigraphref06_Of l = some ([], 1)) ∨ (∀ x ∈ l, 0 ≤ x) ∧ ∃ r, marigraphref06_Of l = some (told r) ∧ SR r ∧ r.length ≤ l.length ∧ ∀ x, x ∈ r ↔ x ∈ l := by
  unfold marigraphref06_Of
  obtain ⟨r, h1, h2⟩ := iter_inv (step := fun s : Int => marigraphref06_Of.b2 l s) (fun (_ : Unit) (i : Int) => i) l
    (fun _ i => ∀ x ∈ l.take i, 0 ≤ x) (fun r => (r = .inl () ∧ ∀ x ∈ l, 0 ≤ x) ∨ (r = .inr ([], 1) ∧ ∃ x ∈ l, x < 0))
    (fun _ i x hx hI => by
      have hi := lt_of_get hx
      have hxe : l[i] = x := (List.getElem?_eq_some_iff.1 hx).2
      have htake : l.take (i + 1) = l.take i ++ [x] := by rw [List.take_succ_eq_append_getElem hi, hxe]
      unfold marigraphref06_Of.b2
      simp only [pur_eq]
      rw [decide_eq_true (by omega : (i : Int) < l.length), cond_true, at_nat hx, wrap64 (by omega) (by omega)]
      simp only [Option.bind_some]
      by_cases h0 : x < 0
      · exact .inr ⟨_, by rw [decide_eq_true h0]; rfl, .inr ⟨rfl, x, List.mem_of_getElem? hx, h0⟩⟩
      · refine .inl ⟨(), by rw [decide_eq_false h0]; rfl, fun y hy => ?_⟩
        rw [htake] at hy
        rcases List.mem_append.1 hy with hy | hy
        · exact hI y hy
        · simp at hy; omega)
    (fun _ hI => ⟨.inl (), by simp [marigraphref06_Of.b2], .inl ⟨rfl, by simpa using hI⟩⟩) () (by simp)
  rw [h1]
  rcases h2 with ⟨rfl, h2⟩ | ⟨rfl, h2⟩
  · right
    refine ⟨h2, ?_⟩
    obtain ⟨r, h3, h4, h5, h6⟩ := iter_inv (step := fun s : List Int × Int => marigraphref06_Of.b4 l s.1 s.2) (fun (s : List Int) (i : Int) => (s, i)) l
      (fun s i => SR s ∧ s.length ≤ i ∧ ∀ x, x ∈ s ↔ x ∈ l.take i) (fun r => SR r ∧ r.length ≤ l.length ∧ ∀ x, x ∈ r ↔ x ∈ l)
      (fun s i x hx ⟨hI, hIl, hIm⟩ => by
        have hi := lt_of_get hx
        have hxe : l[i] = x := (List.getElem?_eq_some_iff.1 hx).2
        have htake : l.take (i + 1) = l.take i ++ [x] := by rw [List.take_succ_eq_append_getElem hi, hxe]
        obtain ⟨r, p1, p2, p3, p4⟩ := put_eq (n := x) hI (by omega)
        refine .inl ⟨r, ?_, p2, by omega, fun y => by rw [p3, htake, hIm]; simp [or_comm]⟩
        unfold marigraphref06_Of.b4
        simp only [pur_eq]
        rw [decide_eq_true (by omega : (i : Int) < l.length), cond_true, at_nat hx, wrap64 (by omega) (by omega)]
        simp only [Option.bind_some, p1]
        rfl)
      (fun s ⟨hI, hIl, hIm⟩ => ⟨s, by simp [marigraphref06_Of.b4], hI, hIl, by simpa using hIm⟩) [] ⟨.nil, Nat.zero_le _, by simp⟩
    refine ⟨r, ?_, h4, h5, h6⟩
    simp only [Option.bind_some, Sum.elim_inl]
    rw [h3]
    simp only [Option.bind_some]
    unfold told
    by_cases hq : 4096 < r.length
    · rw [decide_eq_true (by omega), if_pos hq]; rfl
    · rw [decide_eq_false (by omega), if_neg hq]; rfl
  · exact .inl ⟨h2, rfl⟩

theorem some_eq {l : List Int} (hl : l.length ≤ lim) : ∃ r, marigraphlaw06_some l = some r ∧ Good r ∧ r.length ≤ 300 := by
  rw [limv] at hl
  unfold marigraphlaw06_some
  obtain ⟨r, h1, h2, h3⟩ := iter_inv (step := fun s : List Int × Int => marigraphlaw06_some.b2 l s.1 s.2) (fun (s : List Int) (i : Int) => (s, i)) l
    (fun s i => s.length ≤ min i 300 ∧ ∀ x ∈ s, 0 ≤ x) (fun r => r.length ≤ 300 ∧ ∀ x ∈ r, 0 ≤ x)
    (fun s i x hx ⟨hI, hI0⟩ => by
      have hi := lt_of_get hx
      left
      unfold marigraphlaw06_some.b2
      simp only [pur_eq]
      rw [decide_eq_true (by omega : (i : Int) < l.length), cond_true, at_nat hx, wrap64 (by omega) (by omega)]
      simp only [Option.bind_some]
      by_cases h : (i : Int) < 300
      · rw [decide_eq_true h]
        simp only [cond_true, Option.bind_some]
        by_cases h0 : 0 ≤ x
        · rw [decide_eq_true h0]
          simp only [cond_true, Option.bind_some]
          rw [app_ok (by rw [limv]; simp only [List.length_cons, List.length_nil]; omega)]
          refine ⟨s ++ [x], rfl, by simp; omega, fun y hy => ?_⟩
          rcases List.mem_append.1 hy with hy | hy
          · exact hI0 y hy
          · simp at hy; omega
        · rw [decide_eq_false h0]
          exact ⟨s, rfl, by omega, hI0⟩
      · rw [decide_eq_false h]
        exact ⟨s, rfl, by omega, hI0⟩)
    (fun s ⟨hI, hI0⟩ => ⟨s, by simp [marigraphlaw06_some.b2], by omega, hI0⟩) [] ⟨Nat.zero_le _, by simp⟩
  rw [h1]
  simp only [Option.bind_some]
  obtain ⟨⟨x, hx, hx0⟩, _⟩ | ⟨_, q, q1, q2, q3, q4⟩ := refOf_eq (l := r) (by omega)
  · have := h3 x hx; omega
  · rw [q1, told_ok (by omega)]
    exact ⟨q, rfl, good_of q2 (fun x hx => h3 x ((q4 x).1 hx)) (by omega), by omega⟩
end Go.Proofs.Ytdoidjpeaakfiaa
