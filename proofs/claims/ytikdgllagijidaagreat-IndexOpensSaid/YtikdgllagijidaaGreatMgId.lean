/- Plain laws of the index: labels, sorted. -/
import Derived.Test.YtikdgllagijidaaGreatMgIc
namespace Go.Proofs.YtikdgllagijidaaGreat
open Go Go.Mg
set_option linter.unusedVariables false
set_option linter.unusedSimpArgs false

/-- By name, not above. -/
def nle (a b : api_Label) : Prop := strLt b.Name a.Name = false
theorem nle_trans {a b c : api_Label} (h1 : nle a b) (h2 : nle b c) : nle a c := strLt_neg_trans h1 h2
theorem nle_refl (a : api_Label) : nle a a := strLt_irrefl _
theorem nle_total (a b : api_Label) : nle a b ∨ nle b a := by
  unfold nle
  cases h : strLt b.Name a.Name with
  | false => exact .inl rfl
  | true => exact .inr (strLt_asymm h)

theorem cmp1_neg (a b : api_Label) : ∃ r, label_Sort_1 a b = some r ∧ decide (r < 0) = strLt a.Name b.Name := by
  unfold label_Sort_1 cmp_Compare_string cmp_isNaN_string
  have : ∀ s : ByteArray, (!strEq s s) = false := fun s => by rw [strEq_eq]; simp
  simp only [this, Option.bind_some, cond_false]
  cases h : strLt a.Name b.Name with
  | true => exact ⟨-1, by simp, by simp⟩
  | false =>
    simp only [cond_false, Bool.false_or]
    cases h2 : (!strEq a.Name b.Name) with
    | true => exact ⟨1, by simp, by simp⟩
    | false => exact ⟨0, by simp, by simp⟩

theorem at_app {α : Type} {A R : List α} {x : α} {i : Int} (hi : i = (A.length : Int)) : at_ (A ++ x :: R) i = some x := by
  subst hi
  exact at_nat (by simp)
theorem set_app {α : Type} {A R : List α} {x y : α} : (A ++ x :: R).set A.length y = A ++ y :: R := by simp

/-- One element goes down to where it belongs. -/
theorem ins_down (C : List api_Label) (e : api_Label) : ∀ (n : Nat) (A B : List api_Label), A.length = n → (A ++ e :: (B ++ C)).length < 1000000 →
    (A ++ B).Pairwise nle → (∀ b ∈ B, nle e b) → ∃ r, iter (fun s : (List api_Label) × Int => slices_insertionSortCmpFunc_api_Label__label_Sort_1.b3 0 s.1 s.2) (A ++ e :: (B ++ C), (A.length : Int)) = some (r ++ C) ∧ r.Perm (A ++ e :: B) ∧ r.Pairwise nle := by
  intro n
  induction n with
  | zero =>
    intro A B hA hl hp hb
    have : A = [] := List.length_eq_zero_iff.1 hA
    subst this
    refine ⟨e :: B, iter_end ?_, .refl _, List.pairwise_cons.2 ⟨hb, by simpa using hp⟩⟩
    unfold slices_insertionSortCmpFunc_api_Label__label_Sort_1.b3
    simp
  | succ n ih =>
    intro A B hA hl hp hb
    obtain ⟨A', a, rfl⟩ : ∃ A' a, A = A' ++ [a] := by
      refine ⟨A.dropLast, A.getLast (by intro h; subst h; simp at hA), ?_⟩
      exact (List.dropLast_concat_getLast _).symm
    simp only [List.length_append, List.length_singleton] at hA
    have hA' : A'.length = n := by omega
    obtain ⟨q, hq1, hq2⟩ := cmp1_neg e a
    have hlen : ((A' ++ [a]).length : Int) = (n : Int) + 1 := by simp [hA']
    have hlx : (A' ++ [a]) ++ e :: (B ++ C) = A' ++ a :: e :: (B ++ C) := by simp
    have hb3 : slices_insertionSortCmpFunc_api_Label__label_Sort_1.b3 0 ((A' ++ [a]) ++ e :: (B ++ C)) ((A' ++ [a]).length : Int) =
        some (if strLt e.Name a.Name = true then .inl (A' ++ e :: (a :: B ++ C), (n : Int)) else .inr (A' ++ [a] ++ e :: (B ++ C))) := by
      unfold slices_insertionSortCmpFunc_api_Label__label_Sort_1.b3
      have hn : n < 1000000 := by simp at hl; omega
      rw [hlen]
      have w1 : IntKind.i64.wrap ((n : Int) + 1 - 1) = (n : Int) := by rw [wrap64 (by omega) (by omega)]; omega
      rw [decide_eq_true (by omega), cond_true]
      simp only [pur_eq, w1]
      have g1 : at_ ((A' ++ [a]) ++ e :: (B ++ C)) ((n : Int) + 1) = some e := at_app (by rw [hlen])
      have g2 : at_ ((A' ++ [a]) ++ e :: (B ++ C)) (n : Int) = some a := by rw [hlx]; exact at_app (by rw [hA'])
      rw [g1, g2]
      simp only [Option.bind_some, hq1, hq2]
      cases hc : strLt e.Name a.Name with
      | false => simp
      | true =>
        simp only [cond_true, Option.bind_some, Sum.elim_inl, if_true]
        rw [g1, g2]
        simp only [Option.bind_some, pur_eq]
        have s1 : ((A' ++ [a]) ++ e :: (B ++ C)).set ((n : Int) + 1).toNat a = A' ++ a :: a :: (B ++ C) := by
          rw [show ((n : Int) + 1).toNat = (A' ++ [a]).length by simp; omega, set_app]; simp
        rw [s1]
        have g3 : at_ (A' ++ a :: a :: (B ++ C)) (n : Int) = some a := at_app (by rw [hA'])
        rw [g3]
        simp only [Option.bind_some, pur_eq]
        have s2 : (A' ++ a :: a :: (B ++ C)).set ((n : Int)).toNat e = A' ++ e :: a :: (B ++ C) := by
          rw [show ((n : Int)).toNat = A'.length by omega, set_app]
        rw [s2]
        simp
    by_cases hc : strLt e.Name a.Name = true
    · rw [if_pos hc] at hb3
      have hp' := hp
      rw [List.append_assoc] at hp'
      obtain ⟨r, h1, h2, h3⟩ := ih A' (a :: B) hA' (by rw [hlx] at hl; simpa using hl) (by simpa using hp') (by
        intro b hbm
        rcases List.mem_cons.1 hbm with rfl | hbm
        · exact strLt_asymm hc
        · exact hb b hbm)
      refine ⟨r, ?_, h2.trans ?_, h3⟩
      · rw [← h1, hA']
        exact iter_next hb3
      · have : ((A' ++ [a]) ++ e :: B) = A' ++ a :: e :: B := by simp
        rw [this]
        exact (List.Perm.swap a e B).append_left A'
    · rw [if_neg hc] at hb3
      refine ⟨(A' ++ [a]) ++ e :: B, ?_, .refl _, ?_⟩
      · rw [iter_end hb3]; simp
      · have hea : nle a e := by simpa [nle] using hc
        rw [List.pairwise_append] at hp ⊢
        obtain ⟨p1, p2, p3⟩ := hp
        refine ⟨p1, List.pairwise_cons.2 ⟨hb, p2⟩, fun x hx y hy => ?_⟩
        have hxa : nle x a := by
          rcases List.mem_append.1 hx with hx | hx
          · rw [List.pairwise_append] at p1
            exact p1.2.2 x hx a (by simp)
          · simp at hx; subst hx; exact nle_refl _
        rcases List.mem_cons.1 hy with rfl | hy
        · exact nle_trans hxa hea
        · exact p3 x hx y hy

theorem ins_loop : ∀ (n : Nat) (A C : List api_Label), C.length = n → (A ++ C).length < 1000000 → A.Pairwise nle →
    ∃ r, iter (fun s : (List api_Label) × Int => slices_insertionSortCmpFunc_api_Label__label_Sort_1.b1 0 ((A ++ C).length : Int) s.1 s.2) (A ++ C, (A.length : Int)) = some r ∧ r.Perm (A ++ C) ∧ r.Pairwise nle := by
  intro n
  induction n with
  | zero =>
    intro A C hC hl hp
    have : C = [] := List.length_eq_zero_iff.1 hC
    subst this
    refine ⟨A, iter_end ?_, by simp, hp⟩
    unfold slices_insertionSortCmpFunc_api_Label__label_Sort_1.b1
    simp
  | succ n ih =>
    intro A C hC hl hp
    cases C with
    | nil => cases hC
    | cons e C =>
      have hn : A.length < 1000000 := by simp at hl; omega
      obtain ⟨r, h1, h2, h3⟩ := ins_down C e A.length A [] rfl (by simpa using hl) (by simpa using hp) (by simp)
      have hrl : r.length = A.length + 1 := by rw [h2.length_eq]; simp
      have hll : (A ++ e :: C).length = (r ++ C).length := by simp [hrl]; omega
      have hrl2 : ((r.length : Nat) : Int) = (A.length : Int) + 1 := by omega
      obtain ⟨q, g1, g2, g3⟩ := ih r C (by simpa using hC) (by rw [← hll]; exact hl) h3
      refine ⟨q, ?_, g2.trans ((h2.append_right C).trans (by simp)), g3⟩
      rw [← hll, hrl2] at g1
      rw [← g1]
      refine iter_next ?_
      unfold slices_insertionSortCmpFunc_api_Label__label_Sort_1.b1
      dsimp only
      rw [decide_eq_true (by simp; omega), cond_true]
      rw [show (A ++ e :: C) = A ++ e :: ([] ++ C) from rfl, h1, Option.bind_some, pur_eq, wrap64 (by omega) (by omega)]

theorem sort12 {l : List api_Label} (hl : l.length < 20) : ∃ r, slices_SortStableFunc_api_Label_api_Label__label_Sort_1 l = some r ∧ r.Perm l ∧ r.Pairwise nle := by
  unfold slices_SortStableFunc_api_Label_api_Label__label_Sort_1 slices_stableCmpFunc_api_Label__label_Sort_1
  have e1 : iter (fun s : (List api_Label) × Int × Int => slices_stableCmpFunc_api_Label__label_Sort_1.b2 (l.length : Int) s.1 s.2.1 s.2.2) (l, (0 : Int), (20 : Int)) = some (l, (0 : Int)) := by
    refine iter_end ?_
    unfold slices_stableCmpFunc_api_Label__label_Sort_1.b2
    dsimp only
    rw [decide_eq_false (by omega)]; rfl
  have e2 : ∃ r, slices_insertionSortCmpFunc_api_Label__label_Sort_1 l 0 (l.length : Int) = some r ∧ r.Perm l ∧ r.Pairwise nle := by
    unfold slices_insertionSortCmpFunc_api_Label__label_Sort_1
    rw [pur_eq, wrap64 (by omega) (by omega)]
    cases l with
    | nil =>
      refine ⟨[], iter_end ?_, .refl _, .nil⟩
      unfold slices_insertionSortCmpFunc_api_Label__label_Sort_1.b1
      simp
    | cons x l =>
      obtain ⟨r, h1, h2, h3⟩ := ins_loop l.length [x] l rfl (by simp at hl ⊢; omega) (by simp)
      exact ⟨r, h1, h2, h3⟩
  obtain ⟨r, h1, h2, h3⟩ := e2
  have e3 : iter (fun s : (List api_Label) × Int => slices_stableCmpFunc_api_Label__label_Sort_1.b3 (l.length : Int) s.1 s.2) (r, (20 : Int)) = some r := by
    refine iter_end ?_
    unfold slices_stableCmpFunc_api_Label__label_Sort_1.b3
    dsimp only
    rw [decide_eq_false (by omega)]; rfl
  rw [e1, Option.bind_some, h1, Option.bind_some, e3]
  exact ⟨r, rfl, h2, h3⟩

theorem rightS_nle {l : List api_Label} (h : rightS l = true) : l.Pairwise nle := (rightS_iff.1 h).2.1.imp fun h => strLt_asymm h
/-- Names that rise, each once: only one order. -/
theorem right_uniq {r m : List api_Label} (hm : rightS m = true) (hp : r.Perm m) (hr : r.Pairwise nle) : r = m := by
  obtain ⟨h1, h2, h3⟩ := rightS_iff.1 hm
  have hinj : ∀ a ∈ m, ∀ b ∈ m, a.Name = b.Name → a = b := by
    intro a ha b hb he
    obtain ⟨i, hi, rfl⟩ := List.getElem_of_mem ha
    obtain ⟨j, hj, rfl⟩ := List.getElem_of_mem hb
    have hpw := List.pairwise_iff_getElem.1 h2
    rcases Nat.lt_trichotomy i j with h | h | h
    · have := hpw i j hi hj h; rw [he, strLt_irrefl] at this; cases this
    · subst h; rfl
    · have := hpw j i hj hi h; rw [he, strLt_irrefl] at this; cases this
  refine List.Perm.eq_of_pairwise (le := nle) (fun a b ha hb h1 h2 => ?_) hr (rightS_nle hm) hp
  exact hinj a (hp.mem_iff.1 ha) b hb (strLt_tri h2 h1)

/-- Labels, sorted, if they can tell a series. -/
theorem label_sort {l : List api_Label} (hl : l.length < 20) :
    (∃ r, rightS r = true ∧ r.Perm l ∧ label_Sort l = some (r, 0)) ∨ ((∀ m, m.Perm l → rightS m = false) ∧ label_Sort l = some ([], 50)) := by
  obtain ⟨r, h1, h2, h3⟩ := sort12 hl
  have e : label_Sort l = some (if rightS r = true then (r, 0) else ([], 50)) := by
    unfold label_Sort slices_Clone_api_Label_api_Label
    rw [clone_ok (by rw [limv]; omega), Option.bind_some, h1, Option.bind_some, label_right (by rw [h2.length_eq]; omega), Option.bind_some]
    cases rightS r <;> rfl
  cases hr : rightS r with
  | true => rw [hr] at e; exact .inl ⟨r, hr, h2, e⟩
  | false =>
    rw [hr] at e
    refine .inr ⟨fun m hm => ?_, e⟩
    cases hq : rightS m with
    | false => rfl
    | true =>
      have := right_uniq hq (h2.trans hm.symm) h3
      rw [this, hq] at hr; cases hr
theorem label_sort_right {l : List api_Label} (h : rightS l = true) : label_Sort l = some (l, 0) := by
  have hlen := (rightS_iff.1 h).2.2
  rcases label_sort (l := l) (by omega) with ⟨r, h1, h2, h3⟩ | ⟨h1, _⟩
  · rw [h3, right_uniq h h2 (rightS_nle h1)]
  · rw [h1 l (.refl _)] at h; cases h

/-! ### The reference's own check -/
theorem ref_right {l : List api_Label} (hl : l.length < 1000000) (hs : ∀ x ∈ l, x.Name.size < 1000000000) : marigraphref05_Right l = some (rightS l) := by
  unfold marigraphref05_Right
  rw [iter_list (fun (s : ByteArray) (i : Int) => i) l (fun (last : ByteArray) (i : Nat) (x : api_Label) => some (if (okL x && strLt (if i = 0 then ByteArray.empty else (l.getD (i - 1) ⟨ByteArray.empty, ByteArray.empty⟩).Name) x.Name) = true then (.inl x.Name : ByteArray ⊕ (Unit ⊕ Bool)) else .inr (.inr false))) (fun _ => .inl ()) ?_ ?_ ByteArray.empty]
  · have H : ∀ (m : List api_Label) (i : Nat) (last : ByteArray), m = l.drop i → last = (if i = 0 then ByteArray.empty else (l.getD (i - 1) ⟨ByteArray.empty, ByteArray.empty⟩).Name) →
        foldI (fun (last : ByteArray) (i : Nat) (x : api_Label) => some (if (okL x && strLt (if i = 0 then ByteArray.empty else (l.getD (i - 1) ⟨ByteArray.empty, ByteArray.empty⟩).Name) x.Name) = true then (.inl x.Name : ByteArray ⊕ (Unit ⊕ Bool)) else .inr (.inr false))) (fun _ => .inl ()) last i m = some (if chain last m = true then .inl () else .inr false) := by
      intro m
      induction m with
      | nil => intro i last h1 h2; simp [foldI, chain]
      | cons y m ih =>
        intro i last h1 h2
        have hi : i < l.length := by
          rcases Nat.lt_or_ge i l.length with h | h
          · exact h
          · rw [List.drop_eq_nil_of_le h] at h1; cases h1
        rw [List.drop_eq_getElem_cons hi] at h1
        obtain ⟨rfl, rfl⟩ := List.cons.inj h1
        unfold foldI chain
        rw [← h2]
        cases h : (okL l[i] && strLt last l[i].Name) with
        | true =>
          simp only [if_true, Option.bind_some]
          rw [ih (i + 1) _ rfl (by simp [hi]), Bool.true_and]
        | false => simp
    rw [H l 0 ByteArray.empty rfl rfl]
    unfold rightS
    cases h : chain ByteArray.empty l with
    | true =>
      rw [if_pos rfl]
      simp only [Option.bind_some, Sum.elim_inl]
      have := within_lab l 6
      unfold label_within_api_Label at this
      exact this.trans (by simp)
    | false => rw [if_neg (by simp)]; simp
  · intro s i x hx
    have := lt_of_get hx
    have hxs := hs x (List.mem_of_getElem? hx)
    unfold marigraphref05_Right.b2
    rw [decide_eq_true (by omega : (i : Int) < l.length), cond_true, at_nat hx]
    simp only [Option.bind_some, Option.map_some, pur_eq]
    rw [refName_eq (by omega), Option.bind_some]
    unfold okL
    cases h1 : nameS x.Name with
    | false => simp
    | true =>
      simp only [Bool.not_true, cond_false, Option.bind_some, Bool.true_and]
      by_cases h2 : 1 ≤ x.Val.size
      · by_cases h3 : x.Val.size ≤ 64
        · rw [decide_eq_false (by omega : ¬ (x.Val.size : Int) < 1), decide_eq_false (by omega : ¬ (64 : Int) < (x.Val.size : Int)), decide_eq_true h2, decide_eq_true h3]
          simp only [cond_false, Bool.and_self, Bool.true_and]
          by_cases h0 : i = 0
          · subst h0
            rw [if_pos rfl, strLt_empty (nameS_size h1).1]
            simp
            exact wrap64 (by omega) (by omega)
          · rw [if_neg h0]
            have hp : i - 1 < l.length := by omega
            have hg : l[i - 1]? = some l[i - 1] := List.getElem?_eq_getElem hp
            rw [decide_eq_true (by omega : (0 : Int) < (i : Int)), cond_true, wrap64 (by omega) (by omega), show (i : Int) - 1 = ((i - 1 : Nat) : Int) by omega, at_nat hg]
            simp only [Option.bind_some, strLe_eq, List.getD_eq_getElem?_getD, hg, Option.getD_some]
            cases h4 : strLt l[i - 1].Name x.Name with
            | false => simp
            | true =>
              simp only [Bool.not_true, cond_false, Option.bind_some, Sum.elim_inl, if_true]
              rw [wrap64 (by omega) (by omega)]; rfl
        · rw [decide_eq_false (by omega : ¬ (x.Val.size : Int) < 1), decide_eq_true (by omega : (64 : Int) < (x.Val.size : Int)), decide_eq_false h3]
          simp
      · rw [decide_eq_true (by omega : (x.Val.size : Int) < 1), decide_eq_false h2]
        simp
  · intro s
    simp [marigraphref05_Right.b2]
end Go.Proofs.YtikdgllagijidaaGreat
