/- Plain laws of the index: the document's own index (layer 8), beside ours. -/
import Derived.Test.YtikdgllagijidaaGreatMgIv
import Derived.Test.YtikdgllagijidaaGreatMgIw
namespace Go.Proofs.YtikdgllagijidaaGreat
open Go Go.Mg
set_option linter.unusedVariables false
set_option linter.unusedSimpArgs false

/-! ### Labels -/
theorem lab_beq (a b : api_Label) : ((a.Name == b.Name) && ((a.Val == b.Val) && true)) = decide (a = b) := by
  rw [ba_beq, ba_beq, Bool.and_true]
  cases a; cases b
  rw [Bool.eq_iff_iff]
  simp
/-- Where an element stands ahead of which all are so: the first that is not. -/
theorem first_not {α : Type} {step : Int → Option (Int ⊕ Int)} (s : List α) (p : α → Bool)
    (hs : ∀ (i : Nat) (x : α), s[i]? = some x → step (i : Int) = some (if p x = true then .inl ((i + 1 : Nat) : Int) else .inr (i : Int)))
    (he : step (s.length : Int) = some (.inr (s.length : Int))) :
    ∃ k : Nat, k ≤ s.length ∧ iter step 0 = some (k : Int) ∧ (∀ x ∈ s.take k, p x = true) ∧ ∀ x, s[k]? = some x → p x = false := by
  obtain ⟨r, e1, k, rfl, h1, h2, h3⟩ := iter_inv (step := step) (fun (_ : Unit) i => i) s (fun _ i => ∀ x ∈ s.take i, p x = true) (fun r => ∃ k : Nat, r = (k : Int) ∧ k ≤ s.length ∧ (∀ x ∈ s.take k, p x = true) ∧ ∀ x, s[k]? = some x → p x = false) (by
    rintro _ i x hx hI
    have hi := lt_of_get hx
    rw [hs i x hx]
    cases hp : p x with
    | true =>
      left
      refine ⟨(), rfl, fun y hy => ?_⟩
      rw [List.take_add_one, hx, List.mem_append] at hy
      rcases hy with hy | hy
      · exact hI y hy
      · simp at hy; subst hy; exact hp
    | false =>
      right
      refine ⟨_, rfl, i, rfl, by omega, hI, fun y hy => ?_⟩
      rw [hx] at hy; cases hy; exact hp) (by
    rintro _ hI
    exact ⟨_, he, s.length, rfl, Nat.le_refl _, hI, fun x hx => by rw [List.getElem?_eq_none (Nat.le_refl _)] at hx; cases hx⟩) () (by simp)
  exact ⟨k, h1, e1, h2, h3⟩
theorem mem_drop_head {α : Type} {s : List α} {k : Nat} {y : α} (h : y ∈ s.drop k) : ∃ x, s[k]? = some x ∧ s.drop k = x :: s.drop (k + 1) := by
  have hk : k < s.length := by
    rcases Nat.lt_or_ge k s.length with h2 | h2
    · exact h2
    · rw [List.drop_eq_nil_of_le h2] at h; cases h
  exact ⟨s[k], List.getElem?_eq_getElem hk, List.drop_eq_getElem_cons hk⟩

theorem ref_sort {l : List api_Label} (hl : l.length < 20) (hs : ∀ x ∈ l, x.Name.size < 1000000) :
    (∃ r, rightS r = true ∧ r.Perm l ∧ marigraphref05_Sort l = some (r, 0)) ∨ ((∀ m, m.Perm l → rightS m = false) ∧ marigraphref05_Sort l = some ([], 50)) := by
  unfold marigraphref05_Sort
  have hloop : ∃ out, iter (fun s : (List api_Label) × Int => marigraphref05_Sort.b2 l s.1 s.2) (([] : List api_Label), (0 : Int)) = some out ∧ out.Perm (l.take 7) ∧ out.Pairwise nle := by
    obtain ⟨r, e1, h1, h2⟩ := iter_inv (step := fun s : (List api_Label) × Int => marigraphref05_Sort.b2 l s.1 s.2) (fun s i => (s, i)) (l.take 7)
      (fun s i => s.Perm ((l.take 7).take i) ∧ s.Pairwise nle) (fun r => r.Perm (l.take 7) ∧ r.Pairwise nle) (by
      rintro s i x hx ⟨h1, h2⟩
      left
      have hi := lt_of_get hx
      rw [List.length_take] at hi
      have hx' : l[i]? = some x := by rw [List.getElem?_take, if_pos (by omega)] at hx; exact hx
      have hsl : s.length ≤ 20 := by rw [h1.length_eq, List.length_take, List.length_take]; omega
      obtain ⟨k, k1, k2, k3, k4⟩ := first_not (step := fun j => marigraphref05_Sort.b7 l s (i : Int) j) s (fun y => strLt y.Name x.Name) (by
        intro j y hy
        have hj := lt_of_get hy
        unfold marigraphref05_Sort.b7
        rw [decide_eq_true (by omega), cond_true, at_nat hy, Option.bind_some, at_nat hx', Option.bind_some, Option.bind_some]
        cases hc : strLt y.Name x.Name with
        | true => simp only [cond_true, Option.bind_some, Sum.elim_inl, pur_eq, if_true]; rw [wrap64 (by omega) (by omega)]; rfl
        | false => simp) (by
        unfold marigraphref05_Sort.b7
        rw [decide_eq_false (by omega)]; rfl)
      refine ⟨s.take k ++ [x] ++ s.drop k, ?_, ?_, ?_⟩
      · unfold marigraphref05_Sort.b2
        dsimp only
        rw [decide_eq_true (by omega), cond_true, decide_eq_true (by omega)]
        simp only [Option.bind_some, cond_true, Sum.elim_inl]
        rw [k2, Option.bind_some, from_nat k1, Option.bind_some, app_ok (by rw [limv]; simp; omega), Option.bind_some, upto_nat k1, Option.bind_some, at_nat hx', Option.bind_some, app_ok (by rw [limv]; simp; omega), Option.bind_some, app_ok (by rw [limv]; simp; omega)]
        simp only [Option.bind_some, pur_eq, List.nil_append]
        rw [wrap64 (by omega) (by omega)]; rfl
      · rw [List.take_add_one, hx]
        have : (s.take k ++ [x] ++ s.drop k).Perm (s ++ [x]) := by
          rw [List.append_assoc]
          refine (List.Perm.append_left _ (List.perm_append_comm)).trans ?_
          rw [← List.append_assoc, List.take_append_drop]
        exact this.trans (h1.append_right _)
      · have hsplit := h2
        rw [← List.take_append_drop k s] at hsplit
        obtain ⟨p1, p2, p3⟩ := List.pairwise_append.1 hsplit
        have hge : ∀ y ∈ s.drop k, nle x y := by
          intro y hy
          obtain ⟨z, hz1, hz2⟩ := mem_drop_head hy
          have hxz : nle x z := k4 z hz1
          rw [hz2] at hy p2
          rcases List.mem_cons.1 hy with rfl | hy
          · exact hxz
          · exact nle_trans hxz ((List.pairwise_cons.1 p2).1 y hy)
        rw [List.append_assoc, List.pairwise_append]
        refine ⟨p1, List.pairwise_cons.2 ⟨hge, p2⟩, fun a ha b hb => ?_⟩
        have hax := strLt_asymm (k3 a ha)
        rcases List.mem_cons.1 hb with rfl | hb
        · exact hax
        · exact p3 a ha b hb) (by
      rintro s ⟨h1, h2⟩
      rw [List.take_length] at h1
      refine ⟨s, ?_, h1, h2⟩
      unfold marigraphref05_Sort.b2
      dsimp only
      rw [List.length_take]
      by_cases hc : 7 ≤ l.length
      · by_cases hd : ((min 7 l.length : Nat) : Int) < (l.length : Int)
        · rw [decide_eq_true hd, cond_true, decide_eq_false (by omega)]; rfl
        · rw [decide_eq_false hd]; rfl
      · rw [decide_eq_false (by omega)]; rfl) [] ⟨by simp, .nil⟩
    exact ⟨r, e1, h1, h2⟩
  obtain ⟨out, e1, h1, h2⟩ := hloop
  have hol : out.length ≤ 7 := by rw [h1.length_eq, List.length_take]; omega
  rw [e1, Option.bind_some, ref_right (by omega) fun x hx => by
    have := hs x (List.mem_of_mem_take (h1.mem_iff.1 hx)); omega]
  by_cases h6 : l.length ≤ 6
  · rw [List.take_of_length_le (by omega)] at h1
    cases hr : rightS out with
    | true => exact .inl ⟨out, hr, h1, rfl⟩
    | false =>
      refine .inr ⟨fun m hm => ?_, rfl⟩
      cases hq : rightS m with
      | false => rfl
      | true =>
        have := right_uniq hq (h1.trans hm.symm) h2
        rw [this, hq] at hr; cases hr
  · have hr : rightS out = false := by
      cases hr : rightS out with
      | false => rfl
      | true =>
        have := (rightS_iff.1 hr).2.2.2
        rw [h1.length_eq, List.length_take] at this
        omega
    rw [hr]
    refine .inr ⟨fun m hm => ?_, rfl⟩
    cases hq : rightS m with
    | false => rfl
    | true =>
      have := (rightS_iff.1 hq).2.2.2
      rw [hm.length_eq] at this
      omega

/-- Two lists, compared one by one. -/
theorem same_fold {α : Type} [DecidableEq α] (a b : List α) (hlen : a.length = b.length) : ∀ (m : List α) (i : Nat), m = a.drop i → foldI (fun (_ : Unit) (i : Nat) (x : α) => some (if b[i]? = some x then (.inl () : Unit ⊕ (Unit ⊕ Bool)) else .inr (.inr false))) (fun _ => .inl ()) () i m = some (if a.drop i = b.drop i then .inl () else .inr false) := by
  intro m
  induction m with
  | nil =>
    intro i hi
    have : a.length ≤ i := by simpa using hi.symm
    rw [if_pos (by rw [← hi, eq_comm]; simpa using (by omega : b.length ≤ i))]
    rfl
  | cons x l ih =>
    intro i hi
    have hi1 : i < a.length := by
      rcases Nat.lt_or_ge i a.length with h | h
      · exact h
      · rw [List.drop_eq_nil_of_le h] at hi; cases hi
    have hi2 : i < b.length := by omega
    have hd := List.drop_eq_getElem_cons hi1
    rw [hd] at hi
    obtain ⟨rfl, rfl⟩ := List.cons.inj hi
    have hd2 := List.drop_eq_getElem_cons hi2
    unfold foldI
    rw [List.getElem?_eq_getElem hi2]
    by_cases he : b[i] = a[i]
    · rw [hd, hd2]
      simp only [he, if_true, Option.bind_some, List.cons.injEq, true_and]
      exact ih (i + 1) rfl
    · have hne : ¬ a.drop i = b.drop i := by
        rw [hd, hd2]
        exact fun h => he (List.cons.inj h).1.symm
      simp [he, hne]
theorem same_eq {a b : List api_Label} (ha : a.length < 1000000) : marigraphref05_Same a b = some (decide (a = b)) := by
  unfold marigraphref05_Same
  by_cases hlen : a.length = b.length
  · have h0 : ((a.length : Int) != (b.length : Int)) = false := by simp [hlen]
    rw [h0, cond_false, iter_list (fun (_ : Unit) (i : Int) => i) a (fun _ i x => some (if b[i]? = some x then .inl () else .inr (.inr false))) (fun _ => .inl ()) ?_ ?_ (), same_fold a b hlen a 0 (by simp)]
    · by_cases h : a = b <;> simp [h]
    · intro s i x hx
      have := lt_of_get hx
      have hb : i < b.length := by omega
      unfold marigraphref05_Same.b2
      rw [decide_eq_true (by omega : (i : Int) < a.length), cond_true, at_nat hx, at_nat (List.getElem?_eq_getElem hb), List.getElem?_eq_getElem hb]
      simp only [Option.bind_some, Option.map_some, pur_eq, lab_beq]
      rw [wrap64 (by omega) (by omega)]
      by_cases h : x = b[i]
      · simp [h]
      · have h' : ¬ b[i] = x := fun h2 => h h2.symm
        simp [h, h']
    · intro s
      simp [marigraphref05_Same.b2]
  · have h0 : ((a.length : Int) != (b.length : Int)) = true := by simp; omega
    rw [h0, cond_true]
    rw [decide_eq_false fun h => hlen (by rw [h])]
theorem strings_eq {a b : List ByteArray} (ha : a.length < 1000000) : marigraphref08_Strings a b = some (decide (a = b)) := by
  unfold marigraphref08_Strings
  by_cases hlen : a.length = b.length
  · have h0 : ((a.length : Int) != (b.length : Int)) = false := by simp [hlen]
    rw [h0, cond_false, iter_list (fun (_ : Unit) (i : Int) => i) a (fun _ i x => some (if b[i]? = some x then .inl () else .inr (.inr false))) (fun _ => .inl ()) ?_ ?_ (), same_fold a b hlen a 0 (by simp)]
    · by_cases h : a = b <;> simp [h]
    · intro s i x hx
      have := lt_of_get hx
      have hb : i < b.length := by omega
      unfold marigraphref08_Strings.b2
      rw [decide_eq_true (by omega : (i : Int) < a.length), cond_true, at_nat hx, at_nat (List.getElem?_eq_getElem hb), List.getElem?_eq_getElem hb]
      simp only [Option.bind_some, Option.map_some, pur_eq, strEq_eq]
      rw [wrap64 (by omega) (by omega)]
      by_cases h : x = b[i]
      · simp [h]
      · have h' : ¬ b[i] = x := fun h2 => h h2.symm
        simp [h, h']
    · intro s
      simp [marigraphref08_Strings.b2]
  · have h0 : ((a.length : Int) != (b.length : Int)) = true := by simp; omega
    rw [h0, cond_true]
    rw [decide_eq_false fun h => hlen (by rw [h])]

/-! ### The document's index -/
def mkS (e : Int × List api_Label) : marigraphref08_Series := ⟨e.1, e.2⟩
def wOf (A : Ser) (g : Int) : marigraphref08_Index := ⟨A.map mkS, g⟩
section
variable {A : Ser} {g : Int}
theorem at_mk {i : Nat} {e : Int × List api_Label} (h : A[i]? = some e) : at_ (wOf A g).S (i : Int) = some (mkS e) := at_nat (by unfold wOf; rw [List.getElem?_map, h]; rfl)
theorem len_mk : (wOf A g).S.length = A.length := by unfold wOf; rw [List.length_map]
theorem find_fold {α : Type} (p : α → Bool) (l : List α) : ∀ i : Nat, foldI (fun (_ : Unit) (i : Nat) (x : α) => some (if p x = true then (.inr (.inr (i : Int)) : Unit ⊕ (Unit ⊕ Int)) else .inl ())) (fun _ => .inl ()) () i l =
    some (match l.findIdx? p with | none => .inl () | some k => .inr ((i + k : Nat) : Int)) := by
  induction l with
  | nil => intro i; rfl
  | cons x l ih =>
    intro i
    unfold foldI
    rw [List.findIdx?_cons]
    cases h : p x with
    | true => simp
    | false =>
      simp only [Bool.false_eq_true, if_false, Option.bind_some]
      rw [ih]
      cases List.findIdx? p l with
      | none => rfl
      | some k => simp; omega
theorem w_at (hA : A.length < 100000) (id : Int) : marigraphref08_Index_at (wOf A g) id = some (match A.findIdx? (fun e => decide (e.1 = id)) with | none => -1 | some k => (k : Int)) := by
  unfold marigraphref08_Index_at
  rw [iter_list (fun (_ : Unit) (i : Int) => i) A (fun _ i x => some (if (decide (x.1 = id)) = true then .inr (.inr (i : Int)) else .inl ())) (fun _ => .inl ()) ?_ ?_ (), find_fold (fun e : Int × List api_Label => decide (e.1 = id))]
  · cases List.findIdx? (fun e : Int × List api_Label => decide (e.1 = id)) A <;> simp
  · intro s i e he
    have := lt_of_get he
    unfold marigraphref08_Index_at.b2
    rw [len_mk, decide_eq_true (by omega), cond_true, at_mk he, Option.bind_some]
    by_cases h : e.1 = id
    · simp [mkS, h]
    · rw [show ((mkS e).Id == id) = false by simpa [mkS] using h, cond_false, pur_eq, wrap64 (by omega) (by omega), decide_eq_false h]; rfl
  · intro s
    unfold marigraphref08_Index_at.b2
    rw [len_mk, decide_eq_false (by omega)]; rfl
theorem w_find (hA : A.length < 100000) (hr : ∀ e ∈ A, rightS e.2 = true) (l : List api_Label) : marigraphref08_Index_find (wOf A g) l = some (match A.findIdx? (fun e => decide (e.2 = l)) with | none => -1 | some k => (k : Int)) := by
  unfold marigraphref08_Index_find
  rw [iter_list (fun (_ : Unit) (i : Int) => i) A (fun _ i x => some (if (decide (x.2 = l)) = true then .inr (.inr (i : Int)) else .inl ())) (fun _ => .inl ()) ?_ ?_ (), find_fold (fun e : Int × List api_Label => decide (e.2 = l))]
  · cases List.findIdx? (fun e : Int × List api_Label => decide (e.2 = l)) A <;> simp
  · intro s i e he
    have := lt_of_get he
    have hlen := (rightS_iff.1 (hr e (List.mem_of_getElem? he))).2.2
    unfold marigraphref08_Index_find.b2
    rw [len_mk, decide_eq_true (by omega), cond_true, at_mk he, Option.bind_some]
    rw [show (mkS e).L = e.2 from rfl, same_eq (by omega), Option.bind_some]
    by_cases h : e.2 = l
    · simp [h]
    · rw [decide_eq_false h, cond_false, pur_eq, wrap64 (by omega) (by omega)]; rfl
  · intro s
    unfold marigraphref08_Index_find.b2
    rw [len_mk, decide_eq_false (by omega)]; rfl
theorem idx_some {α : Type} {p : α → Bool} {l : List α} {k : Nat} (h : l.findIdx? p = some k) : ∃ x, l[k]? = some x ∧ p x = true := by
  obtain ⟨hk, h1, _⟩ := List.findIdx?_eq_some_iff_getElem.1 h
  exact ⟨l[k], List.getElem?_eq_getElem hk, h1⟩
theorem idx_none {α : Type} {p : α → Bool} {l : List α} (h : l.findIdx? p = none) : ∀ x ∈ l, p x = false := by
  rw [List.findIdx?_eq_none_iff] at h
  intro x hx
  simpa using h x hx
theorem off_take (h : SR (A.map (·.1))) {k : Nat} {e : Int × List api_Label} (hk : A[k]? = some e) : offS e.1 A = A.take k ++ A.drop (k + 1) := by
  have hsplit : A = A.take k ++ e :: A.drop (k + 1) := by rw [← drop_cons hk, List.take_append_drop]
  have hr := h
  rw [hsplit, List.map_append, List.map_cons] at hr
  obtain ⟨p1, p2, p3⟩ := List.pairwise_append.1 hr
  have p2 := List.pairwise_cons.1 p2
  unfold offS
  conv => lhs; rw [hsplit]
  rw [List.filter_append, List.filter_cons, if_neg (by simp), List.filter_eq_self.2, List.filter_eq_self.2]
  · intro z hz
    have := p2.1 z.1 (List.mem_map.2 ⟨z, hz, rfl⟩)
    exact decide_eq_true (by omega)
  · intro z hz
    have := p3 z.1 (List.mem_map.2 ⟨z, hz, rfl⟩) e.1 (by simp)
    exact decide_eq_true (by omega)

theorem w_drop (hr : SR (A.map (·.1))) (hA : A.length < 100000) (id : Int) : marigraphref08_Index_Drop (wOf A g) id = some (if (mget id A).isSome then (0, wOf (offS id A) g) else (2, wOf A g)) := by
  unfold marigraphref08_Index_Drop
  rw [w_at hA, Option.bind_some]
  cases hq : A.findIdx? (fun e => decide (e.1 = id)) with
  | none =>
    have hn := idx_none hq
    have : mget id A = none := by
      cases hm : mget id A with
      | none => rfl
      | some l => have := hn _ ((get_mem hr).1 hm); simp at this
    rw [this]; rfl
  | some k =>
    obtain ⟨e, he, hp⟩ := idx_some hq
    have hp := of_decide_eq_true hp
    subst hp
    have hk := lt_of_get he
    rw [(get_mem hr).2 (List.mem_of_getElem? he)]
    simp only [Option.isSome_some, if_true]
    rw [decide_eq_false (by omega), cond_false, upto_nat (by rw [len_mk]; omega), Option.bind_some, pur_eq, wrap64 (by omega) (by omega), show (k : Int) + 1 = ((k + 1 : Nat) : Int) by omega, from_nat (by rw [len_mk]; omega), Option.bind_some, app_ok (by rw [limv]; simp [len_mk]; omega), Option.bind_some, app_ok (by rw [limv]; simp [len_mk]; omega), Option.bind_some, pur_eq, off_take hr he]
    simp [wOf]
theorem w_labels (hr : SR (A.map (·.1))) (hA : A.length < 100000) (id : Int) : marigraphref08_Index_Labels (wOf A g) id = some ((mget id A).getD [], (mget id A).isSome) := by
  unfold marigraphref08_Index_Labels
  rw [w_at hA, Option.bind_some]
  cases hq : A.findIdx? (fun e => decide (e.1 = id)) with
  | none =>
    have hn := idx_none hq
    have : mget id A = none := by
      cases hm : mget id A with
      | none => rfl
      | some l => have := hn _ ((get_mem hr).1 hm); simp at this
    rw [this]; rfl
  | some k =>
    obtain ⟨e, he, hp⟩ := idx_some hq
    have hp := of_decide_eq_true hp
    subst hp
    rw [(get_mem hr).2 (List.mem_of_getElem? he)]
    simp only []
    rw [decide_eq_false (by omega), cond_false, at_mk he]
    rfl
theorem w_Find (hA : A.length < 100000) (hr : ∀ e ∈ A, rightS e.2 = true) {a : List api_Ask} (ha : a.length < 100000) (hs : ∀ x ∈ a, x.Name.size < 1000000) : marigraphref08_Index_Find (wOf A g) a = some (if rightA a = true then (idsOf (allS a) A, 0) else ([], 1)) := by
  unfold marigraphref08_Index_Find
  rw [ref_rightA (by omega) fun x hx => by have := hs x hx; omega, Option.bind_some]
  cases h : rightA a with
  | false => rfl
  | true =>
    rw [Bool.not_true, cond_false, if_pos rfl]
    obtain ⟨r, e1, rfl⟩ := iter_inv (step := fun s : (List Int) × Int => marigraphref08_Index_Find.b2 (wOf A g) a s.1 s.2) (fun s i => (s, i)) A (fun s i => s = idsOf (allS a) (A.take i)) (fun r => r = idsOf (allS a) A) (by
      rintro s i e he rfl
      left
      have hi := lt_of_get he
      have hlen := (rightS_iff.1 (hr e (List.mem_of_getElem? he))).2.2
      have hsl := idsOf_len (p := allS a) (A := A.take i)
      rw [List.length_take] at hsl
      refine ⟨_, ?_, rfl⟩
      unfold marigraphref08_Index_Find.b2
      dsimp only
      rw [len_mk, decide_eq_true (by omega), cond_true, at_mk he, Option.bind_some]
      rw [show (mkS e).L = e.2 from rfl, ref_all (by omega) (by omega), Option.bind_some, List.take_add_one, he]
      have hap := idsOf_append (p := allS a) (A := A.take i) (id := e.1) (l := e.2)
      rw [show Option.toList (some e) = [(e.1, e.2)] from rfl, hap]
      cases allS a e.2 with
      | true =>
        rw [cond_true, Option.bind_some, app_ok (by rw [limv]; simp; omega)]
        simp only [Option.bind_some, pur_eq, if_true]
        rw [wrap64 (by omega) (by omega)]; rfl
      | false =>
        simp only [cond_false, Option.bind_some, pur_eq]
        rw [wrap64 (by omega) (by omega)]; simp) (by
      rintro s rfl
      refine ⟨_, ?_, rfl⟩
      unfold marigraphref08_Index_Find.b2
      dsimp only
      rw [len_mk, decide_eq_false (by omega), cond_false, List.take_length]) [] (by simp [idsOf])
    rw [e1]; rfl

theorem w_post (hA : A.length < 100000) (hr : ∀ e ∈ A, rightS e.2 = true) (y : api_Label) : marigraphref08_Index_Post (wOf A g) y = some (idsOf (has y) A) := by
  unfold marigraphref08_Index_Post
  obtain ⟨r, e1, rfl⟩ := iter_inv (step := fun s : (List Int) × Int => marigraphref08_Index_Post.b2 (wOf A g) y s.1 s.2) (fun s i => (s, i)) A (fun s i => s = idsOf (has y) (A.take i)) (fun r => r = idsOf (has y) A) (by
    rintro s i e he rfl
    left
    have hi := lt_of_get he
    obtain ⟨r1, r2, r3, r4⟩ := rightS_iff.1 (hr e (List.mem_of_getElem? he))
    have hsl := idsOf_len (p := has y) (A := A.take i)
    rw [List.length_take] at hsl
    refine ⟨_, ?_, rfl⟩
    unfold marigraphref08_Index_Post.b2
    dsimp only
    rw [len_mk, decide_eq_true (by omega), cond_true]
    have hap := idsOf_append (p := has y) (A := A.take i) (id := e.1) (l := e.2)
    obtain ⟨q, e2, rfl⟩ := iter_inv (step := fun s : (List Int) × Int => marigraphref08_Index_Post.b4 (wOf A g) y (i : Int) s.1 s.2) (fun s i => (s, i)) e.2
      (fun s j => s = idsOf (has y) (A.take i) ++ if has y (e.2.take j) = true then [e.1] else []) (fun q => q = idsOf (has y) (A.take i) ++ if has y e.2 = true then [e.1] else []) (by
      rintro s j z hz rfl
      left
      have hj := lt_of_get hz
      refine ⟨_, ?_, rfl⟩
      unfold marigraphref08_Index_Post.b4
      dsimp only
      rw [at_mk he, Option.bind_some, show (mkS e).L = e.2 from rfl, decide_eq_true (by omega), cond_true, Option.bind_some, show (mkS e).L = e.2 from rfl, at_nat hz, Option.bind_some, lab_beq, List.take_add_one, hz, Option.toList_some, has_snoc]
      by_cases hzy : z = y
      · subst hzy
        have hno : has z (e.2.take j) = false := by
          cases hh : has z (e.2.take j) with
          | false => rfl
          | true =>
            have hm := has_iff.1 hh
            obtain ⟨m, hm1, hm2⟩ := List.getElem_of_mem hm
            rw [List.length_take] at hm1
            rw [List.getElem_take] at hm2
            obtain ⟨hj1, hj2⟩ := List.getElem?_eq_some_iff.1 hz
            have := List.pairwise_iff_getElem.1 r2 m j (by omega) hj1 (by omega)
            rw [hm2, hj2, strLt_irrefl] at this; cases this
        rw [hno, decide_eq_true rfl, cond_true, Option.bind_some, app_ok (by rw [limv]; simp; omega)]
        simp only [Option.bind_some, pur_eq]
        rw [wrap64 (by omega) (by omega)]
        simp [mkS]
      · rw [decide_eq_false hzy, decide_eq_false (fun h => hzy h.symm), Bool.or_false, cond_false]
        simp only [Option.bind_some, pur_eq]
        rw [wrap64 (by omega) (by omega)]; rfl) (by
      rintro s rfl
      refine ⟨_, ?_, rfl⟩
      unfold marigraphref08_Index_Post.b4
      dsimp only
      rw [at_mk he, Option.bind_some, show (mkS e).L = e.2 from rfl, decide_eq_false (by omega), cond_false, List.take_length]) (idsOf (has y) (A.take i)) (by simp [has])
    rw [e2, Option.bind_some, pur_eq, wrap64 (by omega) (by omega), List.take_add_one, he, show Option.toList (some e) = [(e.1, e.2)] from rfl, hap]
    rfl) (by
    rintro s rfl
    refine ⟨_, ?_, rfl⟩
    unfold marigraphref08_Index_Post.b2
    dsimp only
    rw [len_mk, decide_eq_false (by omega), cond_false, List.take_length]) [] (by simp [idsOf])
  rw [e1]; rfl

theorem rise_ext : ∀ {a b : List ByteArray}, (a.Pairwise fun x y => strLt x y = true) → (b.Pairwise fun x y => strLt x y = true) → (∀ v, v ∈ a ↔ v ∈ b) → a = b := by
  intro a b ha hb h
  have na : a.Nodup := ha.imp fun {x y} hxy e => by subst e; rw [strLt_irrefl] at hxy; cases hxy
  have nb : b.Nodup := hb.imp fun {x y} hxy e => by subst e; rw [strLt_irrefl] at hxy; cases hxy
  refine List.Perm.eq_of_pairwise (le := fun x y => strLt x y = true) (fun x y _ _ h1 h2 => ?_) ha hb ((List.perm_ext_iff_of_nodup na nb).2 h)
  rw [strLt_asymm h1] at h2; cases h2
theorem w_vals (hA : A.length < 100000) (hr : ∀ e ∈ A, rightS e.2 = true) (n : ByteArray) : ∃ V, marigraphref08_Index_Vals (wOf A g) n = some V ∧ (V.Pairwise fun a b => strLt a b = true) ∧ ∀ v, v ∈ V ↔ ∃ e ∈ A, getS e.2 n = some v := by
  unfold marigraphref08_Index_Vals
  obtain ⟨r, e1, h1, h2⟩ := iter_inv (step := fun s : (List ByteArray) × Int => marigraphref08_Index_Vals.b2 (wOf A g) n s.1 s.2) (fun s i => (s, i)) A
    (fun s i => s.length ≤ i ∧ (s.Pairwise fun a b => strLt a b = true) ∧ ∀ v, v ∈ s ↔ ∃ e ∈ A.take i, getS e.2 n = some v) (fun s => (s.Pairwise fun a b => strLt a b = true) ∧ ∀ v, v ∈ s ↔ ∃ e ∈ A, getS e.2 n = some v) (by
    rintro s i e he ⟨h0, h1, h2⟩
    left
    have hi := lt_of_get he
    have hlen := (rightS_iff.1 (hr e (List.mem_of_getElem? he))).2.2
    have hw : IntKind.i64.wrap ((i : Int) + 1) = ((i + 1 : Nat) : Int) := by rw [wrap64 (by omega) (by omega)]; rfl
    have hmem : ∀ v, (∃ x ∈ A.take (i + 1), getS x.2 n = some v) ↔ (v ∈ s ∨ getS e.2 n = some v) := by
      intro v
      rw [h2, List.take_add_one, he, Option.toList_some]
      constructor
      · rintro ⟨x, hx, hv⟩
        rcases List.mem_append.1 hx with hx | hx
        · exact .inl ⟨x, hx, hv⟩
        · simp at hx; subst hx; exact .inr hv
      · rintro (⟨x, hx, hv⟩ | hv)
        · exact ⟨x, by simp [hx], hv⟩
        · exact ⟨e, by simp, hv⟩
    obtain ⟨k, k1, k2, k3, k4⟩ := first_not (step := fun j => marigraphref08_Index_Vals.b5 s ((getS e.2 n).getD ByteArray.empty, (getS e.2 n).isSome) j) s (fun y => strLt y ((getS e.2 n).getD ByteArray.empty)) (by
      intro j y hy
      have hj := lt_of_get hy
      unfold marigraphref08_Index_Vals.b5
      rw [decide_eq_true (by omega), cond_true, at_nat hy, Option.bind_some, Option.bind_some]
      cases hc : strLt y ((getS e.2 n).getD ByteArray.empty) with
      | true => simp only [cond_true, Option.bind_some, Sum.elim_inl, pur_eq, if_true]; rw [wrap64 (by omega) (by omega)]; rfl
      | false => simp) (by
      unfold marigraphref08_Index_Vals.b5
      rw [decide_eq_false (by omega)]; rfl)
    have hb2 : marigraphref08_Index_Vals.b2 (wOf A g) n s (i : Int) = ((((bif (!(getS e.2 n).isSome) then some true else (bif (decide ((k : Int) < (s.length : Int))) then ((at_ s (k : Int)).bind fun y97 => some (strEq y97 ((getS e.2 n).getD ByteArray.empty))) else some false)).bind fun o91 => (bif o91 then some (.inr s) else some (.inl ()))).bind (Sum.elim (fun (o87n : Unit) => ((from_ s (k : Int)).bind fun y115 => ((app_ 16 ([] : List ByteArray) y115).bind fun y121 => ((upto_ s (k : Int)).bind fun y141 => ((app_ 16 ([] : List ByteArray) y141).bind fun y149 => ((app_ 16 y149 ([((getS e.2 n).getD ByteArray.empty)] : List ByteArray)).bind fun y167 => ((app_ 16 y167 y121).bind fun y177 => some y177))))))) (fun q => some q))).bind fun o29 => some (.inl (o29, ((i + 1 : Nat) : Int)))) := by
      unfold marigraphref08_Index_Vals.b2
      rw [len_mk, decide_eq_true (by omega), cond_true, at_mk he, Option.bind_some, show (mkS e).L = e.2 from rfl, ref_get (by omega), Option.bind_some, k2, Option.bind_some]
      simp only [pur_eq, hw]
    rw [hb2]
    cases hg : getS e.2 n with
    | none =>
      refine ⟨s, rfl, by omega, h1, fun v => ?_⟩
      rw [hmem, hg]; simp
    | some v =>
      rw [hg] at k3 k4
      simp only [Option.getD_some] at k3 k4
      simp only [Option.isSome_some, Bool.not_true, cond_false, Option.getD_some]
      have hins : ∀ x, s[k]? = some x → x ≠ v → ∃ V : List ByteArray, V = s.take k ++ [v] ++ s.drop k := fun _ _ _ => ⟨_, rfl⟩
      have sorted_ins : (∀ x, s[k]? = some x → x ≠ v) → ((s.take k ++ [v] ++ s.drop k).Pairwise fun a b => strLt a b = true) := by
        intro hne
        have hsplit := h1
        rw [← List.take_append_drop k s] at hsplit
        obtain ⟨p1, p2, p3⟩ := List.pairwise_append.1 hsplit
        have hge : ∀ y ∈ s.drop k, strLt v y = true := by
          intro y hy
          obtain ⟨z, hz1, hz2⟩ := mem_drop_head hy
          have hxz : strLt v z = true := by
            cases hc : strLt v z with
            | true => rfl
            | false => exact absurd (strLt_tri (k4 z hz1) hc) (hne z hz1)
          rw [hz2] at hy p2
          rcases List.mem_cons.1 hy with rfl | hy
          · exact hxz
          · exact strLt_trans hxz ((List.pairwise_cons.1 p2).1 y hy)
        rw [List.append_assoc, List.pairwise_append]
        refine ⟨p1, List.pairwise_cons.2 ⟨hge, p2⟩, fun a ha b hb => ?_⟩
        rcases List.mem_cons.1 hb with rfl | hb
        · exact k3 a ha
        · exact p3 a ha b hb
      have mem_ins : ∀ u, u ∈ s.take k ++ [v] ++ s.drop k ↔ u ∈ s ∨ some v = some u := by
        intro u
        rw [List.append_assoc, List.mem_append, List.mem_append, List.mem_singleton]
        have : u ∈ s ↔ u ∈ s.take k ∨ u ∈ s.drop k := by conv => lhs; rw [← List.take_append_drop k s]; rw [List.mem_append]
        rw [this]
        constructor
        · rintro (h | h | h)
          · exact .inl (.inl h)
          · exact .inr (by rw [h])
          · exact .inl (.inr h)
        · rintro ((h | h) | h)
          · exact .inl h
          · exact .inr (.inr h)
          · exact .inr (.inl (Option.some.inj h).symm)
      have fin : (((from_ s (k : Int)).bind fun y115 => ((app_ 16 ([] : List ByteArray) y115).bind fun y121 => ((upto_ s (k : Int)).bind fun y141 => ((app_ 16 ([] : List ByteArray) y141).bind fun y149 => ((app_ 16 y149 ([v] : List ByteArray)).bind fun y167 => ((app_ 16 y167 y121).bind fun y177 => some y177)))))) : Option (List ByteArray)) = some (s.take k ++ [v] ++ s.drop k) := by
        rw [from_nat k1, Option.bind_some, app_ok (by rw [limv]; simp; omega), Option.bind_some, upto_nat k1, Option.bind_some, app_ok (by rw [limv]; simp; omega), Option.bind_some, app_ok (by rw [limv]; simp; omega), Option.bind_some, app_ok (by rw [limv]; simp; omega)]
        simp
      by_cases hk : k < s.length
      · have hx := List.getElem?_eq_getElem hk
        rw [decide_eq_true (by omega), cond_true, at_nat hx, Option.bind_some, strEq_eq]
        by_cases hv : s[k] = v
        · rw [decide_eq_true hv]
          refine ⟨s, rfl, by omega, h1, fun u => ?_⟩
          rw [hmem, hg]
          constructor
          · exact .inl
          · rintro (h | h)
            · exact h
            · cases h; rw [← hv]; exact List.getElem_mem hk
        · rw [decide_eq_false hv]
          simp only [Option.bind_some, cond_false, Sum.elim_inl]
          rw [fin]
          refine ⟨_, rfl, by simp; omega, sorted_ins fun x hx2 => (by rw [hx] at hx2; cases hx2; exact hv), fun u => ?_⟩
          rw [hmem, hg]; exact mem_ins u
      · rw [decide_eq_false (by omega)]
        simp only [Option.bind_some, cond_false, Sum.elim_inl]
        rw [fin]
        refine ⟨_, rfl, by simp; omega, sorted_ins fun x hx2 => (by rw [List.getElem?_eq_none (by omega)] at hx2; cases hx2), fun u => ?_⟩
        rw [hmem, hg]; exact mem_ins u) (by
    rintro s ⟨h0, h1, h2⟩
    rw [List.take_length] at h2
    refine ⟨s, ?_, h1, h2⟩
    unfold marigraphref08_Index_Vals.b2
    dsimp only
    rw [len_mk, decide_eq_false (by omega)]; rfl) [] ⟨by simp, .nil, by simp⟩
  rw [e1]
  exact ⟨r, rfl, h1, h2⟩
end
end Go.Proofs.YtikdgllagijidaaGreat
