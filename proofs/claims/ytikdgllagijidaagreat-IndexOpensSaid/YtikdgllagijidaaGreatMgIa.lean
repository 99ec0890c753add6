/- Plain laws of the index: what is used of the post layer. -/
import Derived.Test.YtikdgllagijidaaGreatW3
import Derived.Test.YtikdgllagijidaaGreatMgP
import Derived.Test.YtikdgllagijidaaGreatMgR
namespace Go.Proofs.YtikdgllagijidaaGreat
open Go Go.Mg
set_option linter.unusedVariables false
set_option linter.unusedSimpArgs false

/-- Right numbers. -/
abbrev Good (l : List Int) : Prop := (SR l ∧ ∀ x ∈ l, 0 ≤ x) ∧ l.length ≤ 4096

theorem limv : lim = 140737488355328 := rfl

theorem right_fold (l : List Int) : ∀ (last : Int) (i : Nat), foldI (fun (last : Int) (i : Nat) (x : Int) => some (if x ≤ last then (.inr (.inr false) : Int ⊕ (Unit ⊕ Bool)) else .inl x)) (fun _ => .inl ()) last i l =
    some (if SR l ∧ ∀ x ∈ l, last < x then .inl () else .inr false) := by
  induction l with
  | nil => intro last i; simp [foldI]
  | cons y l ih =>
    intro last i
    unfold foldI
    by_cases h : y ≤ last
    · simp only [h, if_true, Option.bind_some]
      rw [if_neg]
      rintro ⟨_, h2⟩
      have := h2 y (by simp)
      omega
    · simp only [h, if_false, Option.bind_some]
      rw [ih]
      congr 1
      simp only [SR, List.pairwise_cons, List.mem_cons, forall_eq_or_imp]
      by_cases h3 : SR l ∧ ∀ x ∈ l, y < x
      · rw [if_pos h3, if_pos]
        exact ⟨⟨h3.2, h3.1⟩, by omega, fun x hx => by have := h3.2 x hx; omega⟩
      · rw [if_neg h3, if_neg]
        rintro ⟨⟨h4, h5⟩, _⟩
        exact h3 ⟨h5, h4⟩

theorem right_eq {l : List Int} (hl : l.length ≤ lim) : post_Right l = some (decide (Good l)) := by
  have hl' := hl
  rw [limv] at hl'
  unfold post_Right
  rw [iter_list (fun (s : Int) (i : Int) => (s, i)) l (fun last i x => some (if x ≤ last then .inr (.inr false) else .inl x)) (fun _ => .inl ())]
  · rw [right_fold]
    by_cases h : SR l ∧ ∀ x ∈ l, (-1 : Int) < x
    · rw [if_pos h]
      have h' : SR l ∧ ∀ x ∈ l, 0 ≤ x := ⟨h.1, fun x hx => by have := h.2 x hx; omega⟩
      have hg : Good l ↔ l.length ≤ 4096 := ⟨fun h => h.2, fun h => ⟨h', h⟩⟩
      simp only [Option.bind_some, Sum.elim_inl]
      congr 1
      exact decide_eq_decide.2 (by rw [hg]; omega)
    · rw [if_neg h]
      have h' : ¬ (SR l ∧ ∀ x ∈ l, 0 ≤ x) := fun h2 => h ⟨h2.1, fun x hx => by have := h2.2 x hx; omega⟩
      simp only [Option.bind_some, Sum.elim_inr, Good, h', false_and, decide_false]
  · intro s i x hx
    have := lt_of_get hx
    unfold post_Right.b2
    simp only [at_nat hx, Option.bind_some, Option.map_some, pur_eq]
    rw [decide_eq_true (by omega : (i : Int) < l.length), wrap64 (by omega) (by omega)]
    by_cases h : x ≤ s <;> simp [h]
  · intro s
    simp [post_Right.b2]

def told (l : List Int) : List Int × Int := if 4096 < l.length then ([], 3) else (l, 0)
theorem told_eq (l : List Int) : post_told l = some (told l) := by
  unfold post_told told
  by_cases h : 4096 < l.length
  · rw [if_pos h, decide_eq_true (by omega)]; rfl
  · rw [if_neg h, decide_eq_false (by omega)]; rfl

/-! merge -/
theorem merge_loop (f m s : Bool) : ∀ (n : Nat) (a b out : List Int), a.length + b.length = n → SR a → SR b → SR out → (∀ x ∈ out, ∀ y ∈ a, x < y) → (∀ x ∈ out, ∀ y ∈ b, x < y) → (out.length + n) * 8 ≤ lim →
    ∃ a' b' out', iter (fun st : List Int × List Int × List Int => post_merge.b4 f m s st.1 st.2.1 st.2.2) (a, b, out) = some (a', b', out') ∧
      SR (out' ++ (if f then a' else []) ++ (if s then b' else [])) ∧ (out' ++ (if f then a' else []) ++ (if s then b' else [])).length ≤ out.length + n ∧
      ∀ x, x ∈ out' ++ (if f then a' else []) ++ (if s then b' else []) ↔ x ∈ out ∨ (x ∈ a ∧ x ∉ b ∧ f = true) ∨ (x ∈ a ∧ x ∈ b ∧ m = true) ∨ (x ∉ a ∧ x ∈ b ∧ s = true) := by
  intro n
  induction n using Nat.strongRecOn with
  | _ n ih =>
    intro a b out hn ha hb ho hoa hob hlim
    cases a with
    | nil =>
      refine ⟨[], b, out, iter_end (by simp [post_merge.b4]), ?_, ?_, fun x => ?_⟩
      · cases s
        · cases f <;> simpa using ho
        · cases f <;> simpa using ho.append hb hob
      · cases s <;> cases f <;> simp at hn ⊢ <;> omega
      · cases s <;> cases f <;> simp
    | cons x a =>
      cases b with
      | nil =>
        refine ⟨x :: a, [], out, iter_end (by simp [post_merge.b4]), ?_, ?_, fun y => ?_⟩
        · cases f
          · cases s <;> simpa using ho
          · cases s <;> simpa using ho.append ha hoa
        · cases s <;> cases f <;> simp at hn ⊢ <;> omega
        · cases s <;> cases f <;> simp
      | cons y b =>
        have ha' := List.pairwise_cons.1 ha
        have hb' := List.pairwise_cons.1 hb
        simp only [List.length_cons] at hn
        rw [limv] at hlim
        rcases Int.lt_trichotomy x y with hxy | hxy | hxy
        · obtain ⟨a', b', out', h1, h2, h3, h4⟩ := ih (n - 1) (by omega) a (y :: b) (out ++ if f then [x] else []) (by simp; omega) ha'.2 hb
            (ho.append (by cases f <;> simp) fun z hz w hw => by cases f <;> simp at hw; subst hw; exact hoa z hz w (by simp))
            (fun z hz w hw => by
              rcases List.mem_append.1 hz with hz | hz
              · exact hoa z hz w (by simp [hw])
              · cases f <;> simp at hz; subst hz; exact ha'.1 w hw)
            (fun z hz w hw => by
              rcases List.mem_append.1 hz with hz | hz
              · exact hob z hz w hw
              · cases f <;> simp at hz
                subst hz
                rcases List.mem_cons.1 hw with rfl | hw
                · exact hxy
                · have := hb'.1 w hw; omega)
            (by rw [limv]; cases f <;> simp <;> omega)
          refine ⟨a', b', out', ?_, h2, ?_, fun z => ?_⟩
          · rw [iter_next (s' := (a, y :: b, out ++ if f then [x] else [])), h1]
            unfold post_merge.b4
            simp only [at_cons0, from_cons1, Option.bind_some, List.length_cons]
            rw [decide_eq_true (by omega), decide_eq_true (by omega), decide_eq_true hxy]
            cases f
            · simp
            · simp only [cond_true, Option.bind_some, Sum.elim_inl]
              rw [app_ok (by rw [limv]; simp; omega)]
              simp
          · cases f <;> simp at h3 ⊢ <;> omega
          · rw [h4]
            have hxb : x ∉ b := fun h => by have := hb'.1 x h; omega
            have hxa : x ∉ a := fun h => by have := ha'.1 x h; omega
            have hne : ¬ x = y := by omega
            by_cases hz : z = x
            · subst hz
              cases f <;> simp [hxb, hxa, hne]
            · cases f <;> simp [hz]
        · subst hxy
          obtain ⟨a', b', out', h1, h2, h3, h4⟩ := ih (n - 2) (by omega) a b (out ++ if m then [x] else []) (by omega) ha'.2 hb'.2
            (ho.append (by cases m <;> simp) fun z hz w hw => by cases m <;> simp at hw; subst hw; exact hoa z hz w (by simp))
            (fun z hz w hw => by
              rcases List.mem_append.1 hz with hz | hz
              · exact hoa z hz w (by simp [hw])
              · cases m <;> simp at hz; subst hz; exact ha'.1 w hw)
            (fun z hz w hw => by
              rcases List.mem_append.1 hz with hz | hz
              · exact hob z hz w (by simp [hw])
              · cases m <;> simp at hz; subst hz; exact hb'.1 w hw)
            (by rw [limv]; cases m <;> simp <;> omega)
          refine ⟨a', b', out', ?_, h2, ?_, fun z => ?_⟩
          · rw [iter_next (s' := (a, b, out ++ if m then [x] else [])), h1]
            unfold post_merge.b4
            simp only [at_cons0, from_cons1, Option.bind_some, List.length_cons]
            rw [decide_eq_true (by omega), decide_eq_true (by omega), decide_eq_false (by omega)]
            cases m
            · simp
            · simp only [cond_true, cond_false, Option.bind_some, Sum.elim_inl]
              rw [app_ok (by rw [limv]; simp; omega)]
              simp
          · cases m <;> simp at h3 ⊢ <;> omega
          · rw [h4]
            have hxb : x ∉ b := fun h => by have := hb'.1 x h; omega
            have hxa : x ∉ a := fun h => by have := ha'.1 x h; omega
            by_cases hz : z = x
            · subst hz
              cases m <;> simp [hxb, hxa]
            · cases m <;> simp [hz]
        · obtain ⟨a', b', out', h1, h2, h3, h4⟩ := ih (n - 1) (by omega) (x :: a) b (out ++ if s then [y] else []) (by simp; omega) ha hb'.2
            (ho.append (by cases s <;> simp) fun z hz w hw => by cases s <;> simp at hw; subst hw; exact hob z hz w (by simp))
            (fun z hz w hw => by
              rcases List.mem_append.1 hz with hz | hz
              · exact hoa z hz w hw
              · cases s <;> simp at hz
                subst hz
                rcases List.mem_cons.1 hw with rfl | hw
                · exact hxy
                · have := ha'.1 w hw; omega)
            (fun z hz w hw => by
              rcases List.mem_append.1 hz with hz | hz
              · exact hob z hz w (by simp [hw])
              · cases s <;> simp at hz; subst hz; exact hb'.1 w hw)
            (by rw [limv]; cases s <;> simp <;> omega)
          refine ⟨a', b', out', ?_, h2, ?_, fun z => ?_⟩
          · rw [iter_next (s' := (x :: a, b, out ++ if s then [y] else [])), h1]
            unfold post_merge.b4
            simp only [at_cons0, from_cons1, Option.bind_some, List.length_cons]
            rw [decide_eq_true (by omega), decide_eq_true (by omega), decide_eq_false (by omega), decide_eq_true hxy]
            cases s
            · simp
            · simp only [cond_true, cond_false, Option.bind_some, Sum.elim_inl]
              rw [app_ok (by rw [limv]; simp; omega)]
              simp
          · cases s <;> simp at h3 ⊢ <;> omega
          · rw [h4]
            have hyb : y ∉ b := fun h => by have := hb'.1 y h; omega
            have hya : y ∉ a := fun h => by have := ha'.1 y h; omega
            have hne : ¬ y = x := by omega
            by_cases hz : z = y
            · subst hz
              cases s <;> simp [hyb, hya, hne]
            · cases s <;> simp [hz]

/-- What a merge of right lists is: rising, and these numbers. -/
theorem merge_eq {a b : List Int} (f m s : Bool) (ha : a.length ≤ lim) (hb : b.length ≤ lim) :
    (¬ (Good a ∧ Good b) ∧ post_merge a b f m s = some ([], 1)) ∨
    (Good a ∧ Good b) ∧ ∃ r, post_merge a b f m s = some (told r) ∧ SR r ∧ r.length ≤ a.length + b.length ∧
      ∀ x, x ∈ r ↔ (x ∈ a ∧ x ∉ b ∧ f = true) ∨ (x ∈ a ∧ x ∈ b ∧ m = true) ∨ (x ∉ a ∧ x ∈ b ∧ s = true) := by
  unfold post_merge
  rw [right_eq ha, right_eq hb]
  simp only [Option.bind_some]
  by_cases h1 : Good a
  · by_cases h2 : Good b
    · right
      refine ⟨⟨h1, h2⟩, ?_⟩
      obtain ⟨a', b', out', e1, e2, e3, e4⟩ := merge_loop f m s (a.length + b.length) a b [] rfl h1.1.1 h2.1.1 .nil (fun _ h => by cases h) (fun _ h => by cases h)
        (by have := h1.2; have := h2.2; rw [limv]; simp; omega)
      have hA := h1.2
      have hB := h2.2
      refine ⟨_, ?_, e2, by simpa using e3, by simpa using e4⟩
      rw [decide_eq_true h1, decide_eq_true h2]
      simp only [Bool.not_true, cond_false, Option.bind_some, Sum.elim_inl]
      rw [e1]
      simp only [Option.bind_some]
      simp only [List.length_append, List.length_nil, Nat.zero_add] at e3
      have r1 : (bif f then (app_ 8 out' a').bind fun y201 => some y201 else some out') = some (out' ++ if f then a' else []) := by
        cases f
        · simp
        · simp only [cond_true, if_true] at e3 ⊢
          rw [app_ok (by rw [limv]; omega)]
          rfl
      rw [r1]
      simp only [Option.bind_some]
      have r2 : (bif s then (app_ 8 (out' ++ if f then a' else []) b').bind fun y221 => some y221 else some (out' ++ if f then a' else [])) = some (out' ++ (if f then a' else []) ++ if s then b' else []) := by
        cases s
        · simp
        · simp only [cond_true, if_true] at e3 ⊢
          rw [app_ok (by rw [limv]; simp only [List.length_append]; omega)]
          rfl
      rw [r2]
      simp only [Option.bind_some, told_eq]
    · left
      refine ⟨fun h => h2 h.2, ?_⟩
      rw [decide_eq_true h1, decide_eq_false h2]
      simp
  · left
    refine ⟨fun h => h1 h.1, ?_⟩
    rw [decide_eq_false h1]
    simp

/-! Ints -/
theorem ints_eq {a b : List Int} (ha : a.length ≤ lim) : marigraphref04_Ints a b = some (decide (a = b)) := by
  have hl' := ha
  rw [limv] at hl'
  unfold marigraphref04_Ints
  by_cases hlen : a.length = b.length
  · have h0 : ((a.length : Int) != (b.length : Int)) = false := by simp [hlen]
    rw [h0, cond_false, iter_list (fun (_ : Unit) (i : Int) => i) a (fun _ i x => some (if b[i]? = some x then .inl () else .inr (.inr false))) (fun _ => .inl ()) ?_ ?_ ()]
    · have H : ∀ (l : List Int) (i : Nat), l = a.drop i → foldI (fun (_ : Unit) (i : Nat) (x : Int) => some (if b[i]? = some x then (.inl () : Unit ⊕ (Unit ⊕ Bool)) else .inr (.inr false))) (fun _ => .inl ()) () i l = some (if a.drop i = b.drop i then .inl () else .inr false) := by
        intro l
        induction l with
        | nil =>
          intro i hi
          have : a.length ≤ i := by simpa using hi.symm
          rw [if_pos (by rw [← hi, eq_comm]; simpa using (by omega : b.length ≤ i))]
          rfl
        | cons x l ih =>
          intro i hi
          have hi1 : i < a.length := by
            rcases Nat.lt_or_ge i a.length with h | h
            · exact h
            · rw [List.drop_eq_nil_of_le h] at hi; cases hi
          have hi2 : i < b.length := by omega
          have hd := List.drop_eq_getElem_cons hi1
          rw [hd] at hi
          obtain ⟨rfl, rfl⟩ := List.cons.inj hi
          have hd2 := List.drop_eq_getElem_cons hi2
          unfold foldI
          rw [List.getElem?_eq_getElem hi2]
          by_cases he : b[i] = a[i]
          · rw [hd, hd2]
            simp only [he, if_true, Option.bind_some, List.cons.injEq, true_and]
            exact ih (i + 1) rfl
          · have hne : ¬ a.drop i = b.drop i := by
              rw [hd, hd2]
              exact fun h => he (List.cons.inj h).1.symm
            simp [he, hne]
      rw [H a 0 (by simp)]
      by_cases h : a = b <;> simp [h]
    · intro s i x hx
      have := lt_of_get hx
      have hb : i < b.length := by omega
      unfold marigraphref04_Ints.b2
      rw [decide_eq_true (by omega : (i : Int) < a.length), cond_true, at_nat hx, at_nat (List.getElem?_eq_getElem hb), List.getElem?_eq_getElem hb]
      simp only [Option.bind_some, Option.map_some, pur_eq]
      rw [wrap64 (by omega) (by omega)]
      by_cases h : x = b[i]
      · simp [h]
      · have h' : ¬ b[i] = x := fun h2 => h h2.symm
        have hn : (x != b[i]) = true := by simp [h]
        rw [hn, if_neg (by simpa using h')]
        rfl
    · intro s
      simp [marigraphref04_Ints.b2]
  · have h0 : ((a.length : Int) != (b.length : Int)) = true := by simp; omega
    rw [h0, cond_true]
    rw [decide_eq_false fun h => hlen (by rw [h])]

theorem told_ok {r : List Int} (h : r.length ≤ 4096) : told r = (r, 0) := by unfold told; rw [if_neg (by omega)]

theorem good_of {l : List Int} (h : SR l) (h0 : ∀ x ∈ l, 0 ≤ x) (hl : l.length ≤ 4096) : Good l := ⟨⟨h, h0⟩, hl⟩

theorem and_merge (a b : List Int) : post_And a b = post_merge a b false true false := by
  unfold post_And; cases post_merge a b false true false <;> rfl
theorem or_merge (a b : List Int) : post_Or a b = post_merge a b true true true := by
  unfold post_Or; cases post_merge a b true true true <;> rfl
theorem minus_merge (a b : List Int) : post_Minus a b = post_merge a b true false false := by
  unfold post_Minus; cases post_merge a b true false false <;> rfl

theorem Good.lim {l : List Int} (h : Good l) : l.length ≤ lim := by have := h.2; rw [limv]; omega

theorem and_good {a b : List Int} (ha : Good a) (hb : Good b) : ∃ r, post_And a b = some (r, 0) ∧ Good r ∧ r.length ≤ a.length ∧ ∀ x, x ∈ r ↔ x ∈ a ∧ x ∈ b := by
  rw [and_merge]
  obtain ⟨h, _⟩ | ⟨_, r, h1, h2, h3, h4⟩ := merge_eq false true false ha.lim hb.lim
  · exact absurd ⟨ha, hb⟩ h
  · have hm : ∀ x, x ∈ r ↔ x ∈ a ∧ x ∈ b := fun x => by rw [h4]; simp
    have hl : r.length ≤ a.length := h2.le_length fun x hx => ((hm x).1 hx).1
    have hl2 := ha.2
    rw [told_ok (by omega)] at h1
    exact ⟨r, h1, good_of h2 (fun x hx => ha.1.2 x ((hm x).1 hx).1) (by omega), hl, hm⟩

theorem minus_good {a b : List Int} (ha : Good a) (hb : Good b) : ∃ r, post_Minus a b = some (r, 0) ∧ Good r ∧ r.length ≤ a.length ∧ ∀ x, x ∈ r ↔ x ∈ a ∧ x ∉ b := by
  rw [minus_merge]
  obtain ⟨h, _⟩ | ⟨_, r, h1, h2, h3, h4⟩ := merge_eq true false false ha.lim hb.lim
  · exact absurd ⟨ha, hb⟩ h
  · have hm : ∀ x, x ∈ r ↔ x ∈ a ∧ x ∉ b := fun x => by rw [h4]; simp
    have hl : r.length ≤ a.length := h2.le_length fun x hx => ((hm x).1 hx).1
    have hl2 := ha.2
    rw [told_ok (by omega)] at h1
    exact ⟨r, h1, good_of h2 (fun x hx => ha.1.2 x ((hm x).1 hx).1) (by omega), hl, hm⟩

theorem or_good {a b : List Int} (ha : Good a) (hb : Good b) (hab : a.length + b.length ≤ 4096) : ∃ r, post_Or a b = some (r, 0) ∧ Good r ∧ r.length ≤ a.length + b.length ∧ ∀ x, x ∈ r ↔ x ∈ a ∨ x ∈ b := by
  rw [or_merge]
  obtain ⟨h, _⟩ | ⟨_, r, h1, h2, h3, h4⟩ := merge_eq true true true ha.lim hb.lim
  · exact absurd ⟨ha, hb⟩ h
  · have hm : ∀ x, x ∈ r ↔ x ∈ a ∨ x ∈ b := fun x => by
      rw [h4]
      by_cases p : x ∈ a <;> by_cases q : x ∈ b <;> simp [p, q]
    rw [told_ok (by omega)] at h1
    exact ⟨r, h1, good_of h2 (fun x hx => ((hm x).1 hx).elim (ha.1.2 x) (hb.1.2 x)) (by omega), h3, hm⟩

theorem good_nil : Good [] := ⟨⟨.nil, by simp⟩, Nat.zero_le _⟩

theorem with_good {a : List Int} {n : Int} (ha : Good a) (hn : 0 ≤ n) (hl : a.length ≤ 4000) : ∃ r, post_With a n = some (r, 0) ∧ Good r ∧ r.length ≤ a.length + 1 ∧ ∀ x, x ∈ r ↔ x ∈ a ∨ x = n := by
  have gn : Good [n] := ⟨⟨by simp, fun x hx => by simp at hx; omega⟩, by simp⟩
  obtain ⟨r, e, g, l, m⟩ := or_good ha gn (by simp; omega)
  refine ⟨r, ?_, g, by simpa using l, fun x => by rw [m]; simp⟩
  unfold post_With
  rw [decide_eq_false (by omega), e]
  rfl

end Go.Proofs.YtikdgllagijidaaGreat
