/- Plain laws of the index: acts; the document's examples. -/
import Derived.Test.YtikdgllagijidaaGreatMgIh
namespace Go.Proofs.YtikdgllagijidaaGreat
open Go Go.Mg
set_option linter.unusedVariables false
set_option linter.unusedSimpArgs false

/-! ### The first few -/
theorem upto_nat' {α : Type} {xs : List α} {i : Nat} (h : i ≤ xs.length) : upto_ xs (i : Int) = some (xs.take i) := upto_nat h
theorem few_eq (l : List api_Label) : ∃ r, marigraphlaw08_few l = some r ∧ r.length ≤ 12 ∧ ∀ x ∈ r, x.Name.size ≤ 100 ∧ x.Val.size ≤ 100 := by
  unfold marigraphlaw08_few
  obtain ⟨r, e1, h⟩ := iter_inv (step := fun s : Int => marigraphlaw08_few.b2 l s) (fun (_ : Unit) i => i) l (fun _ i => i ≤ 12 ∧ ∀ x ∈ l.take i, x.Name.size ≤ 100 ∧ x.Val.size ≤ 100)
    (fun r => (r = .inl () ∧ l.length ≤ 12 ∧ ∀ x ∈ l, x.Name.size ≤ 100 ∧ x.Val.size ≤ 100) ∨ ∃ m, r = .inr m ∧ m.length ≤ 12 ∧ ∀ x ∈ m, x.Name.size ≤ 100 ∧ x.Val.size ≤ 100) (by
    rintro s i x hx ⟨h1, h2⟩
    have hi := lt_of_get hx
    unfold marigraphlaw08_few.b2
    rw [decide_eq_true (by omega), cond_true, at_nat hx, Option.bind_some, pur_eq]
    have fin : ∀ b : Bool, b = true → ∃ r, ((bif b then ((upto_ l (i : Int)).bind fun y61 => some (.inr (.inr (.inr y61)))) else some (.inl ()) : Option (Unit ⊕ (Int ⊕ (Unit ⊕ (List api_Label))))).bind (Sum.elim (fun o21n => (pur (IntKind.i64.wrap ((i : Int) + (1 : Int))) fun y70 => some (.inl y70))) (fun q => some q))) = some (.inr r) ∧
        ((r = .inl () ∧ l.length ≤ 12 ∧ ∀ x ∈ l, x.Name.size ≤ 100 ∧ x.Val.size ≤ 100) ∨ ∃ m, r = .inr m ∧ m.length ≤ 12 ∧ ∀ x ∈ m, x.Name.size ≤ 100 ∧ x.Val.size ≤ 100) := by
      intro b hb
      subst hb
      rw [cond_true, upto_nat (by omega)]
      exact ⟨.inr (l.take i), rfl, .inr ⟨_, rfl, by rw [List.length_take]; omega, h2⟩⟩
    by_cases c1 : 12 ≤ i
    · right
      rw [decide_eq_true (by omega : (12 : Int) ≤ (i : Int)), cond_true, Option.bind_some]
      exact fin true rfl
    · rw [decide_eq_false (by omega : ¬ (12 : Int) ≤ (i : Int)), cond_false]
      by_cases c2 : 100 < x.Name.size
      · right
        rw [decide_eq_true (by omega : (100 : Int) < (x.Name.size : Int)), cond_true, Option.bind_some]
        exact fin true rfl
      · rw [decide_eq_false (by omega : ¬ (100 : Int) < (x.Name.size : Int)), cond_false, Option.bind_some]
        by_cases c3 : 100 < x.Val.size
        · right
          exact fin _ (decide_eq_true (by omega))
        · left
          refine ⟨(), ?_, by omega, ?_⟩
          · rw [decide_eq_false (by omega : ¬ (100 : Int) < (x.Val.size : Int)), cond_false]
            simp only [Option.bind_some, Sum.elim_inl, pur_eq]
            rw [wrap64 (by omega) (by omega)]; rfl
          · intro y hy
            rw [List.take_add_one, hx, List.mem_append] at hy
            rcases hy with hy | hy
            · exact h2 y hy
            · simp at hy; subst hy; omega) (by
    rintro s ⟨h1, h2⟩
    rw [List.take_length] at h2
    refine ⟨.inl (), ?_, .inl ⟨rfl, h1, h2⟩⟩
    unfold marigraphlaw08_few.b2
    rw [decide_eq_false (by omega)]; rfl) () ⟨by omega, by simp⟩
  rw [e1, Option.bind_some]
  rcases h with ⟨rfl, h1, h2⟩ | ⟨m, rfl, h1, h2⟩
  · exact ⟨l, rfl, h1, h2⟩
  · exact ⟨m, rfl, h1, h2⟩
theorem some_eq (l : List api_Ask) : ∃ r, marigraphlaw08_some l = some r ∧ r.length ≤ 12 ∧ ∀ x ∈ r, x.Name.size ≤ 100 ∧ x.Val.size ≤ 100 := by
  unfold marigraphlaw08_some
  obtain ⟨r, e1, h⟩ := iter_inv (step := fun s : Int => marigraphlaw08_some.b2 l s) (fun (_ : Unit) i => i) l (fun _ i => i ≤ 12 ∧ ∀ x ∈ l.take i, x.Name.size ≤ 100 ∧ x.Val.size ≤ 100)
    (fun r => (r = .inl () ∧ l.length ≤ 12 ∧ ∀ x ∈ l, x.Name.size ≤ 100 ∧ x.Val.size ≤ 100) ∨ ∃ m, r = .inr m ∧ m.length ≤ 12 ∧ ∀ x ∈ m, x.Name.size ≤ 100 ∧ x.Val.size ≤ 100) (by
    rintro s i x hx ⟨h1, h2⟩
    have hi := lt_of_get hx
    unfold marigraphlaw08_some.b2
    rw [decide_eq_true (by omega), cond_true, at_nat hx, Option.bind_some, pur_eq]
    have fin : ∀ b : Bool, b = true → ∃ r, ((bif b then ((upto_ l (i : Int)).bind fun y61 => some (.inr (.inr (.inr y61)))) else some (.inl ()) : Option (Unit ⊕ (Int ⊕ (Unit ⊕ (List api_Ask))))).bind (Sum.elim (fun o21n => (pur (IntKind.i64.wrap ((i : Int) + (1 : Int))) fun y70 => some (.inl y70))) (fun q => some q))) = some (.inr r) ∧
        ((r = .inl () ∧ l.length ≤ 12 ∧ ∀ x ∈ l, x.Name.size ≤ 100 ∧ x.Val.size ≤ 100) ∨ ∃ m, r = .inr m ∧ m.length ≤ 12 ∧ ∀ x ∈ m, x.Name.size ≤ 100 ∧ x.Val.size ≤ 100) := by
      intro b hb
      subst hb
      rw [cond_true, upto_nat (by omega)]
      exact ⟨.inr (l.take i), rfl, .inr ⟨_, rfl, by rw [List.length_take]; omega, h2⟩⟩
    by_cases c1 : 12 ≤ i
    · right
      rw [decide_eq_true (by omega : (12 : Int) ≤ (i : Int)), cond_true, Option.bind_some]
      exact fin true rfl
    · rw [decide_eq_false (by omega : ¬ (12 : Int) ≤ (i : Int)), cond_false]
      by_cases c2 : 100 < x.Name.size
      · right
        rw [decide_eq_true (by omega : (100 : Int) < (x.Name.size : Int)), cond_true, Option.bind_some]
        exact fin true rfl
      · rw [decide_eq_false (by omega : ¬ (100 : Int) < (x.Name.size : Int)), cond_false, Option.bind_some]
        by_cases c3 : 100 < x.Val.size
        · right
          exact fin _ (decide_eq_true (by omega))
        · left
          refine ⟨(), ?_, by omega, ?_⟩
          · rw [decide_eq_false (by omega : ¬ (100 : Int) < (x.Val.size : Int)), cond_false]
            simp only [Option.bind_some, Sum.elim_inl, pur_eq]
            rw [wrap64 (by omega) (by omega)]; rfl
          · intro y hy
            rw [List.take_add_one, hx, List.mem_append] at hy
            rcases hy with hy | hy
            · exact h2 y hy
            · simp at hy; subst hy; omega) (by
    rintro s ⟨h1, h2⟩
    rw [List.take_length] at h2
    refine ⟨.inl (), ?_, .inl ⟨rfl, h1, h2⟩⟩
    unfold marigraphlaw08_some.b2
    rw [decide_eq_false (by omega)]; rfl) () ⟨by omega, by simp⟩
  rw [e1, Option.bind_some]
  rcases h with ⟨rfl, h1, h2⟩ | ⟨m, rfl, h1, h2⟩
  · exact ⟨l, rfl, h1, h2⟩
  · exact ⟨m, rfl, h1, h2⟩
theorem few_text (s : ByteArray) (n : Nat) : ∃ r, supto_ s (if (n : Int) < (s.size : Int) then (n : Int) else (s.size : Int)) = some r ∧ r.size ≤ n := by
  by_cases h : n < s.size
  · rw [if_pos (by omega), supto_nat (by omega)]
    exact ⟨_, rfl, by simp; omega⟩
  · rw [if_neg (by omega), supto_nat (Nat.le_refl _)]
    exact ⟨_, rfl, by simp; omega⟩

/-! ### Add, said again -/
theorem add_new {x : index_Index} {A : Ser} (H : XI x A) {l : List api_Label} (hl : rightS l = true) (hn : ∀ e ∈ A, e.2 ≠ l) (hA : A.length < 200) (hg : x.given < 4096) :
    ∃ x', index_Index_Add (some x) l = some (x.given, 0, some x') ∧ XI x' (A ++ [(x.given, l)]) ∧ x'.given = x.given + 1 := by
  have hlen := (rightS_iff.1 hl).2.2
  rcases add_eq H (l := l) (by omega) with ⟨h1, _⟩ | ⟨r, h1, h2, h3⟩
  · rw [h1 l (.refl _)] at hl; cases hl
  · have : r = l := right_uniq hl h2 (rightS_nle h1)
    subst this
    rcases h3 with ⟨id, h3, _⟩ | ⟨_, ⟨h3, _⟩ | ⟨_, _, h3⟩⟩
    · exact absurd rfl (hn _ h3)
    · omega
    · exact h3
theorem add_old {x : index_Index} {A : Ser} (H : XI x A) {l : List api_Label} {id : Int} (hm : (id, l) ∈ A) : index_Index_Add (some x) l = some (id, 0, some x) := by
  have hl := H.ok _ hm
  have hlen := (rightS_iff.1 hl).2.2
  dsimp only at hl hlen
  rcases add_eq H (l := l) (by omega) with ⟨h1, _⟩ | ⟨r, h1, h2, h3⟩
  · rw [h1 l (.refl _)] at hl; cases hl
  · have : r = l := right_uniq hl h2 (rightS_nle h1)
    subst this
    rcases h3 with ⟨i, h3, h4⟩ | ⟨h3, _⟩
    · rw [h4, H.id_uniq h3 hm]
    · exact absurd rfl (h3 _ hm)
theorem id_old {x : index_Index} {A : Ser} (H : XI x A) {l : List api_Label} {id : Int} (hm : (id, l) ∈ A) : index_Index_Id (some x) l = some (id, true) := by
  have hl := H.ok _ hm
  have hlen := (rightS_iff.1 hl).2.2
  dsimp only at hl hlen
  rcases id_eq H (l := l) (by omega) with ⟨h1, _⟩ | ⟨r, h1, h2, h3⟩
  · rw [h1 l (.refl _)] at hl; cases hl
  · have : r = l := right_uniq hl h2 (rightS_nle h1)
    subst this
    rcases h3 with ⟨i, h3, h4⟩ | ⟨h3, _⟩
    · rw [h4, H.id_uniq h3 hm]
    · exact absurd rfl (h3 _ hm)

/-! ### The document's examples -/
theorem rightS_one (c : UInt8) : rightS [⟨⟨#[97]⟩, ⟨#[c]⟩⟩] = true := by
  refine rightS_iff.2 ⟨fun x hx => ?_, by simp, by simp, by simp⟩
  simp at hx; subst hx
  rfl
theorem shown_eq : marigraphlaw08_shown = some true := by
  unfold marigraphlaw08_shown index_New
  simp only [Option.bind_some, Option.isNone_some, cond_false]
  have n12 : ([⟨⟨#[97]⟩, ⟨#[49]⟩⟩] : List api_Label) ≠ [⟨⟨#[97]⟩, ⟨#[50]⟩⟩] := by simp
  obtain ⟨x1, e1, H1, g1⟩ := add_new xi_new (rightS_one 49) (by simp) (by simp) (by decide)
  rw [e1]
  simp only [Option.bind_some]
  obtain ⟨x2, e2, H2, g2⟩ := add_new H1 (rightS_one 50) (by simp) (by simp) (by rw [g1]; decide)
  rw [e2]
  simp only [Option.bind_some]
  have e3 := add_old H2 (l := [⟨⟨#[97]⟩, ⟨#[49]⟩⟩]) (id := 0) (by simp)
  rw [e3]
  simp only [Option.bind_some]
  rw [find_eq H2, if_pos (by rfl)]
  simp only [Option.bind_some]
  rcases drop_eq H2 0 with ⟨h, _⟩ | ⟨l, hl, x3, e4, H3, g3⟩
  · simp [mget] at h
  rw [e4]
  simp only [Option.bind_some]
  have hoff : offS 0 ([] ++ [((0 : Int), ([⟨⟨#[97]⟩, ⟨#[49]⟩⟩] : List api_Label))] ++ [(x1.given, [⟨⟨#[97]⟩, ⟨#[50]⟩⟩])]) = [(x1.given, [⟨⟨#[97]⟩, ⟨#[50]⟩⟩])] := by
    rw [g1]; simp [offS, List.filter_cons]
  dsimp only at H3
  rw [hoff] at H3
  obtain ⟨x4, e5, H4, g4⟩ := add_new H3 (rightS_one 49) (by simp) (by simp) (by rw [g3, g2, g1]; decide)
  rw [e5]
  have hfind : idsOf (allS [⟨3, ⟨#[97]⟩, ⟨#[50]⟩⟩]) ([] ++ [((0 : Int), ([⟨⟨#[97]⟩, ⟨#[49]⟩⟩] : List api_Label))] ++ [(x1.given, [⟨⟨#[97]⟩, ⟨#[50]⟩⟩])]) = [1] := by
    have p1 : preS ⟨#[49]⟩ ⟨#[50]⟩ = false := by
      unfold preS
      rw [show ByteArray.extract ⟨#[49]⟩ 0 (ByteArray.size ⟨#[50]⟩) = ⟨#[49]⟩ by rfl]
      simp
    have p2 : preS ⟨#[50]⟩ ⟨#[50]⟩ = true := by
      unfold preS
      rw [show ByteArray.extract ⟨#[50]⟩ 0 (ByteArray.size ⟨#[50]⟩) = ⟨#[50]⟩ by rfl]
      simp
    rw [g1]
    unfold idsOf allS oneS getS
    simp [List.filter_cons, p1, p2]
  rw [hfind, ints_eq (by simp [limv]), g3, g2, g1]
  rfl
end Go.Proofs.YtikdgllagijidaaGreat
