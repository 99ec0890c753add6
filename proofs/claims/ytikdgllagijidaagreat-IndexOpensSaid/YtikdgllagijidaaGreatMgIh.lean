/- Plain laws of the index: what is asked; what is found. -/
import Derived.Test.YtikdgllagijidaaGreatMgIg
import Derived.Test.YtikdgllagijidaaGreatMgDf
namespace Go.Proofs.YtikdgllagijidaaGreat
open Go Go.Mg
set_option linter.unusedVariables false
set_option linter.unusedSimpArgs false

/-! ### A label by its name -/
theorem index_find {α : Type} {f : α → Option Bool} {p : α → Bool} : ∀ (l : List α) (k : Int), (∀ x ∈ l, f x = some (p x)) → 0 ≤ k →
    indexFunc_ f l k = some (match l.findIdx? p with | none => -1 | some i => k + (i : Int))
  | [], k, _, _ => rfl
  | x :: l, k, h, hk => by
    unfold indexFunc_
    rw [h x (by simp), Option.bind_some, List.findIdx?_cons]
    cases hp : p x with
    | true => simp
    | false =>
      rw [cond_false, index_find l (k + 1) (fun y hy => h y (by simp [hy])) (by omega)]
      cases List.findIdx? p l with
      | none => rfl
      | some i =>
        show some (k + 1 + (i : Int)) = some (k + ((i + 1 : Nat) : Int))
        congr 1
        omega
theorem index_any {α : Type} {f : α → Option Bool} {p : α → Bool} {l : List α} (h : ∀ x ∈ l, f x = some (p x)) : ∃ r, indexFunc_ f l 0 = some r ∧ decide (0 ≤ r) = l.any p := by
  refine ⟨_, index_find l 0 h (Int.le_refl _), ?_⟩
  cases hq : List.findIdx? p l with
  | none =>
    rw [List.findIdx?_eq_none_iff] at hq
    have : l.any p = false := by rw [List.any_eq_false]; intro x hx; simpa using hq x hx
    rw [this]; simp
  | some i =>
    have := List.findIdx?_eq_some_iff_getElem.1 hq
    obtain ⟨hi, hp, _⟩ := this
    have : l.any p = true := List.any_eq_true.2 ⟨_, List.getElem_mem hi, hp⟩
    rw [this]; simp

/-- What a label is. -/
theorem beqF {a b : Int} (h : ¬ a = b) : (a == b) = false := by simpa using h

def getS (l : List api_Label) (n : ByteArray) : Option ByteArray := (l.find? fun z => decide (z.Name = n)).map (·.Val)
theorem get_findIdx {α : Type} {p : α → Bool} : ∀ l : List α, l.find? p = (l.findIdx? p).bind fun i => l[i]?
  | [] => rfl
  | x :: l => by
    rw [List.find?_cons, List.findIdx?_cons]
    cases h : p x with
    | true => simp
    | false =>
      rw [get_findIdx l]
      cases List.findIdx? p l <;> simp
theorem label_get (l : List api_Label) (n : ByteArray) : label_Get l n = some ((getS l n).getD ByteArray.empty, (getS l n).isSome) := by
  unfold label_Get getS
  rw [index_find (p := fun z => decide (z.Name = n)) l 0 (fun x _ => by unfold label_Get_1; rw [strEq_eq]) (Int.le_refl _), get_findIdx]
  cases hq : List.findIdx? (fun z : api_Label => decide (z.Name = n)) l with
  | none => rfl
  | some i =>
    obtain ⟨hi, hp, _⟩ := List.findIdx?_eq_some_iff_getElem.1 hq
    have hx := List.getElem?_eq_getElem hi
    simp only [Option.bind_some]
    rw [decide_eq_false (by omega), cond_false, Int.zero_add, at_nat hx, hx]
    rfl
theorem ref_get {l : List api_Label} (hl : l.length < 1000000) (n : ByteArray) : marigraphref05_Get l n = some ((getS l n).getD ByteArray.empty, (getS l n).isSome) := by
  unfold marigraphref05_Get
  rw [iter_list (fun (s : Unit) (i : Int) => i) l (fun (_ : Unit) (i : Nat) (x : api_Label) => some (if x.Name = n then (.inr (.inr (x.Val, true)) : Unit ⊕ (Unit ⊕ (ByteArray × Bool))) else .inl ())) (fun _ => .inl ()) ?_ ?_ ()]
  · have H : ∀ (m : List api_Label) (i : Nat), foldI (fun (_ : Unit) (i : Nat) (x : api_Label) => some (if x.Name = n then (.inr (.inr (x.Val, true)) : Unit ⊕ (Unit ⊕ (ByteArray × Bool))) else .inl ())) (fun _ => .inl ()) () i m =
        some (match getS m n with | none => .inl () | some v => .inr (v, true)) := by
      intro m
      induction m with
      | nil => intro i; rfl
      | cons x m ih =>
        intro i
        unfold foldI getS
        rw [List.find?_cons]
        by_cases h : x.Name = n
        · simp [h]
        · rw [if_neg h, decide_eq_false h]
          simp only [Option.bind_some]
          exact ih (i + 1)
    rw [H]
    cases getS l n <;> rfl
  · intro s i x hx
    have := lt_of_get hx
    unfold marigraphref05_Get.b2
    rw [decide_eq_true (by omega), cond_true, at_nat hx, Option.bind_some, strEq_eq]
    by_cases h : x.Name = n
    · simp [h]
    · rw [decide_eq_false h, if_neg h, cond_false, pur_eq, wrap64 (by omega) (by omega)]; rfl
  · intro s; simp [marigraphref05_Get.b2]

/-- Does a text begin so? -/
noncomputable def preS (v p : ByteArray) : Bool := decide (p.size ≤ v.size) && decide (v.extract 0 p.size = p)
theorem supto_nat {s : ByteArray} {i : Nat} (h : i ≤ s.size) : supto_ s (i : Int) = some (s.extract 0 i) := by
  unfold supto_; rw [if_pos ⟨by omega, by omega⟩]; rfl
theorem prefix_eq (v p : ByteArray) : strings_HasPrefix v p = some (preS v p) := by
  unfold strings_HasPrefix internal_stringslite_HasPrefix preS
  by_cases h : p.size ≤ v.size
  · rw [decide_eq_true h, decide_eq_true (by omega : (p.size : Int) ≤ (v.size : Int)), cond_true, supto_nat h]
    simp only [Option.bind_some, strEq_eq, Bool.true_and]
  · rw [decide_eq_false h, decide_eq_false (by omega : ¬ (p.size : Int) ≤ (v.size : Int))]; rfl

/-- Are labels as one thing asks? -/
noncomputable def oneS (a : api_Ask) (l : List api_Label) : Bool :=
  if a.Op = 1 then decide (getS l a.Name = some a.Val) else if a.Op = 2 then !decide (getS l a.Name = some a.Val) else
  if a.Op = 3 then (match getS l a.Name with | none => false | some v => preS v a.Val) else if a.Op = 4 then (getS l a.Name).isSome else false
theorem match_one (a : api_Ask) (l : List api_Label) : match_One a l = some (oneS a l) := by
  unfold match_One oneS
  rw [label_get, Option.bind_some]
  by_cases h1 : a.Op = 1
  · cases hg : getS l a.Name with
    | none => simp [h1]
    | some v => simp [h1, strEq_eq]
  by_cases h2 : a.Op = 2
  · cases hg : getS l a.Name with
    | none => simp [h2]
    | some v => simp [h2, strEq_eq]
  by_cases h3 : a.Op = 3
  · cases hg : getS l a.Name with
    | none => simp [h3]
    | some v => simp [h3, prefix_eq]
  by_cases h4 : a.Op = 4
  · simp [h4]
  · simp [h1, h2, h3, h4, beqF h1, beqF h2, beqF h3, beqF h4]
theorem ref_one {l : List api_Label} (hl : l.length < 1000000) (a : api_Ask) : marigraphref07_One a l = some (oneS a l) := by
  unfold marigraphref07_One oneS
  rw [ref_get hl, Option.bind_some]
  by_cases h1 : a.Op = 1
  · cases hg : getS l a.Name with
    | none => simp [h1]
    | some v => simp [h1, strEq_eq]
  by_cases h2 : a.Op = 2
  · cases hg : getS l a.Name with
    | none => simp [h2]
    | some v => simp [h2, strEq_eq]
  by_cases h3 : a.Op = 3
  · cases hg : getS l a.Name with
    | none => simp [h3]
    | some v =>
      have := prefix_eq v a.Val
      unfold strings_HasPrefix internal_stringslite_HasPrefix at this
      simp only [Option.bind_fun_some] at this
      simp [h3]
      simpa using this
  by_cases h4 : a.Op = 4
  · simp [h4]
  · simp [h1, h2, h3, h4, beqF h1, beqF h2, beqF h3, beqF h4]

/-! ### What may be asked -/
def mayS (a : api_Ask) : Bool :=
  nameS a.Name && decide (a.Val.size ≤ 64) && (if a.Op = 1 then decide (a.Val ≠ ByteArray.empty) else if a.Op = 4 then decide (a.Val = ByteArray.empty) else decide (a.Op = 2) || decide (a.Op = 3))
def rightA (l : List api_Ask) : Bool := decide (l.length ≤ 8) && l.all mayS
theorem match_may_eq (a : api_Ask) : match_may a = some (mayS a) := by
  unfold match_may mayS
  rw [name_eq, Option.bind_some]
  cases h1 : nameS a.Name with
  | false => simp
  | true =>
    by_cases h2 : a.Val.size ≤ 64
    · rw [decide_eq_true h2, decide_eq_false (by omega : ¬ (64 : Int) < (a.Val.size : Int))]
      simp only [Bool.not_true, cond_false, Option.bind_some, Sum.elim_inl, Bool.true_and]
      by_cases p1 : a.Op = 1
      · simp [p1, strEq_eq]
      by_cases p4 : a.Op = 4
      · simp [p4, strEq_eq]
      by_cases p2 : a.Op = 2
      · simp [p2]
      by_cases p3 : a.Op = 3
      · simp [p3]
      · simp [p1, p2, p3, p4, beqF p1, beqF p2, beqF p3, beqF p4]
    · rw [decide_eq_false h2, decide_eq_true (by omega : (64 : Int) < (a.Val.size : Int))]
      simp
theorem match_right (l : List api_Ask) : match_Right l = some (rightA l) := by
  unfold match_Right rightA
  by_cases h : l.length ≤ 8
  · rw [decide_eq_true h, decide_eq_true (by omega), cond_true]
    obtain ⟨r, h1, h2⟩ := index_any (f := fun x => match_Right_1 x) (p := fun x => !mayS x) (l := l) fun x _ => by unfold match_Right_1; rw [match_may_eq]; rfl
    rw [h1]
    simp only [Option.bind_some, h2, Bool.true_and]
    rw [List.any_eq_not_all_not]
    simp
  · rw [decide_eq_false h, decide_eq_false (by omega)]; rfl
theorem ref_may {a : api_Ask} (hs : a.Name.size < 1000000000) :
    (bif (decide (a.Op < (1 : Int))) then some true else (bif (decide ((4 : Int) < a.Op)) then some true else ((marigraphref05_Name a.Name).bind fun y58 => (bif (!y58) then some true else (bif (decide ((64 : Int) < (a.Val.size : Int))) then some true else (bif (a.Op == (4 : Int)) then (bif (!strEq a.Val ByteArray.empty) then some true else (bif (a.Op == (1 : Int)) then some (strEq a.Val ByteArray.empty) else some false)) else (bif (a.Op == (1 : Int)) then some (strEq a.Val ByteArray.empty) else some false))))))) = some (!mayS a) := by
  unfold mayS
  rw [refName_eq (by omega), Option.bind_some]
  by_cases o1 : a.Op < 1
  · have e1 : ¬ a.Op = 1 := by omega
    have e2 : ¬ a.Op = 2 := by omega
    have e3 : ¬ a.Op = 3 := by omega
    have e4 : ¬ a.Op = 4 := by omega
    simp [o1, e1, e2, e3, e4]
  by_cases o2 : 4 < a.Op
  · have e1 : ¬ a.Op = 1 := by omega
    have e2 : ¬ a.Op = 2 := by omega
    have e3 : ¬ a.Op = 3 := by omega
    have e4 : ¬ a.Op = 4 := by omega
    simp [o1, o2, e1, e2, e3, e4]
  rw [decide_eq_false o1, decide_eq_false o2, cond_false, cond_false]
  cases h1 : nameS a.Name with
  | false => simp
  | true =>
    by_cases h2 : a.Val.size ≤ 64
    · rw [decide_eq_true h2, decide_eq_false (by omega : ¬ (64 : Int) < (a.Val.size : Int))]
      simp only [Bool.not_true, cond_false, Bool.true_and, strEq_eq]
      by_cases p1 : a.Op = 1
      · simp [p1]
      by_cases p4 : a.Op = 4
      · simp [p4]
        cases decide (a.Val = ByteArray.empty) <;> rfl
      by_cases p2 : a.Op = 2
      · simp [p2]
      · have p3 : a.Op = 3 := by omega
        simp [p3]
    · rw [decide_eq_false h2, decide_eq_true (by omega : (64 : Int) < (a.Val.size : Int))]
      simp
theorem all_fold {α : Type} (p : α → Bool) (l : List α) : ∀ i, foldI (fun (_ : Unit) (i : Nat) (x : α) => some (if p x = true then (.inl () : Unit ⊕ (Unit ⊕ Bool)) else .inr (.inr false))) (fun _ => .inl ()) () i l = some (if l.all p = true then .inl () else .inr false) := by
  induction l with
  | nil => intro i; rfl
  | cons x l ih =>
    intro i
    unfold foldI
    rw [List.all_cons]
    cases h : p x with
    | true => simp only [if_true, Option.bind_some]; rw [ih, Bool.true_and]
    | false => simp
theorem ref_rightA {l : List api_Ask} (hl : l.length < 1000000) (hs : ∀ a ∈ l, a.Name.size < 1000000000) : marigraphref07_Right l = some (rightA l) := by
  unfold marigraphref07_Right rightA
  rw [iter_list (fun (s : Unit) (i : Int) => i) l (fun (_ : Unit) (i : Nat) (x : api_Ask) => some (if mayS x = true then (.inl () : Unit ⊕ (Unit ⊕ Bool)) else .inr (.inr false))) (fun _ => .inl ()) ?_ ?_ (), all_fold]
  · cases h : l.all mayS with
    | true =>
      rw [if_pos rfl]
      simp only [Option.bind_some, Sum.elim_inl, Bool.and_true]
      congr 1
      exact decide_eq_decide.2 (by omega)
    | false => rw [if_neg (by simp)]; simp
  · intro s i x hx
    have := lt_of_get hx
    unfold marigraphref07_Right.b2
    rw [decide_eq_true (by omega), cond_true, at_nat hx, Option.bind_some, pur_eq, ref_may (hs x (List.mem_of_getElem? hx)), Option.bind_some]
    cases h : mayS x with
    | true => simp only [Bool.not_true, cond_false, Option.bind_some, Sum.elim_inl, pur_eq, if_true]; rw [wrap64 (by omega) (by omega)]; rfl
    | false => simp
  · intro s; simp [marigraphref07_Right.b2]
/-- Are labels as all things ask? -/
noncomputable def allS (a : List api_Ask) (l : List api_Label) : Bool := a.all fun x => oneS x l
theorem ref_all {a : List api_Ask} {l : List api_Label} (ha : a.length < 1000000) (hl : l.length < 1000000) : marigraphref07_All a l = some (allS a l) := by
  unfold marigraphref07_All allS
  rw [iter_list (fun (s : Unit) (i : Int) => i) a (fun (_ : Unit) (i : Nat) (x : api_Ask) => some (if oneS x l = true then (.inl () : Unit ⊕ (Unit ⊕ Bool)) else .inr (.inr false))) (fun _ => .inl ()) ?_ ?_ (), all_fold]
  · cases h : (a.all fun x => oneS x l) with
    | true => rw [if_pos rfl]; rfl
    | false => rw [if_neg (by simp)]; simp
  · intro s i x hx
    have := lt_of_get hx
    unfold marigraphref07_All.b2
    rw [decide_eq_true (by omega), cond_true, at_nat hx, Option.bind_some, ref_one hl, Option.bind_some]
    cases h : oneS x l with
    | true => simp only [Bool.not_true, cond_false, pur_eq, if_true]; rw [wrap64 (by omega) (by omega)]; rfl
    | false => simp
  · intro s; simp [marigraphref07_All.b2]

/-! ### What is found -/
theorem del_filter {α : Type} {f : α → Option Bool} {q : α → Bool} : ∀ {l : List α}, (∀ x ∈ l, f x = some (q x)) → delF_ f l = some (l.filter fun x => !q x)
  | [], _ => rfl
  | x :: l, h => by
    unfold delF_
    rw [h x (by simp), Option.bind_some, del_filter fun y hy => h y (by simp [hy]), List.filter_cons]
    cases q x <;> simp
theorem idsOf_congr {p q : List api_Label → Bool} {A : Ser} (h : ∀ e ∈ A, p e.2 = q e.2) : idsOf p A = idsOf q A := by
  unfold idsOf
  rw [List.filter_congr h]
theorem getS_cons {z : api_Label} {l : List api_Label} {n : ByteArray} : getS (z :: l) n = if z.Name = n then some z.Val else getS l n := by
  unfold getS
  rw [List.find?_cons]
  by_cases h : z.Name = n <;> simp [h]
theorem getS_iff {l : List api_Label} (hl : rightS l = true) {n v : ByteArray} : getS l n = some v ↔ (⟨n, v⟩ : api_Label) ∈ l := by
  have hp := (rightS_iff.1 hl).2.1
  clear hl
  induction l with
  | nil => simp [getS]
  | cons z l ih =>
    rw [List.pairwise_cons] at hp
    rw [getS_cons, List.mem_cons]
    by_cases h : z.Name = n
    · rw [if_pos h]
      simp only [Option.some.injEq]
      constructor
      · intro e; left; cases z; simp at h e; rw [h, e]
      · rintro (e | e)
        · rw [← e]
        · have := hp.1 _ e
          dsimp only at this
          rw [h, strLt_irrefl] at this; cases this
    · rw [if_neg h]
      have ih := ih hp.2
      constructor
      · exact fun e => .inr (ih.1 e)
      · rintro (e | e)
        · exact absurd (by rw [← e]) h
        · exact ih.2 e
theorem XI.goodA {x : index_Index} {A : Ser} (H : XI x A) : Good (A.map (·.1)) := by
  have h := H.good (fun _ => true)
  unfold idsOf at h
  rw [List.filter_eq_self.2 (fun _ _ => rfl)] at h
  exact h
theorem getS_name {l : List api_Label} {n : ByteArray} : (getS l n).isSome = hasN n l := by
  unfold getS hasN
  rw [Option.isSome_map, Bool.eq_iff_iff, List.find?_isSome, List.any_eq_true]

theorem one_eq {x : index_Index} {A : Ser} (H : XI x A) {a : api_Ask} (ha : mayS a = true) : index_Index_one x a = some (idsOf (oneS a) A) := by
  have hhas : idsOf (has ⟨a.Name, a.Val⟩) A = idsOf (fun l => decide (getS l a.Name = some a.Val)) A := idsOf_congr fun e he => by
    unfold has; exact decide_eq_decide.2 (getS_iff (H.ok e he)).symm
  unfold index_Index_one
  by_cases h1 : a.Op = 1
  · rw [show (a.Op == 1) = true by simp [h1], cond_true, H.posts, ne_getD, hhas]
    congr 1
    refine idsOf_congr fun e he => ?_
    unfold oneS; rw [if_pos h1]
  rw [show (a.Op == 1) = false by simp [h1], cond_false]
  by_cases h2 : a.Op = 2
  · rw [show (a.Op == 2) = true by simp [h2], cond_true, all_eq H, Option.bind_some, H.posts, ne_getD]
    have gA := H.goodA
    obtain ⟨r, e1, e2, _, e3⟩ := minus_good gA (H.good (has ⟨a.Name, a.Val⟩))
    rw [e1, Option.bind_some]
    congr 1
    refine SR.ext e2.1.1 (idsOf_sr H.rise) fun i => ?_
    rw [e3, hhas, mem_idsOf, mem_idsOf, List.mem_map]
    constructor
    · rintro ⟨⟨⟨j, l⟩, h3, rfl⟩, h4⟩
      refine ⟨l, h3, ?_⟩
      unfold oneS
      rw [if_neg h1, if_pos h2]
      cases hq : decide (getS l a.Name = some a.Val) with
      | false => rfl
      | true => exact absurd ⟨l, h3, hq⟩ h4
    · rintro ⟨l, h3, h4⟩
      refine ⟨⟨_, h3, rfl⟩, ?_⟩
      rintro ⟨m, h5, h6⟩
      have : m = l := Option.some.inj (((get_mem H.rise).2 h5).symm.trans ((get_mem H.rise).2 h3))
      subst this
      unfold oneS at h4
      rw [if_neg h1, if_pos h2, h6] at h4
      cases h4
  rw [show (a.Op == 2) = false by simp [h2], cond_false]
  by_cases h4 : a.Op = 4
  · rw [show (a.Op == 4) = true by simp [h4], cond_true, H.names, ne_getD]
    congr 1
    refine idsOf_congr fun e he => ?_
    unfold oneS
    rw [if_neg h1, if_neg h2, if_neg (by omega), if_pos h4, getS_name]
  rw [show (a.Op == 4) = false by simp [h4], cond_false]
  have h3 : a.Op = 3 := by
    unfold mayS at ha
    rw [if_neg h1, if_neg h4] at ha
    simp only [Bool.and_eq_true, Bool.or_eq_true, decide_eq_true_eq] at ha
    rcases ha.2 with h | h
    · exact absurd h h2
    · exact h
  have g := H.good (hasN a.Name)
  unfold slices_Clone_int_int
  rw [H.names, ne_getD, clone_ok (by have := g.2; rw [limv]; omega), Option.bind_some]
  rw [del_filter (q := fun i => !oneS a ((mget i A).getD [])) fun i _ => by unfold index_Index_one_1; rw [H.ser, match_one]; rfl]
  simp only [Option.bind_some, Bool.not_not]
  congr 1
  refine SR.ext (g.1.1.filter _) (idsOf_sr H.rise) fun i => ?_
  rw [List.mem_filter, mem_idsOf, mem_idsOf]
  constructor
  · rintro ⟨⟨l, h5, h6⟩, h7⟩
    rw [(get_mem H.rise).2 h5] at h7
    exact ⟨l, h5, h7⟩
  · rintro ⟨l, h5, h6⟩
    refine ⟨⟨l, h5, ?_⟩, by rw [(get_mem H.rise).2 h5]; exact h6⟩
    unfold oneS at h6
    rw [if_neg h1, if_neg h2, if_pos h3] at h6
    rw [← getS_name]
    cases hq : getS l a.Name with
    | none => rw [hq] at h6; cases h6
    | some v => rfl

theorem all_lists : ∀ (ls : List (List Int)) (out : List Int) (i : Nat), Good out → (∀ m ∈ ls, Good m) → ∃ r, foldI (fun (out : List Int) (i : Nat) (m : List Int) => (post_And out m).map fun y => if y.2 != 0 then (.inr (.inr (([] : List Int), y.2)) : List Int ⊕ ((List Int) ⊕ ((List Int) × Int))) else .inl y.1) (fun o => .inl o) out i ls = some (.inl r) ∧ Good r ∧ ∀ x, x ∈ r ↔ x ∈ out ∧ ∀ m ∈ ls, x ∈ m
  | [], out, i, ho, _ => ⟨out, rfl, ho, by simp⟩
  | m :: ls, out, i, ho, h => by
    obtain ⟨r, e1, e2, _, e3⟩ := and_good ho (h m (by simp))
    obtain ⟨q, f1, f2, f3⟩ := all_lists ls r (i + 1) e2 fun y hy => h y (by simp [hy])
    refine ⟨q, ?_, f2, fun x => ?_⟩
    · unfold foldI
      rw [e1]
      exact f1
    · rw [f3, e3]
      simp only [List.mem_cons, forall_eq_or_imp, and_assoc]
theorem post_all {ls : List (List Int)} {l0 : List Int} (h : ∀ m ∈ l0 :: ls, Good m) (hn : ls.length < 1000000) : ∃ r, post_All (l0 :: ls) = some (r, 0) ∧ Good r ∧ ∀ x, x ∈ r ↔ ∀ m ∈ l0 :: ls, x ∈ m := by
  obtain ⟨r, e1, e2, e3⟩ := all_lists (l0 :: ls) l0 0 (h l0 (by simp)) h
  refine ⟨r, ?_, e2, fun x => by rw [e3]; simp⟩
  unfold post_All
  rw [show (((l0 :: ls).length : Int) == 0) = false by simp; omega, cond_false, at_cons0, Option.bind_some]
  rw [iter_list (fun (s : List Int) (i : Int) => (s, i)) (l0 :: ls) (fun (out : List Int) (i : Nat) (m : List Int) => (post_And out m).map fun y => if y.2 != 0 then (.inr (.inr (([] : List Int), y.2)) : List Int ⊕ ((List Int) ⊕ ((List Int) × Int))) else .inl y.1) (fun o => .inl o) ?_ ?_ l0, e1]
  · rfl
  · intro s i m hm
    have hi := lt_of_get hm
    simp only [List.length_cons] at hi
    unfold post_All.b2
    rw [decide_eq_true (by simp; omega), cond_true, at_nat hm, Option.bind_some]
    cases post_And s m with
    | none => rfl
    | some y =>
      simp only [Option.bind_some, Option.map_some]
      cases hy : (y.2 != 0) with
      | true => rfl
      | false =>
        rw [cond_false, if_neg (by simp), pur_eq, wrap64 (by omega) (by omega)]; rfl
  · intro s
    unfold post_All.b2
    rw [decide_eq_false (by simp)]; rfl

theorem find_eq {x : index_Index} {A : Ser} (H : XI x A) (a : List api_Ask) : index_Index_Find (some x) a = some (if rightA a = true then (idsOf (allS a) A, 0) else ([], 1)) := by
  unfold index_Index_Find
  rw [show (some x).isNone = false from rfl, cond_false, match_right, Option.bind_some]
  cases hr : rightA a with
  | false => rfl
  | true =>
    have hr' := hr
    unfold rightA at hr'
    simp only [Bool.and_eq_true, decide_eq_true_eq, List.all_eq_true] at hr'
    obtain ⟨hlen, hmay⟩ := hr'
    rw [Bool.not_true, cond_false, if_pos rfl]
    simp only [Option.bind_some]
    rw [all_eq H, Option.bind_some]
    obtain ⟨r, e1, rfl⟩ := iter_inv (step := fun s : (List (List Int)) × Int => index_Index_Find.b2 a x s.1 s.2) (fun s i => (s, i)) a (fun s i => s = A.map (·.1) :: (a.take i).map fun y => idsOf (oneS y) A) (fun r => r = A.map (·.1) :: a.map fun y => idsOf (oneS y) A) (by
      intro s i y hy hs
      subst hs
      left
      have hi := lt_of_get hy
      refine ⟨_, ?_, rfl⟩
      unfold index_Index_Find.b2
      dsimp only
      rw [decide_eq_true (by omega), cond_true, at_nat hy, Option.bind_some, pur_eq, one_eq H (hmay y (List.mem_of_getElem? hy)), Option.bind_some, app_ok (by rw [limv]; simp; omega), Option.bind_some, pur_eq, wrap64 (by omega) (by omega), List.take_add_one, hy]
      simp) (by
      intro s hs
      subst hs
      refine ⟨_, ?_, rfl⟩
      unfold index_Index_Find.b2
      dsimp only
      rw [decide_eq_false (by omega), cond_false, List.take_length]) [A.map (·.1)] (by simp)
    rw [e1, Option.bind_some]
    have gA := H.goodA
    obtain ⟨r, e1, e2, e3⟩ := post_all (l0 := A.map (·.1)) (ls := a.map fun y => idsOf (oneS y) A) (by
      intro m hm
      rcases List.mem_cons.1 hm with rfl | hm
      · exact gA
      · obtain ⟨y, _, rfl⟩ := List.mem_map.1 hm
        exact H.good _) (by simp; omega)
    rw [e1, Option.bind_some]
    unfold slices_Clone_int_int
    rw [clone_ok (by have := e2.2; rw [limv]; show r.length * 8 ≤ _; omega), Option.bind_some]
    have : r = idsOf (allS a) A := SR.ext e2.1.1 (idsOf_sr H.rise) fun i => by
      rw [e3, mem_idsOf]
      constructor
      · intro h
        obtain ⟨⟨j, l⟩, h1, rfl⟩ := List.mem_map.1 (h _ List.mem_cons_self)
        refine ⟨l, h1, ?_⟩
        unfold allS
        rw [List.all_eq_true]
        intro y hy
        obtain ⟨m, h2, h3⟩ := mem_idsOf.1 (h (idsOf (oneS y) A) (List.mem_cons_of_mem _ (List.mem_map.2 ⟨y, hy, rfl⟩)))
        have : m = l := Option.some.inj (((get_mem H.rise).2 h2).symm.trans ((get_mem H.rise).2 h1))
        rw [← this]; exact h3
      · rintro ⟨l, h1, h2⟩ m hm
        rcases List.mem_cons.1 hm with rfl | hm
        · exact List.mem_map.2 ⟨_, h1, rfl⟩
        · obtain ⟨y, hy, rfl⟩ := List.mem_map.1 hm
          unfold allS at h2
          exact mem_idsOf.2 ⟨l, h1, List.all_eq_true.1 h2 y hy⟩
    rw [this]
theorem post_eq {x : index_Index} {A : Ser} (H : XI x A) (y : api_Label) : index_Index_Post (some x) y = some (idsOf (has y) A) := by
  unfold index_Index_Post slices_Clone_int_int
  rw [show (some x).isNone = false from rfl, cond_false, Option.bind_some, H.posts, ne_getD, clone_ok (by have := (H.good (has y)).2; rw [limv]; omega)]
  rfl
end Go.Proofs.YtikdgllagijidaaGreat
