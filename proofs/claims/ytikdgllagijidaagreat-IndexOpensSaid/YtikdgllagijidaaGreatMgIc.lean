/- Plain laws of the index: loops, maps; the order of texts; labels that tell a series. -/
import Derived.Test.YtikdgllagijidaaGreatMgIb
import Derived.Sort.Walk0
namespace Go.Proofs.YtikdgllagijidaaGreat
open Go Go.Mg
set_option linter.unusedVariables false
set_option linter.unusedSimpArgs false

theorem iter_total {σ τ : Type} {step : σ → Option (σ ⊕ τ)} (I : σ → Prop) (μ : σ → Nat) (R : τ → Prop)
    (hs : ∀ s, I s → (∃ s', step s = some (.inl s') ∧ I s' ∧ μ s' < μ s) ∨ ∃ r, step s = some (.inr r) ∧ R r) : ∀ s, I s → ∃ r, iter step s = some r ∧ R r := by
  suffices H : ∀ n s, μ s = n → I s → ∃ r, iter step s = some r ∧ R r from fun s h => H _ s rfl h
  intro n
  induction n using Nat.strongRecOn with
  | _ n ih =>
    intro s hn hI
    rcases hs s hI with ⟨s', h1, h2, h3⟩ | ⟨r, h1, h2⟩
    · rw [iter_next h1]
      exact ih (μ s') (by omega) s' rfl h2
    · exact ⟨r, iter_end h1, h2⟩

theorem clone_ok {α : Type} {by_ : Nat} {xs : List α} (h : xs.length * by_ ≤ lim) : clone_ by_ xs = some xs := by unfold clone_; rw [if_pos h]

/-! ### Maps -/
section
variable {κ β : Type} [DecidableEq κ] {m : List (κ × β)} {k k' : κ} {y : β}
theorem mget_cons (x : κ × β) : mget k (x :: m) = if k = x.1 then some x.2 else mget k m := by
  unfold mget
  rw [List.find?_cons]
  by_cases h : k = x.1 <;> simp [h]
theorem mget_mput : mget k (mput k' y m) = if k = k' then some y else mget k m := by
  induction m with
  | nil => simp [mput, mget_cons]
  | cons x m ih =>
    unfold mput
    by_cases h : k' = x.1
    · rw [if_pos h, mget_cons, mget_cons]
      by_cases h2 : k = x.1 <;> simp [h2, h]
    · rw [if_neg h, mget_cons, mget_cons, ih]
      by_cases h2 : k = x.1
      · have : ¬ k = k' := fun e => h (by rw [← e, h2])
        simp [h2, this]
        intro e; exact absurd e.symm h
      · simp [h2]
theorem mget_mrem : mget k (mrem k' m) = if k = k' then none else mget k m := by
  induction m with
  | nil => simp [mrem, mget]
  | cons x m ih =>
    unfold mrem at ih ⊢
    rw [List.filter_cons]
    by_cases h : k' = x.1
    · simp only [h, decide_true, Bool.not_true, Bool.false_eq_true, if_false]
      rw [h] at ih
      rw [ih, mget_cons]
      by_cases h2 : k = x.1 <;> simp [h2]
    · simp only [h, decide_false, Bool.not_false, if_true]
      rw [mget_cons, mget_cons, ih]
      by_cases h2 : k = x.1
      · have : ¬ x.1 = k' := fun e => h e.symm
        simp [h2, this]
      · simp [h2]
theorem mem_keys : k ∈ m.map (·.1) ↔ (mget k m).isSome := by
  induction m with
  | nil => simp [mget]
  | cons x m ih =>
    rw [mget_cons, List.map_cons, List.mem_cons, ih]
    by_cases h : k = x.1 <;> simp [h]
theorem mput_keys (h : (m.map (·.1)).Nodup) : ((mput k y m).map (·.1)).Nodup := by
  induction m with
  | nil => simp [mput]
  | cons x m ih =>
    simp only [List.map_cons, List.nodup_cons] at h
    unfold mput
    by_cases e : k = x.1
    · rw [if_pos e]; simpa using h
    · rw [if_neg e, List.map_cons, List.nodup_cons]
      refine ⟨fun hm => ?_, ih h.2⟩
      rw [mem_keys, mget_mput] at hm
      split at hm
      · rename_i e2; exact e e2.symm
      · exact h.1 (mem_keys.2 hm)
theorem mrem_keys (h : (m.map (·.1)).Nodup) : ((mrem k m).map (·.1)).Nodup := h.sublist ((List.filter_sublist).map _)
end

/-! ### Texts -/
theorem strEq_eq (a b : ByteArray) : strEq a b = decide (a = b) := by
  unfold strEq
  rw [Lib.toList_data, Lib.toList_data]
  by_cases h : a = b
  · simp [h]
  · rw [decide_eq_false h]
    refine Bool.eq_false_iff.2 fun h2 => h ?_
    have h2 := eq_of_beq h2
    cases a; cases b
    simp at h2 ⊢
    exact h2
theorem strLt_eq (a b : ByteArray) : strLt a b = decide (a.data.toList < b.data.toList) := by
  unfold strLt
  rw [bytesLess_eq, Lib.toList_data, Lib.toList_data]
theorem ba_ext {a b : ByteArray} (h : a.data.toList = b.data.toList) : a = b := by
  cases a; cases b
  simp at h ⊢
  exact h
theorem strLt_irrefl (a : ByteArray) : strLt a a = false := by
  rw [strLt_eq]; exact decide_eq_false (List.lt_irrefl _)
theorem strLt_trans {a b c : ByteArray} (h1 : strLt a b = true) (h2 : strLt b c = true) : strLt a c = true := by
  rw [strLt_eq] at *
  simp only [decide_eq_true_eq] at *
  exact List.lt_trans h1 h2
theorem strLt_asymm {a b : ByteArray} (h1 : strLt a b = true) : strLt b a = false := by
  cases h : strLt b a with
  | false => rfl
  | true => have := strLt_trans h1 h; rw [strLt_irrefl] at this; cases this
theorem strLt_tri {a b : ByteArray} (h1 : strLt a b = false) (h2 : strLt b a = false) : a = b := by
  rw [strLt_eq] at *
  simp only [decide_eq_false_iff_not] at *
  exact ba_ext (List.le_antisymm (List.not_lt.1 h2) (List.not_lt.1 h1))
theorem strLe_eq (a b : ByteArray) : (strLt a b || strEq a b) = !strLt b a := by
  rw [strEq_eq]
  cases h1 : strLt a b with
  | true => rw [strLt_asymm h1]; rfl
  | false =>
    by_cases h : a = b
    · subst h; rw [strLt_irrefl]; simp
    · cases h2 : strLt b a with
      | true => simp [h]
      | false => exact absurd (strLt_tri h1 h2) h
theorem strLt_neg_trans {a b c : ByteArray} (h1 : strLt b a = false) (h2 : strLt c b = false) : strLt c a = false := by
  cases h : strLt c a with
  | false => rfl
  | true =>
    cases h3 : strLt a b with
    | true => rw [strLt_trans h h3] at h2; cases h2
    | false => rw [strLt_tri h1 h3] at h2; rw [h2] at h; cases h
theorem strLt_empty {a : ByteArray} (h : 1 ≤ a.size) : strLt ByteArray.empty a = true := by
  rw [strLt_eq]
  have : 1 ≤ a.data.toList.length := by simpa using h
  cases hq : a.data.toList with
  | nil => rw [hq] at this; simp at this
  | cons x l => exact decide_eq_true (List.nil_lt_cons _ _)

/-! ### Labels that tell a series -/
/-- One label is right. -/
def okL (x : api_Label) : Bool := nameS x.Name && (decide (1 ≤ x.Val.size) && decide (x.Val.size ≤ 64))
/-- Names rise from a name on. -/
def chain : ByteArray → List api_Label → Bool
  | _, [] => true
  | last, x :: l => okL x && strLt last x.Name && chain x.Name l
/-- Labels tell a series. -/
def rightS (l : List api_Label) : Bool := chain ByteArray.empty l && (decide (1 ≤ l.length) && decide (l.length ≤ 6))

theorem within_str (s : ByteArray) (n : Nat) : label_within_string s (n : Int) = some (decide (1 ≤ s.size) && decide (s.size ≤ n)) := by
  unfold label_within_string
  by_cases h1 : (1 : Int) ≤ (s.size : Int)
  · rw [decide_eq_true h1, decide_eq_true (by omega : 1 ≤ s.size)]
    simp only [cond_true, Option.bind_some, Bool.true_and]
    congr 1
    exact decide_eq_decide.2 (by omega)
  · rw [decide_eq_false h1, decide_eq_false (by omega : ¬ 1 ≤ s.size)]; rfl
theorem within_lab (s : List api_Label) (n : Nat) : label_within_api_Label s (n : Int) = some (decide (1 ≤ s.length) && decide (s.length ≤ n)) := by
  unfold label_within_api_Label
  by_cases h1 : (1 : Int) ≤ (s.length : Int)
  · rw [decide_eq_true h1, decide_eq_true (by omega : 1 ≤ s.length)]
    simp only [cond_true, Option.bind_some, Bool.true_and]
    congr 1
    exact decide_eq_decide.2 (by omega)
  · rw [decide_eq_false h1, decide_eq_false (by omega : ¬ 1 ≤ s.length)]; rfl

theorem chain_fold (l : List api_Label) : ∀ (last : ByteArray) (i : Nat), foldI (fun (last : ByteArray) (i : Nat) (x : api_Label) => some (if (okL x && strLt last x.Name) = true then (.inl x.Name : ByteArray ⊕ (Unit ⊕ Bool)) else .inr (.inr false))) (fun _ => .inl ()) last i l =
    some (if chain last l = true then .inl () else .inr false) := by
  induction l with
  | nil => intro last i; simp [foldI, chain]
  | cons y l ih =>
    intro last i
    unfold foldI chain
    cases h : (okL y && strLt last y.Name) with
    | true =>
      simp only [if_true, Option.bind_some]
      rw [ih, Bool.true_and]
    | false => simp

theorem label_right {l : List api_Label} (hl : l.length < 1000000) : label_Right l = some (rightS l) := by
  unfold label_Right
  rw [iter_list (fun (s : ByteArray) (i : Int) => (s, i)) l (fun (last : ByteArray) (i : Nat) (x : api_Label) => some (if (okL x && strLt last x.Name) = true then (.inl x.Name : ByteArray ⊕ (Unit ⊕ Bool)) else .inr (.inr false))) (fun _ => .inl ())]
  · rw [chain_fold]
    unfold rightS
    cases h : chain ByteArray.empty l with
    | true =>
      rw [if_pos rfl]
      simp only [Option.bind_some, Sum.elim_inl]
      rw [show (6 : Int) = ((6 : Nat) : Int) from rfl, within_lab]
      simp
    | false => rw [if_neg (by simp)]; simp
  · intro s i x hx
    have := lt_of_get hx
    unfold label_Right.b2
    dsimp only
    rw [decide_eq_true (by omega : (i : Int) < l.length), cond_true, at_nat hx]
    simp only [Option.bind_some, Option.map_some, pur_eq]
    rw [name_eq, Option.bind_some, show (64 : Int) = ((64 : Nat) : Int) from rfl, within_str]
    unfold okL
    cases h1 : nameS x.Name with
    | false => simp
    | true =>
      cases h2 : (decide (1 ≤ x.Val.size) && decide (x.Val.size ≤ 64)) with
      | false => simp
      | true =>
        simp only [Bool.not_true, cond_false, Option.bind_some, strLe_eq]
        cases h3 : strLt s x.Name with
        | false => simp
        | true =>
          simp only [Bool.not_true, cond_false, Option.bind_some, Sum.elim_inl, Bool.and_self, if_true]
          rw [wrap64 (by omega) (by omega)]
          congr 3
  · intro s
    simp [label_Right.b2]

theorem chain_pair : ∀ {l : List api_Label} {last : ByteArray}, chain last l = true ↔ (∀ x ∈ l, okL x = true ∧ strLt last x.Name = true) ∧ l.Pairwise fun a b => strLt a.Name b.Name = true
  | [], _ => by simp [chain]
  | x :: l, last => by
    unfold chain
    rw [Bool.and_eq_true, Bool.and_eq_true, chain_pair, List.pairwise_cons]
    simp only [List.mem_cons, forall_eq_or_imp]
    constructor
    · rintro ⟨⟨h1, h2⟩, h3, h4⟩
      exact ⟨⟨⟨h1, h2⟩, fun y hy => ⟨(h3 y hy).1, strLt_trans h2 (h3 y hy).2⟩⟩, fun y hy => (h3 y hy).2, h4⟩
    · rintro ⟨⟨h1, h3⟩, h2, h4⟩
      exact ⟨h1, fun y hy => ⟨(h3 y hy).1, h2 y hy⟩, h4⟩
theorem okL_size {x : api_Label} (h : okL x = true) : (1 ≤ x.Name.size ∧ x.Name.size ≤ 16) ∧ 1 ≤ x.Val.size ∧ x.Val.size ≤ 64 := by
  unfold okL at h
  simp only [Bool.and_eq_true, decide_eq_true_eq] at h
  exact ⟨nameS_size h.1, h.2⟩
theorem rightS_iff {l : List api_Label} : rightS l = true ↔ (∀ x ∈ l, okL x = true) ∧ (l.Pairwise fun a b => strLt a.Name b.Name = true) ∧ 1 ≤ l.length ∧ l.length ≤ 6 := by
  unfold rightS
  rw [Bool.and_eq_true, chain_pair]
  simp only [Bool.and_eq_true, decide_eq_true_eq]
  constructor
  · rintro ⟨⟨h1, h2⟩, h3⟩; exact ⟨fun x hx => (h1 x hx).1, h2, h3⟩
  · rintro ⟨h1, h2, h3⟩; exact ⟨⟨fun x hx => ⟨h1 x hx, strLt_empty (okL_size (h1 x hx)).1.1⟩, h2⟩, h3⟩
end Go.Proofs.YtikdgllagijidaaGreat
