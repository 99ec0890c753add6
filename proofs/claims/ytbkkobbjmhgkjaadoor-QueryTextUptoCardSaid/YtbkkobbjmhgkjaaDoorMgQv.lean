/- The plain law of answers as text: the document's text, and both together. -/
import Derived.Test.YtbkkobbjmhgkjaaDoorMgQu
import Derived.Lib.ItoaLen
namespace Go.Proofs.YtbkkobbjmhgkjaaDoor
open Go Go.Mg
set_option linter.unusedVariables false
set_option linter.unusedSimpArgs false

theorem comma {i : Nat} {a b : List UInt8} (h : a.length + b.length + 1 ≤ 9223372036854775807) (h0 : i = 0 → b = []) :
    (bif decide ((0 : Int) < (i : Int)) then (sadd_ (ba (a ++ b)) (ByteArray.mk #[44])).bind fun y => some y else some (ba (a ++ b))) = some (ba (a ++ (if 0 < i then b ++ [44] else []))) := by
  by_cases hi : 0 < i
  · rw [decide_eq_true (by omega), cond_true, if_pos hi, lit44, sadd_ba (by simp only [List.length_append, List.length_singleton]; omega), Option.bind_some, List.append_assoc]
  · rw [decide_eq_false (by omega), cond_false, if_neg hi, h0 (by omega)]
theorem jn0 {xs : List (List UInt8)} {i : Nat} (h : i = 0) : jn (xs.take i) = [] := by subst h; simp [jn, Lib.join_nil]
theorem jn_pre {xs : List (List UInt8)} {i : Nat} {x : List UInt8} (h : xs[i]? = some x) : (if 0 < i then jn (xs.take i) ++ [44] else []).length + x.length ≤ (jn xs).length ∧ (jn (xs.take i)).length + 1 ≤ (jn xs).length + 1 := by
  have h1 := congrArg List.length (jn_take h)
  have h2 := jn_take_le xs (i + 1)
  have h3 := jn_take_le xs i
  rw [List.length_append] at h1
  omega

theorem r_labels {l : List api_Row} {j : Nat} {y : api_Row} (hy : l[j]? = some y) (h12 : y.Labels.length ≤ 12) {a : List UInt8} (hb : a.length + (jn (y.Labels.map tl)).length ≤ big) :
    iter (fun s : ByteArray × Int => marigraphref16_Text.b5 l (j : Int) s.1 s.2) (ba a, (0 : Int)) = some (ba (a ++ jn (y.Labels.map tl))) := by
  obtain ⟨r, e1, rfl⟩ := iter_inv (step := fun s : ByteArray × Int => marigraphref16_Text.b5 l (j : Int) s.1 s.2) (fun s i => (s, i)) y.Labels
    (fun s i => s = ba (a ++ jn ((y.Labels.map tl).take i))) (fun r => r = ba (a ++ jn (y.Labels.map tl))) (by
    rintro s i x hx rfl
    left
    have hi := lt_of_get hx
    have hx2 : (y.Labels.map tl)[i]? = some (tl x) := by rw [List.getElem?_map, hx]; rfl
    obtain ⟨hl, hl3⟩ := jn_pre hx2
    unfold big at hb
    have hl2 : (tl x).length = x.Name.data.toList.length + (x.Val.data.toList.length + 1) := by simp [tl]
    refine ⟨_, ?_, rfl⟩
    unfold marigraphref16_Text.b5
    dsimp only
    rw [at_nat hy, Option.bind_some, decide_eq_true (by omega), cond_true, comma (by omega) jn0, Option.bind_some, Option.bind_some, at_nat hx, Option.bind_some, ← ba_of x.Name,
      sadd_ba (by rw [List.length_append]; omega), Option.bind_some, lit61, sadd_ba (by simp only [List.length_append, List.length_singleton]; omega), Option.bind_some, Option.bind_some, at_nat hx, Option.bind_some, ← ba_of x.Val,
      sadd_ba (by simp only [List.length_append, List.length_singleton]; omega), Option.bind_some, Option.bind_some, pur_eq, wrap64 (by omega) (by omega), jn_take hx2]
    simp [tl, ba, List.append_assoc]) (by
    rintro s rfl
    refine ⟨_, ?_, rfl⟩
    unfold marigraphref16_Text.b5
    dsimp only
    rw [at_nat hy, Option.bind_some, decide_eq_false (by omega), cond_false, List.take_of_length_le (by rw [List.length_map]; exact Nat.le_refl _)]) (ba a) (by simp [jn, Lib.join_nil])
  exact e1
theorem r_points {l : List api_Row} {j : Nat} {y : api_Row} (hy : l[j]? = some y) (h100 : y.Points.length ≤ 100) (hp : ∀ p ∈ y.Points, okP p) {a : List UInt8} (hb : a.length + (jn (y.Points.map tp)).length ≤ big) :
    iter (fun s : ByteArray × Int => marigraphref16_Text.b9 l (j : Int) s.1 s.2) (ba a, (0 : Int)) = some (ba (a ++ jn (y.Points.map tp))) := by
  obtain ⟨r, e1, rfl⟩ := iter_inv (step := fun s : ByteArray × Int => marigraphref16_Text.b9 l (j : Int) s.1 s.2) (fun s i => (s, i)) y.Points
    (fun s i => s = ba (a ++ jn ((y.Points.map tp).take i))) (fun r => r = ba (a ++ jn (y.Points.map tp))) (by
    rintro s i x hx rfl
    left
    have hi := lt_of_get hx
    have hx2 : (y.Points.map tp)[i]? = some (tp x) := by rw [List.getElem?_map, hx]; rfl
    obtain ⟨hl, hl3⟩ := jn_pre hx2
    unfold big at hb
    have hl2 : (tp x).length = (Lib.itoa x.T).length + ((Lib.itoa x.V).length + 1) := by simp [tp]
    obtain ⟨h1, h2⟩ := hp x (List.mem_of_getElem? hx)
    refine ⟨_, ?_, rfl⟩
    unfold marigraphref16_Text.b9
    dsimp only
    rw [at_nat hy, Option.bind_some, decide_eq_true (by omega), cond_true, comma (by omega) jn0, Option.bind_some, Option.bind_some, at_nat hx, Option.bind_some, Option.bind_some, at_nat hx, Option.bind_some, digits_eq h1.1 h1.2, Option.bind_some,
      sadd_ba (by rw [List.length_append]; omega), Option.bind_some, lit58, sadd_ba (by simp only [List.length_append, List.length_singleton]; omega), Option.bind_some, digits_eq h2.1 h2.2, Option.bind_some,
      sadd_ba (by simp only [List.length_append, List.length_singleton]; omega), Option.bind_some, Option.bind_some, pur_eq, wrap64 (by omega) (by omega), jn_take hx2]
    simp [tp, ba, List.append_assoc]) (by
    rintro s rfl
    refine ⟨_, ?_, rfl⟩
    unfold marigraphref16_Text.b9
    dsimp only
    rw [at_nat hy, Option.bind_some, decide_eq_false (by omega), cond_false, List.take_of_length_le (by rw [List.length_map]; exact Nat.le_refl _)]) (ba a) (by simp [jn, Lib.join_nil])
  exact e1
theorem r_text {l : List api_Row} (hl : l.length ≤ 50) (hr : ∀ r ∈ l, OkR r) (hb : (text l).length ≤ big) : marigraphref16_Text l = some (ba (text l)) := by
  obtain ⟨r, e1, rfl⟩ := iter_inv (step := fun s : ByteArray × Int => marigraphref16_Text.b2 l s.1 s.2) (fun s i => (s, i)) l
    (fun s i => s = ba (text (l.take i))) (fun r => r = ba (text l)) (by
    rintro s i y hy rfl
    left
    have hi := lt_of_get hy
    obtain ⟨h1, h2, h3⟩ := hr y (List.mem_of_getElem? hy)
    have hx := text_take_le l (i + 1)
    rw [text_mem hy, List.length_append, row_len] at hx
    unfold big at hb
    refine ⟨_, ?_, rfl⟩
    unfold marigraphref16_Text.b2
    dsimp only
    rw [decide_eq_true (by omega), cond_true, r_labels hy h1 (by unfold big; omega), Option.bind_some, lit32, sadd_ba (by simp only [List.length_append, List.length_singleton]; omega), Option.bind_some,
      r_points hy h2 h3 (by simp only [List.length_append, List.length_singleton]; unfold big; omega), Option.bind_some, lit10, sadd_ba (by simp only [List.length_append, List.length_singleton]; omega), Option.bind_some, Option.bind_some, pur_eq, wrap64 (by omega) (by omega), text_mem hy]
    simp [trow, List.append_assoc]) (by
    rintro s rfl
    refine ⟨_, ?_, rfl⟩
    unfold marigraphref16_Text.b2
    dsimp only
    rw [decide_eq_false (by omega), cond_false, List.take_length]) ByteArray.empty (by simp [text]; rfl)
  unfold marigraphref16_Text
  rw [e1]
  rfl

/-! ### The law -/
theorem ba_strEq (a : ByteArray) : strEq a a = true := by unfold strEq; simp
theorem shown_eq : marigraphlaw16_shown = some true := by
  unfold marigraphlaw16_shown
  have hr : ∀ r ∈ [api_Row.mk [api_Label.mk (ByteArray.mk #[97]) (ByteArray.mk #[49])] [api_Point.mk 5 (-2), api_Point.mk 7 0]], OkR r := by
    intro r hr
    rw [List.mem_singleton.1 hr]
    refine ⟨by decide, by decide, fun p hp => ?_⟩
    simp only [List.mem_cons, List.not_mem_nil, or_false] at hp
    rcases hp with rfl | rfl <;> exact ⟨⟨by decide, by decide⟩, by decide, by decide⟩
  have e : text [api_Row.mk [api_Label.mk (ByteArray.mk #[97]) (ByteArray.mk #[49])] [api_Point.mk 5 (-2), api_Point.mk 7 0]] = [97, 61, 49, 32, 53, 58, 45, 50, 44, 55, 58, 48, 10] := by
    simp [text, trow, jn, tl, tp, Lib.join_one, Lib.join_cons, Lib.joinTail, Lib.itoa, Lib.decDigits]
  rw [q_text (by decide) hr (by rw [e]; decide), Option.bind_some, e]
  exact congrArg some (ba_strEq (ba [97, 61, 49, 32, 53, 58, 45, 50, 44, 55, 58, 48, 10]))
/-- The rows that are asked for: the first 50, and small. -/
def some_ (i : Nat) (r : api_Row) : Bool := decide (i < 50) && decide (r.Labels.length ≤ 12) && decide (r.Points.length ≤ 100)
def few : Nat → List api_Row → List api_Row
  | _, [] => []
  | i, r :: l => if some_ i r = true then r :: few (i + 1) l else few (i + 1) l
theorem few_sub : ∀ (l : List api_Row) (i : Nat), (few i l).Sublist l
  | [], i => by simp [few]
  | r :: l, i => by
    unfold few
    split
    · exact (few_sub l (i + 1)).cons_cons r
    · exact (few_sub l (i + 1)).cons r
theorem few_len : ∀ (l : List api_Row) (i : Nat), (few i l).length ≤ 50 - i
  | [], i => by simp [few]
  | r :: l, i => by
    unfold few
    have := few_len l (i + 1)
    split
    · rename_i h
      simp only [some_, Bool.and_eq_true, decide_eq_true_eq] at h
      rw [List.length_cons]; omega
    · omega
theorem few_ok : ∀ (l : List api_Row) (i : Nat) (r : api_Row), r ∈ few i l → r.Labels.length ≤ 12 ∧ r.Points.length ≤ 100
  | [], i, r, h => by simp [few] at h
  | x :: l, i, r, h => by
    unfold few at h
    split at h
    · rename_i hx
      simp only [some_, Bool.and_eq_true, decide_eq_true_eq] at hx
      rcases List.mem_cons.1 h with rfl | h
      · exact ⟨hx.1.2, hx.2⟩
      · exact few_ok l _ r h
    · exact few_ok l _ r h
theorem few_loop {l : List api_Row} (hl : l.length ≤ 140737488355328) : iter (fun s : (List api_Row) × Int => marigraphlaw16_QueryText.b2 l s.1 s.2) (([] : List api_Row), (0 : Int)) = some (few 0 l) := by
  obtain ⟨r, e1, rfl⟩ := iter_inv (step := fun s : (List api_Row) × Int => marigraphlaw16_QueryText.b2 l s.1 s.2) (fun s i => (s, i)) l
    (fun s i => s ++ few i (l.drop i) = few 0 l) (fun r => r = few 0 l) (by
    rintro s i y hy hs
    left
    have hi := lt_of_get hy
    have hd : l.drop i = y :: l.drop (i + 1) := by
      obtain ⟨h, rfl⟩ := List.getElem?_eq_some_iff.1 hy
      exact List.drop_eq_getElem_cons h
    rw [hd, show few i (y :: l.drop (i + 1)) = if some_ i y = true then y :: few (i + 1) (l.drop (i + 1)) else few (i + 1) (l.drop (i + 1)) from rfl] at hs
    have hlen : s.length ≤ 50 := by
      have h1 := congrArg List.length hs
      have h2 := few_len l 0
      rw [List.length_append] at h1
      omega
    have hc : (bif decide ((i : Int) < 50) then (bif decide ((y.Labels.length : Int) ≤ 12) then some (decide ((y.Points.length : Int) ≤ 100)) else some false) else some false) = some (some_ i y) := by
      unfold some_
      by_cases h1 : i < 50
      · by_cases h2 : y.Labels.length ≤ 12
        · rw [decide_eq_true (show (i : Int) < 50 by omega), decide_eq_true (show (y.Labels.length : Int) ≤ 12 by omega)]
          simp only [cond_true, h1, h2, decide_true, Bool.true_and]
          congr 1
          exact decide_eq_decide.2 (by omega)
        · rw [decide_eq_false (show ¬ (y.Labels.length : Int) ≤ 12 by omega)]
          simp [h2]
      · rw [decide_eq_false (show ¬ (i : Int) < 50 by omega)]
        simp [h1]
    unfold marigraphlaw16_QueryText.b2
    dsimp only
    rw [decide_eq_true (by omega), cond_true, at_nat hy, Option.bind_some, pur_eq, hc, Option.bind_some]
    cases hq : some_ i y with
    | true =>
      rw [if_pos hq] at hs
      refine ⟨s ++ [y], ?_, by simpa using hs⟩
      rw [cond_true, app_ok (by simp only [List.length_singleton, Mg.lim]; omega), Option.bind_some, Option.bind_some, pur_eq, wrap64 (by omega) (by omega)]
      rfl
    | false =>
      rw [if_neg (by rw [hq]; decide)] at hs
      refine ⟨s, ?_, hs⟩
      rw [cond_false, Option.bind_some, pur_eq, wrap64 (by omega) (by omega)]
      rfl) (by
    rintro s hs
    rw [List.drop_length] at hs
    refine ⟨s, ?_, by simpa [few] using hs⟩
    unfold marigraphlaw16_QueryText.b2
    dsimp only
    rw [decide_eq_false (by omega), cond_false]) [] (by simp)
  exact e1
/-- THE LAW, plain. -/
theorem queryText_ok0 {l : List api_Row} (hl : l.length ≤ 140737488355328) (hp : ∀ r ∈ l, ∀ p ∈ r.Points, okP p) (hb : (text (few 0 l)).length ≤ big) : marigraphlaw16_QueryText l = some true := by
  have hr : ∀ r ∈ few 0 l, OkR r := fun r h => by
    obtain ⟨h1, h2⟩ := few_ok l 0 r h
    exact ⟨h1, h2, hp r ((few_sub l 0).subset h)⟩
  have h50 := few_len l 0
  unfold marigraphlaw16_QueryText
  rw [few_loop hl, Option.bind_some, shown_eq, Option.bind_some, cond_true, q_text h50 hr hb, Option.bind_some, r_text h50 hr hb, Option.bind_some, ba_strEq]
  rfl

/-! ### How long a text may be: what its labels hold, and numbers -/
def held (r : api_Row) : Nat := (r.Labels.map fun x => x.Name.size + x.Val.size).sum
theorem jn_len (xs : List (List UInt8)) : (jn xs).length ≤ (xs.map fun x => x.length + 1).sum := by
  cases xs with
  | nil => simp [jn, Lib.join_nil]
  | cons x r =>
    have h : ∀ r : List (List UInt8), (Lib.joinTail [44] r).length = (r.map fun x => x.length + 1).sum := by
      intro r
      induction r with
      | nil => simp [Lib.joinTail]
      | cons y r ih =>
        simp only [Lib.joinTail, List.map_cons, List.flatten_cons, List.length_append, List.sum_cons, List.length_singleton] at ih ⊢
        omega
    unfold jn
    rw [Lib.join_cons, List.length_append, h, List.map_cons, List.sum_cons]
    omega
theorem sum_le {α : Type} {f : α → Nat} {m : Nat} : ∀ {xs : List α}, (∀ x ∈ xs, f x ≤ m) → (xs.map f).sum ≤ xs.length * m
  | [], _ => by simp
  | x :: xs, h => by
    have h1 := h x (by simp)
    have h2 := sum_le (xs := xs) fun y hy => h y (by simp [hy])
    rw [List.map_cons, List.sum_cons, List.length_cons, Nat.succ_mul]
    omega
theorem labels_len : ∀ (xs : List api_Label), ((xs.map tl).map fun x => x.length + 1).sum = (xs.map fun x => x.Name.size + x.Val.size).sum + xs.length * 2
  | [] => by simp
  | x :: xs => by
    have h1 : (tl x).length = x.Name.size + (x.Val.size + 1) := by unfold tl; rw [List.length_append, List.length_cons]; rfl
    simp only [List.map_cons, List.sum_cons, labels_len xs, List.length_cons, h1]
    omega
theorem trow_len {r : api_Row} (h : OkR r) : (trow r).length ≤ held r + 5000 := by
  obtain ⟨h1, h2, h3⟩ := h
  have a1 := jn_len (r.Labels.map tl)
  have a2 := jn_len (r.Points.map tp)
  rw [labels_len] at a1
  have a3 : ((r.Points.map tp).map fun x => x.length + 1).sum ≤ r.Points.length * 44 := by
    rw [List.map_map]
    refine sum_le fun p hp => ?_
    obtain ⟨b1, b2⟩ := h3 p hp
    have c1 := Lib.itoa_length_le p.T b1.1 b1.2
    have c2 := Lib.itoa_length_le p.V b2.1 b2.2
    have : (tp p).length = (Lib.itoa p.T).length + ((Lib.itoa p.V).length + 1) := by unfold tp; rw [List.length_append, List.length_cons]
    show (tp p).length + 1 ≤ 44
    omega
  rw [row_len]
  unfold held
  omega
theorem text_len : ∀ {l : List api_Row}, (∀ r ∈ l, OkR r) → (text l).length ≤ (l.map held).sum + l.length * 5000
  | [], _ => by simp [text]
  | r :: l, h => by
    have h1 := trow_len (h r (by simp))
    have h2 := text_len (l := l) fun y hy => h y (by simp [hy])
    unfold text at h2 ⊢
    simp only [List.map_cons, List.flatten_cons, List.length_append, List.sum_cons, List.length_cons]
    omega
theorem held_sub {a b : List api_Row} (h : a.Sublist b) : (a.map held).sum ≤ (b.map held).sum := by
  induction h with
  | slnil => exact Nat.le_refl _
  | cons x _ ih => simp only [List.map_cons, List.sum_cons]; omega
  | cons_cons x _ ih => simp only [List.map_cons, List.sum_cons]; omega
theorem queryText_ok {l : List api_Row} (hl : l.length ≤ 140737488355328) (hp : ∀ r ∈ l, ∀ p ∈ r.Points, okP p) (hb : (l.map held).sum ≤ 1048576) : marigraphlaw16_QueryText l = some true := by
  refine queryText_ok0 hl hp ?_
  have h1 := text_len (l := few 0 l) fun r h => by
    obtain ⟨h1, h2⟩ := few_ok l 0 r h
    exact ⟨h1, h2, hp r ((few_sub l 0).subset h)⟩
  have h2 := held_sub (few_sub l 0)
  have h3 := few_len l 0
  unfold big
  omega
end Go.Proofs.YtbkkobbjmhgkjaaDoor
