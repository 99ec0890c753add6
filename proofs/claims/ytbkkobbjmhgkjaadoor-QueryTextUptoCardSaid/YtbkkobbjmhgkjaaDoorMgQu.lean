/- The plain law of answers as text: rows. -/
import Derived.Test.YtbkkobbjmhgkjaaDoorMgQt
namespace Go.Proofs.YtbkkobbjmhgkjaaDoor
open Go Go.Mg
set_option linter.unusedVariables false
set_option linter.unusedSimpArgs false

/-! ### What a row is as text -/
def tl (x : api_Label) : List UInt8 := x.Name.data.toList ++ (61 :: x.Val.data.toList)
def tp (p : api_Point) : List UInt8 := Lib.itoa p.T ++ (58 :: Lib.itoa p.V)
def jn (xs : List (List UInt8)) : List UInt8 := Lib.join xs [44]
def trow (r : api_Row) : List UInt8 := jn (r.Labels.map tl) ++ (32 :: (jn (r.Points.map tp) ++ [10]))
def text (l : List api_Row) : List UInt8 := (l.map trow).flatten
def big : Nat := 140737488355328
def I64 (x : Int) : Prop := -9223372036854775808 ≤ x ∧ x ≤ 9223372036854775807
def okP (p : api_Point) : Prop := I64 p.T ∧ I64 p.V

theorem jn_take {xs : List (List UInt8)} {i : Nat} {x : List UInt8} (h : xs[i]? = some x) : jn (xs.take (i + 1)) = (if 0 < i then jn (xs.take i) ++ [44] else []) ++ x := by
  cases xs with
  | nil => simp at h
  | cons y r =>
    cases i with
    | zero =>
      simp at h
      subst h
      simp [jn, Lib.join_one]
    | succ k =>
      rw [if_pos (by omega), List.take_succ_cons, List.take_succ_cons]
      unfold jn
      rw [Lib.join_cons, Lib.join_cons, Lib.joinTail_take_succ [44] r k x (by simpa using h)]
      simp [List.append_assoc]
theorem jn_take_le (xs : List (List UInt8)) (i : Nat) : (jn (xs.take i)).length ≤ (jn xs).length := by
  cases xs with
  | nil => simp
  | cons y r =>
    cases i with
    | zero => simp [jn, Lib.join_nil]
    | succ k =>
      rw [List.take_succ_cons]
      unfold jn
      rw [Lib.join_cons, Lib.join_cons, List.length_append, List.length_append]
      have := Lib.joinTail_take_le [44] r k
      omega
theorem jn_mem {xs : List (List UInt8)} {i : Nat} {x : List UInt8} (h : xs[i]? = some x) : x.length ≤ (jn xs).length := by
  have h1 := congrArg List.length (jn_take h)
  have h2 := jn_take_le xs (i + 1)
  rw [List.length_append] at h1
  omega
theorem text_mem {l : List api_Row} {i : Nat} {r : api_Row} (h : l[i]? = some r) : text (l.take (i + 1)) = text (l.take i) ++ trow r := by
  unfold text
  rw [List.take_add_one, h]
  simp
theorem text_take_le (l : List api_Row) (i : Nat) : (text (l.take i)).length ≤ (text l).length := by
  have h : text l = text (l.take i) ++ text (l.drop i) := by
    unfold text
    rw [← List.flatten_append, ← List.map_append, List.take_append_drop]
  rw [h, List.length_append]
  omega

/-! ### The program's loops -/
theorem q_labels {y : api_Row} (h12 : y.Labels.length ≤ 12) (hb : (jn (y.Labels.map tl)).length ≤ big) :
    iter (fun s : (List ByteArray) × Int => query_Text.b5 y s.1 s.2) (([] : List ByteArray), (0 : Int)) = some (y.Labels.map fun x => ba (tl x)) := by
  obtain ⟨r, e1, rfl⟩ := iter_inv (step := fun s : (List ByteArray) × Int => query_Text.b5 y s.1 s.2) (fun s i => (s, i)) y.Labels
    (fun s i => s = (y.Labels.take i).map fun x => ba (tl x)) (fun r => r = y.Labels.map fun x => ba (tl x)) (by
    rintro s i x hx rfl
    left
    have hi := lt_of_get hx
    have hl : (tl x).length ≤ big := Nat.le_trans (jn_mem (i := i) (by rw [List.getElem?_map, hx]; rfl)) hb
    unfold big at hl
    have hl2 : (tl x).length = x.Name.data.toList.length + (x.Val.data.toList.length + 1) := by simp [tl]
    refine ⟨_, ?_, rfl⟩
    unfold query_Text.b5
    dsimp only
    rw [decide_eq_true (by omega), cond_true, at_nat hx, Option.bind_some, pur_eq, lit61, ← ba_of x.Name, sadd_ba (by simp only [List.length_singleton]; omega), Option.bind_some, ← ba_of x.Val,
      sadd_ba (by simp only [List.length_append, List.length_singleton]; omega), Option.bind_some, app_ok (by rw [List.length_map, List.length_take]; simp only [List.length_singleton, Mg.lim]; omega), Option.bind_some, pur_eq, wrap64 (by omega) (by omega), List.take_add_one, hx]
    simp [tl, List.append_assoc]) (by
    rintro s rfl
    refine ⟨_, ?_, rfl⟩
    unfold query_Text.b5
    dsimp only
    rw [decide_eq_false (by omega), cond_false, List.take_length]) [] (by simp)
  exact e1
theorem q_points {y : api_Row} (h100 : y.Points.length ≤ 100) (hp : ∀ p ∈ y.Points, okP p) (hb : (jn (y.Points.map tp)).length ≤ big) :
    iter (fun s : (List ByteArray) × Int => query_Text.b7 y s.1 s.2) (([] : List ByteArray), (0 : Int)) = some (y.Points.map fun x => ba (tp x)) := by
  obtain ⟨r, e1, rfl⟩ := iter_inv (step := fun s : (List ByteArray) × Int => query_Text.b7 y s.1 s.2) (fun s i => (s, i)) y.Points
    (fun s i => s = (y.Points.take i).map fun x => ba (tp x)) (fun r => r = y.Points.map fun x => ba (tp x)) (by
    rintro s i x hx rfl
    left
    have hi := lt_of_get hx
    have hl : (tp x).length ≤ big := Nat.le_trans (jn_mem (i := i) (by rw [List.getElem?_map, hx]; rfl)) hb
    unfold big at hl
    have hl2 : (tp x).length = (Lib.itoa x.T).length + ((Lib.itoa x.V).length + 1) := by simp [tp]
    obtain ⟨h1, h2⟩ := hp x (List.mem_of_getElem? hx)
    refine ⟨_, ?_, rfl⟩
    unfold query_Text.b7
    dsimp only
    rw [decide_eq_true (by omega), cond_true, at_nat hx, Option.bind_some, pur_eq, lit58, itoa_eq h1.1 h1.2, Option.bind_some, sadd_ba (by simp only [List.length_singleton]; omega), Option.bind_some, itoa_eq h2.1 h2.2, Option.bind_some,
      sadd_ba (by simp only [List.length_append, List.length_singleton]; omega), Option.bind_some, app_ok (by rw [List.length_map, List.length_take]; simp only [List.length_singleton, Mg.lim]; omega), Option.bind_some, pur_eq, wrap64 (by omega) (by omega), List.take_add_one, hx]
    simp [tp, List.append_assoc]) (by
    rintro s rfl
    refine ⟨_, ?_, rfl⟩
    unfold query_Text.b7
    dsimp only
    rw [decide_eq_false (by omega), cond_false, List.take_length]) [] (by simp)
  exact e1
theorem q_join {α : Type} {xs : List α} {f : α → List UInt8} (h : xs.length ≤ 100) (hb : (jn (xs.map f)).length ≤ big) : strings_Join (xs.map fun x => ba (f x)) (ByteArray.mk #[44]) = some (ba (jn (xs.map f))) := by
  have e : (xs.map fun x => ba (f x)).map (·.data.toList) = xs.map f := by
    rw [List.map_map]
    exact List.map_congr_left fun x _ => by simp [ba]
  unfold strings_Join join_
  rw [e, if_pos ⟨by rw [List.length_map]; omega, hb⟩]
  rfl

/-- Rows that are small, of numbers that are numbers. -/
def OkR (r : api_Row) : Prop := r.Labels.length ≤ 12 ∧ r.Points.length ≤ 100 ∧ ∀ p ∈ r.Points, okP p
theorem row_len (r : api_Row) : (trow r).length = (jn (r.Labels.map tl)).length + ((jn (r.Points.map tp)).length + 2) := by simp [trow]
theorem q_text {l : List api_Row} (hl : l.length ≤ 50) (hr : ∀ r ∈ l, OkR r) (hb : (text l).length ≤ big) : query_Text l = some (ba (text l)) := by
  obtain ⟨r, e1, rfl⟩ := iter_inv (step := fun s : Int × ByteArray => query_Text.b2 l s.1 s.2) (fun s i => (i, s)) l
    (fun s i => s = ba (text (l.take i))) (fun r => r = ba (text l)) (by
    rintro s i y hy rfl
    left
    have hi := lt_of_get hy
    obtain ⟨h1, h2, h3⟩ := hr y (List.mem_of_getElem? hy)
    have hx := text_take_le l (i + 1)
    rw [text_mem hy, List.length_append, row_len] at hx
    unfold big at hb
    refine ⟨_, ?_, rfl⟩
    unfold query_Text.b2
    dsimp only
    rw [decide_eq_true (by omega), cond_true, at_nat hy, Option.bind_some, pur_eq, q_labels h1 (by unfold big; omega), Option.bind_some, q_points h2 h3 (by unfold big; omega), Option.bind_some, q_join (by omega) (by unfold big; omega), Option.bind_some, lit32,
      sadd_ba (by simp only [List.length_singleton]; omega), Option.bind_some, q_join h2 (by unfold big; omega), Option.bind_some, sadd_ba (by simp only [List.length_append, List.length_singleton]; omega), Option.bind_some, lit10,
      sadd_ba (by simp only [List.length_append, List.length_singleton]; omega), Option.bind_some, bw_ba (by simp only [List.length_append, List.length_singleton]; omega), Option.bind_some, Option.bind_some, pur_eq, wrap64 (by omega) (by omega), text_mem hy]
    simp [trow, List.append_assoc]) (by
    rintro s rfl
    refine ⟨_, ?_, rfl⟩
    unfold query_Text.b2
    dsimp only
    rw [decide_eq_false (by omega), cond_false, List.take_length]) ByteArray.empty (by simp [text]; rfl)
  unfold query_Text
  rw [e1]
  rfl
end Go.Proofs.YtbkkobbjmhgkjaaDoor
