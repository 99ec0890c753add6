/- Plain laws of the head: what each of its methods does. -/
import Derived.Test.YtconkjamlhfneaaMgHc
namespace Go.Proofs.Ytconkjamlhfneaa
open Go Go.Mg
set_option linter.unusedVariables false
set_option linter.unusedSimpArgs false

def tot (m : List (Int × List api_Point)) : Nat := (m.map (·.2.length)).sum
theorem tot_cons (x : Int × List api_Point) (m : List (Int × List api_Point)) : tot (x :: m) = x.2.length + tot m := by simp [tot]
theorem tot_get {m : List (Int × List api_Point)} (k : Int) : ((mget k m).getD []).length ≤ tot m := by
  induction m with
  | nil => simp [mget]
  | cons x m ih =>
    rw [mget_cons, tot_cons]
    by_cases h : k = x.1
    · simp [h]
    · simp only [h, if_false]; omega
theorem tot_mput {m : List (Int × List api_Point)} (k : Int) (y : List api_Point) : tot (mput k y m) + ((mget k m).getD []).length = tot m + y.length := by
  induction m with
  | nil => simp [mput, tot, mget]
  | cons x m ih =>
    unfold mput
    rw [mget_cons]
    by_cases h : k = x.1
    · simp only [h, if_true, tot_cons, Option.getD_some]; omega
    · simp only [h, if_false, tot_cons]; omega
theorem tot_mrem {m : List (Int × List api_Point)} (k : Int) (hn : (m.map (·.1)).Nodup) : tot (mrem k m) + ((mget k m).getD []).length = tot m := by
  induction m with
  | nil => simp [mrem, tot, mget]
  | cons x m ih =>
    simp only [List.map_cons, List.nodup_cons] at hn
    have ih := ih hn.2
    unfold mrem at ih ⊢
    rw [mget_cons, List.filter_cons]
    by_cases h : k = x.1
    · simp only [h, decide_true, Bool.not_true, Bool.false_eq_true, if_false, if_true, tot_cons, Option.getD_some]
      have h2 : mget x.1 m = none := by
        cases hq : mget x.1 m with
        | none => rfl
        | some y => exact absurd (mem_keys.2 (by rw [hq]; rfl)) hn.1
      rw [h, h2] at ih
      simp at ih
      omega
    · simp only [h, decide_false, Bool.not_false, if_true, if_false, tot_cons]; omega

/-- What holds of a head. -/
structure HI (h : head_Head) : Prop where
  win : 0 ≤ h.window
  win2 : h.window ≤ 1099511627776
  last : I64 h.last
  keys : (h.series.map (·.1)).Nodup
  ids : ∀ id, row h id ≠ [] → 0 ≤ id ∧ id < 4096
  rows : ∀ id, RP (row h id)
  ne : ∀ id, mget id h.series = some (row h id) → row h id ≠ []
  pts : ∀ id p, p ∈ row h id → I64 p.T
  many : h.many = (tot h.series : Int)
  le : tot h.series ≤ 2048

theorem HI.len {h : head_Head} (H : HI h) (id : Int) : (row h id).length ≤ 2048 := Nat.le_trans (tot_get id) H.le
theorem HI.far {h : head_Head} (H : HI h) {t : Int} (ht : I64 t) : head_Head_far h t = some (farS h.any h.last h.window t) := far_eq H.last ht H.win H.win2
theorem HI.none {h : head_Head} (H : HI h) {id : Int} : mget id h.series = none ↔ row h id = [] := by
  constructor
  · intro h1; unfold row; rw [h1]; rfl
  · intro h1
    cases hq : mget id h.series with
    | none => rfl
    | some y =>
      have : row h id = y := by unfold row; rw [hq]; rfl
      exact absurd h1 (H.ne id (by rw [hq, this]))

/-- The head but for its rows. -/
def Same3 (h h' : head_Head) : Prop := h'.window = h.window ∧ h'.last = h.last ∧ h'.any = h.any

/-- A new row at an id. -/
theorem put_eq {h : head_Head} (H : HI h) {id : Int} {l : List api_Point} (hid : l ≠ [] → 0 ≤ id ∧ id < 4096) (hl : RP l) (hp : ∀ p ∈ l, I64 p.T) (hle : tot h.series + l.length ≤ 2048 + (row h id).length) :
    ∃ h', head_Head_put h id l = some h' ∧ HI h' ∧ Same3 h h' ∧ ∀ i, row h' i = if i = id then l else row h i := by
  have hlen := H.len id
  have htot := H.le
  have hl2 : (row h id).length ≤ tot h.series := tot_get id
  unfold head_Head_put
  rw [show (mget id h.series).getD [] = row h id from rfl]
  simp only [pur_eq]
  rw [wrap64 (x := (l.length : Int) - ((row h id).length : Int)) (by omega) (by omega), wrap64 (x := h.many + _) (by rw [H.many]; omega) (by rw [H.many]; omega)]
  by_cases h0 : l = []
  · subst h0
    refine ⟨{ h with series := mrem id h.series, many := h.many + ((([] : List api_Point).length : Int) - ((row h id).length : Int)) }, by rw [show ((([] : List api_Point).length : Int) == 0) = true by simp, cond_true], ?_, ⟨rfl, rfl, rfl⟩, ?_⟩
    all_goals have hrow : ∀ i, (mget i (mrem id h.series)).getD [] = if i = id then [] else row h i := fun i => by rw [mget_mrem]; split <;> rfl
    · have ht := tot_mrem id H.keys
      rw [show (mget id h.series).getD [] = row h id from rfl] at ht
      refine ⟨H.win, H.win2, H.last, mrem_keys H.keys, ?_, ?_, ?_, ?_, ?_, ?_⟩
      · intro i; unfold row; dsimp only; rw [hrow]; split
        · intro h; exact absurd rfl h
        · exact H.ids i
      · intro i; unfold row; dsimp only; rw [hrow]; split
        · exact .nil
        · exact H.rows i
      · intro i; unfold row; dsimp only; rw [hrow, mget_mrem]; split
        · intro h; cases h
        · exact H.ne i
      · intro i p; unfold row; dsimp only; rw [hrow]; split
        · intro h; cases h
        · exact H.pts i p
      · dsimp only; rw [H.many]; simp; omega
      · dsimp only; omega
    · intro i; unfold row; exact hrow i
  · have hpos : 0 < l.length := List.length_pos_iff.2 h0
    refine ⟨{ h with series := mput id l h.series, many := h.many + ((l.length : Int) - ((row h id).length : Int)) }, by rw [show ((l.length : Int) == 0) = false by simp; exact h0, cond_false], ?_, ⟨rfl, rfl, rfl⟩, ?_⟩
    all_goals have hrow : ∀ i, (mget i (mput id l h.series)).getD [] = if i = id then l else row h i := fun i => by rw [mget_mput]; split <;> rfl
    · have ht := tot_mput (m := h.series) id l
      rw [show (mget id h.series).getD [] = row h id from rfl] at ht
      refine ⟨H.win, H.win2, H.last, mput_keys H.keys, ?_, ?_, ?_, ?_, ?_, ?_⟩
      · intro i; unfold row; dsimp only; rw [hrow]; split
        · rename_i e; subst e; exact hid
        · exact H.ids i
      · intro i; unfold row; dsimp only; rw [hrow]; split
        · exact hl
        · exact H.rows i
      · intro i; unfold row; dsimp only; rw [hrow, mget_mput]; split
        · intro _; exact h0
        · exact H.ne i
      · intro i p; unfold row; dsimp only; rw [hrow]; split
        · exact hp p
        · exact H.pts i p
      · dsimp only; rw [H.many]; omega
      · dsimp only; omega
    · intro i; unfold row; exact hrow i

theorem drop_eq {h : head_Head} (H : HI h) (id : Int) : ∃ h', head_Head_Drop (some h) id = some (((row h id).length : Int), some h') ∧ HI h' ∧ Same3 h h' ∧ ∀ i, row h' i = if i = id then [] else row h i := by
  obtain ⟨h', h1, h2, h3, h4⟩ := put_eq H (id := id) (l := []) (fun h => absurd rfl h) .nil (fun p hp => by cases hp) (by have := H.le; simp; omega)
  refine ⟨h', ?_, h2, h3, h4⟩
  unfold head_Head_Drop
  simp only [Option.isNone_some, cond_false, Option.bind_some, h1]
  rfl

theorem points_eq {h : head_Head} (H : HI h) (id : Int) : head_Head_Points (some h) id = some (row h id) := by
  unfold head_Head_Points slices_Clone_api_Point_api_Point
  have := H.len id
  simp only [Option.isNone_some, cond_false, Option.bind_some]
  rw [show (mget id h.series).getD [] = row h id from rfl, clone_ok (by unfold lim; omega)]
  rfl
theorem len_eq {h : head_Head} : head_Head_Len (some h) = some h.many := rfl
theorem last_eq {h : head_Head} : head_Head_Last (some h) = some (h.last, h.any) := rfl

/-- The ids of a head's series, rising. -/
def idsS (h : head_Head) : List Int := (h.series.map (·.1)).mergeSort fun x y => decide (x ≤ y)
theorem tot_keys {m : List (Int × List api_Point)} (h : ∀ x ∈ m, x.2 ≠ []) : m.length ≤ tot m := by
  induction m with
  | nil => simp
  | cons x m ih =>
    have := ih fun y hy => h y (List.mem_cons_of_mem _ hy)
    have h1 : 0 < x.2.length := List.length_pos_iff.2 (h x List.mem_cons_self)
    rw [tot_cons, List.length_cons]; omega
theorem mget_mem {m : List (Int × List api_Point)} (hn : (m.map (·.1)).Nodup) {x : Int × List api_Point} (hx : x ∈ m) : mget x.1 m = some x.2 := by
  induction m with
  | nil => cases hx
  | cons y m ih =>
    simp only [List.map_cons, List.nodup_cons] at hn
    rw [mget_cons]
    rcases List.mem_cons.1 hx with rfl | hx
    · simp
    · have : ¬ x.1 = y.1 := fun e => hn.1 (by rw [← e]; exact List.mem_map.2 ⟨x, hx, rfl⟩)
      rw [if_neg this]; exact ih hn.2 hx
theorem HI.nk {h : head_Head} (H : HI h) : h.series.length ≤ 2048 := Nat.le_trans (tot_keys fun x hx => by
  have h1 := mget_mem H.keys hx
  have h2 : row h x.1 = x.2 := by unfold row; rw [h1]; rfl
  rw [← h2]; exact H.ne x.1 (by rw [h1, h2])) H.le
theorem ids_eq {h : head_Head} (H : HI h) : head_Head_Ids (some h) = some (idsS h) := by
  have := H.nk
  unfold head_Head_Ids keys_
  dsimp only
  rw [if_pos (by rw [List.length_map]; unfold lim; omega)]
  rfl
theorem ids_mem {h : head_Head} (H : HI h) {id : Int} : id ∈ idsS h ↔ row h id ≠ [] := by
  unfold idsS
  rw [List.mem_mergeSort, mem_keys]
  constructor
  · intro h1 h2
    rw [H.none.2 h2] at h1
    cases h1
  · intro h1
    cases hq : mget id h.series with
    | none => exact absurd (H.none.1 hq) h1
    | some y => rfl
theorem ids_rise {h : head_Head} (H : HI h) : SR (idsS h) := by
  unfold idsS
  have t : ∀ a b c : Int, decide (a ≤ b) = true → decide (b ≤ c) = true → decide (a ≤ c) = true := fun a b c h1 h2 => by simp at *; omega
  have tt : ∀ a b : Int, (decide (a ≤ b) || decide (b ≤ a)) = true := fun a b => by simp; omega
  have h1 := List.pairwise_mergeSort t tt (h.series.map (·.1))
  have h2 : ((h.series.map (·.1)).mergeSort fun x y => decide (x ≤ y)).Nodup := (List.mergeSort_perm _ _).nodup_iff.2 H.keys
  have := h1.and h2
  exact this.imp fun {a b} ⟨h3, h4⟩ => by
    have h3 := of_decide_eq_true h3
    omega
theorem ids_len {h : head_Head} (H : HI h) : (idsS h).length ≤ 2048 := by unfold idsS; rw [List.length_mergeSort, List.length_map]; exact H.nk
end Go.Proofs.Ytconkjamlhfneaa
