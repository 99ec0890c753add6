/- Plain laws of the head: rows of points, put together; what a map of rows holds. -/
import Derived.Test.YtconkjamlhfneaaMgHb
namespace Go.Proofs.Ytconkjamlhfneaa
open Go Go.Mg
set_option linter.unusedVariables false
set_option linter.unusedSimpArgs false

theorem sort_sorted {l : List api_Point} (hl : RP l) (hn : l.length < 1000000) : slices_SortStableFunc_api_Point_api_Point__merge_Of_1 l = some l := by
  have big : ∀ x : Nat, x ≤ 1000000 → x ≤ 2 ^ 64 := fun x h => by omega
  have e0 : slices_stableCmpFunc_api_Point__merge_Of_1 l (l.length : Int) = some l := by
    unfold slices_stableCmpFunc_api_Point__merge_Of_1
    obtain ⟨r, e1, a', hr, ha'⟩ := iter_total (step := fun s : (List api_Point) × Int × Int => slices_stableCmpFunc_api_Point__merge_Of_1.b2 (l.length : Int) s.1 s.2.1 s.2.2) (fun s => s.1 = l ∧ ∃ a : Nat, s.2.1 = (a : Int) ∧ s.2.2 = ((a + 20 : Nat) : Int) ∧ a ≤ l.length) (fun s => l.length - s.2.1.toNat) (fun r => ∃ a' : Nat, r = (l, (a' : Int)) ∧ a' ≤ l.length) (by
      rintro ⟨x, y, z⟩ ⟨hx, a, hy, hz, ha⟩
      dsimp only at hx hy hz
      subst hx; subst hy; subst hz
      unfold slices_stableCmpFunc_api_Point__merge_Of_1.b2
      dsimp only
      by_cases hc : a + 20 ≤ x.length
      · left
        refine ⟨(x, ((a + 20 : Nat) : Int), ((a + 20 + 20 : Nat) : Int)), ?_, ⟨rfl, _, rfl, rfl, hc⟩, by simp; omega⟩
        rw [show decide (((a + 20 : Nat) : Int) ≤ (x.length : Int)) = true by simp; omega, cond_true, ins_sorted hl ha hc hn, Option.bind_some, pur_eq, wrap64 (by omega) (by omega)]
        congr 4
      · right
        exact ⟨(x, (a : Int)), by rw [show decide (((a + 20 : Nat) : Int) ≤ (x.length : Int)) = false by simp; omega]; rfl, a, rfl, ha⟩) (l, 0, 20) ⟨rfl, 0, rfl, rfl, Nat.zero_le _⟩
    subst hr
    rw [e1, Option.bind_some]
    dsimp only
    rw [ins_sorted hl ha' (Nat.le_refl _) hn, Option.bind_some]
    obtain ⟨r, e2, hr⟩ := iter_total (step := fun s : (List api_Point) × Int => slices_stableCmpFunc_api_Point__merge_Of_1.b3 (l.length : Int) s.1 s.2) (fun s => s.1 = l ∧ ∃ bs : Nat, s.2 = (bs : Int) ∧ 1 ≤ bs ∧ bs ≤ 2000000) (fun s => l.length - s.2.toNat) (fun r => r = l) (by
      rintro ⟨x, y⟩ ⟨hx, bs, hy, h1, h2⟩
      dsimp only at hx hy
      subst hx; subst hy
      unfold slices_stableCmpFunc_api_Point__merge_Of_1.b3
      dsimp only
      by_cases hc : bs < x.length
      · left
        refine ⟨(x, ((bs * 2 : Nat) : Int)), ?_, ⟨rfl, _, rfl, by omega, by omega⟩, by simp; omega⟩
        rw [show decide ((bs : Int) < (x.length : Int)) = true by simp; omega, cond_true, pur_eq, wrap64 (by omega) (by omega)]
        obtain ⟨r, e3, a', hr, ha'⟩ := iter_total (step := fun s : (List api_Point) × Int × Int => slices_stableCmpFunc_api_Point__merge_Of_1.b5 (x.length : Int) (bs : Int) s.1 s.2.1 s.2.2) (fun s => s.1 = x ∧ ∃ a : Nat, s.2.1 = (a : Int) ∧ s.2.2 = ((a + 2 * bs : Nat) : Int) ∧ a ≤ x.length) (fun s => x.length - s.2.1.toNat) (fun r => ∃ a' : Nat, r = (x, (a' : Int)) ∧ a' ≤ x.length) (by
          rintro ⟨x', y, z⟩ ⟨hx, a, hy, hz, ha⟩
          dsimp only at hx hy hz
          subst hx; subst hy; subst hz
          unfold slices_stableCmpFunc_api_Point__merge_Of_1.b5
          dsimp only
          by_cases hc2 : a + 2 * bs ≤ x'.length
          · left
            refine ⟨(x', ((a + 2 * bs : Nat) : Int), ((a + 2 * bs + 2 * bs : Nat) : Int)), ?_, ⟨rfl, _, rfl, rfl, hc2⟩, by simp; omega⟩
            rw [show decide (((a + 2 * bs : Nat) : Int) ≤ (x'.length : Int)) = true by simp; omega, cond_true, pur_eq, wrap64 (by omega) (by omega), show (a : Int) + (bs : Int) = ((a + bs : Nat) : Int) by omega,
              sym_sorted hl hn 64 a (a + bs) (a + 2 * bs) (by omega) (by omega) hc2 (big _ (by omega)), Option.bind_some, pur_eq, show IntKind.i64.wrap (2 * (bs : Int)) = 2 * (bs : Int) from wrap64 (by omega) (by omega), pur_eq, wrap64 (by omega) (by omega)]
            congr 4
          · right
            exact ⟨(x', (a : Int)), by rw [show decide (((a + 2 * bs : Nat) : Int) ≤ (x'.length : Int)) = false by simp; omega]; rfl, a, rfl, ha⟩) (x, 0, (2 : Int) * (bs : Int)) ⟨rfl, 0, rfl, by simp, Nat.zero_le _⟩
        subst hr
        rw [e3, Option.bind_some]
        dsimp only
        rw [pur_eq, wrap64 (by omega) (by omega), show (a' : Int) + (bs : Int) = ((a' + bs : Nat) : Int) by omega]
        by_cases hd : a' + bs < x.length
        · rw [show decide (((a' + bs : Nat) : Int) < (x.length : Int)) = true by simp; omega, cond_true, sym_sorted hl hn 64 a' (a' + bs) x.length (by omega) hd (Nat.le_refl _) (big _ (by omega))]
          simp only [Option.bind_some]
          rw [pur_eq, wrap64 (by omega) (by omega)]
          congr 3
        · rw [show decide (((a' + bs : Nat) : Int) < (x.length : Int)) = false by simp; omega, cond_false]
          simp only [Option.bind_some]
          rw [pur_eq, wrap64 (by omega) (by omega)]
          congr 3
      · right
        exact ⟨x, by rw [show decide ((bs : Int) < (x.length : Int)) = false by simp; omega]; rfl, rfl⟩) (l, 20) ⟨rfl, 20, rfl, by omega, by omega⟩
    rw [e2, hr]
  unfold slices_SortStableFunc_api_Point_api_Point__merge_Of_1
  rw [e0]
  rfl

theorem clone_ok {α : Type} {by_ : Nat} {xs : List α} (h : xs.length * by_ ≤ lim) : clone_ by_ xs = some xs := by unfold clone_; rw [if_pos h]

theorem of_sorted {l : List api_Point} (hl : RP l) (hn : l.length < 1000000) : merge_Of l = some l := by
  unfold merge_Of slices_Clone_api_Point_api_Point
  have hlim : ∀ n : Nat, n ≤ 1000000 → n * 16 ≤ lim := fun n h => by unfold lim; omega
  rw [clone_ok (hlim _ (by omega)), Option.bind_some, sort_sorted hl hn, Option.bind_some]
  obtain ⟨r, e1, rfl⟩ := iter_inv (step := fun s : (List api_Point) × Int => merge_Of.b2 l s.1 s.2) (fun s i => (s, i)) l (fun s i => s = l.take i) (fun r => r = l) (by
    intro s i x hx hs
    subst hs
    left
    refine ⟨l.take (i + 1), ?_, rfl⟩
    have hi := lt_of_get hx
    unfold merge_Of.b2
    dsimp only
    rw [show decide ((i : Int) < (l.length : Int)) = true by simp; omega, cond_true, at_nat hx, Option.bind_some, pur_eq, pur_eq, wrap64 (by omega) (by omega)]
    have htake : l.take i ++ [x] = l.take (i + 1) := by
      rw [List.take_add_one, hx]; rfl
    have hcond : (bif ((i : Int) + 1 == (l.length : Int)) then some true else (pur ((i : Int) + 1) fun y81 => (at_ l y81).bind fun y83 => some (y83.T != x.T))) = some true := by
      by_cases hc : i + 1 = l.length
      · rw [show ((i : Int) + 1 == (l.length : Int)) = true by simp; omega, cond_true]
      · have hy := List.getElem?_eq_getElem (show i + 1 < l.length by omega)
        rw [show ((i : Int) + 1 == (l.length : Int)) = false by simp; omega, cond_false, pur_eq, show (i : Int) + 1 = ((i + 1 : Nat) : Int) by omega, at_nat hy, Option.bind_some]
        have := hl.get (Nat.lt_succ_self i) hx hy
        have hne : l[i + 1].T ≠ x.T := by omega
        simp [hne]
    rw [hcond]
    simp only [Option.bind_some, cond_true]
    rw [app_ok (hlim _ (by rw [List.length_take]; simp; omega)), htake]
    simp only [Option.bind_some, pur_eq]
    rfl) (by
    intro s hs
    subst hs
    refine ⟨l, ?_, rfl⟩
    unfold merge_Of.b2
    simp) [] (by simp)
  rw [e1]
  rfl

/-! ### Maps -/
section
variable {κ β : Type} [DecidableEq κ] {m : List (κ × β)} {k k' : κ} {y : β}
theorem mget_cons (x : κ × β) : mget k (x :: m) = if k = x.1 then some x.2 else mget k m := by
  unfold mget
  rw [List.find?_cons]
  by_cases h : k = x.1 <;> simp [h]
theorem mget_mput : mget k (mput k' y m) = if k = k' then some y else mget k m := by
  induction m with
  | nil => simp [mput, mget_cons]
  | cons x m ih =>
    unfold mput
    by_cases h : k' = x.1
    · rw [if_pos h, mget_cons, mget_cons]
      by_cases h2 : k = x.1 <;> simp [h2, h]
    · rw [if_neg h, mget_cons, mget_cons, ih]
      by_cases h2 : k = x.1
      · have : ¬ k = k' := fun e => h (by rw [← e, h2])
        simp [h2, this]
        intro e; exact absurd e.symm h
      · simp [h2]
theorem mget_mrem : mget k (mrem k' m) = if k = k' then none else mget k m := by
  induction m with
  | nil => simp [mrem, mget]
  | cons x m ih =>
    unfold mrem at ih ⊢
    rw [List.filter_cons]
    by_cases h : k' = x.1
    · simp only [h, decide_true, Bool.not_true, Bool.false_eq_true, if_false]
      rw [h] at ih
      rw [ih, mget_cons]
      by_cases h2 : k = x.1 <;> simp [h2]
    · simp only [h, decide_false, Bool.not_false, if_true]
      rw [mget_cons, mget_cons, ih]
      by_cases h2 : k = x.1
      · have : ¬ x.1 = k' := fun e => h e.symm
        simp [h2, this]
      · simp [h2]
theorem mem_keys : k ∈ m.map (·.1) ↔ (mget k m).isSome := by
  induction m with
  | nil => simp [mget]
  | cons x m ih =>
    rw [mget_cons, List.map_cons, List.mem_cons, ih]
    by_cases h : k = x.1 <;> simp [h]
theorem mput_keys (h : (m.map (·.1)).Nodup) : ((mput k y m).map (·.1)).Nodup := by
  induction m with
  | nil => simp [mput]
  | cons x m ih =>
    simp only [List.map_cons, List.nodup_cons] at h
    unfold mput
    by_cases e : k = x.1
    · rw [if_pos e]; simpa using h
    · rw [if_neg e, List.map_cons, List.nodup_cons]
      refine ⟨fun hm => ?_, ih h.2⟩
      rw [mem_keys, mget_mput] at hm
      split at hm
      · rename_i e2; exact e e2.symm
      · exact h.1 (mem_keys.2 hm)
theorem mrem_keys (h : (m.map (·.1)).Nodup) : ((mrem k m).map (·.1)).Nodup := h.sublist ((List.filter_sublist).map _)
end

/-- A row out of a head. -/
def row (h : head_Head) (id : Int) : List api_Point := (mget id h.series).getD []
end Go.Proofs.Ytconkjamlhfneaa
