/- Plain laws of the head: far, search, a sort that finds all in order. -/
import Derived.Test.YtconkjamlhfneaaW3
import Derived.Test.YtconkjamlhfneaaMgP
namespace Go.Proofs.Ytconkjamlhfneaa
open Go Go.Mg
set_option linter.unusedVariables false
set_option linter.unusedSimpArgs false

theorem iter_total {σ τ : Type} {step : σ → Option (σ ⊕ τ)} (I : σ → Prop) (μ : σ → Nat) (R : τ → Prop)
    (hs : ∀ s, I s → (∃ s', step s = some (.inl s') ∧ I s' ∧ μ s' < μ s) ∨ ∃ r, step s = some (.inr r) ∧ R r) : ∀ s, I s → ∃ r, iter step s = some r ∧ R r := by
  suffices H : ∀ n s, μ s = n → I s → ∃ r, iter step s = some r ∧ R r from fun s h => H _ s rfl h
  intro n
  induction n using Nat.strongRecOn with
  | _ n ih =>
    intro s hn hI
    rcases hs s hI with ⟨s', h1, h2, h3⟩ | ⟨r, h1, h2⟩
    · rw [iter_next h1]
      exact ih (μ s') (by omega) s' rfl h2
    · exact ⟨r, iter_end h1, h2⟩

/-- Rising by time. -/
abbrev RP (l : List api_Point) : Prop := l.Pairwise (fun a b => a.T < b.T)
theorem RP.get {l : List api_Point} (h : RP l) {i j : Nat} {x y : api_Point} (hij : i < j) (hx : l[i]? = some x) (hy : l[j]? = some y) : x.T < y.T := by
  obtain ⟨hi, rfl⟩ := List.getElem?_eq_some_iff.1 hx
  obtain ⟨hj, rfl⟩ := List.getElem?_eq_some_iff.1 hy
  exact List.pairwise_iff_getElem.1 h i j hi hj hij

/-- A 64-bit number. -/
def I64 (x : Int) : Prop := -9223372036854775808 ≤ x ∧ x ≤ 9223372036854775807
theorem u64_mod (x : Int) : IntKind.u64.wrap x = x % 18446744073709551616 := by
  simp [IntKind.wrap, IntKind.signed, IntKind.bits]

def farS (any : Bool) (last win t : Int) : Bool := any && (decide (t < last) && decide (win < last - t))
theorem far_any {any : Bool} {last win t : Int} (h1 : I64 last) (h2 : I64 t) (h3 : 0 ≤ win) (h4 : win ≤ 1099511627776) :
    ((bif any then (bif (decide (t < last)) then (pur (IntKind.u64.wrap last) fun y12 => (pur (IntKind.u64.wrap t) fun y14 => (pur (IntKind.u64.wrap (y12 - y14)) fun y16 => (pur (IntKind.u64.wrap win) fun y18 => some (decide (y18 < y16)))))) else some false) else some false).bind fun o3 => some o3) = some (farS any last win t) := by
  unfold farS
  cases any with
  | false => rfl
  | true =>
    simp only [cond_true, Bool.true_and]
    by_cases ht : t < last
    · simp only [ht, decide_true, cond_true, pur_eq, u64_mod, Option.bind_some, Bool.true_and, Option.some.injEq, decide_eq_decide]
      unfold I64 at h1 h2
      have e1 : win % 18446744073709551616 = win := Int.emod_eq_of_lt h3 (by omega)
      have e2 : (last % 18446744073709551616 - t % 18446744073709551616) % 18446744073709551616 = last - t := by
        have : (last % 18446744073709551616 - t % 18446744073709551616) % 18446744073709551616 = (last - t) % 18446744073709551616 := (Int.sub_emod last t _).symm
        rw [this, Int.emod_eq_of_lt (by omega) (by omega)]
      rw [e1, e2]
    · simp [ht]
theorem far_eq {h : head_Head} {t : Int} (h1 : I64 h.last) (h2 : I64 t) (h3 : 0 ≤ h.window) (h4 : h.window ≤ 1099511627776) : head_Head_far h t = some (farS h.any h.last h.window t) := by
  unfold head_Head_far
  exact far_any h1 h2 h3 h4
theorem rfar_eq {h : marigraphref11_Head} {t : Int} (h1 : I64 h.Last) (h2 : I64 t) (h3 : 0 ≤ h.Window) (h4 : h.Window ≤ 1099511627776) : marigraphref11_Head_Far h t = some (farS h.Any h.Last h.Window t) := by
  unfold marigraphref11_Head_Far
  exact far_any h1 h2 h3 h4

def cmpS (a b : Int) : Int := if a < b then -1 else if b < a then 1 else 0
theorem cmp_eq (a b : Int) : cmp_Compare_int a b = some (cmpS a b) := by
  unfold cmp_Compare_int cmp_isNaN_int cmpS
  simp only [bne_self_eq_false, Option.bind_some, cond_false]
  by_cases h1 : a < b
  · simp [h1]
  · by_cases h2 : b < a <;> simp [h1, h2]
theorem byTime_eq (p : api_Point) (t : Int) : head_byTime p t = some (cmpS p.T t) := by
  unfold head_byTime; rw [cmp_eq]; rfl
theorem of1_eq (p q : api_Point) : merge_Of_1 p q = some (cmpS p.T q.T) := by
  unfold merge_Of_1; rw [cmp_eq]; rfl
theorem cmpS_neg {a b : Int} : cmpS a b < 0 ↔ a < b := by
  unfold cmpS; split
  · simp [*]
  · split <;> simp <;> omega

/-- Half of a sum, as the code takes it. -/
theorem half_eq {a b : Nat} (h : a + b < 4611686018427387904) :
    (pur (IntKind.i64.wrap ((a : Int) + (b : Int))) fun x => pur (IntKind.u64.wrap x) fun y => pur (ishr .u64 y (1 : Int)) fun z => pur (IntKind.i64.wrap z) fun q => some q) = some (((a + b) / 2 : Nat) : Int) := by
  simp only [pur_eq]
  rw [show IntKind.i64.wrap ((a : Int) + (b : Int)) = ((a + b : Nat) : Int) from by rw [wrap64 (by omega) (by omega)]; simp, show IntKind.u64.wrap ((a + b : Nat) : Int) = ((a + b : Nat) : Int) from wrapu64 (by omega) (by omega)]
  have : ishr .u64 ((a + b : Nat) : Int) 1 = (((a + b) / 2 : Nat) : Int) := by
    unfold ishr
    have : (2 : Int) ^ min (1 : Int).toNat IntKind.u64.bits = 2 := by decide
    rw [this, Int.fdiv_eq_ediv_of_nonneg _ (by decide)]
    omega
  rw [this, wrap64 (by omega) (by omega)]
theorem half_bind {α : Type} {a b : Nat} (h : a + b < 4611686018427387904) (k : Int → Option α) :
    (pur (IntKind.i64.wrap ((a : Int) + (b : Int))) fun x => pur (IntKind.u64.wrap x) fun y => pur (ishr .u64 y (1 : Int)) fun z => pur (IntKind.i64.wrap z) k) = k (((a + b) / 2 : Nat) : Int) := by
  have := half_eq h
  simp only [pur_eq, Option.some.injEq] at this ⊢
  rw [this]

/-- The library's search finds the place. -/
theorem search_eq {l : List api_Point} {t : Int} (hl : RP l) (hn : l.length < 1000000) :
    ∃ k : Nat, k ≤ l.length ∧ slices_BinarySearchFunc_api_Point_api_Point_int__head_byTime l t = some ((k : Int), decide (∃ p ∈ l, p.T = t)) ∧ (∀ j p, j < k → l[j]? = some p → p.T < t) ∧ ∀ j p, k ≤ j → l[j]? = some p → t ≤ p.T := by
  have hm : (l.map (·.T)).Pairwise (· < ·) := List.pairwise_map.2 hl
  obtain ⟨k, h1, h2, h3, h4⟩ := iter_search (step := fun s : Int × Int => slices_BinarySearchFunc_api_Point_api_Point_int__head_byTime.b2 l t s.1 s.2) (l.map (·.T)) t hm
    (fun lo hi hlt hhi x hx => by
      rw [List.length_map] at hhi
      rw [List.getElem?_map, Option.map_eq_some_iff] at hx
      obtain ⟨p, hp, rfl⟩ := hx
      have := lt_of_get hp
      unfold slices_BinarySearchFunc_api_Point_api_Point_int__head_byTime.b2
      dsimp only
      rw [show decide ((lo : Int) < (hi : Int)) = true by simp; omega, cond_true, half_bind (by omega)]
      rw [at_nat hp, Option.bind_some, byTime_eq, Option.bind_some]
      by_cases hc : p.T < t
      · rw [if_pos hc, decide_eq_true (cmpS_neg.2 hc), cond_true, pur_eq, wrap64 (by omega) (by omega)]
        simp
      · rw [if_neg hc, decide_eq_false (fun h => hc (cmpS_neg.1 h)), cond_false])
    (fun lo => by
      unfold slices_BinarySearchFunc_api_Point_api_Point_int__head_byTime.b2
      simp)
  rw [List.length_map] at h1 h2
  refine ⟨k, h1, ?_, fun j p hj hp => h3 j p.T hj (by rw [List.getElem?_map, hp]; rfl), fun j p hj hp => h4 j p.T hj (by rw [List.getElem?_map, hp]; rfl)⟩
  unfold slices_BinarySearchFunc_api_Point_api_Point_int__head_byTime
  rw [h2, Option.bind_some]
  by_cases hk : k < l.length
  · have hp := List.getElem?_eq_getElem hk
    rw [show decide ((k : Int) < (l.length : Int)) = true by simp; omega, cond_true, at_nat hp, Option.bind_some, byTime_eq, Option.bind_some, Option.bind_some]
    have h4' := h4 k l[k].T (Nat.le_refl _) (by rw [List.getElem?_map, hp]; rfl)
    congr 2
    by_cases he : l[k].T = t
    · rw [decide_eq_true ⟨l[k], List.getElem_mem hk, he⟩]
      simp [cmpS, he]
    · have hne : ¬ ∃ p ∈ l, p.T = t := by
        rintro ⟨p, hp2, hpt⟩
        obtain ⟨j, hj, rfl⟩ := List.getElem_of_mem hp2
        rcases Nat.lt_trichotomy j k with h | h | h
        · have := h3 j l[j].T h (by rw [List.getElem?_map, List.getElem?_eq_getElem hj]; rfl); omega
        · subst h; exact he hpt
        · have := hl.get h hp (List.getElem?_eq_getElem hj)
          omega
      rw [decide_eq_false hne]
      unfold cmpS
      have : t < l[k].T := by omega
      simp [this, show ¬ l[k].T < t by omega]
  · rw [show decide ((k : Int) < (l.length : Int)) = false by simp; omega, cond_false, Option.bind_some]
    have hne : ¬ ∃ p ∈ l, p.T = t := by
      rintro ⟨p, hp2, hpt⟩
      obtain ⟨j, hj, rfl⟩ := List.getElem_of_mem hp2
      have := h3 j l[j].T (by omega) (by rw [List.getElem?_map, List.getElem?_eq_getElem hj]; rfl)
      omega
    rw [decide_eq_false hne]
end Go.Proofs.Ytconkjamlhfneaa
