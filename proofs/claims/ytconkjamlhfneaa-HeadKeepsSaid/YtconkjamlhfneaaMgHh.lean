/- Plain laws of the head: the document's head, and that both are the same. -/
import Derived.Test.YtconkjamlhfneaaMgHg
namespace Go.Proofs.Ytconkjamlhfneaa
open Go Go.Mg
set_option linter.unusedVariables false
set_option linter.unusedSimpArgs false

/-! ### Sums over ids -/
def sumR (n : Nat) (f : Nat → Nat) : Nat := ((List.range n).map f).sum
theorem sumR_succ (n : Nat) (f : Nat → Nat) : sumR (n + 1) f = sumR n f + f n := by simp [sumR, List.range_succ]
theorem sumR_add (n : Nat) (f g : Nat → Nat) : sumR n (fun i => f i + g i) = sumR n f + sumR n g := by
  induction n with
  | zero => rfl
  | succ n ih => rw [sumR_succ, sumR_succ, sumR_succ, ih]; omega
theorem sumR_congr {n : Nat} {f g : Nat → Nat} (h : ∀ i, i < n → f i = g i) : sumR n f = sumR n g := by
  induction n with
  | zero => rfl
  | succ n ih => rw [sumR_succ, sumR_succ, ih fun i hi => h i (by omega), h n (by omega)]
theorem sumR_zero (n : Nat) : sumR n (fun _ => 0) = 0 := by
  induction n with
  | zero => rfl
  | succ n ih => rw [sumR_succ, ih]
theorem sumR_one (n c : Nat) (a : Int) : sumR n (fun i => if (i : Int) = a then c else 0) = if 0 ≤ a ∧ a < n then c else 0 := by
  induction n with
  | zero => rw [if_neg (by omega)]; rfl
  | succ n ih =>
    rw [sumR_succ, ih]
    by_cases h : (n : Int) = a
    · rw [if_pos h, if_neg (by omega), if_pos (by omega)]; omega
    · rw [if_neg h]
      by_cases h2 : 0 ≤ a ∧ a < n
      · rw [if_pos h2, if_pos (by omega)]; omega
      · rw [if_neg h2, if_neg (by omega)]

theorem tot_sum {m : List (Int × List api_Point)} {N : Nat} (hn : (m.map (·.1)).Nodup) (hr : ∀ k ∈ m.map (·.1), 0 ≤ k ∧ k < (N : Int)) : tot m = sumR N fun i => ((mget (i : Int) m).getD []).length := by
  induction m with
  | nil =>
    rw [sumR_congr (g := fun _ => 0) fun i _ => by simp [mget], sumR_zero]
    rfl
  | cons x m ih =>
    simp only [List.map_cons, List.nodup_cons] at hn
    have hx := hr x.1 (by simp)
    rw [tot_cons, ih hn.2 fun k hk => hr k (by rw [List.map_cons]; exact List.mem_cons_of_mem _ hk)]
    have h1 := sumR_one N x.2.length x.1
    rw [if_pos (by omega)] at h1
    rw [← h1, ← sumR_add]
    refine sumR_congr fun i _ => ?_
    rw [mget_cons]
    by_cases h : (i : Int) = x.1
    · have h2 : mget x.1 m = none := by
        cases hq : mget x.1 m with
        | none => rfl
        | some y => exact absurd (mem_keys.2 (by rw [hq]; rfl)) hn.1
      rw [if_pos h, if_pos h, h, h2]
      simp
    · rw [if_neg h, if_neg h]; omega

def pts (L : List marigraphref11_Item) (id : Int) : List api_Point := (L.filter fun x => x.Id == id).map (·.P)
theorem pts_cons (x : marigraphref11_Item) (L : List marigraphref11_Item) (id : Int) : pts (x :: L) id = if x.Id = id then x.P :: pts L id else pts L id := by
  unfold pts
  rw [List.filter_cons]
  by_cases h : x.Id = id <;> simp [h]
theorem pts_append (A B : List marigraphref11_Item) (id : Int) : pts (A ++ B) id = pts A id ++ pts B id := by simp [pts]
theorem mem_pts {L : List marigraphref11_Item} {id : Int} {p : api_Point} : p ∈ pts L id ↔ ∃ x ∈ L, x.Id = id ∧ x.P = p := by
  unfold pts
  rw [List.mem_map]
  constructor
  · rintro ⟨x, hx, rfl⟩
    obtain ⟨h1, h2⟩ := List.mem_filter.1 hx
    exact ⟨x, h1, by simpa using h2, rfl⟩
  · rintro ⟨x, hx, h1, rfl⟩
    exact ⟨x, List.mem_filter.2 ⟨hx, by simpa using h1⟩, rfl⟩
theorem pts_sum {L : List marigraphref11_Item} {N : Nat} (hr : ∀ x ∈ L, 0 ≤ x.Id ∧ x.Id < (N : Int)) : L.length = sumR N fun i => (pts L (i : Int)).length := by
  induction L with
  | nil => exact ((sumR_congr (f := fun i => (pts [] (i : Int)).length) (g := fun _ => 0) fun i _ => rfl).trans (sumR_zero N)).symm
  | cons x L ih =>
    have hx := hr x (by simp)
    have h1 := sumR_one N 1 x.Id
    rw [if_pos (by omega)] at h1
    rw [List.length_cons, ih fun y hy => hr y (List.mem_cons_of_mem _ hy), Nat.add_comm, ← h1, ← sumR_add]
    refine sumR_congr fun i _ => ?_
    rw [pts_cons]
    by_cases h : (i : Int) = x.Id
    · rw [if_pos h, if_pos h.symm, List.length_cons]; omega
    · rw [if_neg h, if_neg (fun e => h e.symm)]; omega

/-- Both heads have the same. -/
structure RR (h : head_Head) (w : marigraphref11_Head) : Prop where
  win : w.Window = h.window
  last : w.Last = h.last
  any : w.Any = h.any
  rows : ∀ id, (row h id).Perm (pts w.L id)

theorem RR.item {h : head_Head} {w : marigraphref11_Head} (H : HI h) (R : RR h w) {x : marigraphref11_Item} (hx : x ∈ w.L) : x.P ∈ row h x.Id := (R.rows x.Id).mem_iff.2 (mem_pts.2 ⟨x, hx, rfl, rfl⟩)
theorem RR.id {h : head_Head} {w : marigraphref11_Head} (H : HI h) (R : RR h w) {x : marigraphref11_Item} (hx : x ∈ w.L) : 0 ≤ x.Id ∧ x.Id < 4096 := H.ids x.Id fun e => by have := R.item H hx; rw [e] at this; cases this
theorem RR.many {h : head_Head} {w : marigraphref11_Head} (H : HI h) (R : RR h w) : h.many = (w.L.length : Int) := by
  obtain ⟨N, hN⟩ : ∃ N : Nat, N = 4096 := ⟨_, rfl⟩
  have h1 : tot h.series = sumR N fun i => (row h (i : Int)).length := tot_sum H.keys fun k hk => by
    have := H.ids k fun e => by
      rw [mem_keys] at hk
      rw [H.none.2 e] at hk
      cases hk
    omega
  have h2 : w.L.length = sumR N fun i => (pts w.L (i : Int)).length := pts_sum fun x hx => by
    have := R.id H hx
    omega
  have h3 : (sumR N fun i => (row h (i : Int)).length) = sumR N fun i => (pts w.L (i : Int)).length := sumR_congr fun i _ => (R.rows i).length_eq
  rw [H.many, h1, h3, ← h2]
theorem RR.len {h : head_Head} {w : marigraphref11_Head} (H : HI h) (R : RR h w) : w.L.length ≤ 2048 := by
  have h1 := R.many H
  have h2 := H.many
  have h3 := H.le
  omega
theorem RR.far {h : head_Head} {w : marigraphref11_Head} (H : HI h) (R : RR h w) {t : Int} (ht : I64 t) : marigraphref11_Head_Far w t = some (farS h.any h.last h.window t) := by
  rw [rfar_eq (by rw [R.last]; exact H.last) ht (by rw [R.win]; exact H.win) (by rw [R.win]; exact H.win2), R.any, R.last, R.win]
theorem RR.pt {h : head_Head} {w : marigraphref11_Head} (H : HI h) (R : RR h w) {x : marigraphref11_Item} (hx : x ∈ w.L) : I64 x.P.T := H.pts x.Id x.P (R.item H hx)

/-! ### Add -/
theorem radd_eq {h : head_Head} {w : marigraphref11_Head} (H : HI h) (R : RR h w) (id : Int) {p : api_Point} (hp : I64 p.T) : ∃ h' w', head_Head_Add (some h) id p = some (addE h id p, some h') ∧ marigraphref11_Head_Add w id p = some (addE h id p, w') ∧ HI h' ∧ RR h' w' := by
  obtain ⟨h', e1, H', n1, q1⟩ := add_eq H id hp
  have hlen := R.len H
  have hmany := R.many H
  suffices hs : ∃ w', marigraphref11_Head_Add w id p = some (addE h id p, w') ∧ (addE h id p ≠ 0 → w' = w) ∧ (addE h id p = 0 → w'.Window = w.Window ∧ w'.L = w.L ++ [⟨id, p⟩] ∧ w'.Any = true ∧ w'.Last = if h.any = true ∧ ¬ h.last < p.T then h.last else p.T) by
    obtain ⟨w', e2, n2, q2⟩ := hs
    refine ⟨h', w', e1, e2, H', ?_⟩
    by_cases h0 : addE h id p = 0
    · obtain ⟨a1, a2, a3, a4, a5, a6⟩ := q1 h0
      obtain ⟨b1, b2, b3, b4⟩ := q2 h0
      refine ⟨by rw [b1, a1, R.win], by rw [b4, a4], by rw [b3, a3], fun i => ?_⟩
      rw [b2, pts_append, pts_cons]
      by_cases hi : i = id
      · subst hi
        rw [if_pos rfl]
        exact a5.trans (((R.rows i).cons p).trans (List.perm_append_singleton _ _).symm)
      · rw [if_neg (fun e => hi e.symm), a6 i hi]
        simpa [pts] using R.rows i
    · rw [n1 h0, n2 h0]
      exact R
  unfold marigraphref11_Head_Add addE
  by_cases h1 : id < 0 ∨ 4096 ≤ id
  · refine ⟨w, ?_, fun _ => rfl, fun e => ?_⟩
    · rw [if_pos h1]
      have : (bif decide (id < 0) then some true else some (decide (4096 ≤ id))) = some true := by
        rcases h1 with h1 | h1
        · simp [h1]
        · have : ¬ id < 0 := by omega
          simp [this, h1]
      rw [this]
      rfl
    · rw [if_pos h1] at e; cases e
  rw [if_neg h1]
  have hc1 : (bif decide (id < 0) then some true else some (decide (4096 ≤ id))) = some false := by
    have ha : ¬ id < 0 := by omega
    have hb : ¬ 4096 ≤ id := by omega
    simp [ha, hb]
  rw [hc1]
  simp only [Option.bind_some, cond_false, Sum.elim_inl, R.far H hp]
  by_cases h2 : farS h.any h.last h.window p.T = true
  · refine ⟨w, by rw [h2, if_pos rfl]; rfl, fun _ => rfl, fun e => ?_⟩
    rw [if_pos h2] at e; cases e
  rw [if_neg h2]
  have h2' : farS h.any h.last h.window p.T = false := by simpa using h2
  rw [h2']
  simp only [cond_false]
  -- is it there?
  have hex : (∃ q ∈ row h id, q.T = p.T) ↔ ∃ x ∈ w.L, x.Id = id ∧ x.P.T = p.T := by
    constructor
    · rintro ⟨q, hq, hT⟩
      obtain ⟨x, hx, hi, rfl⟩ := mem_pts.1 ((R.rows id).mem_iff.1 hq)
      exact ⟨x, hx, hi, hT⟩
    · rintro ⟨x, hx, hi, hT⟩
      exact ⟨x.P, (R.rows id).mem_iff.2 (mem_pts.2 ⟨x, hx, hi, rfl⟩), hT⟩
  obtain ⟨r, e3, hr⟩ := iter_inv (step := fun s : Int => marigraphref11_Head_Add.b4 w id p s) (fun (_ : Unit) i => i) w.L (fun _ i => ∀ j x, j < i → w.L[j]? = some x → ¬ (x.Id = id ∧ x.P.T = p.T)) (fun r => (r = .inl () ∧ ¬ ∃ x ∈ w.L, x.Id = id ∧ x.P.T = p.T) ∨ (r = .inr (111, w) ∧ ∃ x ∈ w.L, x.Id = id ∧ x.P.T = p.T)) (by
    intro _ i x hx hI
    have hi := lt_of_get hx
    unfold marigraphref11_Head_Add.b4
    rw [show decide ((i : Int) < (w.L.length : Int)) = true by simp; omega, cond_true, at_nat hx]
    simp only [Option.bind_some]
    by_cases hc : x.Id = id ∧ x.P.T = p.T
    · right
      exact ⟨.inr (111, w), by simp [hc.1, hc.2], .inr ⟨rfl, x, List.mem_of_getElem? hx, hc⟩⟩
    · left
      refine ⟨(), ?_, fun j y hj hy => ?_⟩
      · have : (bif x.Id == id then some (x.P.T == p.T) else some false) = some false := by
          by_cases ha : x.Id = id
          · have hb : ¬ x.P.T = p.T := fun hb => hc ⟨ha, hb⟩
            simp [ha, hb]
          · have ha : (x.Id == id) = false := by simpa using ha
            rw [ha]; rfl
        rw [this]
        simp only [Option.bind_some, cond_false, Sum.elim_inl, pur_eq]
        rw [wrap64 (by omega) (by omega)]
        rfl
      · by_cases hji : j = i
        · subst hji; rw [hx] at hy; cases hy; exact hc
        · exact hI j y (by omega) hy) (fun _ hI => ⟨.inl (), by unfold marigraphref11_Head_Add.b4; simp, .inl ⟨rfl, by
      rintro ⟨x, hx, hc⟩
      obtain ⟨j, hj⟩ := List.getElem?_of_mem hx
      exact hI j x (lt_of_get hj) hj hc⟩⟩) () (fun j x hj => absurd hj (Nat.not_lt_zero _))
  rw [e3]
  rcases hr.symm with ⟨rfl, he⟩ | ⟨rfl, hne⟩
  · rw [if_pos (hex.2 he)]
    exact ⟨w, rfl, fun _ => rfl, fun e => by cases e⟩
  have h5 : ¬ ∃ q ∈ row h id, q.T = p.T := fun h => hne (hex.1 h)
  rw [if_neg h5]
  simp only [Option.bind_some, Sum.elim_inl]
  by_cases h6 : 2048 ≤ h.many
  · rw [if_pos h6]
    refine ⟨w, ?_, fun _ => rfl, fun e => by cases e⟩
    rw [show decide ((2048 : Int) ≤ (w.L.length : Int)) = true by rw [← hmany]; simpa using h6]
    rfl
  · rw [if_neg h6, show decide ((2048 : Int) ≤ (w.L.length : Int)) = false by rw [← hmany]; simpa using h6, cond_false]
    rw [app_ok (by simp; unfold lim; omega), List.nil_append, Option.bind_some, app_ok (by simp; unfold lim; omega)]
    simp only [Option.bind_some, pur_eq]
    refine ⟨{ Window := w.Window, L := w.L ++ [⟨id, p⟩], Last := if h.any = true ∧ ¬ h.last < p.T then h.last else p.T, Any := true }, ?_, fun e => absurd rfl e, fun _ => ⟨rfl, rfl, rfl, rfl⟩⟩
    rw [R.any, R.last]
    cases ha : h.any with
    | false => simp
    | true =>
      by_cases hlt : h.last < p.T
      · simp [hlt]
      · simp [hlt]
end Go.Proofs.Ytconkjamlhfneaa
