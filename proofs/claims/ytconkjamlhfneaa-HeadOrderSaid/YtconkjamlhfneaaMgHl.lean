/- Plain laws of the head: points within the window may come in any order. -/
import Derived.Test.YtconkjamlhfneaaMgHh
namespace Go.Proofs.Ytconkjamlhfneaa
open Go Go.Mg
set_option linter.unusedVariables false
set_option linter.unusedSimpArgs false

/-- A list rises. -/
theorem right4 {l : List api_Point} (hl : RP l) (hn : l.length < 1000000000) : marigraphref04_Right l = some true := by
  unfold marigraphref04_Right
  suffices H : ∃ r, iter (fun s : Int => marigraphref04_Right.b2 l s) (1 : Int) = some r ∧ r = .inl () by
    obtain ⟨r, e, rfl⟩ := H
    rw [e]; rfl
  cases l with
  | nil => exact ⟨.inl (), iter_end (by unfold marigraphref04_Right.b2; simp), rfl⟩
  | cons a l =>
    suffices H : ∀ n i : Nat, i + n = (a :: l).length → 1 ≤ i → iter (fun s : Int => marigraphref04_Right.b2 (a :: l) s) (i : Int) = some (.inl ()) from
      ⟨_, H l.length 1 (by simp; omega) (by omega), rfl⟩
    intro n
    induction n with
    | zero =>
      intro i hi h1
      refine iter_end ?_
      unfold marigraphref04_Right.b2
      rw [show decide ((i : Int) < ((a :: l).length : Int)) = false from decide_eq_false (by omega)]
      rfl
    | succ n ih =>
      intro i hi h1
      have hi' : i < (a :: l).length := by omega
      obtain ⟨x, hx⟩ : ∃ x, (a :: l)[i]? = some x := ⟨_, List.getElem?_eq_getElem hi'⟩
      obtain ⟨y, hy⟩ : ∃ y, (a :: l)[i - 1]? = some y := ⟨_, List.getElem?_eq_getElem (by omega)⟩
      have hlt := hl.get (i := i - 1) (j := i) (by omega) hy hx
      refine (iter_next (s' := ((i + 1 : Nat) : Int)) ?_).trans (ih (i + 1) (by omega) (by omega))
      unfold marigraphref04_Right.b2
      rw [show decide ((i : Int) < ((a :: l).length : Int)) = true from decide_eq_true (by omega), cond_true, at_nat hx]
      simp only [Option.bind_some, pur_eq]
      rw [wrap64 (by omega) (by omega), show ((i : Int) - 1) = ((i - 1 : Nat) : Int) by omega, at_nat hy]
      simp only [Option.bind_some]
      rw [show decide (x.T ≤ y.T) = false from decide_eq_false (by omega), cond_false, wrap64 (by omega) (by omega)]
      rfl

/-- Items that may come: few, of the series 0 to 4, of times 0 to 999, each place once. -/
structure Few (xs : List marigraphref11_Item) : Prop where
  len : xs.length ≤ 100
  rng : ∀ x ∈ xs, 0 ≤ x.Id ∧ x.Id < 5 ∧ 0 ≤ x.P.T ∧ x.P.T < 1000
  apart : xs.Pairwise fun a b => ¬ (a.Id = b.Id ∧ a.P.T = b.P.T)

theorem Few.perm {xs ys : List marigraphref11_Item} (h : Few xs) (p : xs.Perm ys) : Few ys :=
  ⟨by rw [← p.length_eq]; exact h.len, fun x hx => h.rng x (p.mem_iff.2 hx), h.apart.perm p fun {a b} hab hba => hab ⟨hba.1.symm, hba.2.symm⟩⟩

theorem fill_ok {xs : List marigraphref11_Item} (F : Few xs) : ∃ h, iter (fun s : Int × (Option head_Head) => marigraphlaw11_HeadOrder.b10 xs s.1 s.2) ((0 : Int), some (new0 1000)) = some (.inl (some h)) ∧ HI h ∧ (∀ id, (row h id).Perm (pts xs id)) ∧ h.many = (xs.length : Int) := by
  have hl := F.len
  obtain ⟨r, e, h, rfl, H⟩ := iter_inv (step := fun s : Int × (Option head_Head) => marigraphlaw11_HeadOrder.b10 xs s.1 s.2) (fun (s : head_Head) i => (i, some s)) xs
    (fun h i => HI h ∧ h.window = 1000 ∧ (h.any = true → 0 ≤ h.last ∧ h.last < 1000) ∧ (∀ id, (row h id).Perm (pts (xs.take i) id)) ∧ h.many = (i : Int))
    (fun r => ∃ h, r = .inl (some h) ∧ HI h ∧ (∀ id, (row h id).Perm (pts xs id)) ∧ h.many = (xs.length : Int)) (by
    rintro h i x hx ⟨H, hw, ha, hr, hm⟩
    left
    have hi := lt_of_get hx
    obtain ⟨r1, r2, r3, r4⟩ := F.rng x (List.mem_of_getElem? hx)
    have hp : I64 x.P.T := ⟨by omega, by omega⟩
    have hE : addE h x.Id x.P = 0 := by
      unfold addE
      rw [if_neg (by omega)]
      rw [if_neg (by
        unfold farS
        cases hany : h.any with
        | false => simp
        | true =>
          obtain ⟨b1, b2⟩ := ha hany
          simp only [Bool.true_and, Bool.and_eq_true, decide_eq_true_eq, not_and, hw]
          omega)]
      rw [if_neg (by
        rintro ⟨q, hq, hqt⟩
        obtain ⟨y, hy, hy1, hy2⟩ := mem_pts.1 ((hr x.Id).mem_iff.1 hq)
        obtain ⟨j, hj⟩ := List.getElem?_of_mem hy
        rw [List.getElem?_take] at hj
        split at hj
        case isFalse => cases hj
        rename_i hji
        obtain ⟨hj1, hj2⟩ := List.getElem?_eq_some_iff.1 hj
        obtain ⟨hx1, hx2⟩ := List.getElem?_eq_some_iff.1 hx
        have := List.pairwise_iff_getElem.1 F.apart j i hj1 hx1 hji
        rw [hj2, hx2] at this
        exact this ⟨hy1, by rw [hy2, hqt]⟩)]
      rw [if_neg (by omega)]
    obtain ⟨h', e, H', -, h0⟩ := add_eq H x.Id hp
    obtain ⟨g1, g2, g3, g4, g5, g6⟩ := h0 hE
    rw [hE] at e
    refine ⟨h', ?_, H', g1.trans hw, fun _ => ?_, fun id => ?_, by rw [g2, hm]; omega⟩
    · unfold marigraphlaw11_HeadOrder.b10
      dsimp only
      rw [show decide ((i : Int) < (xs.length : Int)) = true by simp; omega, cond_true, at_nat hx]
      simp only [Option.bind_some, pur_eq, e]
      rw [wrap64 (by omega) (by omega)]
      rfl
    · rw [g4]
      split
      · rename_i hc; exact ha hc.1
      · exact ⟨r3, r4⟩
    · have htk : xs.take (i + 1) = xs.take i ++ [x] := by rw [List.take_add_one, hx]; rfl
      rw [htk, pts_append]
      by_cases hid : x.Id = id
      · subst hid
        refine g5.trans ?_
        have : pts [x] x.Id = [x.P] := by simp [pts]
        rw [this]
        exact ((hr x.Id).cons x.P).trans (List.perm_append_singleton _ _).symm
      · have : pts [x] id = [] := by simp [pts, hid]
        rw [this, List.append_nil, g6 id fun e => hid e.symm]
        exact hr id) (by
    rintro h ⟨H, -, -, hr, hm⟩
    rw [List.take_length] at hr
    refine ⟨.inl (some h), ?_, h, rfl, H, hr, hm⟩
    unfold marigraphlaw11_HeadOrder.b10
    simp) (new0 1000) ⟨hi_new (by omega) (by omega), rfl, by simp [new0], fun id => by rw [row_new]; simp [pts], rfl⟩
  exact ⟨h, e, H⟩

theorem order_ok {l : List marigraphlaw11_Act} {a : Int} (hl : l.length ≤ lim) (hk : ∀ x ∈ l, 0 ≤ x.Kind ∧ x.Kind ≤ 255) (ha : 0 ≤ a ∧ a ≤ 255) : marigraphlaw11_HeadOrder l a = some true := by
  unfold marigraphlaw11_HeadOrder
  rw [shown_eq, new_eq, if_neg (by omega)]
  simp only [Option.bind_some, Option.isNone_some, cond_false, Sum.elim_inl]
  have hl' : l.length ≤ 140737488355328 := hl
  -- the items
  obtain ⟨r, e1, xs, had, rfl, F⟩ := iter_inv (step := fun s : (List marigraphref11_Item) × Int × (List (arr42 × Bool)) => marigraphlaw11_HeadOrder.b4 l s.1 s.2.1 s.2.2)
    (fun (s : List marigraphref11_Item × List (arr42 × Bool)) i => (s.1, i, s.2)) l
    (fun s i => Few s.1 ∧ s.1.length ≤ i ∧ ∀ y ∈ s.1, mget (arr42.mk y.Id y.P.T) s.2 = some true) (fun r => ∃ xs had, r = (xs, had) ∧ Few xs) (by
    rintro ⟨xs, had⟩ i y hy ⟨F, hxi, hh⟩
    dsimp only at F hxi hh
    left
    have hi := lt_of_get hy
    obtain ⟨k1, k2⟩ := hk y (List.mem_of_getElem? hy)
    have q1 : Int.tmod y.Kind 5 = y.Kind % 5 := Int.tmod_eq_emod_of_nonneg k1
    have q2 : -999 ≤ Int.tmod y.P.T 1000 ∧ Int.tmod y.P.T 1000 ≤ 999 := by
      have h1 := Int.tmod_lt_of_pos y.P.T (show (0 : Int) < 1000 by omega)
      have h2 : -1000 < Int.tmod y.P.T 1000 := by
        have := Int.lt_tmod_of_pos y.P.T (show (0 : Int) < 1000 by omega)
        omega
      omega
    obtain ⟨T, hT⟩ : ∃ T, T = Int.tmod (Int.tmod y.P.T 1000 + 1000) 1000 := ⟨_, rfl⟩
    have q3 : 0 ≤ T ∧ T < 1000 := by
      rw [hT, Int.tmod_eq_emod_of_nonneg (by omega)]
      omega
    obtain ⟨D, hD⟩ : ∃ D, D = y.Kind % 5 := ⟨_, rfl⟩
    have q4 : 0 ≤ D ∧ D < 5 := by omega
    unfold marigraphlaw11_HeadOrder.b4
    dsimp only
    rw [show decide ((i : Int) < (l.length : Int)) = true by simp; omega, cond_true, at_nat hy]
    simp only [Option.bind_some, pur_eq]
    rw [q1, ← hD, wrap64 (x := D) (by omega) (by omega), wrap64 (x := Int.tmod y.P.T 1000 + 1000) (by omega) (by omega), ← hT, wrap64 (x := (i : Int) + 1) (by omega) (by omega)]
    by_cases h1 : (i : Int) < 100
    · rw [decide_eq_true h1, cond_true, Option.bind_some]
      cases hc : mget (arr42.mk D T) had with
      | some b =>
        cases b with
        | true => exact ⟨(xs, had), by simp [hc], F, by dsimp only; omega, hh⟩
        | false =>
          refine ⟨(xs ++ [marigraphref11_Item.mk D (api_Point.mk T y.P.V)], mput (arr42.mk D T) true had), ?_, ⟨?_, ?_, ?_⟩, ?_, ?_⟩
          · simp only [hc, Option.getD_some, Bool.not_false, cond_true]
            rw [app_ok (by rw [show lim = 140737488355328 from rfl]; simp; omega)]
            rfl
          · simp; omega
          · intro x hx
            rw [List.mem_append, List.mem_singleton] at hx
            rcases hx with hx | rfl
            · exact F.rng x hx
            · exact ⟨q4.1, q4.2, q3.1, q3.2⟩
          · dsimp only
            rw [List.pairwise_append]
            refine ⟨F.apart, by simp, fun x hx z hz => ?_⟩
            rw [List.mem_singleton] at hz
            subst hz
            rintro ⟨e1, e2⟩
            dsimp only at e1 e2
            have := hh x hx
            rw [e1, e2, hc] at this
            cases this
          · simp; omega
          · intro z hz
            rw [List.mem_append, List.mem_singleton] at hz
            rw [mget_mput]
            split
            · rfl
            · rename_i hne
              rcases hz with hz | rfl
              · exact hh z hz
              · exact absurd rfl hne
      | none =>
        refine ⟨(xs ++ [marigraphref11_Item.mk D (api_Point.mk T y.P.V)], mput (arr42.mk D T) true had), ?_, ⟨?_, ?_, ?_⟩, ?_, ?_⟩
        · simp only [hc, Option.getD_none, Bool.not_false, cond_true]
          rw [app_ok (by rw [show lim = 140737488355328 from rfl]; simp; omega)]
          rfl
        · simp; omega
        · intro x hx
          rw [List.mem_append, List.mem_singleton] at hx
          rcases hx with hx | rfl
          · exact F.rng x hx
          · exact ⟨q4.1, q4.2, q3.1, q3.2⟩
        · dsimp only
          rw [List.pairwise_append]
          refine ⟨F.apart, by simp, fun x hx z hz => ?_⟩
          rw [List.mem_singleton] at hz
          subst hz
          rintro ⟨e1, e2⟩
          dsimp only at e1 e2
          have := hh x hx
          rw [e1, e2, hc] at this
          cases this
        · simp; omega
        · intro z hz
          rw [List.mem_append, List.mem_singleton] at hz
          rw [mget_mput]
          split
          · rfl
          · rename_i hne
            rcases hz with hz | rfl
            · exact hh z hz
            · exact absurd rfl hne
    · rw [decide_eq_false h1, cond_false, Option.bind_some, cond_false]
      exact ⟨(xs, had), rfl, F, by dsimp only; omega, hh⟩) (by
    rintro ⟨xs, had⟩ ⟨F, -, -⟩
    refine ⟨(xs, had), ?_, xs, had, rfl, F⟩
    unfold marigraphlaw11_HeadOrder.b4
    simp) (([] : List marigraphref11_Item), ([] : List (arr42 × Bool))) ⟨⟨by simp, by simp, by simp⟩, by simp, by simp⟩
  have e1' : iter (fun s : (List marigraphref11_Item) × Int × (List (arr42 × Bool)) => marigraphlaw11_HeadOrder.b4 l s.1 s.2.1 s.2.2) (([] : List marigraphref11_Item), (0 : Int), ([] : List (arr42 × Bool))) = some (xs, had) := e1
  rw [e1']
  simp only [Option.bind_some, pur_eq]
  have hx := F.len
  rw [wrap64 (x := a) (by omega) (by omega), wrap64 (x := (xs.length : Int) + 1) (by omega) (by omega)]
  obtain ⟨n, hn, hnx⟩ : ∃ n : Nat, Int.tmod a ((xs.length : Int) + 1) = (n : Int) ∧ n ≤ xs.length := by
    rw [Int.tmod_eq_emod_of_nonneg ha.1]
    have h1 := Int.emod_nonneg a (show ((xs.length : Int) + 1) ≠ 0 by omega)
    have h2 := Int.emod_lt_of_pos a (show (0 : Int) < (xs.length : Int) + 1 by omega)
    exact ⟨(a % ((xs.length : Int) + 1)).toNat, by omega, by omega⟩
  rw [hn, show nz_ ((xs.length : Int) + 1) (n : Int) = some (n : Int) by unfold nz_; rw [if_neg (by omega)]]
  simp only [Option.bind_some]
  obtain ⟨h1, e2, H1, r1, m1⟩ := fill_ok F
  have e2' : iter (fun s : Int × (Option head_Head) => marigraphlaw11_HeadOrder.b8 (xs, had) s.1 s.2) ((0 : Int), some (new0 1000)) = some (.inl (some h1)) := e2
  rw [e2']
  simp only [Option.bind_some, Sum.elim_inl]
  rw [from_nat hnx, upto_nat hnx]
  simp only [Option.bind_some]
  have hd : (xs.drop n).length ≤ 100 := by simp; omega
  have ht : (xs.take n).length ≤ 100 := by simp; omega
  rw [app_ok (by rw [show lim = 140737488355328 from rfl]; simp; omega), Option.bind_some, List.nil_append, app_ok (by rw [show lim = 140737488355328 from rfl]; simp; omega), Option.bind_some]
  have hP : xs.Perm (xs.drop n ++ xs.take n) := by
    have := List.perm_append_comm (l₁ := xs.take n) (l₂ := xs.drop n)
    rwa [List.take_append_drop] at this
  obtain ⟨h2, e3, H2, r2, m2⟩ := fill_ok (F.perm hP)
  rw [e3]
  simp only [Option.bind_some, Sum.elim_inl]
  have hrow : ∀ id, row h1 id = row h2 id := fun id => rp_perm (H1.rows id) (H2.rows id) ((r1 id).trans (((hP.filter _).map _).trans (r2 id).symm))
  -- the rows
  have hlast : ∀ n i : Nat, i + n = 5 → iter (fun s : Int => marigraphlaw11_HeadOrder.b12 (some h1) (some h2) s) (i : Int) = some (.inl ()) := by
    intro n
    induction n with
    | zero =>
      intro i hi
      have : i = 5 := by omega
      subst this
      exact iter_end (by unfold marigraphlaw11_HeadOrder.b12; simp)
    | succ n ih =>
      intro i hi
      refine (iter_next (s' := ((i + 1 : Nat) : Int)) ?_).trans (ih (i + 1) (by omega))
      unfold marigraphlaw11_HeadOrder.b12
      rw [show decide ((i : Int) < 5) = true from decide_eq_true (by omega), cond_true, points_eq H1, points_eq H2]
      have hlen := H1.len (i : Int)
      simp only [Option.bind_some]
      rw [← hrow, same4 (by omega), Option.bind_some, Bool.not_true, cond_false, right4 (H1.rows _) (by omega)]
      simp only [Option.bind_some, Bool.not_true, cond_false, Sum.elim_inl, pur_eq]
      rw [wrap64 (by omega) (by omega)]
      rfl
  have e4 := hlast 5 0 rfl
  rw [show ((0 : Nat) : Int) = 0 from rfl] at e4
  rw [e4]
  simp only [Option.bind_some, Sum.elim_inl, cond_true, len_eq, m1, beq_self_eq_true]

theorem headOrder_ok {a0 : List marigraphlaw11_Act} {a1 : Int} (h : OkL ActR a0) (h1 : OkI .u8 a1) : marigraphlaw11_HeadOrder a0 a1 = some true := by
  refine order_ok h.1 (fun x hx => ?_) ?_
  · have := (h.2 x hx).1
    simp only [OkI, Lit.wf, Bool.and_eq_true, decide_eq_true_eq] at this
    exact this
  · simp only [OkI, Lit.wf, Bool.and_eq_true, decide_eq_true_eq] at h1
    exact h1
end Go.Proofs.Ytconkjamlhfneaa
