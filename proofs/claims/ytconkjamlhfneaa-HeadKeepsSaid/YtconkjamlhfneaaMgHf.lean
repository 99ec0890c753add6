/- Plain laws of the head: the document's examples; laws without the reference. -/
import Derived.Test.YtconkjamlhfneaaMgHe
import Derived.Test.YtconkjamlhfneaaMgR
namespace Go.Proofs.Ytconkjamlhfneaa
open Go Go.Mg
set_option linter.unusedVariables false
set_option linter.unusedSimpArgs false

theorem rp_perm {l m : List api_Point} (hl : RP l) (hm : RP m) (h : l.Perm m) : l = m :=
  List.Perm.eq_of_pairwise (le := fun a b : api_Point => a.T < b.T) (fun a b _ _ h1 h2 => by omega) hl hm h

def new0 (w : Int) : head_Head := ⟨w, [], 0, 0, false⟩
theorem row_new (w id : Int) : row (new0 w) id = [] := rfl
theorem hi_new {w : Int} (h0 : 0 ≤ w) (h1 : w ≤ 1099511627776) : HI (new0 w) :=
  ⟨h0, h1, by unfold I64 new0; simp, List.nodup_nil, fun id h => absurd rfl h, fun id => .nil, fun id h => by simp [new0, mget] at h, fun id p hp => (by cases hp), by simp [new0, tot], by simp [new0, tot]⟩
theorem new_eq (w : Int) : head_New w = some (if w < 0 ∨ 1099511627776 < w then (none, 1) else (some (new0 w), 0)) := by
  unfold head_New
  by_cases h1 : w < 0
  · simp [h1]
  · by_cases h2 : 1099511627776 < w
    · simp [h1, h2]
    · simp [h1, h2, new0]

theorem same4 {l : List api_Point} (hn : l.length < 1000000000) : marigraphref04_Same l l = some true := by
  unfold marigraphref04_Same
  simp only [bne_self_eq_false, cond_false]
  obtain ⟨r, e1, rfl⟩ := iter_inv (step := fun s : Int => marigraphref04_Same.b2 l l s) (fun (_ : Unit) i => i) l (fun _ _ => True) (fun r => r = .inl ()) (by
    intro s i x hx _
    left
    refine ⟨(), ?_, trivial⟩
    have := lt_of_get hx
    unfold marigraphref04_Same.b2
    rw [show decide ((i : Int) < (l.length : Int)) = true by simp; omega, cond_true, at_nat hx]
    simp only [Option.bind_some, beq_self_eq_true, Bool.and_self, Bool.not_true, cond_false, pur_eq]
    rw [wrap64 (by omega) (by omega)]
    rfl) (fun s _ => ⟨.inl (), by unfold marigraphref04_Same.b2; simp, rfl⟩) () trivial
  rw [e1]
  rfl
theorem same9 {l : List api_Chunk} (hn : l.length < 1000000000) (hp : ∀ c ∈ l, c.Points.length < 1000000000) : marigraphref09_Same l l = some true := by
  unfold marigraphref09_Same
  simp only [bne_self_eq_false, cond_false]
  obtain ⟨r, e1, rfl⟩ := iter_inv (step := fun s : Int => marigraphref09_Same.b2 l l s) (fun (_ : Unit) i => i) l (fun _ _ => True) (fun r => r = .inl ()) (by
    intro s i x hx _
    left
    refine ⟨(), ?_, trivial⟩
    have := lt_of_get hx
    unfold marigraphref09_Same.b2
    rw [show decide ((i : Int) < (l.length : Int)) = true by simp; omega, cond_true, at_nat hx]
    simp only [Option.bind_some, bne_self_eq_false, cond_false, same4 (hp x (List.mem_of_getElem? hx)), Bool.not_true, pur_eq, Sum.elim_inl]
    rw [wrap64 (by omega) (by omega)]
    rfl) (fun s _ => ⟨.inl (), by unfold marigraphref09_Same.b2; simp, rfl⟩) () trivial
  rw [e1]
  rfl

theorem sr_one {l : List Int} {x : Int} (hl : SR l) (h : ∀ y, y ∈ l ↔ y = x) : l = [x] := SR.ext hl (by simp) fun y => by rw [h y]; simp

theorem shown_eq : marigraphlaw11_shown = some true := by
  unfold marigraphlaw11_shown
  rw [new_eq]
  have H0 : HI (new0 10) := hi_new (by omega) (by omega)
  simp only [Option.bind_some]
  rw [if_neg (by omega)]
  simp only [Option.isNone_some, cond_false, bne_self_eq_false, Option.bind_some, Sum.elim_inl]
  have P : ∀ t : Int, -100 < t → t < 100 → I64 (⟨t, 0⟩ : api_Point).T := fun t h1 h2 => ⟨by dsimp only; omega, by dsimp only; omega⟩
  -- 20
  obtain ⟨h1, e1, H1, _, q1⟩ := add_eq H0 0 (P 20 (by omega) (by omega))
  have a1 : addE (new0 10) 0 ⟨20, 0⟩ = 0 := by
    unfold addE
    rw [if_neg (by omega), if_neg (by simp [farS, new0]), if_neg (by rw [row_new]; simp), if_neg (by simp [new0])]
  obtain ⟨w1, m1, y1, l1, r1, o1⟩ := q1 a1
  rw [e1, a1]
  have r1' : row h1 0 = [⟨20, 0⟩] := List.perm_singleton.1 (by simpa [row_new] using r1)
  have l1' : h1.last = 20 := by rw [l1, if_neg (by simp [new0])]
  simp only [Option.bind_some]
  -- 12
  obtain ⟨h2, e2, H2, _, q2⟩ := add_eq H1 0 (P 12 (by omega) (by omega))
  have a2 : addE h1 0 ⟨12, 0⟩ = 0 := by
    unfold addE
    rw [if_neg (by omega), if_neg (by simp [farS, l1', w1, new0]), if_neg (by rw [r1']; simp), if_neg (by rw [m1]; simp [new0])]
  obtain ⟨w2, m2, y2, l2, r2, o2⟩ := q2 a2
  rw [e2, a2]
  have r2' : row h2 0 = [⟨12, 0⟩, ⟨20, 0⟩] := rp_perm (H2.rows 0) (by simp [RP]) (by rw [r1'] at r2; exact r2)
  have l2' : h2.last = 20 := by rw [l2, l1', y1]; simp
  simp only [Option.bind_some]
  -- 9
  obtain ⟨h3, e3, H3, n3, _⟩ := add_eq H2 0 (P 9 (by omega) (by omega))
  have a3 : addE h2 0 ⟨9, 0⟩ = 110 := by
    unfold addE
    rw [if_neg (by omega), if_pos (by simp [farS, l2', w2, w1, y2, new0])]
  rw [e3, a3, n3 (by rw [a3]; decide)]
  simp only [Option.bind_some]
  -- 30
  obtain ⟨h4, e4, H4, _, q4⟩ := add_eq H2 0 (P 30 (by omega) (by omega))
  have a4 : addE h2 0 ⟨30, 0⟩ = 0 := by
    unfold addE
    rw [if_neg (by omega), if_neg (by simp [farS, l2']), if_neg (by rw [r2']; simp), if_neg (by rw [m2, m1]; simp [new0])]
  obtain ⟨w4, m4, y4, l4, r4, o4⟩ := q4 a4
  rw [e4, a4]
  have r4' : row h4 0 = [⟨12, 0⟩, ⟨20, 0⟩, ⟨30, 0⟩] := rp_perm (H4.rows 0) (by simp [RP]) (by rw [r2'] at r4; exact r4.trans (List.perm_append_singleton _ _).symm)
  have l4' : h4.last = 30 := by rw [l4, l2', y2]; simp
  simp only [Option.bind_some]
  obtain ⟨h5, e5, H5, s5, r5⟩ := seal_eq H4
  have hids : idsS h4 = [0] := sr_one (ids_rise H4) fun y => by
    rw [ids_mem H4]
    constructor
    · intro hy
      by_cases h : y = 0
      · exact h
      · rw [o4 y h, o2 y h, o1 y h, row_new] at hy; exact absurd rfl hy
    · rintro rfl; rw [r4']; simp
  have hch : (idsS h4).filterMap (chunkS h4) = [⟨0, [⟨12, 0⟩]⟩] := by
    rw [hids]
    have : (row h4 0).filter (farP h4) = [⟨12, 0⟩] := by rw [r4']; simp [farP, farS, l4', w4, w2, w1, y4, new0]
    simp [chunkS, this]
  rw [e5, hch]
  simp only [Option.bind_some, beq_self_eq_true, cond_true]
  rw [same9 (by simp) (by simp)]
  simp only [Option.bind_some, cond_true]
  obtain ⟨h6, e6, H6, n6, _⟩ := add_eq H5 0 (P 19 (by omega) (by omega))
  have a6 : addE h5 0 ⟨19, 0⟩ = 110 := by
    unfold addE
    rw [if_neg (by omega), if_pos (by rw [s5.1, s5.2.1, s5.2.2]; simp [farS, l4', w4, w2, w1, y4, new0])]
  rw [e6, a6]
  rfl

theorem nil_ok (a0 : marigraphlaw11_Act) : marigraphlaw11_HeadNil a0 = some true := by
  unfold marigraphlaw11_HeadNil
  rw [shown_eq]
  have h1 : head_Head_Last none = some (0, false) := rfl
  have h2 : ∀ i p, head_Head_Add none i p = some (2, none) := fun i p => rfl
  have h3 : ∀ i, head_Head_Points none i = some [] := fun i => rfl
  have h4 : head_Head_Len none = some 0 := rfl
  have h5 : head_Head_Ids none = some [] := rfl
  have h6 : head_Head_Seal none = some ([], none) := by
    unfold head_Head_Seal
    rw [h5, Option.bind_some]
    have : iter (fun s : (List api_Chunk) × Int × (Option head_Head) => head_Head_Seal.b2 [] s.1 s.2.1 s.2.2) ([], 0, none) = some ([], none) := iter_end (by unfold head_Head_Seal.b2; simp)
    rw [this]
    rfl
  have h7 : ∀ i, head_Head_Drop none i = some (0, none) := fun i => rfl
  simp [h1, h2, h3, h4, h5, h6, h7]

/-- An act of the laws. -/
def ActOk (a : marigraphlaw11_Act) : Prop := I64 a.P.T
theorem few_eq {l : List marigraphlaw11_Act} (h : l.length ≤ lim) : marigraphlaw11_few l = some (l.take 300) := by
  unfold marigraphlaw11_few
  unfold lim at h
  rw [pur_eq]
  split
  · rw [show (300 : Int) = ((300 : Nat) : Int) from rfl, upto_nat (by omega)]; rfl
  · rw [upto_nat (Nat.le_refl _), List.take_length, List.take_of_length_le (by omega)]; rfl

theorem last_ok {w : Int} {l : List marigraphlaw11_Act} (hl : l.length ≤ lim) (hp : ∀ x ∈ l, ActOk x) : marigraphlaw11_HeadLast w l = some true := by
  unfold marigraphlaw11_HeadLast
  rw [shown_eq, new_eq]
  simp only [Option.bind_some]
  by_cases hw : w < 0 ∨ 1099511627776 < w
  · rw [if_pos hw]; rfl
  rw [if_neg hw, few_eq hl]
  simp only [Option.isNone_some, cond_false, Option.bind_some]
  have hp' : ∀ x ∈ l.take 300, ActOk x := fun x hx => hp x (List.mem_of_mem_take hx)
  have hll : (l.take 300).length ≤ 300 := List.length_take_le _ _
  generalize l.take 300 = acts at hp' hll
  obtain ⟨r, e1, o, rfl⟩ := iter_inv (step := fun s : Int × Bool × Int × (Option head_Head) => marigraphlaw11_HeadLast.b3 acts s.1 s.2.1 s.2.2.1 s.2.2.2) (fun (s : Int × Bool × head_Head) i => (s.1, s.2.1, i, some s.2.2)) acts
    (fun s _ => HI s.2.2 ∧ s.1 = s.2.2.last ∧ s.2.1 = s.2.2.any) (fun r => ∃ o, r = .inl o) (by
      rintro ⟨m, y, h⟩ i a ha ⟨H, hm, hy⟩
      dsimp only at H hm hy ⊢
      subst hm; subst hy
      left
      have hi := lt_of_get ha
      have hT : I64 a.P.T := hp' a (List.mem_of_getElem? ha)
      unfold marigraphlaw11_HeadLast.b3
      rw [show decide ((i : Int) < (acts.length : Int)) = true by simp; omega, cond_true, at_nat ha]
      simp only [Option.bind_some, pur_eq]
      rw [wrap64 (x := (i : Int) + 1) (by omega) (by omega)]
      by_cases h5 : Int.tmod a.Kind 7 = 5
      · obtain ⟨h', e, H', s', _⟩ := seal_eq H
        refine ⟨(h.last, h.any, h'), ?_, H', s'.2.1.symm, s'.2.2.symm⟩
        simp [h5, e, last_eq, s'.2.1, s'.2.2]
      · by_cases h6 : Int.tmod a.Kind 7 = 6
        · obtain ⟨h', e, H', s', _⟩ := drop_eq H a.Id
          refine ⟨(h.last, h.any, h'), ?_, H', s'.2.1.symm, s'.2.2.symm⟩
          simp [h6, e, last_eq, s'.2.1, s'.2.2]
        · have h5 : (Int.tmod a.Kind 7 == 5) = false := by simpa using h5
          have h6 : (Int.tmod a.Kind 7 == 6) = false := by simpa using h6
          obtain ⟨h', e, H', n', q'⟩ := add_eq H a.Id hT
          by_cases h0 : addE h a.Id a.P = 0
          · obtain ⟨_, _, y1, l1, _, _⟩ := q' h0
            refine ⟨(h'.last, h'.any, h'), ?_, H', rfl, rfl⟩
            rw [y1, l1]
            cases hany : h.any with
            | false => simp [h5, h6, e, h0, hany, last_eq, y1, l1]
            | true =>
              by_cases hlt : h.last < a.P.T
              · simp [h5, h6, e, h0, hany, last_eq, y1, l1, hlt]
              · simp [h5, h6, e, h0, hany, last_eq, y1, l1, hlt]
          · have := n' h0
            subst this
            have h0 : (addE h' a.Id a.P == 0) = false := by simpa using h0
            refine ⟨(h'.last, h'.any, h'), ?_, H', rfl, rfl⟩
            simp [h5, h6, e, h0, last_eq]) (by
      rintro ⟨m, y, h⟩ ⟨H, hm, hy⟩
      refine ⟨.inl (some h), ?_, _, rfl⟩
      unfold marigraphlaw11_HeadLast.b3
      simp) ((0 : Int), false, new0 w) ⟨hi_new (by omega) (by omega), rfl, rfl⟩
  rw [e1]
  rfl

def ActR (x : marigraphlaw11_Act) : Prop := (OkI .u8) x.Kind ∧ (OkI .i64) x.Id ∧ (fun x : api_Point => (OkI .i64) x.T ∧ (OkI .i64) x.V) x.P
theorem act_ok {l : List marigraphlaw11_Act} (h : OkL ActR l) : ∀ x ∈ l, ActOk x := fun x hx => okI_i64 (h.2 x hx).2.2.1
theorem headNil_ok {a0 : marigraphlaw11_Act} (_ : ActR a0) : marigraphlaw11_HeadNil a0 = some true := nil_ok a0
theorem headLast_ok {a0 : Int} {a1 : List marigraphlaw11_Act} (_ : OkI .i64 a0) (h : OkL ActR a1) : marigraphlaw11_HeadLast a0 a1 = some true := last_ok h.1 (act_ok h)
end Go.Proofs.Ytconkjamlhfneaa
