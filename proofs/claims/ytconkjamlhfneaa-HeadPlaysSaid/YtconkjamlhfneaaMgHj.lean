/- Plain laws of the head: whatever is done, a head is the document's. -/
import Derived.Test.YtconkjamlhfneaaMgHi
namespace Go.Proofs.Ytconkjamlhfneaa
open Go Go.Mg
set_option linter.unusedVariables false
set_option linter.unusedSimpArgs false

theorem take_filter {α : Type} {L : List α} {i : Nat} {x : α} (p : α → Bool) (hx : L[i]? = some x) : (L.take (i + 1)).filter p = if p x = true then (L.take i).filter p ++ [x] else (L.take i).filter p := by
  rw [List.take_add_one, hx]
  show (L.take i ++ [x]).filter p = _
  rw [List.filter_append]
  by_cases h : p x = true <;> simp [h]

theorem pts_filter (L : List marigraphref11_Item) (q : api_Point → Bool) (id : Int) : pts (L.filter fun x => q x.P) id = (pts L id).filter q := by
  induction L with
  | nil => rfl
  | cons x L ih =>
    rw [List.filter_cons, pts_cons]
    by_cases h : q x.P = true
    · rw [if_pos h, pts_cons, ih]
      by_cases h2 : x.Id = id
      · rw [if_pos h2, if_pos h2, List.filter_cons_of_pos h]
      · rw [if_neg h2, if_neg h2]
    · rw [if_neg h, ih]
      by_cases h2 : x.Id = id
      · rw [if_pos h2, List.filter_cons_of_neg h]
      · rw [if_neg h2]

theorem rdrop_eq {h : head_Head} {w : marigraphref11_Head} (H : HI h) (R : RR h w) (id : Int) : ∃ h' w', head_Head_Drop (some h) id = some (((row h id).length : Int), some h') ∧ marigraphref11_Head_Drop w id = some (((row h id).length : Int), w') ∧ HI h' ∧ RR h' w' := by
  obtain ⟨h', e1, H', s', r'⟩ := drop_eq H id
  have hlen := R.len H
  refine ⟨h', { w with L := w.L.filter fun x => x.Id != id }, e1, ?_, H', ⟨by rw [s'.1]; exact R.win, by rw [s'.2.1]; exact R.last, by rw [s'.2.2]; exact R.any, fun i => ?_⟩⟩
  · unfold marigraphref11_Head_Drop
    obtain ⟨q, e2, rfl⟩ := iter_inv (step := fun s : (List marigraphref11_Item) × Int => marigraphref11_Head_Drop.b2 w id s.1 s.2) (fun (s : List marigraphref11_Item) i => (s, i)) w.L (fun s i => s = (w.L.take i).filter fun x => x.Id != id) (fun q => q = w.L.filter fun x => x.Id != id) (by
      rintro s i x hx rfl
      left
      have hi := lt_of_get hx
      have hfl := List.length_filter_le (fun x : marigraphref11_Item => x.Id != id) (w.L.take i)
      rw [List.length_take] at hfl
      refine ⟨(w.L.take (i + 1)).filter fun x => x.Id != id, ?_, rfl⟩
      unfold marigraphref11_Head_Drop.b2
      dsimp only
      rw [show decide ((i : Int) < (w.L.length : Int)) = true by simp; omega, cond_true, at_nat hx, take_filter _ hx]
      simp only [Option.bind_some]
      cases hc : (x.Id != id) with
      | true =>
        rw [cond_true, app_ok (by simp; unfold lim; omega), if_pos rfl]
        simp only [Option.bind_some, pur_eq]
        rw [wrap64 (by omega) (by omega)]
        rfl
      | false =>
        rw [cond_false, if_neg (by simp)]
        simp only [Option.bind_some, pur_eq]
        rw [wrap64 (by omega) (by omega)]
        rfl) (by
      rintro s rfl
      exact ⟨_, by unfold marigraphref11_Head_Drop.b2; simp, rfl⟩) [] rfl
    rw [e2]
    have hsplit : (w.L.filter fun x => x.Id != id).length + (pts w.L id).length = w.L.length := by
      unfold pts
      rw [List.length_map]
      have : ∀ L : List marigraphref11_Item, (L.filter fun x => x.Id != id).length + (L.filter fun x => x.Id == id).length = L.length := by
        intro L
        induction L with
        | nil => rfl
        | cons x L ih =>
          rw [List.filter_cons, List.filter_cons, List.length_cons, ← ih]
          by_cases h : x.Id = id
          · simp [h]; omega
          · have h1 : (x.Id != id) = true := by simpa using h
            have h2 : (x.Id == id) = false := by simpa using h
            rw [h1, h2]; simp; omega
      exact this w.L
    have hl := (R.rows id).length_eq
    simp only [Option.bind_some, pur_eq]
    rw [wrap64 (by omega) (by omega), hl]
    congr 2
    omega
  · rw [r']
    by_cases hi : i = id
    · subst hi
      rw [if_pos rfl]
      have : pts (w.L.filter fun x => x.Id != i) i = [] := by
        unfold pts
        rw [List.filter_filter, List.map_eq_nil_iff, List.filter_eq_nil_iff]
        intro x _
        by_cases h : x.Id = i <;> simp [h]
      show List.Perm [] (pts (w.L.filter fun x => x.Id != i) i)
      rw [this]
    · rw [if_neg hi]
      have : pts (w.L.filter fun x => x.Id != id) i = pts w.L i := by
        unfold pts
        rw [List.filter_filter]
        congr 1
        apply List.filter_congr
        intro x _
        by_cases h : x.Id = i
        · simp [h]; exact hi
        · simp [h]
      show (row h i).Perm (pts (w.L.filter fun x => x.Id != id) i)
      rw [this]
      exact R.rows i

theorem rseal_eq {h : head_Head} {w : marigraphref11_Head} (H : HI h) (R : RR h w) : ∃ h' w' cs, head_Head_Seal (some h) = some (cs, some h') ∧ marigraphref11_Head_Seal w = some (cs, w') ∧ HI h' ∧ RR h' w' ∧ cs.length ≤ 2048 ∧ ∀ c ∈ cs, c.Points.length ≤ 2048 := by
  obtain ⟨h', e1, H', s', r'⟩ := seal_eq H
  have hlen := R.len H
  have hil := ids_len H
  have hcl : ((idsS h).filterMap (chunkS h)).length ≤ 2048 := Nat.le_trans (fm_len _ _) hil
  refine ⟨h', { w with L := w.L.filter fun x => !farP h x.P }, (idsS h).filterMap (chunkS h), e1, ?_, H', ⟨by rw [s'.1]; exact R.win, by rw [s'.2.1]; exact R.last, by rw [s'.2.2]; exact R.any, fun i => ?_⟩, hcl, fun c hc => ?_⟩
  · unfold marigraphref11_Head_Seal
    rw [rids_eq H R, Option.bind_some]
    obtain ⟨q, e2, rfl⟩ := iter_inv (step := fun s : (List api_Chunk) × Int => marigraphref11_Head_Seal.b2 w (idsS h) s.1 s.2) (fun (s : List api_Chunk) i => (s, i)) (idsS h) (fun s i => s = ((idsS h).take i).filterMap (chunkS h)) (fun q => q = (idsS h).filterMap (chunkS h)) (by
      rintro s i id hx rfl
      left
      have hi := lt_of_get hx
      have hrl := H.len id
      have hfl := fm_len (chunkS h) ((idsS h).take i)
      rw [List.length_take] at hfl
      refine ⟨((idsS h).take (i + 1)).filterMap (chunkS h), ?_, rfl⟩
      unfold marigraphref11_Head_Seal.b2
      dsimp only
      rw [show decide ((i : Int) < ((idsS h).length : Int)) = true by simp; omega, cond_true, at_nat hx, Option.bind_some, rpoints_eq H R, Option.bind_some]
      obtain ⟨q, e3, rfl⟩ := iter_inv (step := fun s : (List api_Point) × Int => marigraphref11_Head_Seal.b5 w (row h id) s.1 s.2) (fun (s : List api_Point) i => (s, i)) (row h id) (fun s i => s = ((row h id).take i).filter (farP h)) (fun q => q = (row h id).filter (farP h)) (by
        rintro s j p hp rfl
        left
        have hj := lt_of_get hp
        have hgl := List.length_filter_le (farP h) ((row h id).take j)
        rw [List.length_take] at hgl
        refine ⟨((row h id).take (j + 1)).filter (farP h), ?_, rfl⟩
        unfold marigraphref11_Head_Seal.b5
        dsimp only
        rw [show decide ((j : Int) < ((row h id).length : Int)) = true by simp; omega, cond_true, at_nat hp, take_filter _ hp]
        simp only [Option.bind_some, R.far H (H.pts id p (List.mem_of_getElem? hp))]
        rw [show farS h.any h.last h.window p.T = farP h p from rfl]
        cases hc : farP h p with
        | true =>
          rw [cond_true, app_ok (by simp; unfold lim; omega), if_pos rfl]
          simp only [Option.bind_some, pur_eq]
          rw [wrap64 (by omega) (by omega)]
          rfl
        | false =>
          rw [cond_false, if_neg (by simp)]
          simp only [Option.bind_some, pur_eq]
          rw [wrap64 (by omega) (by omega)]
          rfl) (by
        rintro s rfl
        exact ⟨_, by unfold marigraphref11_Head_Seal.b5; simp, rfl⟩) [] rfl
      rw [e3, Option.bind_some, List.take_add_one, hx]
      show _ = some (Sum.inl (((idsS h).take i ++ [id]).filterMap (chunkS h), _))
      rw [List.filterMap_append]
      by_cases hF : (row h id).filter (farP h) = []
      · rw [hF, show decide ((0 : Int) < (([] : List api_Point).length : Int)) = false by simp, cond_false]
        have : chunkS h id = none := by unfold chunkS; rw [if_pos hF]
        simp only [Option.bind_some, pur_eq, List.filterMap_cons, this, List.filterMap_nil, List.append_nil]
        rw [wrap64 (by omega) (by omega)]
        rfl
      · have hpos : 0 < ((row h id).filter (farP h)).length := List.length_pos_iff.2 hF
        rw [show decide ((0 : Int) < (((row h id).filter (farP h)).length : Int)) = true by simp; exact List.exists_mem_of_ne_nil _ hF |>.elim fun p hp => ⟨p, (List.mem_filter.1 hp).1, (List.mem_filter.1 hp).2⟩, cond_true, Option.bind_some, app_ok (by simp only [List.length_cons, List.length_nil]; unfold lim; omega)]
        have : chunkS h id = some ⟨id, (row h id).filter (farP h)⟩ := by unfold chunkS; rw [if_neg hF]
        simp only [Option.bind_some, pur_eq, List.filterMap_cons, this, List.filterMap_nil]
        rw [wrap64 (by omega) (by omega)]
        rfl) (by
      rintro s rfl
      exact ⟨_, by unfold marigraphref11_Head_Seal.b2; simp, rfl⟩) [] (by simp)
    rw [e2, Option.bind_some]
    obtain ⟨q, e4, rfl⟩ := iter_inv (step := fun s : (List marigraphref11_Item) × Int => marigraphref11_Head_Seal.b8 w s.1 s.2) (fun (s : List marigraphref11_Item) i => (s, i)) w.L (fun s i => s = (w.L.take i).filter fun x => !farP h x.P) (fun q => q = w.L.filter fun x => !farP h x.P) (by
      rintro s i x hx rfl
      left
      have hi := lt_of_get hx
      have hfl := List.length_filter_le (fun x : marigraphref11_Item => !farP h x.P) (w.L.take i)
      rw [List.length_take] at hfl
      refine ⟨(w.L.take (i + 1)).filter fun x => !farP h x.P, ?_, rfl⟩
      unfold marigraphref11_Head_Seal.b8
      dsimp only
      rw [show decide ((i : Int) < (w.L.length : Int)) = true by simp; omega, cond_true, at_nat hx, take_filter _ hx]
      simp only [Option.bind_some, R.far H (R.pt H (List.mem_of_getElem? hx))]
      rw [show farS h.any h.last h.window x.P.T = farP h x.P from rfl]
      cases hc : (!farP h x.P) with
      | true =>
        rw [cond_true, app_ok (by simp; unfold lim; omega), if_pos rfl]
        simp only [Option.bind_some, pur_eq]
        rw [wrap64 (by omega) (by omega)]
        rfl
      | false =>
        rw [cond_false, if_neg (by simp)]
        simp only [Option.bind_some, pur_eq]
        rw [wrap64 (by omega) (by omega)]
        rfl) (by
      rintro s rfl
      exact ⟨_, by unfold marigraphref11_Head_Seal.b8; simp, rfl⟩) [] rfl
    rw [e4]
    rfl
  · show (row h' i).Perm (pts (w.L.filter fun x => !farP h x.P) i)
    rw [r', pts_filter w.L (fun q => !farP h q) i]
    exact (R.rows i).filter _
  · rw [(chunk_mem hc).1]
    exact Nat.le_trans (List.length_filter_le _ _) (H.len _)

theorem ints_eq {l : List Int} (hn : l.length < 1000000000) : marigraphref04_Ints l l = some true := by
  unfold marigraphref04_Ints
  simp only [bne_self_eq_false, cond_false]
  obtain ⟨r, e1, rfl⟩ := iter_inv (step := fun s : Int => marigraphref04_Ints.b2 l l s) (fun (_ : Unit) i => i) l (fun _ _ => True) (fun r => r = .inl ()) (by
    intro s i x hx _
    left
    refine ⟨(), ?_, trivial⟩
    have := lt_of_get hx
    unfold marigraphref04_Ints.b2
    rw [show decide ((i : Int) < (l.length : Int)) = true by simp; omega, cond_true, at_nat hx]
    simp only [Option.bind_some, bne_self_eq_false, cond_false, pur_eq]
    rw [wrap64 (by omega) (by omega)]
    rfl) (fun s _ => ⟨.inl (), by unfold marigraphref04_Ints.b2; simp, rfl⟩) () trivial
  rw [e1]
  rfl

def rnew0 (w : Int) : marigraphref11_Head := ⟨w, [], 0, false⟩
theorem rnew_eq (w : Int) : marigraphref11_New w = some (if w < 0 ∨ 1099511627776 < w then (none, 1) else (some (rnew0 w), 0)) := by
  unfold marigraphref11_New
  by_cases h1 : w < 0
  · simp [h1]
  · by_cases h2 : 1099511627776 < w
    · simp [h1, h2]
    · simp [h1, h2, rnew0]

/-- All that can be seen of both is the same. -/
theorem seen_eq {h : head_Head} {w : marigraphref11_Head} (H : HI h) (R : RR h w) (id : Int) :
    ((w.L.length : Int) = h.many) ∧ head_Head_Ids (some h) = some (idsS h) ∧ marigraphref11_Head_Ids w = some (idsS h) ∧ marigraphref04_Ints (idsS h) (idsS h) = some true ∧ head_Head_Points (some h) id = some (row h id) ∧ marigraphref11_Head_Points w id = some (row h id) ∧ marigraphref04_Same (row h id) (row h id) = some true :=
  ⟨(R.many H).symm, ids_eq H, rids_eq H R, ints_eq (by have := ids_len H; omega), points_eq H id, rpoints_eq H R id, same4 (by have := H.len id; omega)⟩

theorem plays_ok {w : Int} {l : List marigraphlaw11_Act} (hl : l.length ≤ lim) (hp : ∀ x ∈ l, ActOk x) : marigraphlaw11_HeadPlays w l = some true := by
  unfold marigraphlaw11_HeadPlays
  rw [shown_eq, new_eq, rnew_eq]
  simp only [Option.bind_some]
  by_cases hw : w < 0 ∨ 1099511627776 < w
  · rw [if_pos hw, if_pos hw]; rfl
  rw [if_neg hw, if_neg hw, few_eq hl]
  simp only [Option.isNone_some, cond_false, Option.bind_some, bne_self_eq_false, beq_self_eq_true, Bool.not_true, Sum.elim_inl]
  have hp' : ∀ x ∈ l.take 300, ActOk x := fun x hx => hp x (List.mem_of_mem_take hx)
  have hll : (l.take 300).length ≤ 300 := List.length_take_le _ _
  generalize l.take 300 = acts at hp' hll
  obtain ⟨r, e1, o, rfl⟩ := iter_inv (step := fun s : Int × (Option head_Head) × (Option marigraphref11_Head) => marigraphlaw11_HeadPlays.b4 acts s.1 s.2.1 s.2.2) (fun (s : head_Head × marigraphref11_Head) i => (i, some s.1, some s.2)) acts (fun s _ => HI s.1 ∧ RR s.1 s.2) (fun r => ∃ o, r = .inl o) (by
    rintro ⟨h, v⟩ i a ha ⟨H, R⟩
    dsimp only at H R ⊢
    left
    have hi := lt_of_get ha
    have hT := hp' a (List.mem_of_getElem? ha)
    unfold marigraphlaw11_HeadPlays.b4
    rw [show decide ((i : Int) < (acts.length : Int)) = true by simp; omega, cond_true, at_nat ha]
    simp only [Option.bind_some, pur_eq]
    rw [wrap64 (x := (i : Int) + 1) (by omega) (by omega)]
    by_cases h5 : Int.tmod a.Kind 7 = 5
    · obtain ⟨h', v', cs, e1, e2, H', R', c1, c2⟩ := rseal_eq H R
      obtain ⟨m1, m2, m3, m4, m5, m6, m7⟩ := seen_eq H' R' a.Id
      refine ⟨(h', v'), ?_, H', R'⟩
      have hs : marigraphref09_Same cs cs = some true := same9 (by omega) fun c hc => by have := c2 c hc; omega
      simp [h5, e1, e2, hs, last_eq, len_eq, m1, m2, m3, m4, m5, m6, m7, R'.last, R'.any]
    · have h5' : (Int.tmod a.Kind 7 == 5) = false := by simpa using h5
      by_cases h6 : Int.tmod a.Kind 7 = 6
      · obtain ⟨h', v', e1, e2, H', R'⟩ := rdrop_eq H R a.Id
        obtain ⟨m1, m2, m3, m4, m5, m6, m7⟩ := seen_eq H' R' a.Id
        refine ⟨(h', v'), ?_, H', R'⟩
        simp [h6, e1, e2, last_eq, len_eq, m1, m2, m3, m4, m5, m6, m7, R'.last, R'.any]
      · have h6' : (Int.tmod a.Kind 7 == 6) = false := by simpa using h6
        obtain ⟨h', v', e1, e2, H', R'⟩ := radd_eq H R a.Id hT
        obtain ⟨m1, m2, m3, m4, m5, m6, m7⟩ := seen_eq H' R' a.Id
        refine ⟨(h', v'), ?_, H', R'⟩
        simp [h5', h6', e1, e2, last_eq, len_eq, m1, m2, m3, m4, m5, m6, m7, R'.last, R'.any]) (by
    rintro ⟨h, v⟩ ⟨H, R⟩
    refine ⟨.inl (some h, some v), ?_, _, rfl⟩
    unfold marigraphlaw11_HeadPlays.b4
    simp) (new0 w, rnew0 w) ⟨hi_new (by omega) (by omega), rfl, rfl, rfl, fun id => List.Perm.refl _⟩
  rw [e1]
  rfl
theorem headPlays_ok {a0 : Int} {a1 : List marigraphlaw11_Act} (_ : OkI .i64 a0) (h : OkL ActR a1) : marigraphlaw11_HeadPlays a0 a1 = some true := plays_ok h.1 (act_ok h)
end Go.Proofs.Ytconkjamlhfneaa
