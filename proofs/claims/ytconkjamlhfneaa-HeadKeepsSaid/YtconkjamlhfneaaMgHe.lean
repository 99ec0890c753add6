/- Plain laws of the head: Add and Seal. -/
import Derived.Test.YtconkjamlhfneaaMgHd
namespace Go.Proofs.Ytconkjamlhfneaa
open Go Go.Mg
set_option linter.unusedVariables false
set_option linter.unusedSimpArgs false

/-- What Add tells. -/
def addE (h : head_Head) (id : Int) (p : api_Point) : Int :=
  if id < 0 ∨ 4096 ≤ id then 1 else if farS h.any h.last h.window p.T = true then 110 else if ∃ q ∈ row h id, q.T = p.T then 111 else if 2048 ≤ h.many then 4 else 0

theorem ins_row {l : List api_Point} {p : api_Point} {k : Nat} (hl : RP l) (hk : k ≤ l.length) (h3 : ∀ j q, j < k → l[j]? = some q → q.T < p.T) (h4 : ∀ j q, k ≤ j → l[j]? = some q → p.T ≤ q.T) (hne : ¬ ∃ q ∈ l, q.T = p.T) : RP (l.take k ++ [p] ++ l.drop k) := by
  unfold RP at hl ⊢
  rw [List.append_assoc, List.pairwise_append]
  refine ⟨hl.sublist (List.take_sublist _ _), ?_, ?_⟩
  · rw [List.singleton_append, List.pairwise_cons]
    refine ⟨fun q hq => ?_, hl.sublist (List.drop_sublist _ _)⟩
    obtain ⟨j, hj⟩ := List.getElem?_of_mem hq
    rw [List.getElem?_drop] at hj
    have h5 := h4 (k + j) q (by omega) hj
    have h6 : q.T ≠ p.T := fun e => hne ⟨q, List.mem_of_mem_drop hq, e⟩
    omega
  · intro a ha b hb
    obtain ⟨j, hj⟩ := List.getElem?_of_mem ha
    rw [List.getElem?_take] at hj
    split at hj
    case isFalse => cases hj
    rename_i hjk
    have h5 := h3 j a hjk hj
    rw [List.singleton_append, List.mem_cons] at hb
    rcases hb with rfl | hb
    · exact h5
    · obtain ⟨i, hi⟩ := List.getElem?_of_mem hb
      rw [List.getElem?_drop] at hi
      have := h4 (k + i) b (by omega) hi
      omega

theorem add_eq {h : head_Head} (H : HI h) (id : Int) {p : api_Point} (hp : I64 p.T) : ∃ h', head_Head_Add (some h) id p = some (addE h id p, some h') ∧ HI h' ∧
    (addE h id p ≠ 0 → h' = h) ∧ (addE h id p = 0 → h'.window = h.window ∧ h'.many = h.many + 1 ∧ h'.any = true ∧ (h'.last = if h.any = true ∧ ¬ h.last < p.T then h.last else p.T) ∧ (row h' id).Perm (p :: row h id) ∧ ∀ i, i ≠ id → row h' i = row h i) := by
  unfold head_Head_Add addE
  simp only [Option.isNone_some, cond_false]
  by_cases h1 : id < 0 ∨ 4096 ≤ id
  · refine ⟨h, ?_, H, fun _ => rfl, fun e => ?_⟩
    · rw [if_pos h1]
      have : (bif decide (id < 0) then some true else some (decide (4096 ≤ id))) = some true := by
        rcases h1 with h1 | h1
        · simp [h1]
        · have : ¬ id < 0 := by omega
          simp [this, h1]
      rw [this]
      rfl
    · rw [if_pos h1] at e; cases e
  rw [if_neg h1]
  have hc1 : (bif decide (id < 0) then some true else some (decide (4096 ≤ id))) = some false := by
    have ha : ¬ id < 0 := by omega
    have hb : ¬ 4096 ≤ id := by omega
    simp [ha, hb]
  rw [hc1]
  simp only [Option.bind_some, cond_false, H.far hp]
  by_cases h2 : farS h.any h.last h.window p.T = true
  · refine ⟨h, by rw [h2, if_pos rfl]; rfl, H, fun _ => rfl, fun e => ?_⟩
    rw [if_pos h2] at e; cases e
  rw [if_neg h2]
  have h2' : farS h.any h.last h.window p.T = false := by simpa using h2
  rw [h2']
  simp only [cond_false, Option.bind_some, Sum.elim_inl]
  have hlen := H.len id
  obtain ⟨k, hk, hs, h3, h4⟩ := search_eq (t := p.T) (H.rows id) (by omega)
  rw [show (mget id h.series).getD [] = row h id from rfl, hs]
  simp only [Option.bind_some]
  by_cases h5 : ∃ q ∈ row h id, q.T = p.T
  · refine ⟨h, by rw [decide_eq_true h5, if_pos h5]; rfl, H, fun _ => rfl, fun e => ?_⟩
    rw [if_pos h5] at e; cases e
  rw [decide_eq_false h5, if_neg h5, cond_false]
  by_cases h6 : 2048 ≤ h.many
  · refine ⟨h, by rw [decide_eq_true h6, if_pos h6]; rfl, H, fun _ => rfl, fun e => ?_⟩
    rw [if_pos h6] at e; cases e
  rw [decide_eq_false h6, if_neg h6, cond_false]
  have hmany := H.many
  have hins : slices_Insert_api_Point_api_Point (row h id) (k : Int) [p] = some ((row h id).take k ++ [p] ++ (row h id).drop k) := by
    unfold slices_Insert_api_Point_api_Point insert_
    dsimp only
    rw [if_pos ⟨by omega, by omega, by unfold lim; omega⟩]
    simp
  rw [hins, Option.bind_some]
  have hperm : ((row h id).take k ++ [p] ++ (row h id).drop k).Perm (p :: row h id) := by
    have : ((row h id).take k ++ p :: (row h id).drop k).Perm (p :: ((row h id).take k ++ (row h id).drop k)) := List.perm_middle
    rw [List.take_append_drop] at this
    simpa using this
  obtain ⟨r', hr'⟩ : ∃ r', r' = (row h id).take k ++ [p] ++ (row h id).drop k := ⟨_, rfl⟩
  have hRP := ins_row (H.rows id) hk h3 h4 h5
  rw [← hr'] at hperm hRP ⊢
  have hrl : r'.length = (row h id).length + 1 := by rw [hperm.length_eq]; rfl
  have htm := tot_mput (m := h.series) id r'
  rw [show (mget id h.series).getD [] = row h id from rfl] at htm
  simp only [pur_eq]
  rw [wrap64 (x := h.many + 1) (by omega) (by omega)]
  obtain ⟨h', hh'⟩ : ∃ h' : head_Head, h' = { window := h.window, series := mput id r' h.series, many := h.many + 1, last := if h.any = true ∧ ¬ h.last < p.T then h.last else p.T, any := true } := ⟨_, rfl⟩
  have hrow : ∀ i, row h' i = if i = id then r' else row h i := fun i => by rw [hh']; unfold row; dsimp only; rw [mget_mput]; split <;> rfl
  refine ⟨h', ?_, ?_, fun e => absurd rfl e, fun _ => ⟨by rw [hh'], by rw [hh'], by rw [hh'], by rw [hh'], by rw [hrow, if_pos rfl]; exact hperm, fun i hi => by rw [hrow, if_neg hi]⟩⟩
  · rw [hh']
    cases ha : h.any with
    | false => simp
    | true =>
      by_cases hlt : h.last < p.T
      · simp [hlt]
      · simp [hlt, ha]
  · refine ⟨by rw [hh']; exact H.win, by rw [hh']; exact H.win2, ?_, by rw [hh']; exact mput_keys H.keys, ?_, ?_, ?_, ?_, ?_, ?_⟩
    · rw [hh']; dsimp only; split
      · exact H.last
      · exact hp
    · intro i; rw [hrow]; split
      · intro _; omega
      · exact H.ids i
    · intro i; rw [hrow]; split
      · exact hRP
      · exact H.rows i
    · intro i; rw [hrow, hh']; dsimp only; rw [mget_mput]; split
      · intro _ e; rw [e] at hrl; cases hrl
      · exact H.ne i
    · intro i q; rw [hrow]; split
      · intro hq
        rcases List.mem_cons.1 (hperm.mem_iff.1 hq) with rfl | hq
        · exact hp
        · exact H.pts id q hq
      · exact H.pts i q
    · rw [hh']; dsimp only; omega
    · rw [hh']; dsimp only; omega

/-! ### Seal -/
def farP (h : head_Head) : api_Point → Bool := fun q => farS h.any h.last h.window q.T
theorem far_mono {h : head_Head} {a b : api_Point} (hab : a.T < b.T) (hb : farP h b = true) : farP h a = true := by
  unfold farP farS at *
  simp only [Bool.and_eq_true, decide_eq_true_eq] at *
  exact ⟨hb.1, by omega, by omega⟩
theorem split_far {h : head_Head} : ∀ {l : List api_Point}, RP l → l = l.filter (farP h) ++ l.filter (fun q => !farP h q)
  | [], _ => rfl
  | x :: l, hl => by
    unfold RP at hl
    rw [List.pairwise_cons] at hl
    by_cases hx : farP h x = true
    · rw [List.filter_cons_of_pos hx, List.filter_cons_of_neg (by simp [hx]), List.cons_append, ← split_far hl.2]
    · have : ∀ y ∈ l, farP h y ≠ true := fun y hy hf => hx (far_mono (hl.1 y hy) hf)
      have e1 : l.filter (farP h) = [] := List.filter_eq_nil_iff.2 this
      have e2 : l.filter (fun q => !farP h q) = l := List.filter_eq_self.2 fun y hy => by simp [this y hy]
      rw [List.filter_cons_of_neg hx, List.filter_cons_of_pos (by simp [hx]), e1, e2]
      rfl
theorem index_far {α : Type} {p : α → Option Bool} {F G : List α} (hF : ∀ x ∈ F, p x = some false) (hG : ∀ x ∈ G, p x = some true) (i : Int) : indexFunc_ p (F ++ G) i = some (if G = [] then -1 else i + F.length) := by
  induction F generalizing i with
  | nil =>
    cases G with
    | nil => rfl
    | cons x G => simp [indexFunc_, hG x]
  | cons x F ih =>
    rw [List.cons_append, indexFunc_, hF x (by simp), Option.bind_some, cond_false, ih (fun y hy => hF y (by simp [hy]))]
    congr 1
    split
    · rfl
    · simp; omega

/-- What is sealed of a series. -/
def chunkS (h : head_Head) (id : Int) : Option api_Chunk := if (row h id).filter (farP h) = [] then none else some ⟨id, (row h id).filter (farP h)⟩

theorem fm_len {α β : Type} (f : α → Option β) : ∀ l : List α, (l.filterMap f).length ≤ l.length := fun l => List.length_filterMap_le f l

theorem seal_eq {h : head_Head} (H : HI h) : ∃ h', head_Head_Seal (some h) = some ((idsS h).filterMap (chunkS h), some h') ∧ HI h' ∧ Same3 h h' ∧ ∀ i, row h' i = (row h i).filter (fun q => !farP h q) := by
  unfold head_Head_Seal
  rw [ids_eq H, Option.bind_some]
  have hil := ids_len H
  obtain ⟨r, e1, h', rfl, h1, h2, h3⟩ := iter_inv (step := fun s : (List api_Chunk) × Int × (Option head_Head) => head_Head_Seal.b2 (idsS h) s.1 s.2.1 s.2.2) (fun (s : (List api_Chunk) × head_Head) i => (s.1, i, some s.2)) (idsS h)
    (fun s i => s.1 = ((idsS h).take i).filterMap (chunkS h) ∧ HI s.2 ∧ Same3 h s.2 ∧ ∀ j, row s.2 j = if j ∈ (idsS h).take i then (row h j).filter (fun q => !farP h q) else row h j)
    (fun r => ∃ h', r = ((idsS h).filterMap (chunkS h), some h') ∧ HI h' ∧ Same3 h h' ∧ ∀ i, row h' i = if i ∈ idsS h then (row h i).filter (fun q => !farP h q) else row h i) (by
      rintro ⟨out, hc⟩ i id hid ⟨hout, Hc, hs3, hrow⟩
      dsimp only at hout Hc hs3 hrow ⊢
      left
      have hi := lt_of_get hid
      have hnot : id ∉ (idsS h).take i := fun hm => by
        obtain ⟨j, hj⟩ := List.getElem?_of_mem hm
        rw [List.getElem?_take] at hj
        split at hj
        case isFalse => cases hj
        rename_i hji
        obtain ⟨hj1, hj2⟩ := List.getElem?_eq_some_iff.1 hj
        obtain ⟨hi1, hi2⟩ := List.getElem?_eq_some_iff.1 hid
        have := List.pairwise_iff_getElem.1 (ids_rise H) j i hj1 hi1 hji
        omega
      have hr0 : row hc id = row h id := by rw [hrow, if_neg hnot]
      have htk : (idsS h).take (i + 1) = (idsS h).take i ++ [id] := by rw [List.take_add_one, hid]; rfl
      have hfar : farP hc = farP h := by unfold farP; rw [hs3.1, hs3.2.1, hs3.2.2]
      obtain ⟨F, hF⟩ : ∃ F, F = (row h id).filter (farP h) := ⟨_, rfl⟩
      obtain ⟨G, hG⟩ : ∃ G, G = (row h id).filter (fun q => !farP h q) := ⟨_, rfl⟩
      have hFG : row h id = F ++ G := by rw [hF, hG]; exact split_far (H.rows id)
      have hRF : RP F := by rw [hF]; exact (H.rows id).sublist List.filter_sublist
      have hRG : RP G := by rw [hG]; exact (H.rows id).sublist List.filter_sublist
      have hlen := H.len id
      have hFl : F.length + G.length ≤ 2048 := by rw [hFG, List.length_append] at hlen; exact hlen
      have hclo : ∀ x ∈ row h id, head_Head_Seal_1 x hc = some (!farP h x) := fun x hx => by
        unfold head_Head_Seal_1
        rw [Hc.far (H.pts id x hx), Option.bind_some, ← hfar]
        rfl
      have hidx : indexFunc_ (fun x => head_Head_Seal_1 x hc) (row hc id) 0 = some (if G = [] then -1 else (0 : Int) + F.length) := by
        rw [hr0, hFG]
        refine index_far (fun x hx => ?_) (fun x hx => ?_) 0
        · have h1 : x ∈ row h id := by rw [hFG]; simp [hx]
          rw [hF] at hx
          rw [hclo x h1, (List.mem_filter.1 hx).2]
          rfl
        · have h1 : x ∈ row h id := by rw [hFG]; simp [hx]
          rw [hG] at hx
          have := (List.mem_filter.1 hx).2
          rw [hclo x h1]
          congr 1
      unfold head_Head_Seal.b2
      rw [show decide ((i : Int) < ((idsS h).length : Int)) = true by simp; omega, cond_true, at_nat hid, Option.bind_some, Option.bind_some, show (mget id hc.series).getD [] = row hc id from rfl, hidx, Option.bind_some]
      have ho : (bif decide ((if G = [] then -1 else (0 : Int) + F.length) < 0) then some ((row hc id).length : Int) else some (if G = [] then -1 else (0 : Int) + F.length)) = some (F.length : Int) := by
        rw [hr0, hFG]
        by_cases hg : G = []
        · rw [if_pos hg, hg]; simp
        · rw [if_neg hg, show decide ((0 : Int) + F.length < 0) = false from decide_eq_false (by omega), cond_false, Int.zero_add]
      rw [ho, Option.bind_some]
      by_cases hF0 : F = []
      · refine ⟨(out, hc), ?_, ?_, Hc, hs3, fun j => ?_⟩
        · rw [hF0]
          simp only [List.length_nil, Int.ofNat_zero, beq_self_eq_true, cond_true, Option.bind_some, pur_eq]
          rw [wrap64 (by omega) (by omega)]
          rfl
        · dsimp only
          rw [htk, List.filterMap_append, hout]
          have : chunkS h id = none := by unfold chunkS; rw [← hF, if_pos hF0]
          simp [this]
        · dsimp only
          rw [hrow, htk]
          by_cases hj : j ∈ (idsS h).take i
          · simp [hj]
          · by_cases hjd : j = id
            · subst hjd
              rw [if_neg hj, if_pos (by simp), ← hG, hFG, hF0]; rfl
            · simp [hj, hjd]
      · have hne : ((F.length : Int) == 0) = false := by simp; exact hF0
        rw [hne, cond_false]
        have hup : upto_ (row hc id) (F.length : Int) = some F := by rw [hr0, hFG, upto_nat (by simp)]; simp
        have hfr : from_ (row hc id) (F.length : Int) = some G := by rw [hr0, hFG, from_nat (by simp)]; simp
        obtain ⟨h', p1, p2, p3, p4⟩ := put_eq Hc (id := id) (l := G) (fun _ => H.ids id (by rw [hFG]; simp [hF0])) hRG (fun q hq => H.pts id q (by rw [hFG]; simp [hq])) (by
          have := Hc.le
          rw [hr0, hFG, List.length_append]; omega)
        have happ : app_ 32 out [(⟨id, F⟩ : api_Chunk)] = some (out ++ [⟨id, F⟩]) := by
          refine app_ok ?_
          have := fm_len (chunkS h) ((idsS h).take i)
          rw [← hout, List.length_take] at this
          simp only [List.length_cons, List.length_nil]
          unfold lim; omega
        have hcl : slices_Clone_api_Point_api_Point G = some G := clone_ok (by unfold lim; omega)
        rw [hup, Option.bind_some, of_sorted hRF (by omega), Option.bind_some, happ, Option.bind_some, hfr, Option.bind_some, hcl, Option.bind_some, p1, Option.bind_some, Option.bind_some, pur_eq, wrap64 (by omega) (by omega)]
        refine ⟨(out ++ [⟨id, F⟩], h'), rfl, ?_, p2, ⟨p3.1.trans hs3.1, p3.2.1.trans hs3.2.1, p3.2.2.trans hs3.2.2⟩, fun j => ?_⟩
        · dsimp only
          rw [htk, List.filterMap_append, hout]
          have : chunkS h id = some ⟨id, F⟩ := by unfold chunkS; rw [← hF, if_neg hF0]
          simp [this]
        · dsimp only
          rw [p4, hrow, htk]
          by_cases hjd : j = id
          · subst hjd; rw [if_pos rfl, if_pos (by simp), hG]
          · simp [hjd]) (by
      rintro ⟨out, hc⟩ ⟨hout, Hc, hs3, hrow⟩
      dsimp only at hout Hc hs3 hrow
      rw [List.take_length] at hout hrow
      refine ⟨(out, some hc), ?_, hc, by rw [hout], Hc, hs3, hrow⟩
      unfold head_Head_Seal.b2
      simp) ([], h) ⟨by simp, H, ⟨rfl, rfl, rfl⟩, fun j => by simp⟩
  rw [e1]
  refine ⟨h', rfl, h1, h2, fun i => ?_⟩
  rw [h3]
  by_cases hi : i ∈ idsS h
  · rw [if_pos hi]
  · rw [if_neg hi]
    have : row h i = [] := by
      by_cases he : row h i = []
      · exact he
      · exact absurd ((ids_mem H).2 he) hi
    rw [this]; rfl
end Go.Proofs.Ytconkjamlhfneaa
