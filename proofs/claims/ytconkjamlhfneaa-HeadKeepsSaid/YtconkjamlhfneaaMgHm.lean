/- Plain laws of the head: a point that was added is there till it is sealed, or dropped. -/
import Derived.Test.YtconkjamlhfneaaMgHk
import Derived.Test.YtconkjamlhfneaaMgHg
namespace Go.Proofs.Ytconkjamlhfneaa
open Go Go.Mg
set_option linter.unusedVariables false
set_option linter.unusedSimpArgs false

abbrev TM := List (marigraphref11_Item × Bool)
/-- The map has what the head has. -/
structure There (h : head_Head) (m : TM) : Prop where
  keys : (m.map (·.1)).Nodup
  yes : ∀ it : marigraphref11_Item, it.P ∈ row h it.Id → mget it m = some true
  no : ∀ it : marigraphref11_Item, it.P ∉ row h it.Id → mget it m = none

theorem RP.nodup {l : List api_Point} (h : RP l) : l.Nodup := h.imp fun {a b} hab e => by subst e; omega
theorem There.mem {h : head_Head} {m : TM} (T : There h m) {it : marigraphref11_Item} : it ∈ m.map (·.1) ↔ it.P ∈ row h it.Id := by
  rw [mem_keys]
  by_cases hc : it.P ∈ row h it.Id
  · simp [T.yes it hc, hc]
  · simp [T.no it hc, hc]
theorem There.rr {h : head_Head} {m : TM} (H : HI h) (T : There h m) : RR h ⟨h.window, m.map (·.1), h.last, h.any⟩ := by
  refine ⟨rfl, rfl, rfl, fun id => ?_⟩
  refine (List.perm_ext_iff_of_nodup (H.rows id).nodup ?_).2 fun p => ?_
  · unfold pts List.Nodup
    rw [List.pairwise_map]
    refine List.Pairwise.imp_of_mem (fun {a b} ha hb hab e => hab ?_) (T.keys.sublist List.filter_sublist)
    have h1 := (List.mem_filter.1 ha).2
    have h2 := (List.mem_filter.1 hb).2
    simp only [beq_iff_eq] at h1 h2
    obtain ⟨i, p⟩ := a
    obtain ⟨j, q⟩ := b
    dsimp only at e h1 h2
    rw [h1, h2, e]
  · dsimp only
    rw [mem_pts]
    constructor
    · intro hp
      exact ⟨⟨id, p⟩, T.mem.2 hp, rfl, rfl⟩
    · rintro ⟨x, hx, rfl, rfl⟩
      exact T.mem.1 hx
theorem There.len {h : head_Head} {m : TM} (H : HI h) (T : There h m) : h.many = (m.length : Int) := by
  have := (T.rr H).many H
  rw [this]
  simp

/-! ### What is dropped -/
theorem count_run (a : marigraphlaw11_Act) : ∀ (l : List marigraphref11_Item) (n : Nat), n + l.length ≤ 1000000 → runf (fun (kk : marigraphref11_Item) (s : Int) => marigraphlaw11_HeadKeeps.b10 a kk s) l (n : Int) = some ((n + (pts l a.Id).length : Nat) : Int)
  | [], n, _ => rfl
  | k :: l, n, h => by
    rw [List.length_cons] at h
    rw [runf, pts_cons]
    by_cases hk : k.Id = a.Id
    · have e : marigraphlaw11_HeadKeeps.b10 a k (n : Int) = some ((n : Int) + 1) := by
        unfold marigraphlaw11_HeadKeeps.b10
        rw [pur_eq, show (k.Id == a.Id) = true by simpa using hk, cond_true, pur_eq, wrap64 (by omega) (by omega)]
      rw [e, Option.bind_some, if_pos hk, List.length_cons]
      have := count_run a l (n + 1) (by omega)
      rw [show (((n + 1 : Nat) : Int)) = (n : Int) + 1 by omega] at this
      rw [this]
      congr 2
      omega
    · have e : marigraphlaw11_HeadKeeps.b10 a k (n : Int) = some (n : Int) := by
        unfold marigraphlaw11_HeadKeeps.b10
        rw [pur_eq, show (k.Id == a.Id) = false by simpa using hk, cond_false]
      rw [e, Option.bind_some, if_neg hk]
      exact count_run a l n (by omega)

theorem drop_run (id : Int) : ∀ (l : List marigraphref11_Item) (m : TM), runf (fun (kk : marigraphref11_Item) (s : TM) => marigraphlaw11_HeadKeeps.b13 id kk s) l m = some (m.filter fun z => !(decide (z.1.Id = id) && decide (z.1 ∈ l)))
  | [], m => by
    rw [runf, List.filter_eq_self.2]
    intro z _
    simp
  | k :: l, m => by
    rw [runf]
    by_cases hk : k.Id = id
    · have e : marigraphlaw11_HeadKeeps.b13 id k m = some (mrem k m) := by
        unfold marigraphlaw11_HeadKeeps.b13
        rw [pur_eq, show (k.Id == id) = true by simpa using hk, cond_true, pur_eq]
      rw [e, Option.bind_some]
      refine (drop_run id l _).trans ?_
      unfold mrem
      rw [List.filter_filter]
      congr 1
      refine List.filter_congr fun z _ => ?_
      by_cases h1 : k = z.1
      · simp [← h1, hk]
      · have h2 : ¬ z.1 = k := fun e => h1 e.symm
        simp [h1, h2]
    · have e : marigraphlaw11_HeadKeeps.b13 id k m = some m := by
        unfold marigraphlaw11_HeadKeeps.b13
        rw [pur_eq, show (k.Id == id) = false by simpa using hk, cond_false]
      rw [e, Option.bind_some]
      refine (drop_run id l _).trans ?_
      congr 1
      refine List.filter_congr fun z _ => ?_
      by_cases h1 : z.1 = k
      · rw [h1]; simp [hk]
      · simp [h1]

/-! ### What is sealed -/
def itm (c : api_Chunk) : List marigraphref11_Item := c.Points.map fun p => ⟨c.Id, p⟩
def Fl (cs : List api_Chunk) : List marigraphref11_Item := cs.flatMap itm

theorem chunk_id {h : head_Head} {id : Int} {c : api_Chunk} (e : chunkS h id = some c) : c.Id = id ∧ c.Points = (row h id).filter (farP h) := by
  unfold chunkS at e
  split at e
  · cases e
  · cases e; exact ⟨rfl, rfl⟩
theorem fl_nodup {h : head_Head} (H : HI h) : (Fl ((idsS h).filterMap (chunkS h))).Nodup := by
  unfold Fl List.Nodup
  rw [List.pairwise_flatMap]
  constructor
  · intro c hc
    obtain ⟨id, _, e⟩ := List.mem_filterMap.1 hc
    obtain ⟨h1, h2⟩ := chunk_id e
    unfold itm
    rw [List.pairwise_map, h2]
    refine List.Pairwise.imp (fun {a b} hab e => ?_) ((H.rows id).sublist List.filter_sublist)
    cases e
    omega
  · rw [List.pairwise_filterMap]
    refine (ids_rise H).imp fun {a b} hab c hc d hd x hx y hy e => ?_
    have h1 := (chunk_id hc).1
    have h2 := (chunk_id hd).1
    unfold itm at hx hy
    obtain ⟨p, _, rfl⟩ := List.mem_map.1 hx
    obtain ⟨q, _, rfl⟩ := List.mem_map.1 hy
    injection e with e1 e2
    omega
theorem fl_mem {h : head_Head} (H : HI h) {it : marigraphref11_Item} : it ∈ Fl ((idsS h).filterMap (chunkS h)) ↔ it.P ∈ row h it.Id ∧ farP h it.P = true := by
  unfold Fl
  rw [List.mem_flatMap]
  constructor
  · rintro ⟨c, hc, hi⟩
    obtain ⟨id, _, e⟩ := List.mem_filterMap.1 hc
    obtain ⟨h1, h2⟩ := chunk_id e
    unfold itm at hi
    obtain ⟨p, hp, rfl⟩ := List.mem_map.1 hi
    rw [h2] at hp
    obtain ⟨h3, h4⟩ := List.mem_filter.1 hp
    dsimp only
    rw [h1]
    exact ⟨h3, h4⟩
  · rintro ⟨h1, h2⟩
    have hne : row h it.Id ≠ [] := fun e => by rw [e] at h1; cases h1
    have hf : it.P ∈ (row h it.Id).filter (farP h) := List.mem_filter.2 ⟨h1, h2⟩
    refine ⟨⟨it.Id, (row h it.Id).filter (farP h)⟩, List.mem_filterMap.2 ⟨it.Id, (ids_mem H).2 hne, ?_⟩, List.mem_map.2 ⟨it.P, hf, rfl⟩⟩
    unfold chunkS
    rw [if_neg fun e => by rw [e] at hf; cases hf]

/-- The map, without some. -/
structure Less (m mt : TM) (D : List marigraphref11_Item) : Prop where
  keys : (mt.map (·.1)).Nodup
  get : ∀ it, mget it mt = if it ∈ D then none else mget it m

theorem seal_run {h : head_Head} {m : TM} (H : HI h) (T : There h m) {hh : Option head_Head} {cs : List api_Chunk} (hcs : cs = (idsS h).filterMap (chunkS h)) :
    ∃ m', iter (fun s : Int × TM => marigraphlaw11_HeadKeeps.b6 (cs, hh) s.1 s.2) ((0 : Int), m) = some (.inl (hh, m')) ∧ Less m m' (Fl cs) := by
  have hN : (Fl cs).Nodup := by rw [hcs]; exact fl_nodup H
  have hcl : cs.length ≤ 2048 := by rw [hcs]; exact Nat.le_trans (fm_len _ _) (ids_len H)
  obtain ⟨r, e, m', rfl, L⟩ := iter_inv (step := fun s : Int × TM => marigraphlaw11_HeadKeeps.b6 (cs, hh) s.1 s.2) (fun (s : TM) i => (i, s)) cs (fun s i => Less m s (Fl (cs.take i))) (fun r => ∃ m', r = .inl (hh, m') ∧ Less m m' (Fl cs)) (by
    intro mt i c hc L
    left
    have hi := lt_of_get hc
    have hcm : c ∈ (idsS h).filterMap (chunkS h) := by rw [← hcs]; exact List.mem_of_getElem? hc
    obtain ⟨c1, c2⟩ := chunk_mem hcm
    have hpl : c.Points.length ≤ 2048 := by rw [c1]; exact Nat.le_trans (List.length_filter_le _ _) (H.len _)
    have htk : Fl (cs.take (i + 1)) = Fl (cs.take i) ++ itm c := by
      unfold Fl
      rw [List.take_add_one, hc]
      simp
    have hNi : (Fl (cs.take i) ++ itm c).Nodup := by
      rw [← htk]
      have h1 : Fl cs = Fl (cs.take (i + 1)) ++ Fl (cs.drop (i + 1)) := by unfold Fl; rw [← List.flatMap_append, List.take_append_drop]
      rw [h1] at hN
      exact hN.sublist (List.sublist_append_left _ _)
    obtain ⟨r, e1, m1, rfl, L1⟩ := iter_inv (step := fun s : Int × TM => marigraphlaw11_HeadKeeps.b8 c s.1 s.2) (fun (s : TM) i => (i, s)) c.Points (fun s j => Less m s (Fl (cs.take i) ++ (itm c).take j)) (fun r => ∃ m', r = .inl m' ∧ Less m m' (Fl (cs.take i) ++ itm c)) (by
      intro mt j p hp Lj
      left
      have hj := lt_of_get hp
      obtain ⟨x, hx⟩ : ∃ x : marigraphref11_Item, x = ⟨c.Id, p⟩ := ⟨_, rfl⟩
      have hxi : (itm c)[j]? = some x := by unfold itm; rw [List.getElem?_map, hp, hx]; rfl
      have htj : (itm c).take (j + 1) = (itm c).take j ++ [x] := by rw [List.take_add_one, hxi]; rfl
      have hNj : (Fl (cs.take i) ++ (itm c).take j ++ [x]).Nodup := by
        rw [List.append_assoc, ← htj]
        exact hNi.sublist (List.Sublist.append (List.Sublist.refl _) (List.take_sublist _ _))
      have hxn : x ∉ Fl (cs.take i) ++ (itm c).take j := fun hm => by
        rw [List.nodup_append] at hNj
        exact hNj.2.2 x hm x (by simp) rfl
      have hpr : x.P ∈ row h x.Id := by
        rw [hx]
        dsimp only
        have := List.mem_of_getElem? hp
        rw [c1] at this
        exact (List.mem_filter.1 this).1
      have hg : mget x mt = some true := by rw [Lj.get, if_neg hxn]; exact T.yes x hpr
      refine ⟨mrem x mt, ?_, mrem_keys Lj.keys, fun it => ?_⟩
      · unfold marigraphlaw11_HeadKeeps.b8
        dsimp only
        rw [show decide ((j : Int) < (c.Points.length : Int)) = true by simp; omega, cond_true, at_nat hp]
        simp only [Option.bind_some, pur_eq]
        rw [show (marigraphref11_Item.mk c.Id (api_Point.mk p.T p.V)) = x from hx.symm, hg]
        simp only [Option.getD_some, Bool.not_true, cond_false]
        rw [wrap64 (by omega) (by omega)]
        rfl
      · rw [mget_mrem, Lj.get, htj, ← List.append_assoc]
        by_cases hit : it = x
        · rw [if_pos hit, if_pos (by rw [hit]; simp)]
        · rw [if_neg hit]
          by_cases hD : it ∈ Fl (cs.take i) ++ (itm c).take j
          · rw [if_pos hD, if_pos (List.mem_append.2 (.inl hD))]
          · rw [if_neg hD, if_neg fun hm => (List.mem_append.1 hm).elim hD fun hm => hit (List.mem_singleton.1 hm)]) (by
      intro mt Lj
      refine ⟨.inl mt, by unfold marigraphlaw11_HeadKeeps.b8; simp, mt, rfl, ?_⟩
      have : (itm c).take c.Points.length = itm c := List.take_of_length_le (by unfold itm; simp)
      rw [this] at Lj
      exact Lj) mt (by rw [List.take_zero, List.append_nil]; exact L)
    refine ⟨m1, ?_, by rw [htk]; exact L1⟩
    unfold marigraphlaw11_HeadKeeps.b6
    dsimp only
    rw [show decide ((i : Int) < (cs.length : Int)) = true by simp; omega, cond_true, at_nat hc]
    simp only [Option.bind_some, pur_eq]
    have e1' : iter (fun s : Int × TM => marigraphlaw11_HeadKeeps.b8 c s.1 s.2) ((0 : Int), mt) = some (.inl m1) := e1
    rw [e1']
    simp only [Option.bind_some, Sum.elim_inl]
    rw [wrap64 (by omega) (by omega)]
    rfl) (by
    intro mt L
    rw [List.take_length] at L
    exact ⟨.inl (hh, mt), by unfold marigraphlaw11_HeadKeeps.b6; simp, mt, rfl, L⟩) m ⟨T.keys, fun it => by simp [Fl]⟩
  exact ⟨m', e, L⟩

/-! ### How many are there -/
theorem all_run {h : head_Head} {m : TM} (H : HI h) (T : There h m) : iter (fun s : Int × Int => marigraphlaw11_HeadKeeps.b15 (some h, m) (idsS h) s.1 s.2) ((0 : Int), (0 : Int)) = some (.inl (m.length : Int)) := by
  have hmany := H.many
  have hle := H.le
  obtain ⟨N, hN⟩ : ∃ N : Nat, N = 4096 := ⟨_, rfl⟩
  have hsum : ((idsS h).map fun id => (row h id).length).sum = tot h.series := by
    rw [sumR_list (N := N) ((ids_rise H).imp fun {a b} h => by omega) fun k hk => by have := H.ids k ((ids_mem H).1 hk); omega, H.sum hN]
    refine sumR_congr fun k _ => ?_
    by_cases hk : (k : Int) ∈ idsS h
    · rw [if_pos hk]
    · rw [if_neg hk]
      by_cases he : row h (k : Int) = []
      · rw [he]; rfl
      · exact absurd ((ids_mem H).2 he) hk
  have hil := ids_len H
  obtain ⟨r, e, rfl⟩ := iter_inv (step := fun s : Int × Int => marigraphlaw11_HeadKeeps.b15 (some h, m) (idsS h) s.1 s.2) (fun (s : Nat) i => ((s : Int), i)) (idsS h) (fun s i => s = (((idsS h).take i).map fun id => (row h id).length).sum) (fun r => r = .inl ((tot h.series : Nat) : Int)) (by
    rintro s i id hid rfl
    left
    have hi := lt_of_get hid
    have htk : (((idsS h).take (i + 1)).map fun id => (row h id).length).sum = (((idsS h).take i).map fun id => (row h id).length).sum + (row h id).length := by
      rw [List.take_add_one, hid]; simp
    have hle2 : (((idsS h).take (i + 1)).map fun id => (row h id).length).sum ≤ tot h.series := by
      rw [← hsum]
      have h2 : ((idsS h).map fun id => (row h id).length).sum = (((idsS h).take (i + 1)).map fun id => (row h id).length).sum + (((idsS h).drop (i + 1)).map fun id => (row h id).length).sum := by
        rw [← List.sum_append, ← List.map_append, List.take_append_drop]
      omega
    refine ⟨_, ?_, rfl⟩
    obtain ⟨s, hs⟩ : ∃ s, s = (((idsS h).take i).map fun id => (row h id).length).sum := ⟨_, rfl⟩
    rw [htk] at hle2 ⊢
    rw [← hs] at hle2 ⊢
    obtain ⟨r, e1, rfl⟩ := iter_inv (step := fun s : Int × Int => marigraphlaw11_HeadKeeps.b17 (some h, m) id (row h id) s.1 s.2) (fun (s : Nat) i => ((s : Int), i)) (row h id) (fun q j => q = s + j) (fun r => r = .inl ((s + (row h id).length : Nat) : Int)) (by
      rintro q j p hp rfl
      left
      have hj := lt_of_get hp
      refine ⟨s + j + 1, ?_, by omega⟩
      unfold marigraphlaw11_HeadKeeps.b17
      dsimp only
      rw [show decide ((j : Int) < ((row h id).length : Int)) = true by simp; omega, cond_true, at_nat hp]
      simp only [Option.bind_some, pur_eq]
      rw [show mget (marigraphref11_Item.mk id (api_Point.mk p.T p.V)) m = some true from T.yes ⟨id, p⟩ (List.mem_of_getElem? hp)]
      simp only [Option.getD_some, Bool.not_true, cond_false]
      rw [wrap64 (by omega) (by omega), wrap64 (by omega) (by omega)]
      rfl) (by
      rintro q rfl
      exact ⟨_, by unfold marigraphlaw11_HeadKeeps.b17; simp, rfl⟩) s (by omega)
    have e1' : iter (fun s : Int × Int => marigraphlaw11_HeadKeeps.b17 (some h, m) id (row h id) s.1 s.2) ((s : Int), (0 : Int)) = some (.inl ((s + (row h id).length : Nat) : Int)) := e1
    unfold marigraphlaw11_HeadKeeps.b15
    dsimp only
    rw [show decide ((i : Int) < ((idsS h).length : Int)) = true by simp; omega, cond_true, at_nat hid, Option.bind_some, points_eq H, Option.bind_some, e1']
    simp only [Option.bind_some, Sum.elim_inl, pur_eq]
    rw [wrap64 (by omega) (by omega)]
    rfl) (by
    rintro s rfl
    rw [List.take_length, hsum]
    exact ⟨_, by unfold marigraphlaw11_HeadKeeps.b15; simp, rfl⟩) 0 (by simp)
  have e' : iter (fun s : Int × Int => marigraphlaw11_HeadKeeps.b15 (some h, m) (idsS h) s.1 s.2) ((0 : Int), (0 : Int)) = some (.inl ((tot h.series : Nat) : Int)) := e
  rw [e', ← T.len H, hmany]

theorem keeps_ok {w : Int} {l : List marigraphlaw11_Act} (hl : l.length ≤ lim) (hp : ∀ x ∈ l, ActOk x) : marigraphlaw11_HeadKeeps w l = some true := by
  unfold marigraphlaw11_HeadKeeps
  rw [shown_eq, new_eq]
  simp only [Option.bind_some]
  by_cases hw : w < 0 ∨ 1099511627776 < w
  · rw [if_pos hw]
    rcases hw with hw | hw
    · simp [hw]
    · have : ¬ w < 0 := by omega
      simp [hw, this]
  rw [if_neg hw, few_eq hl]
  simp only [Option.isNone_some, cond_false, Option.bind_some]
  have hp' : ∀ x ∈ l.take 300, ActOk x := fun x hx => hp x (List.mem_of_mem_take hx)
  have hll : (l.take 300).length ≤ 300 := List.length_take_le _ _
  generalize l.take 300 = acts at hp' hll
  obtain ⟨r, e1, h, m, rfl⟩ := iter_inv (step := fun s : Int × (Option head_Head) × TM => marigraphlaw11_HeadKeeps.b3 acts s.1 s.2.1 s.2.2) (fun (s : head_Head × TM) i => (i, some s.1, s.2)) acts (fun s _ => HI s.1 ∧ There s.1 s.2) (fun r => ∃ h m, r = .inl (h, m)) (by
    rintro ⟨h, m⟩ i a ha ⟨H, T⟩
    dsimp only at H T
    left
    have hi := lt_of_get ha
    -- what comes behind each act
    suffices HH : ∃ h' m', HI h' ∧ There h' m' ∧ (pur (Int.tmod a.Kind (7 : Int)) fun y117 => (bif (y117 == (5 : Int)) then ((head_Head_Seal (some h)).bind fun y124 => (iter (fun s : Int × TM => marigraphlaw11_HeadKeeps.b6 y124 s.1 s.2) ((0 : Int), m))) else (bif (y117 == (6 : Int)) then (((rngf (fun (kk353 : marigraphref11_Item) (s318 : Int) => marigraphlaw11_HeadKeeps.b10 a kk353 s318) (List.map (fun (z : marigraphref11_Item × Bool) => z.1) m) (0 : Int)).bind fun o319 => some (o319, m)).bind fun o298 => ((head_Head_Drop (some h) a.Id).bind fun y397 => (bif (y397.1 != o298.1) then some (.inr (.inr (.inr (.inr false)))) else (iter (fun s : Int × TM => marigraphlaw11_HeadKeeps.b11 a y397 s.1 s.2) ((0 : Int), o298.2))))) else ((head_Head_Add (some h) a.Id a.P).bind fun y560 => (bif (y560.1 == (0 : Int)) then (pur (mput (marigraphref11_Item.mk a.Id (api_Point.mk a.P.T a.P.V)) true m) fun y580 => some (.inl (y560.2, y580))) else some (.inl (y560.2, m))))))) = some (.inl (some h', m')) by
      obtain ⟨h', m', H', T', e⟩ := HH
      refine ⟨(h', m'), ?_, H', T'⟩
      unfold marigraphlaw11_HeadKeeps.b3
      dsimp only
      rw [show decide ((i : Int) < (acts.length : Int)) = true by simp; omega, cond_true, at_nat ha, Option.bind_some, pur_eq, e]
      simp only [Option.bind_some, Sum.elim_inl]
      rw [ids_eq H', Option.bind_some, all_run H' T', len_eq]
      simp only [Option.bind_some, Sum.elim_inl]
      rw [T'.len H']
      simp only [bne_self_eq_false, cond_false, Option.bind_some, Sum.elim_inl, pur_eq]
      rw [wrap64 (by omega) (by omega)]
      rfl
    rw [pur_eq]
    by_cases h5 : Int.tmod a.Kind 7 = 5
    · rw [show (Int.tmod a.Kind 7 == 5) = true by simpa using h5, cond_true]
      obtain ⟨h', e2, H', s', r'⟩ := seal_eq H
      rw [e2, Option.bind_some]
      obtain ⟨m', e3, L⟩ := seal_run (hh := some h') H T rfl
      refine ⟨h', m', H', ⟨L.keys, fun it hit => ?_, fun it hit => ?_⟩, e3⟩
      · rw [r'] at hit
        obtain ⟨h1, h2⟩ := List.mem_filter.1 hit
        rw [L.get, if_neg fun hm => by rw [((fl_mem H).1 hm).2] at h2; cases h2]
        exact T.yes it h1
      · rw [L.get]
        by_cases hf : it ∈ Fl ((idsS h).filterMap (chunkS h))
        · rw [if_pos hf]
        · rw [if_neg hf]
          refine T.no it fun hr => hit ?_
          rw [r']
          refine List.mem_filter.2 ⟨hr, ?_⟩
          cases hfp : farP h it.P with
          | true => exact absurd ((fl_mem H).2 ⟨hr, hfp⟩) hf
          | false => rfl
    rw [show (Int.tmod a.Kind 7 == 5) = false by simpa using h5, cond_false]
    have hml : m.length ≤ 2048 := by
      have h1 := T.len H
      have h2 := H.many
      have h3 := H.le
      omega
    by_cases h6 : Int.tmod a.Kind 7 = 6
    · rw [show (Int.tmod a.Kind 7 == 6) = true by simpa using h6, cond_true]
      have hcnt : rngf (fun (kk353 : marigraphref11_Item) (s318 : Int) => marigraphlaw11_HeadKeeps.b10 a kk353 s318) (List.map (fun (z : marigraphref11_Item × Bool) => z.1) m) (0 : Int) = some ((row h a.Id).length : Int) := by
        refine rngf_eq fun l hl => ?_
        have h1 := count_run a l 0 (by rw [hl.length_eq]; simp; omega)
        rw [show (((0 : Nat) : Int)) = 0 from rfl] at h1
        have h2 : (pts l a.Id).Perm (pts (m.map (·.1)) a.Id) := (hl.filter _).map _
        rw [h1, h2.length_eq, ((T.rr H).rows a.Id).length_eq, Nat.zero_add]
      rw [hcnt]
      simp only [Option.bind_some]
      obtain ⟨h', e2, H', s', r'⟩ := drop_eq H a.Id
      rw [e2]
      simp only [Option.bind_some, bne_self_eq_false, cond_false]
      obtain ⟨m', hm'⟩ : ∃ m', m' = m.filter fun z => !decide (z.1.Id = a.Id) := ⟨_, rfl⟩
      have hrun : rngf (fun (kk507 : marigraphref11_Item) (s469 : TM) => marigraphlaw11_HeadKeeps.b13 a.Id kk507 s469) (List.map (fun (z : marigraphref11_Item × Bool) => z.1) m) m = some m' := by
        refine rngf_eq fun l hl => ?_
        rw [drop_run, hm']
        congr 1
        refine List.filter_congr fun z hz => ?_
        have : z.1 ∈ l := hl.mem_iff.2 (List.mem_map.2 ⟨z, hz, rfl⟩)
        simp [this]
      have hget : ∀ it, mget it m' = if it.Id = a.Id then none else mget it m := by
        intro it
        rw [hm']
        clear hm' hrun hcnt hml T
        induction m with
        | nil => simp [mget]
        | cons x m ih =>
          rw [List.filter_cons, mget_cons]
          by_cases hx : x.1.Id = a.Id
          · simp only [hx, decide_true, Bool.not_true, Bool.false_eq_true, if_false, ih]
            by_cases hi : it.Id = a.Id
            · simp [hi]
            · rw [if_neg hi, if_neg hi, if_neg fun e => hi (by rw [e]; exact hx)]
          · simp only [hx, decide_false, Bool.not_false, if_true, mget_cons, ih]
            by_cases hi : it.Id = a.Id
            · rw [if_pos hi, if_pos hi, if_neg fun e => hx (by rw [← e]; exact hi)]
            · rw [if_neg hi, if_neg hi]
      refine ⟨h', m', H', ⟨by rw [hm']; exact T.keys.sublist (List.filter_sublist.map _), fun it hit => ?_, fun it hit => ?_⟩, ?_⟩
      · rw [r'] at hit
        rw [hget]
        by_cases hi : it.Id = a.Id
        · rw [if_pos hi] at hit; cases hit
        · rw [if_neg hi] at hit ⊢; exact T.yes it hit
      · rw [r'] at hit
        rw [hget]
        by_cases hi : it.Id = a.Id
        · rw [if_pos hi]
        · rw [if_neg hi] at hit ⊢; exact T.no it hit
      · refine (iter_next (s' := ((1 : Int), m')) ?_).trans (iter_end ?_)
        · unfold marigraphlaw11_HeadKeeps.b11
          dsimp only
          rw [show decide ((0 : Int) < (([a.Id] : List Int).length : Int)) = true from rfl, cond_true, show at_ ([a.Id] : List Int) 0 = some a.Id from rfl]
          simp only [Option.bind_some]
          rw [hrun]
          simp only [Option.bind_some, pur_eq]
          rw [wrap64 (by omega) (by omega)]
          rfl
        · unfold marigraphlaw11_HeadKeeps.b11
          rfl
    rw [show (Int.tmod a.Kind 7 == 6) = false by simpa using h6, cond_false]
    obtain ⟨h', e2, H', g0, g1⟩ := add_eq H a.Id (hp' a (List.mem_of_getElem? ha))
    rw [e2, Option.bind_some]
    by_cases hE : addE h a.Id a.P = 0
    · obtain ⟨-, -, -, -, g5, g6⟩ := g1 hE
      rw [hE]
      refine ⟨h', mput (marigraphref11_Item.mk a.Id (api_Point.mk a.P.T a.P.V)) true m, H', ⟨mput_keys T.keys, fun it hit => ?_, fun it hit => ?_⟩, rfl⟩
      · rw [mget_mput]
        split
        · rfl
        · rename_i hne
          by_cases hi : it.Id = a.Id
          · rw [hi, g5.mem_iff, List.mem_cons] at hit
            rcases hit with hit | hit
            · exact absurd (by obtain ⟨i1, i2⟩ := it; dsimp only at hi hit; rw [hi, hit]) hne
            · exact T.yes it (by rw [hi]; exact hit)
          · rw [g6 _ hi] at hit
            exact T.yes it hit
      · rw [mget_mput]
        split
        · rename_i heq
          exfalso
          apply hit
          rw [heq]
          dsimp only
          rw [g5.mem_iff]
          exact List.mem_cons_self
        · by_cases hi : it.Id = a.Id
          · rw [hi, g5.mem_iff, List.mem_cons] at hit
            exact T.no it fun hr => hit (.inr (by rw [← hi]; exact hr))
          · rw [g6 _ hi] at hit
            exact T.no it hit
    · rw [g0 hE]
      have : (addE h a.Id a.P == 0) = false := by simpa using hE
      exact ⟨h, m, H, T, by simp only [this, cond_false]⟩) (by
    rintro ⟨h, m⟩ _
    exact ⟨.inl (some h, m), by unfold marigraphlaw11_HeadKeeps.b3; simp, some h, m, rfl⟩) (new0 w, []) ⟨hi_new (by omega) (by omega), by simp, fun it hit => (by rw [row_new] at hit; cases hit), fun it _ => rfl⟩
  have e1' : iter (fun s : Int × (Option head_Head) × TM => marigraphlaw11_HeadKeeps.b3 acts s.1 s.2.1 s.2.2) ((0 : Int), some (new0 w), ([] : TM)) = some (.inl (h, m)) := e1
  rw [e1']
  rfl

theorem headKeeps_ok {a0 : Int} {a1 : List marigraphlaw11_Act} (_ : OkI .i64 a0) (h : OkL ActR a1) : marigraphlaw11_HeadKeeps a0 a1 = some true := keeps_ok h.1 (act_ok h)
end Go.Proofs.Ytconkjamlhfneaa
