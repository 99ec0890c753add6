/- The law IndexOpens over the pure functions. -/
import Derived.Test.YtikdgllagijidaaGreatMgIr
namespace Go.Proofs.YtikdgllagijidaaGreat
open Go Go.Mg
set_option linter.unusedVariables false
set_option linter.unusedSimpArgs false

theorem take_nil : label_Take [] = some ([], [], 6) ∧ ∃ s, marigraphref05_Take [] = some ([], s, 6) := by
  rcases take_both (b := []) (fun x hx => by cases hx) (by decide) with ⟨l, s, h1, h2, _⟩ | h
  · exfalso
    unfold encL at h2
    have := vint_len2 (n := l.length) (by have := (rightS_iff.1 h1).2.2; omega)
    have h3 := congrArg List.length h2
    simp at h3
    omega
  · exact h

theorem loop_both (g m : Nat) (t1 t2 : Option octs_Taker) (u1 u2 : marigraphref01_Taker) (hg : g ≤ 4096) (hm : m ≤ 200) : ∀ (k i : Nat) (A : Ser) (rest : List Int) (x : index_Index) (last : Int), i + k = m → A.length = i → XI x A → x.given = (g : Int) → Byt rest → rest.length ≤ 2000 →
    (A = [] ∧ last = -1 ∨ ∃ A0 e, A = A0 ++ [e] ∧ last = e.1) →
    (iter (fun s : (List Int) × Int × Int × index_Index => index_Open.b6 ((g : Int), t1) ((m : Int), t2) s.1 s.2.1 s.2.2.1 s.2.2.2) (rest, last, (i : Int), x) = some (.inr (none, 6)) ∧
      iter (fun s : Int × marigraphref01_Taker × marigraphref08_Index => marigraphref08_Open.b4 ((g : Int), u1) ((m : Int), u2) s.1 s.2.1 s.2.2) ((i : Int), ⟨rest, false⟩, wOf A (g : Int)) = some (.inr (none, 6))) ∨
    ∃ x' A' rest', iter (fun s : (List Int) × Int × Int × index_Index => index_Open.b6 ((g : Int), t1) ((m : Int), t2) s.1 s.2.1 s.2.2.1 s.2.2.2) (rest, last, (i : Int), x) = some (.inl (rest', x')) ∧
      iter (fun s : Int × marigraphref01_Taker × marigraphref08_Index => marigraphref08_Open.b4 ((g : Int), u1) ((m : Int), u2) s.1 s.2.1 s.2.2) ((i : Int), ⟨rest, false⟩, wOf A (g : Int)) = some (.inl (⟨rest', false⟩, wOf A' (g : Int))) ∧
      XI x' A' ∧ x'.given = (g : Int) ∧ A'.length = m ∧ A.flatMap encE ++ rest = A'.flatMap encE ++ rest' := by
  have hwm : IntKind.i64.wrap (m : Int) = (m : Int) := wrap64 (by omega) (by omega)
  intro k
  induction k with
  | zero =>
    intro i A rest x last h1 h2 H hx hb hl hlast
    right
    refine ⟨x, A, rest, iter_end ?_, iter_end ?_, H, hx, by omega, rfl⟩
    · unfold index_Open.b6
      dsimp only
      rw [decide_eq_false (by omega)]; rfl
    · unfold marigraphref08_Open.b4
      dsimp only
      rw [pur_eq, hwm, decide_eq_false (by omega)]; rfl
  | succ k ih =>
    intro i A rest x last h1 h2 H hx hb hl hlast
    have hf := H.few
    have hleft : ∀ q bd, octs_Taker_Left (some ⟨q, bd⟩) = some (q.length : Int) := fun _ _ => rfl
    cases hn : numS rest with
    | none =>
      left
      constructor
      · refine iter_end ?_
        unfold index_Open.b6
        dsimp only
        rw [decide_eq_true (by omega), cond_true, octs_new (by omega), Option.bind_some, octs_num hb (by omega), hn, Option.bind_some]
        dsimp only
        rw [hleft, Option.bind_some, pur_eq, wrap64 (by simp only [List.length_nil]; omega) (by simp only [List.length_nil]; omega), show ((rest.length : Int) - (([] : List Int).length : Int)) = (rest.length : Int) by simp, from_nat (Nat.le_refl _), Option.bind_some, List.drop_length, take_nil.1]
        rfl
      · obtain ⟨s, hs⟩ := take_nil.2
        refine iter_end ?_
        unfold marigraphref08_Open.b4
        dsimp only
        rw [pur_eq, hwm, decide_eq_true (by omega), cond_true, ref_num hb (by omega), hn, Option.bind_some]
        dsimp only
        rw [hs]
        rfl
    | some q =>
      obtain ⟨id, s⟩ := q
      obtain ⟨e, hid64⟩ := numS_form hb hn
      obtain ⟨hb2, hl2⟩ := numS_byt hb hn
      have hrl : rest.length = (vint id).length + s.length := by rw [e]; simp
      have hdrop : rest.drop (vint id).length = s := by rw [e, List.drop_left]
      -- what both come to, up to the labels
      have hI : ∀ r, label_Take s = some r → index_Open.b6 ((g : Int), t1) ((m : Int), t2) rest last (i : Int) x = ((((bif (r.2.2 != (0 : Int)) then some true else (bif (decide ((g : Int) ≤ (id : Int))) then some true else (pur (IntKind.i64.wrap (id : Int)) fun y225 => some (decide (y225 ≤ last))))).bind fun o219 => (bif o219 then some (.inr (.inr (.inr (.inr (none, (6 : Int)))))) else some (.inl ()))).bind (Sum.elim (fun (o215n : Unit) => ((index_key r.1).bind fun y241 => (bif (mget y241.2.1 x.ids).isSome then some (.inr (.inr (.inr (none, (6 : Int))))) else (pur (IntKind.i64.wrap (id : Int)) fun y267 => ((index_Index_put x y267 r.1 y241.2.1).bind fun y269 => (pur (IntKind.i64.wrap (id : Int)) fun y281 => some (.inl (r.2.1, y281, y269)))))))) (fun q => some q))).bind (Sum.elim (fun (o159n : (List Int) × Int × index_Index) => (pur (IntKind.u64.wrap ((i : Int) + (1 : Int))) fun y293 => some (.inl (o159n.1, o159n.2.1, y293, o159n.2.2)))) (fun q => some q))) := by
        intro r hr
        unfold index_Open.b6
        dsimp only
        rw [decide_eq_true (by omega), cond_true, octs_new (by omega), Option.bind_some, octs_num hb (by omega), hn, Option.bind_some]
        dsimp only
        rw [hleft, Option.bind_some, pur_eq, wrap64 (by omega) (by omega), show ((rest.length : Int) - (s.length : Int)) = ((vint id).length : Int) by omega, from_nat (by omega), Option.bind_some, hdrop, hr, Option.bind_some]
      have hR : ∀ r, marigraphref05_Take s = some r → marigraphref08_Open.b4 ((g : Int), u1) ((m : Int), u2) (i : Int) ⟨rest, false⟩ (wOf A (g : Int)) = ((((bif (r.2.2 != (0 : Int)) then some true else (bif (decide ((g : Int) ≤ (id : Int))) then some true else (bif (decide ((0 : Int) < (i : Int))) then (pur (IntKind.i64.wrap (id : Int)) fun y160 => (pur (IntKind.i64.wrap ((i : Int) - (1 : Int))) fun y166 => ((at_ (wOf A (g : Int)).S y166).bind fun y168 => (bif (decide (y160 ≤ y168.Id)) then some true else ((marigraphref08_Index_find (wOf A (g : Int)) r.1).bind fun y176 => some (decide ((0 : Int) ≤ y176))))))) else ((marigraphref08_Index_find (wOf A (g : Int)) r.1).bind fun y181 => some (decide ((0 : Int) ≤ y181)))))).bind fun o152 => (bif o152 then some (.inr (.inr (.inr (.inr (none, (6 : Int)))))) else some (.inl ()))).bind (Sum.elim (fun (o148n : Unit) => (pur (IntKind.i64.wrap (id : Int)) fun y208 => ((app_ 32 (wOf A (g : Int)).S ([(marigraphref08_Series.mk y208 r.1)] : List marigraphref08_Series)).bind fun y218 => (pur ({ (wOf A (g : Int)) with S := y218 } : marigraphref08_Index) fun y227 => (pur (⟨r.2.1, false⟩ : marigraphref01_Taker) fun y242 => some (.inl (y242, y227))))))) (fun q => some q))).bind (Sum.elim (fun (o114n : marigraphref01_Taker × marigraphref08_Index) => (pur (IntKind.i64.wrap ((i : Int) + (1 : Int))) fun y263 => some (.inl (y263, o114n.1, o114n.2)))) (fun q => some q))) := by
        intro r hr
        unfold marigraphref08_Open.b4
        dsimp only
        rw [pur_eq, hwm, decide_eq_true (by omega), cond_true, ref_num hb (by omega), hn, Option.bind_some]
        dsimp only
        rw [hr, Option.bind_some, cond_false]
      rcases take_both hb2 (by omega) with ⟨l, s2, l1, l2, l3, l4⟩ | ⟨l3, s2, l4⟩
      · have hI := hI _ l3
        have hR := hR _ l4
        dsimp only at hI hR
        rw [show ((0 : Int) != 0) = false from rfl, cond_false] at hI hR
        by_cases hgid : g ≤ id
        · left
          constructor
          · refine iter_end ?_
            rw [hI, decide_eq_true (by omega)]; rfl
          · refine iter_end ?_
            rw [hR, decide_eq_true (by omega)]; rfl
        · rw [decide_eq_false (by omega), cond_false, pur_eq, wrap64 (x := (id : Int)) (by omega) (by omega)] at hI
          rw [decide_eq_false (by omega), cond_false, wrap64 (x := (id : Int)) (by omega) (by omega)] at hR
          -- the place
          have hfind := w_find (A := A) (g := (g : Int)) (by omega) H.ok l
          have hord : (bif (decide ((0 : Int) < (i : Int))) then (pur (id : Int) fun y160 => (pur (IntKind.i64.wrap ((i : Int) - (1 : Int))) fun y166 => ((at_ (wOf A (g : Int)).S y166).bind fun y168 => (bif (decide (y160 ≤ y168.Id)) then some true else ((marigraphref08_Index_find (wOf A (g : Int)) l).bind fun y176 => some (decide ((0 : Int) ≤ y176))))))) else ((marigraphref08_Index_find (wOf A (g : Int)) l).bind fun y181 => some (decide ((0 : Int) ≤ y181)))) =
              some (decide ((id : Int) ≤ last) || (A.findIdx? fun e => decide (e.2 = l)).isSome) := by
            have hfi : ((marigraphref08_Index_find (wOf A (g : Int)) l).bind fun y181 => some (decide ((0 : Int) ≤ y181))) = some (A.findIdx? fun e => decide (e.2 = l)).isSome := by
              rw [hfind]
              cases A.findIdx? fun e => decide (e.2 = l) with
              | none => rfl
              | some k => simp
            rcases hlast with ⟨rfl, rfl⟩ | ⟨A0, e0, rfl, rfl⟩
            · have : i = 0 := by simpa using h2.symm
              subst this
              rw [show decide ((0 : Int) < ((0 : Nat) : Int)) = false from rfl, cond_false, hfi, decide_eq_false (by omega)]; simp
            · simp only [List.length_append, List.length_singleton] at h2
              have hat : (A0 ++ [e0])[i - 1]? = some e0 := by rw [show i - 1 = A0.length by omega]; simp
              rw [decide_eq_true (by omega), cond_true, pur_eq, pur_eq, wrap64 (by omega) (by omega), show (i : Int) - 1 = ((i - 1 : Nat) : Int) by omega, at_mk hat, Option.bind_some]
              rw [show (mkS e0).Id = e0.1 from rfl]
              by_cases hle : (id : Int) ≤ e0.1
              · rw [decide_eq_true hle]; rfl
              · rw [decide_eq_false hle, cond_false, Bool.false_or]
                exact hfi
          rw [hord] at hR
          by_cases hle : (id : Int) ≤ last
          · left
            constructor
            · refine iter_end ?_
              rw [hI, decide_eq_true hle]; rfl
            · refine iter_end ?_
              rw [hR, decide_eq_true hle]; rfl
          · rw [decide_eq_false hle] at hI hR
            simp only [Bool.false_or, Option.bind_some, cond_false, Sum.elim_inl] at hI hR
            rw [index_keyR l1, Option.bind_some] at hI
            dsimp only at hI
            rcases ids_look H l1 with ⟨j, j1, j2⟩ | ⟨j1, j2⟩
            · left
              obtain ⟨k2, k3, _⟩ := find_in H j1
              constructor
              · refine iter_end ?_
                rw [hI, j2]; rfl
              · refine iter_end ?_
                rw [hR, k3]; rfl
            · rw [find_out j1] at hR
              rw [j2, Option.isSome_none, cond_false, pur_eq] at hI
              simp only [Option.isSome_none, cond_false, Option.bind_some, Sum.elim_inl] at hR
              have hlt : ∀ z ∈ A, z.1 < (id : Int) := by
                intro z hz
                rcases hlast with ⟨rfl, _⟩ | ⟨A0, e0, rfl, rfl⟩
                · cases hz
                · have hr := H.rise
                  rw [List.map_append] at hr
                  rcases List.mem_append.1 hz with hz | hz
                  · have := (List.pairwise_append.1 hr).2.2 z.1 (List.mem_map.2 ⟨z, hz, rfl⟩) e0.1 (by simp)
                    omega
                  · simp at hz; subst hz; omega
              obtain ⟨x', p1, p2, p3⟩ := put_eq H (id := (id : Int)) (l := l) (by omega) (by rw [hx]; omega) hlt l1 j1 (by omega)
              rw [p1, Option.bind_some, pur_eq] at hI
              rw [pur_eq, app_ok (by rw [limv]; simp [len_mk]; omega), Option.bind_some, pur_eq, pur_eq] at hR
              simp only [Option.bind_some, Sum.elim_inl, pur_eq] at hI hR
              rw [wrapu64 (by omega) (by omega)] at hI
              rw [wrap64 (by omega) (by omega)] at hR
              have hw : ({ (wOf A (g : Int)) with S := (wOf A (g : Int)).S ++ [(⟨(id : Int), l⟩ : marigraphref08_Series)] } : marigraphref08_Index) = wOf (A ++ [((id : Int), l)]) (g : Int) := by
                simp [wOf, mkS]
              rw [hw] at hR
              have hs2 : s2.length ≤ s.length := by rw [l2]; simp
              have := ih (i + 1) (A ++ [((id : Int), l)]) s2 x' (id : Int) (by omega) (by simp; omega) p2 (by rw [p3, hx]) (by rw [l2] at hb2; exact hb2.right) (by omega) (.inr ⟨A, _, rfl, rfl⟩)
              have hfl : (A ++ [((id : Int), l)]).flatMap encE ++ s2 = A.flatMap encE ++ rest := by
                rw [List.flatMap_append, e, l2]
                simp [encE]
              rcases this with ⟨a1, a2⟩ | ⟨x2, A2, rest2, a1, a2, a3, a4, a5, a6⟩
              · exact .inl ⟨(iter_next hI).trans a1, (iter_next hR).trans a2⟩
              · exact .inr ⟨x2, A2, rest2, (iter_next hI).trans a1, (iter_next hR).trans a2, a3, a4, a5, by rw [← hfl, a6]⟩
      · have hI := hI _ l3
        have hR := hR _ l4
        left
        exact ⟨iter_end hI, iter_end hR⟩

theorem open_both {y : List Int} (hb : Byt y) (hl : y.length ≤ 2000) :
    (index_Open y = some (none, 6) ∧ marigraphref08_Open y = some (none, 6)) ∨ ∃ x A, index_Open y = some (some x, 0) ∧ marigraphref08_Open y = some (some (wOf A x.given), 0) ∧ XI x A ∧ y = encI x.given A := by
  have hleft : ∀ q bd, octs_Taker_Left (some ⟨q, bd⟩) = some (q.length : Int) := fun _ _ => rfl
  unfold index_Open marigraphref08_Open index_New
  rw [octs_new (by omega), app_ok (by rw [limv]; simp; omega), Option.bind_some, Option.bind_some, List.nil_append, octs_num hb (by omega), ref_num hb (by omega), Option.bind_some, Option.bind_some]
  have nnil : octs_Taker_Num (some ⟨[], true⟩) = some (0, some ⟨[], true⟩) := octs_num (b := []) (fun x hx => by cases hx) (by decide)
  have rnil : marigraphref01_Taker_Num ⟨[], true⟩ = some (0, ⟨[], true⟩) := ref_num (b := []) (fun x hx => by cases hx) (by decide)
  -- an index that ends badly ahead of all
  have bad : ∀ (gv mv : Int) (T : Option octs_Taker), (((bif (decide ((4096 : Int) < gv)) then some true else some (decide ((200 : Int) < mv))).bind fun o44 => (bif o44 then some (.inr (none, (6 : Int))) else some (.inl ()))).bind (Sum.elim (fun (o40n : Unit) => ((some (some (⟨[], [], [], [], 0⟩ : index_Index))).bind fun y60 => (pur (IntKind.i64.wrap gv) fun y74 => ((y60).bind fun y76 => (pur ({ y76 with given := y74 } : index_Index) fun y79 => ((octs_Taker_Left (some ⟨[], true⟩)).bind fun y90 => (pur (IntKind.i64.wrap ((y.length : Int) - y90)) fun y95 => ((from_ y y95).bind fun y97 => ((((octs_Taker_Left (some ⟨[], true⟩)).bind fun y110 => (bif (y110 == (0 : Int)) then ((octs_Taker_End (some ⟨[], true⟩)).bind fun y116 => some (y116 != (0 : Int))) else some false)).bind fun o106 => (bif o106 then some (.inr (none, (6 : Int))) else some (.inl ()))).bind (Sum.elim (fun (o102n : Unit) => ((iter (fun s : (List Int) × Int × Int × index_Index => index_Open.b6 (gv, T) (mv, some ⟨[], true⟩) s.1 s.2.1 s.2.2.1 s.2.2.2) (y97, (-1 : Int), (0 : Int), y79)).bind (Sum.elim (fun (o132n : (List Int) × index_Index) => (bif (decide ((0 : Int) < (o132n.1.length : Int))) then some (none, (6 : Int)) else some (some o132n.2, (0 : Int)))) (fun q => some q)))) (fun q => some q))))))))))) (fun q => some q))) = (some (none, 6) : Option (Option index_Index × Int)) := by
    intro gv mv T
    by_cases h1 : 4096 < gv
    · rw [decide_eq_true h1]; rfl
    · rw [decide_eq_false h1, cond_false]
      by_cases h2 : 200 < mv
      · rw [decide_eq_true h2]; rfl
      · rw [decide_eq_false h2]
        simp only [Option.bind_some, cond_false, Sum.elim_inl, pur_eq]
        rw [hleft]
        simp only [Option.bind_some]
        rw [wrap64 (by simp only [List.length_nil]; omega) (by simp only [List.length_nil]; omega), show ((y.length : Int) - (([] : List Int).length : Int)) = (y.length : Int) by simp, from_nat (Nat.le_refl _)]
        rfl
  cases h1 : numS y with
  | none =>
    left
    dsimp only
    rw [nnil, rnil, Option.bind_some, Option.bind_some]
    exact ⟨bad 0 0 (some ⟨[], true⟩), rfl⟩
  | some q =>
    obtain ⟨g, s1⟩ := q
    obtain ⟨e1, hg64⟩ := numS_form hb h1
    obtain ⟨hb1, hl1⟩ := numS_byt hb h1
    dsimp only
    rw [octs_num hb1 (by omega), ref_num hb1 (by omega), Option.bind_some, Option.bind_some]
    cases h2 : numS s1 with
    | none =>
      left
      dsimp only
      exact ⟨bad (g : Int) 0 (some ⟨s1, false⟩), rfl⟩
    | some q =>
      obtain ⟨m, s2⟩ := q
      obtain ⟨e2, hm64⟩ := numS_form hb1 h2
      obtain ⟨hb2, hl2⟩ := numS_byt hb1 h2
      dsimp only
      simp only [Option.bind_some, cond_false]
      by_cases c1 : 4096 < g
      · left
        rw [decide_eq_true (by omega)]
        exact ⟨rfl, rfl⟩
      · rw [decide_eq_false (by omega), cond_false]
        by_cases c2 : 200 < m
        · left
          rw [decide_eq_true (by omega)]
          exact ⟨rfl, rfl⟩
        · rw [decide_eq_false (by omega)]
          simp only [Option.bind_some, cond_false, Sum.elim_inl, pur_eq]
          rw [wrap64 (x := (g : Int)) (by omega) (by omega), hleft]
          simp only [Option.bind_some]
          have hyl : y.length = (vint g).length + (vint m).length + s2.length := by rw [e1, e2]; simp; omega
          rw [wrap64 (by omega) (by omega), show ((y.length : Int) - (s2.length : Int)) = (((vint g).length + (vint m).length : Nat) : Int) by omega, from_nat (by omega), Option.bind_some]
          have hd : y.drop ((vint g).length + (vint m).length) = s2 := by
            rw [e1, e2, ← List.append_assoc, ← List.length_append, List.drop_left]
          rw [hd]
          have hend : ((bif ((s2.length : Int) == 0) then ((octs_Taker_End (some ⟨s2, false⟩)).bind fun y116 => some (y116 != (0 : Int))) else some false)) = some false := by
            cases s2 with
            | nil => rfl
            | cons a l => rfl
          rw [hend]
          simp only [Option.bind_some, cond_false, Sum.elim_inl]
          rcases loop_both g m (some ⟨s1, false⟩) (some ⟨s2, false⟩) ⟨s1, false⟩ ⟨s2, false⟩ (by omega) (by omega) m 0 [] s2 ⟨[], [], [], [], (g : Int)⟩ (-1) (by omega) rfl (xi_new.more (g := (g : Int)) (by dsimp only; omega) (by omega)) rfl hb2 (by omega) (.inl ⟨rfl, rfl⟩) with ⟨a1, a2⟩ | ⟨x, A, rest, a1, a2, a3, a4, a5, a6⟩
          · left
            refine ⟨?_, ?_⟩
            · rw [show iter (fun s : (List Int) × Int × Int × index_Index => index_Open.b6 ((g : Int), some ⟨s1, false⟩) ((m : Int), some ⟨s2, false⟩) s.1 s.2.1 s.2.2.1 s.2.2.2) (s2, -1, 0, ⟨[], [], [], [], (g : Int)⟩) = _ from a1]
              rfl
            · rw [show iter (fun s : Int × marigraphref01_Taker × marigraphref08_Index => marigraphref08_Open.b4 ((g : Int), ⟨s1, false⟩) ((m : Int), ⟨s2, false⟩) s.1 s.2.1 s.2.2) (0, ⟨s2, false⟩, ⟨[], (g : Int)⟩) = _ from a2]
              rfl
          · rw [show iter (fun s : (List Int) × Int × Int × index_Index => index_Open.b6 ((g : Int), some ⟨s1, false⟩) ((m : Int), some ⟨s2, false⟩) s.1 s.2.1 s.2.2.1 s.2.2.2) (s2, -1, 0, ⟨[], [], [], [], (g : Int)⟩) = _ from a1,
              show iter (fun s : Int × marigraphref01_Taker × marigraphref08_Index => marigraphref08_Open.b4 ((g : Int), ⟨s1, false⟩) ((m : Int), ⟨s2, false⟩) s.1 s.2.1 s.2.2) (0, ⟨s2, false⟩, ⟨[], (g : Int)⟩) = _ from a2]
            cases rest with
            | nil =>
              right
              refine ⟨x, A, rfl, by rw [a4]; rfl, a3, ?_⟩
              unfold encI
              rw [a4, a5, e1, e2]
              simp at a6
              rw [a6]; rfl
            | cons c rest =>
              left
              refine ⟨?_, ?_⟩
              · simp only [Option.bind_some, Sum.elim_inl]
                rw [decide_eq_true (by simp only [List.length_cons]; omega)]; rfl
              · simp only [Option.bind_some, Sum.elim_inl]
                unfold marigraphref01_Taker_End
                dsimp only
                rw [cond_false, decide_eq_true (by simp only [List.length_cons]; omega)]; rfl

theorem opens_ok {b : List Int} (hb : Byt b) (a : marigraphlaw08_Act) : marigraphlaw08_IndexOpens b a = some true := by
  unfold marigraphlaw08_IndexOpens
  rw [shown_eq]
  simp only [Option.bind_some, pur_eq]
  have hup : upto_ b (if (2000 : Int) < (b.length : Int) then (2000 : Int) else (b.length : Int)) = some (b.take 2000) := by
    by_cases h : 2000 < b.length
    · rw [if_pos (by omega), show (2000 : Int) = ((2000 : Nat) : Int) from rfl, upto_nat (by omega)]
    · rw [if_neg (by omega), upto_nat (Nat.le_refl _), List.take_length, List.take_of_length_le (by omega)]
  rw [hup, Option.bind_some]
  rcases open_both (hb.take 2000) (by rw [List.length_take]; omega) with ⟨h1, h2⟩ | ⟨x, A, h1, h2, H, he⟩
  · rw [h1, h2]; rfl
  · rw [h1, h2]
    simp only [Option.bind_some, bne_self_eq_false, Option.isNone_some, cond_false, beq_self_eq_true, Bool.not_true, Sum.elim_inl, cond_true]
    rw [bytes_eq H, Option.bind_some, ← he, strEq_eq, decide_eq_true rfl, cond_true]
    obtain ⟨x', A', d1, H'⟩ := does_ok H a
    rw [d1]
    simp only [Option.bind_some, cond_true]
    rw [seen_ok H']
    rfl
theorem indexOpens_ok {R : Prop} {a0 : List Int} {a1 : marigraphlaw08_Act} (h : OkL (OkI .u8) a0) (_ : R) : marigraphlaw08_IndexOpens a0 a1 = some true :=
  opens_ok (fun x hx => by
    have := h.2 x hx
    simp only [OkI, Lit.wf, Bool.and_eq_true, decide_eq_true_eq] at this
    exact this) a1
end Go.Proofs.YtikdgllagijidaaGreat
