/- Plain laws of the head: HeadFar, HeadFull. -/
import Derived.Test.YtconkjamlhfneaaMgHf
namespace Go.Proofs.Ytconkjamlhfneaa
open Go Go.Mg
set_option linter.unusedVariables false
set_option linter.unusedSimpArgs false

theorem chunk_mem {h : head_Head} {c : api_Chunk} (hc : c ∈ (idsS h).filterMap (chunkS h)) : c.Points = (row h c.Id).filter (farP h) ∧ c.Points ≠ [] := by
  obtain ⟨id, _, h1⟩ := List.mem_filterMap.1 hc
  unfold chunkS at h1
  split at h1
  · cases h1
  · rename_i h2; cases h1; exact ⟨rfl, h2⟩
theorem far_same {h h' : head_Head} (s : Same3 h h') : farP h' = farP h := by unfold farP; rw [s.1, s.2.1, s.2.2]

/-- Adding over again what is too old, or there, does nothing. -/
theorem add_off {h : head_Head} (H : HI h) {id : Int} {p : api_Point} (hp : I64 p.T) {e : Int} (he : addE h id p = e) (h0 : e ≠ 0) : head_Head_Add (some h) id p = some (e, some h) := by
  obtain ⟨h', e1, _, n, _⟩ := add_eq H id hp
  rw [e1, he, n (by rw [he]; exact h0)]

theorem far_ok {w : Int} {l : List marigraphlaw11_Act} (hl : l.length ≤ lim) (hp : ∀ x ∈ l, ActOk x) : marigraphlaw11_HeadFar w l = some true := by
  unfold marigraphlaw11_HeadFar
  rw [shown_eq, new_eq]
  simp only [Option.bind_some]
  by_cases hw : w < 0 ∨ 1099511627776 < w
  · rw [if_pos hw]; rfl
  rw [if_neg hw, few_eq hl]
  simp only [Option.isNone_some, cond_false, Option.bind_some]
  have hp' : ∀ x ∈ l.take 300, ActOk x := fun x hx => hp x (List.mem_of_mem_take hx)
  have hll : (l.take 300).length ≤ 300 := List.length_take_le _ _
  generalize l.take 300 = acts at hp' hll
  obtain ⟨r, e1, h, rfl, H⟩ := iter_inv (step := fun s : Int × (Option head_Head) => marigraphlaw11_HeadFar.b3 acts s.1 s.2) (fun (s : head_Head) i => (i, some s)) acts (fun s _ => HI s) (fun r => ∃ h, r = some h ∧ HI h) (by
    intro h i a ha H
    left
    have hi := lt_of_get ha
    unfold marigraphlaw11_HeadFar.b3
    dsimp only
    rw [show decide ((i : Int) < (acts.length : Int)) = true by simp; omega, cond_true, at_nat ha]
    simp only [Option.bind_some, pur_eq]
    rw [wrap64 (x := (i : Int) + 1) (by omega) (by omega)]
    by_cases h6 : Int.tmod a.Kind 7 = 6
    · obtain ⟨h', e, H', _⟩ := drop_eq H a.Id
      exact ⟨h', by simp [h6, e], H'⟩
    · have h6 : (Int.tmod a.Kind 7 == 6) = false := by simpa using h6
      obtain ⟨h', e, H', _⟩ := add_eq H a.Id (hp' a (List.mem_of_getElem? ha))
      exact ⟨h', by simp [h6, e], H'⟩) (fun h H => ⟨some h, by unfold marigraphlaw11_HeadFar.b3; simp, h, rfl, H⟩) (new0 w) (hi_new (by omega) (by omega))
  rw [e1, Option.bind_some]
  obtain ⟨h', e2, H', s', r'⟩ := seal_eq H
  rw [e2, Option.bind_some]
  dsimp only
  have hfar := far_same s'
  obtain ⟨cs, hcs⟩ : ∃ cs, cs = (idsS h).filterMap (chunkS h) := ⟨_, rfl⟩
  rw [← hcs]
  have hcl : cs.length ≤ 2048 := by rw [hcs]; exact Nat.le_trans (fm_len _ _) (ids_len H)
  -- what was sealed is too old
  obtain ⟨r, e3, rfl⟩ := iter_inv (step := fun s : Int × (Option head_Head) => marigraphlaw11_HeadFar.b6 (cs, some h') s.1 s.2) (fun (_ : Unit) i => (i, some h')) cs (fun _ _ => True) (fun r => r = .inl (some h')) (by
    intro _ i c hc _
    left
    refine ⟨(), ?_, trivial⟩
    have hi := lt_of_get hc
    obtain ⟨hcp, hcn⟩ := chunk_mem (by rw [← hcs]; exact List.mem_of_getElem? hc)
    have hlen : c.Points.length ≤ 2048 := by rw [hcp]; exact Nat.le_trans (List.length_filter_le _ _) (H.len _)
    have hrow : row h c.Id ≠ [] := fun e => hcn (by rw [hcp, e]; rfl)
    unfold marigraphlaw11_HeadFar.b6
    dsimp only
    rw [show decide ((i : Int) < (cs.length : Int)) = true by simp; omega, cond_true, at_nat hc]
    simp only [Option.bind_some, pur_eq]
    obtain ⟨r, e4, rfl⟩ := iter_inv (step := fun s : Int × (Option head_Head) => marigraphlaw11_HeadFar.b8 c s.1 s.2) (fun (_ : Unit) i => (i, some h')) c.Points (fun _ _ => True) (fun r => r = .inl (some h')) (by
      intro _ j p hq _
      left
      refine ⟨(), ?_, trivial⟩
      have hj := lt_of_get hq
      have hpm : p ∈ (row h c.Id).filter (farP h) := by rw [← hcp]; exact List.mem_of_getElem? hq
      have hpf := (List.mem_filter.1 hpm).2
      have hpt := H.pts c.Id p (List.mem_filter.1 hpm).1
      have hid := H.ids c.Id hrow
      have hE : addE h' c.Id p = 110 := by
        unfold addE
        rw [if_neg (by omega), if_pos (by rw [s'.1, s'.2.1, s'.2.2]; exact hpf)]
      unfold marigraphlaw11_HeadFar.b8
      dsimp only
      rw [show decide ((j : Int) < (c.Points.length : Int)) = true by simp; omega, cond_true, at_nat hq]
      simp only [Option.bind_some, pur_eq, add_off H' hpt hE (by decide), bne_self_eq_false, cond_false]
      rw [wrap64 (by omega) (by omega)]
      rfl) (fun _ _ => ⟨_, by unfold marigraphlaw11_HeadFar.b8; simp, rfl⟩) () trivial
    rw [e4]
    simp only [Option.bind_some, Sum.elim_inl]
    rw [wrap64 (by omega) (by omega)]
    rfl) (fun _ _ => ⟨_, by unfold marigraphlaw11_HeadFar.b6; simp, rfl⟩) () trivial
  rw [e3]
  simp only [Option.bind_some, Sum.elim_inl]
  rw [ids_eq H', Option.bind_some]
  have hil := ids_len H'
  -- what is left is there
  obtain ⟨r, e5, rfl⟩ := iter_inv (step := fun s : Int × (Option head_Head) => marigraphlaw11_HeadFar.b10 (idsS h') s.1 s.2) (fun (_ : Unit) i => (i, some h')) (idsS h') (fun _ _ => True) (fun r => r = .inl (some h')) (by
    intro _ i id hc _
    left
    refine ⟨(), ?_, trivial⟩
    have hi := lt_of_get hc
    have hrow := (ids_mem H').1 (List.mem_of_getElem? hc)
    have hlen := H'.len id
    unfold marigraphlaw11_HeadFar.b10
    dsimp only
    rw [show decide ((i : Int) < ((idsS h').length : Int)) = true by simp; omega, cond_true, at_nat hc, Option.bind_some, points_eq H', Option.bind_some]
    obtain ⟨r, e4, rfl⟩ := iter_inv (step := fun s : Int × (Option head_Head) => marigraphlaw11_HeadFar.b12 id (row h' id) s.1 s.2) (fun (_ : Unit) i => (i, some h')) (row h' id) (fun _ _ => True) (fun r => r = .inl (some h')) (by
      intro _ j p hq _
      left
      refine ⟨(), ?_, trivial⟩
      have hj := lt_of_get hq
      have hpm := List.mem_of_getElem? hq
      have hpt := H'.pts id p hpm
      have hid := H'.ids id hrow
      have hnf : farP h' p = false := by
        have h1 := hpm
        rw [r'] at h1
        have h2 := (List.mem_filter.1 h1).2
        rw [hfar]
        simpa using h2
      have hE : addE h' id p = 111 := by
        unfold addE
        rw [if_neg (by omega), if_neg (by unfold farP at hnf; rw [hnf]; decide), if_pos ⟨p, hpm, rfl⟩]
      unfold marigraphlaw11_HeadFar.b12
      dsimp only
      rw [show decide ((j : Int) < ((row h' id).length : Int)) = true by simp; omega, cond_true, at_nat hq]
      simp only [Option.bind_some, pur_eq, add_off H' hpt hE (by decide), bne_self_eq_false, cond_false]
      rw [wrap64 (by omega) (by omega)]
      rfl) (fun _ _ => ⟨_, by unfold marigraphlaw11_HeadFar.b12; simp, rfl⟩) () trivial
    rw [e4]
    simp only [Option.bind_some, Sum.elim_inl, pur_eq]
    rw [wrap64 (by omega) (by omega)]
    rfl) (fun _ _ => ⟨_, by unfold marigraphlaw11_HeadFar.b10; simp, rfl⟩) () trivial
  rw [e5]
  simp only [Option.bind_some, Sum.elim_inl, cond_true]
  obtain ⟨h2, e6, _⟩ := seal_eq H'
  rw [e6]
  have : (idsS h').filterMap (chunkS h') = [] := by
    apply List.filterMap_eq_nil_iff.2
    intro id _
    unfold chunkS
    rw [if_pos]
    rw [hfar, r', List.filter_filter]
    apply List.filter_eq_nil_iff.2
    intro q _
    simp
  rw [this]
  rfl
theorem headFar_ok {a0 : Int} {a1 : List marigraphlaw11_Act} (_ : OkI .i64 a0) (h : OkL ActR a1) : marigraphlaw11_HeadFar a0 a1 = some true := far_ok h.1 (act_ok h)
end Go.Proofs.Ytconkjamlhfneaa
