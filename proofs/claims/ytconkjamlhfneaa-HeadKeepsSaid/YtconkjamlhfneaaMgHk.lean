/- Plain laws of the head: there is room for so many points. -/
import Derived.Test.YtconkjamlhfneaaMgHh
namespace Go.Proofs.Ytconkjamlhfneaa
open Go Go.Mg
set_option linter.unusedVariables false
set_option linter.unusedSimpArgs false

def tt (n i : Nat) : Int := if i < n then (i : Int) - 4000 else (i : Int)
theorem tt_lt {n i j : Nat} (hn : n ≤ 20) (h : i < j) : tt n i < tt n j := by unfold tt; split <;> split <;> omega
def qq (p : api_Point) : Bool := decide (p.T < -2953)
theorem HI.sum {h : head_Head} (H : HI h) {N : Nat} (hN : N = 4096) : tot h.series = sumR N fun i => (row h (i : Int)).length := tot_sum H.keys fun k hk => by
  have := H.ids k fun e => by
    rw [mem_keys] at hk
    rw [H.none.2 e] at hk
    cases hk
  omega
theorem sumR_list {N : Nat} {f : Int → Nat} : ∀ {I : List Int}, I.Nodup → (∀ k ∈ I, 0 ≤ k ∧ k < (N : Int)) → (I.map f).sum = sumR N fun i => if (i : Int) ∈ I then f i else 0
  | [], _, _ => ((sumR_congr (f := fun i : Nat => if (i : Int) ∈ ([] : List Int) then f i else 0) (g := fun _ => 0) fun i _ => by simp).trans (sumR_zero N)).symm
  | a :: I, hn, hr => by
    rw [List.nodup_cons] at hn
    have ha := hr a (by simp)
    have h1 := sumR_one N (f a) a
    rw [if_pos ha] at h1
    rw [List.map_cons, List.sum_cons, sumR_list hn.2 fun k hk => hr k (List.mem_cons_of_mem _ hk), ← h1, ← sumR_add]
    refine sumR_congr fun i _ => ?_
    by_cases h : (i : Int) = a
    · rw [if_pos h, if_neg (by rw [h]; exact hn.1), if_pos (by rw [h]; simp), h]; omega
    · rw [if_neg h]
      by_cases h2 : (i : Int) ∈ I
      · rw [if_pos h2, if_pos (List.mem_cons_of_mem _ h2)]; omega
      · rw [if_neg h2, if_neg (by simp [h, h2])]

theorem full_ok {a : Int} (ha : 0 ≤ a ∧ a ≤ 255) : marigraphlaw11_HeadFull a = some true := by
  unfold marigraphlaw11_HeadFull
  rw [shown_eq, new_eq]
  simp only [Option.bind_some]
  rw [if_neg (by omega)]
  simp only [Option.isNone_some, cond_false, bne_self_eq_false, Option.bind_some, Sum.elim_inl, pur_eq]
  obtain ⟨n, hn, hn2⟩ : ∃ n : Nat, Int.tmod a 21 = (n : Int) ∧ n ≤ 20 := ⟨(a % 21).toNat, by rw [Int.tmod_eq_emod_of_nonneg ha.1]; omega, by omega⟩
  rw [hn, wrap64 (x := (n : Int)) (by omega) (by omega)]
  obtain ⟨N, hN⟩ : ∃ N : Nat, N = 4096 := ⟨_, rfl⟩
  obtain ⟨M, hM⟩ : ∃ M : List Unit, M.length = 2048 := ⟨List.replicate 2048 (), List.length_replicate⟩
  -- all points are taken
  obtain ⟨r, e1, h, rfl, H, hw, hm, hany, hlast, hT, hq⟩ := iter_inv (step := fun s : Int × (Option head_Head) => marigraphlaw11_HeadFull.b4 (n : Int) s.1 s.2) (fun (s : head_Head) i => (i, some s)) M
    (fun h i => HI h ∧ h.window = 5000 ∧ h.many = (i : Int) ∧ h.any = decide (0 < i) ∧ (0 < i → h.last = tt n (i - 1)) ∧ (∀ id p, p ∈ row h id → ∃ j, j < i ∧ p.T = tt n j) ∧ (sumR N fun k => ((row h (k : Int)).filter qq).length) = min i n)
    (fun r => ∃ h, r = .inl (some h) ∧ HI h ∧ h.window = 5000 ∧ h.many = 2048 ∧ h.any = true ∧ h.last = 2047 ∧ (∀ id p, p ∈ row h id → ∃ j, j < 2048 ∧ p.T = tt n j) ∧ (sumR N fun k => ((row h (k : Int)).filter qq).length) = n) (by
      rintro h i _ hx ⟨H, hw, hm, hany, hlast, hT, hq⟩
      left
      have hi : i < 2048 := by have := lt_of_get hx; rw [hM] at this; exact this
      have hti : (bif decide ((i : Int) < (n : Int)) then (pur (IntKind.i64.wrap ((i : Int) - 4000)) fun y85 => some y85) else some (i : Int)) = some (tt n i) := by
        unfold tt
        by_cases hc : i < n
        · rw [show decide ((i : Int) < (n : Int)) = true by simp; omega, cond_true, if_pos hc, pur_eq, wrap64 (by omega) (by omega)]
        · rw [show decide ((i : Int) < (n : Int)) = false by simp; omega, cond_false, if_neg hc]
      have hb : -4000 ≤ tt n i ∧ tt n i ≤ 2047 := by unfold tt; split <;> omega
      have hmod : Int.tmod (i : Int) 3 = ((i % 3 : Nat) : Int) := by rw [Int.tmod_eq_emod_of_nonneg (by omega)]; omega
      have hE : addE h ((i % 3 : Nat) : Int) ⟨tt n i, 0⟩ = 0 := by
        unfold addE
        rw [if_neg (by omega), if_neg, if_neg, if_neg (by omega)]
        · rintro ⟨q, hq, hqT⟩
          obtain ⟨j, hj, hjT⟩ := hT _ q hq
          have := tt_lt hn2 hj
          dsimp only at hqT
          omega
        · unfold farS
          rw [hany]
          by_cases hi0 : 0 < i
          · have h1 := hlast hi0
            have h2 := tt_lt hn2 (show i - 1 < i by omega)
            have h3 : ¬ tt n i < h.last := by omega
            simp [h3]
          · simp [hi0]
      obtain ⟨h', e, H', _, q'⟩ := add_eq H ((i % 3 : Nat) : Int) (p := ⟨tt n i, 0⟩) ⟨by dsimp only; omega, by dsimp only; omega⟩
      obtain ⟨w1, m1, y1, l1, r1, o1⟩ := q' hE
      refine ⟨h', ?_, H', w1.trans hw, by rw [m1, hm]; rfl, by rw [y1]; simp, fun _ => ?_, fun id p hp => ?_, ?_⟩
      · unfold marigraphlaw11_HeadFull.b4
        dsimp only
        rw [show decide ((i : Int) < 2048) = true by simp; omega, cond_true, hti, Option.bind_some, pur_eq, hmod, e, hE]
        simp only [Option.bind_some, bne_self_eq_false, cond_false, Sum.elim_inl, pur_eq]
        rw [wrap64 (by omega) (by omega)]
        rfl
      · rw [l1, if_neg]
        · rfl
        · rintro ⟨h1, h2⟩
          rw [hany] at h1
          have hi0 : 0 < i := by simpa using h1
          have h3 := hlast hi0
          have h4 := tt_lt hn2 (show i - 1 < i by omega)
          dsimp only at h2
          omega
      · by_cases hid : id = ((i % 3 : Nat) : Int)
        · subst hid
          rcases List.mem_cons.1 (r1.mem_iff.1 hp) with rfl | hp
          · exact ⟨i, Nat.lt_succ_self i, rfl⟩
          · obtain ⟨j, hj, hjT⟩ := hT _ p hp
            exact ⟨j, by omega, hjT⟩
        · rw [o1 id hid] at hp
          obtain ⟨j, hj, hjT⟩ := hT _ p hp
          exact ⟨j, by omega, hjT⟩
      · have hone := sumR_one N (if i < n then 1 else 0) ((i % 3 : Nat) : Int)
        rw [if_pos (show (0 : Int) ≤ ((i % 3 : Nat) : Int) ∧ ((i % 3 : Nat) : Int) < (N : Int) by omega)] at hone
        have : (sumR N fun k => ((row h' (k : Int)).filter qq).length) = sumR N fun k => ((row h (k : Int)).filter qq).length + (if (k : Int) = ((i % 3 : Nat) : Int) then (if i < n then 1 else 0) else 0) := by
          refine sumR_congr fun k _ => ?_
          by_cases hk : (k : Int) = ((i % 3 : Nat) : Int)
          · rw [if_pos hk, hk, (r1.filter qq).length_eq, List.filter_cons]
            have hqi : qq ⟨tt n i, 0⟩ = decide (i < n) := by
              unfold qq tt
              by_cases hc : i < n
              · simp [hc]; omega
              · simp only [if_neg hc]; rw [decide_eq_false (by omega), decide_eq_false hc]
            rw [hqi]
            by_cases hc : i < n
            · simp [hc]
            · simp [hc]
          · rw [if_neg hk, o1 _ hk]; rfl
        rw [this, sumR_add, hq, hone]
        split <;> omega) (by
      rintro h ⟨H, hw, hm, hany, hlast, hT, hq⟩
      rw [hM] at hm hany hlast hT hq
      refine ⟨.inl (some h), ?_, h, rfl, H, hw, hm, by rw [hany]; rfl, ?_, hT, by rw [hq]; omega⟩
      · unfold marigraphlaw11_HeadFull.b4
        rw [hM]
        rfl
      · rw [hlast (by omega)]
        unfold tt
        rw [if_neg (by omega)]
        rfl) (new0 5000) ⟨hi_new (by omega) (by omega), rfl, rfl, rfl, fun h => absurd h (Nat.lt_irrefl 0), fun id p hp => (by cases hp), ((sumR_congr (g := fun _ => 0) fun k _ => rfl).trans (sumR_zero N)).trans (by omega)⟩
  rw [e1]
  simp only [Option.bind_some, Sum.elim_inl]
  have hp9 : I64 (⟨2500, 0⟩ : api_Point).T := ⟨by dsimp only; omega, by dsimp only; omega⟩
  have no9 : ∀ (g : head_Head), (∀ p ∈ row g 9, p ∈ row h 9) → ¬ ∃ q ∈ row g 9, q.T = (⟨2500, 0⟩ : api_Point).T := by
    rintro g hg ⟨q, hq, hqT⟩
    obtain ⟨j, hj, hjT⟩ := hT 9 q (hg q hq)
    dsimp only at hqT
    unfold tt at hjT
    split at hjT <;> omega
  have nf9 : ∀ g : head_Head, g.last = 2047 → farS g.any g.last g.window 2500 ≠ true := fun g hg => by unfold farS; rw [hg]; simp
  have hE : addE h 9 ⟨2500, 0⟩ = 4 := by
    unfold addE
    rw [if_neg (by omega), if_neg (nf9 h hlast), if_neg (no9 h fun p hp => hp), if_pos (by omega)]
  rw [add_off H hp9 hE (by decide)]
  simp only [Option.bind_some, bne_self_eq_false, cond_false, len_eq, hm, Sum.elim_inl]
  obtain ⟨h', e2, H', s', r'⟩ := seal_eq H
  rw [e2]
  simp only [Option.bind_some]
  have hfar : ∀ p, farP h p = qq p := fun p => by
    unfold farP farS qq
    rw [hany, hlast, hw, Bool.true_and]
    rw [← Bool.decide_and]
    exact decide_eq_decide.2 ⟨fun h => by omega, fun h => by omega⟩
  have hfar' : farP h = qq := funext hfar
  -- how many were sealed
  have hsum : (((idsS h).filterMap (chunkS h)).map fun c => c.Points.length).sum = n := by
    have h1 : ∀ I : List Int, ((I.filterMap (chunkS h)).map fun c => c.Points.length).sum = (I.map fun id => ((row h id).filter qq).length).sum := by
      intro I
      induction I with
      | nil => rfl
      | cons x I ih =>
        rw [List.map_cons, List.sum_cons, ← ih, List.filterMap_cons]
        unfold chunkS
        rw [hfar']
        by_cases hc : (row h x).filter qq = []
        · rw [if_pos hc, hc]; simp
        · rw [if_neg hc]; simp
    rw [h1, sumR_list (N := N) ((ids_rise H).imp fun {a b} h => by omega) fun k hk => by have := H.ids k ((ids_mem H).1 hk); omega, ← hq]
    refine sumR_congr fun k _ => ?_
    by_cases hk : (k : Int) ∈ idsS h
    · rw [if_pos hk]
    · rw [if_neg hk]
      have : row h (k : Int) = [] := by
        by_cases he : row h (k : Int) = []
        · exact he
        · exact absurd ((ids_mem H).2 he) hk
      rw [this]; rfl
  have hcl : ((idsS h).filterMap (chunkS h)).length ≤ 2048 := Nat.le_trans (fm_len _ _) (ids_len H)
  obtain ⟨cs, hcs⟩ : ∃ cs, cs = (idsS h).filterMap (chunkS h) := ⟨_, rfl⟩
  rw [← hcs] at hsum hcl ⊢
  obtain ⟨r, e3, rfl⟩ := iter_inv (step := fun s : Int × Int => marigraphlaw11_HeadFull.b10 (cs, some h') s.1 s.2) (fun (s : Nat) i => ((s : Int), i)) cs (fun s i => s = ((cs.take i).map fun c => c.Points.length).sum) (fun r => r = ((n : Int), some h')) (by
    rintro s i c hc rfl
    left
    have hi := lt_of_get hc
    refine ⟨((cs.take (i + 1)).map fun c => c.Points.length).sum, ?_, rfl⟩
    have htk : ((cs.take (i + 1)).map fun c => c.Points.length).sum = ((cs.take i).map fun c => c.Points.length).sum + c.Points.length := by
      rw [List.take_add_one, hc]; simp
    have hle : ((cs.take (i + 1)).map fun c => c.Points.length).sum ≤ n := by
      rw [← hsum]
      have h2 : (cs.map fun c => c.Points.length).sum = ((cs.take (i + 1)).map fun c => c.Points.length).sum + ((cs.drop (i + 1)).map fun c => c.Points.length).sum := by
        rw [← List.sum_append, ← List.map_append, List.take_append_drop]
      omega
    unfold marigraphlaw11_HeadFull.b10
    dsimp only
    rw [show decide ((i : Int) < (cs.length : Int)) = true by simp; omega, cond_true, at_nat hc]
    simp only [Option.bind_some, pur_eq]
    rw [wrap64 (by omega) (by omega), wrap64 (by omega) (by omega), htk]
    rfl) (by
    rintro s rfl
    rw [List.take_length, hsum]
    exact ⟨_, by unfold marigraphlaw11_HeadFull.b10; simp, rfl⟩) 0 (by simp)
  have e3' : iter (fun s : Int × Int => marigraphlaw11_HeadFull.b10 (cs, some h') s.1 s.2) ((0 : Int), (0 : Int)) = some ((n : Int), some h') := e3
  rw [e3']
  simp only [Option.bind_some, cond_true, beq_self_eq_true]
  -- what is left
  have hmany' : h'.many = 2048 - (n : Int) := by
    have h1 := H.many
    have h2 := H'.many
    rw [hm] at h1
    have h3 := H.sum hN
    have h4 := H'.sum hN
    have h5 : (sumR N fun i => (row h (i : Int)).length) = sumR N fun i => ((row h (i : Int)).filter qq).length + (row h' (i : Int)).length := sumR_congr fun i _ => by
      rw [r']
      have := congrArg List.length (split_far (h := h) (H.rows (i : Int)))
      rw [List.length_append, hfar'] at this
      rw [hfar']
      exact this
    rw [sumR_add, hq] at h5
    omega
  have hE' : addE h' 9 ⟨2500, 0⟩ = if 0 < n then 0 else 4 := by
    unfold addE
    rw [if_neg (by omega), if_neg (nf9 h' (s'.2.1.trans hlast)), if_neg (no9 h' fun p hp => by rw [r'] at hp; exact (List.mem_filter.1 hp).1)]
    by_cases hc : 0 < n
    · rw [if_pos hc, if_neg (by omega)]
    · rw [if_neg hc, if_pos (by omega)]
  obtain ⟨h2, e4, _⟩ := add_eq H' 9 hp9
  rw [e4, hE']
  by_cases hc : 0 < n
  · simp [hc]
  · simp [hc]
theorem headFull_ok {a0 : Int} (h : OkI .u8 a0) : marigraphlaw11_HeadFull a0 = some true := full_ok (by
  have h := h
  simp only [OkI, Lit.wf, Bool.and_eq_true, decide_eq_true_eq] at h
  exact h)
end Go.Proofs.Ytconkjamlhfneaa
