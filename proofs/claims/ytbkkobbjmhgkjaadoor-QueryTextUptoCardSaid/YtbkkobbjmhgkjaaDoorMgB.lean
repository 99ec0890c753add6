/- Regions that draw their order: one walk, in an order that a check finds to serve for all. -/
import Derived.Test.YtbkkobbjmhgkjaaDoorMgA
namespace Go.Mg
open Go

variable {P : Program} {N : Nat} {Q : Ps} {ρ : En} {w : World} {qn qr : En → World → Prop} {qx : List (Nat × (En → World → Prop))}

def mixOK (ops : Array Oper) : List (Nat × Bool) → Array Bool → Bool
  | [], listed => (Region.ready .any ops listed).isEmpty
  | (i, true) :: σ, listed => Region.free .any ops listed i && (Region.ready .any ops listed).contains i && mixOK ops σ (listed.setIfInBounds i true)
  | (i, false) :: σ, listed => (Region.ready .any ops listed == [i]) && mixOK ops σ (listed.setIfInBounds i true)

def M (P : Program) (ops : Array Oper) (C : World → Prop) (K : En → World → Prop) : List (Nat × Bool) → En → World → Prop
  | [], ρ, w => K ρ w
  | (i, q) :: σ, ρ, w => match ops[i]? with
    | none => False
    | some o => bif wantedE ops ρ o then
        (bif q then ∃ v, (∀ w', C w' → (execOp (ev ρ) o).run P w' = .ok (.value v) w') ∧ M P ops C K σ (put ρ o.dst v) w
         else Does P o ρ w fun v w' => C w' ∧ M P ops C K σ (put ρ o.dst v) w')
      else M P ops C K σ (put ρ o.dst undef) w

theorem anyH_of_M {ops : Array Oper} {C : World → Prop} {K : En → World → Prop} (hd : dstOk N ops = true) (hsel : Region.noSelect ops = true) {Q' : Exit → Act → World → Prop}
    (hp : ∀ c a w, ¬ Q' (.panic c) a w) (hQ : ∀ ρ' a' w', Ag a' N ρ' → K ρ' w' → Q' .normal a' w') :
    ∀ (σ : List (Nat × Bool)) (listed : Array Bool), mixOK ops σ listed = true → ∀ (ρ : En) (a : Act) (w : World), Ag a N ρ → C w → M P ops C K σ ρ w →
      wpAnyH P .any ops Q' C σ.length listed a w
  | [], listed, hm, ρ, a, w, ha, hC, h => wpAnyH_done (by simpa [mixOK] using hm) (hQ _ _ _ ha h) _
  | (i, q) :: σ, listed, hm, ρ, a, w, ha, hC, h => by
    unfold M at h
    cases ho : ops[i]? with
    | none => rw [ho] at h; exact h.elim
    | some o =>
      rw [ho] at h
      dsimp only at h
      have hmem : o ∈ ops.toList := by
        rw [Array.getElem?_eq_some_iff] at ho
        obtain ⟨hlt, he⟩ := ho
        rw [← he]; simp
      have hdo : ∀ d, o.dst = some d → d < N := fun d e => by
        have := List.all_eq_true.1 hd o hmem
        rw [e] at this
        simpa using this
      cases q with
      | true =>
        simp only [mixOK, Bool.and_eq_true] at hm
        obtain ⟨⟨hf, hr⟩, hm'⟩ := hm
        cases hw : wantedE ops ρ o with
        | true =>
          rw [hw] at h
          simp only [cond_true] at h
          obtain ⟨v, hv, hk⟩ := h
          exact wpAnyH_take ho hsel hf hr (fun c a w hq => (hp _ _ _ hq).elim) (.inl ⟨by rw [wanted_of hd ha o, hw], by rw [ha.eval]; exact hv⟩) hC
            (anyH_of_M hd hsel hp hQ σ _ hm' _ _ _ (ha.put o.dst hdo v) hC hk)
        | false =>
          rw [hw] at h
          simp only [cond_false] at h
          exact wpAnyH_take ho hsel hf hr (fun c a w hq => (hp _ _ _ hq).elim) (.inr ⟨by rw [wanted_of hd ha o, hw], rfl⟩) hC
            (anyH_of_M hd hsel hp hQ σ _ hm' _ _ _ (ha.put o.dst hdo undef) hC h)
      | false =>
        simp only [mixOK, Bool.and_eq_true] at hm
        obtain ⟨hr, hm'⟩ := hm
        refine wpAnyH_all (rs := [i]) (by simpa using hr) (by simp) fun j hj => ?_
        obtain rfl : j = i := by simpa using hj
        unfold wpOp
        rw [ho]
        dsimp only
        rw [wanted_of hd ha o]
        cases hw : wantedE ops ρ o with
        | true =>
          rw [hw] at h
          simp only [cond_true, cond_false] at h
          rw [if_pos rfl]
          exact .inl (Does.wp ha hdo (fun v w' hk => ⟨hk.1, anyH_of_M hd hsel hp hQ σ _ hm' _ _ _ (ha.put o.dst hdo v) hk.1 hk.2⟩) h)
        | false =>
          rw [hw] at h
          simp only [cond_false] at h
          rw [if_neg (by simp)]
          exact ⟨hC, anyH_of_M hd hsel hp hQ σ _ hm' _ _ _ (ha.put o.dst hdo undef) hC h⟩

/-- A region that draws its order. -/
theorem cw_draw {id : Nat} {l : List Oper} (σ : List (Nat × Bool)) (C : World → Prop) (hf : P.follows .mixedOrders = true)
    (hσ : (Region.noSelect l.toArray && Nat.beq σ.length l.length && mixOK l.toArray σ (Array.replicate l.length false)) = true)
    (hC : C w.drew) (h : M P l.toArray C qn σ ρ w.drew) : CW P N (.region id l.toArray true) ⟨qn, qr, qx⟩ ρ w := fun hk a ha => by
  simp only [Bool.and_eq_true] at hσ
  obtain ⟨⟨h1, h2⟩, h3⟩ := hσ
  have hlen := Nat.eq_of_beq_eq_true h2
  have := anyH_of_M (P := P) (N := N) (Q' := fun e a' w' => ∃ ρ', Ag a' N ρ' ∧ (Ps.mk qn qr qx).ok e ρ' w') (K := qn) hk h1 (fun c a w ⟨ρ', _, hq⟩ => hq) (fun ρ' a' w' hg hq => ⟨ρ', hg, hq⟩) σ _ h3 ρ a w.drew ha hC h
  refine wp_region_held (S := C) hf ?_
  rw [hlen] at this
  simpa using this

end Go.Mg
