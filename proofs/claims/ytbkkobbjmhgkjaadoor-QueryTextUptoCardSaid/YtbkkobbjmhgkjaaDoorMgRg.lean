/- Ranges over a map of the call's own, whose rounds come to the same in any order. -/
import Derived.Test.YtbkkobbjmhgkjaaDoorMgW
import Derived.Test.YtbkkobbjmhgkjaaDoorMgAr
namespace Go.Mg
open Go
set_option linter.unusedVariables false
set_option linter.unusedSimpArgs false

section
variable {κ σ : Type} {f : κ → σ → Option σ} {ks ls done : List κ} {s0 s o : σ}

/-- Rounds over a list. -/
def runf (f : κ → σ → Option σ) : List κ → σ → Option σ
  | [], s => some s
  | k :: l, s => (f k s).bind (runf f l)
theorem runf_append : ∀ (l m : List κ) (s : σ), runf f (l ++ m) s = (runf f l s).bind (runf f m)
  | [], m, s => rfl
  | k :: l, m, s => by
    rw [List.cons_append, runf, runf, Option.bind_assoc]
    congr 1
    funext s'
    exact runf_append l m s'
theorem runf_snoc {k : κ} {s' : σ} (h : runf f done s0 = some s) (h2 : f k s = some s') : runf f (done ++ [k]) s0 = some s' := by
  rw [runf_append, h, Option.bind_some, runf, h2]; rfl

/-- What the rounds over a map come to: the same in any order. -/
noncomputable def rngf (f : κ → σ → Option σ) (ks : List κ) (s0 : σ) : Option σ :=
  @dite _ (∃ r, ∀ l : List κ, l.Perm ks → runf f l s0 = some r) (Classical.propDecidable _) (fun h => some h.choose) (fun _ => none)
theorem rngf_some (h : rngf f ks s0 = some o) {l : List κ} (hl : l.Perm ks) : runf f l s0 = some o := by
  unfold rngf at h
  split at h
  · rename_i hq
    cases h
    exact hq.choose_spec l hl
  · cases h
theorem rngf_eq (h : ∀ l : List κ, l.Perm ks → runf f l s0 = some o) : rngf f ks s0 = some o := by
  have hq : ∃ r, ∀ l : List κ, l.Perm ks → runf f l s0 = some r := ⟨o, h⟩
  unfold rngf
  rw [dif_pos hq]
  have := hq.choose_spec ks (List.Perm.refl _)
  rw [h ks (List.Perm.refl _)] at this
  exact this.symm
theorem rng_end {rem : List (κ × Value × Nat)} (hr : rngf f ks s0 = some o) (hp : (done ++ rem.map (·.1)).Perm ks) (hrun : runf f done s0 = some s) (he : rem = []) : o = s := by
  subst he
  rw [List.map_nil, List.append_nil] at hp
  rw [rngf_some hr hp] at hrun
  exact Option.some.inj hrun
theorem rng_mid {rem : List (κ × Value × Nat)} {e : κ × Value × Nat} (hr : rngf f ks s0 = some o) (hp : (done ++ rem.map (·.1)).Perm ks) (hrun : runf f done s0 = some s) (he : e ∈ rem) : ∃ s', f e.1 s = some s' := by
  obtain ⟨a, b, rfl⟩ := List.append_of_mem he
  have h1 : (done ++ (e.1 :: (a ++ b).map (·.1))).Perm ks := by
    refine List.Perm.trans ((List.Perm.refl _).append ?_) hp
    rw [List.map_append, List.map_append, List.map_cons]
    exact List.perm_middle.symm
  have h2 := rngf_some hr h1
  rw [runf_append, hrun, Option.bind_some, runf] at h2
  obtain ⟨s', h3, _⟩ := Option.bind_eq_some_iff.1 h2
  exact ⟨s', h3⟩
end

section
variable {κ β : Type} [DecidableEq κ] {P : Program} {t : TypeId} {ky : Ky P t κ} {k : Kd β} {S : Nat → Prop} {w : World} {c : Value} {m : List (κ × β)} {fp : List Nat} {rb : Nat} {rem : List (κ × Value × Nat)} {lst : Option (κ × Value × Nat)} {kk : Value → World → Prop}
  {ρ : En} {d : Option Tmp} {x y z : Operand} {ty : TypeId} {pos : String} {af : Array Edge} {g : Option (Nat × Bool)} {tm te : TypeId}

/-- A map that is ranged over: rem is left, lst came last. -/
def fMapI (ky : Ky P t κ) (k : Kd β) (rb : Nat) (rem : List (κ × Value × Nat)) (lst : Option (κ × Value × Nat)) : Fk (List (κ × β)) where
  rep S w c m fp := ∃ b L cl, c = .map (some b) ∧ fp = [b, rb] ∧ ¬ S b ∧ ¬ S rb ∧ Mp ky w b L cl ∧ MR (Sl k S w) L m ∧ It w rb b L cl rem lst ∧ ∀ e, lst = some e → ∀ z ∈ rem, e.1 ≠ z.1
  one h := by obtain ⟨b, L, cl, rfl, _⟩ := h; rfl
  lt h := by
    obtain ⟨b, L, cl, rfl, rfl, hS, hS2, hM, _, hI, _⟩ := h
    intro x hx
    rcases List.mem_cons.1 hx with rfl | hx
    · exact ⟨hM.lt, hS⟩
    · obtain rfl := List.mem_singleton.1 hx
      exact ⟨hI.lt, hS2⟩
  mono h hS hS2 hw hf _ := by
    obtain ⟨b, L, cl, rfl, rfl, hn, hn2, hM, hR, hI, hq⟩ := h
    exact ⟨b, L, cl, rfl, rfl, hS2 b (by simp), hS2 rb (by simp), hM.to (hf b (by simp)), hR.imp fun v y h => h.up hS hw, hI.to (hf rb (by simp)), hq⟩

theorem Mo.born (h : Mo (fMapI ky k rb rem lst) S w c m fp) : (rem.map (·.2.2)).Nodup := by
  obtain ⟨⟨b, L, cl, rfl, rfl, _, _, hM, _, hI, _⟩, _⟩ := h
  exact hI.born hM

theorem dc_mrange (h : Mo (fMap ky k) S w c m fp) (hS : Sb S w) (ht : P.underlying tm = some (.map t te)) (hx : ev ρ x = c)
    (hk : ∀ rb L w', L.map (·.1) = m.map (·.1) → Mo (fMapI ky k rb L none) S w' c m (fp ++ [rb]) → w.heap.size ≤ rb → Up No w w' → kk (.pointer (some ⟨rb, 0, none⟩)) w') :
    Does P ⟨d, .range tm x, ty, pos, af, g⟩ ρ w kk := by
  obtain ⟨⟨b, L, cl, rfl, rfl, hb, hM, hR⟩, hn⟩ := h
  refine dc_range hM ht hx fun r w' h1 h2 hI up => ?_
  have hbl := hM.lt
  refine hk r L w' hR.keys ⟨⟨b, L, cl, rfl, rfl, hb, fun hs => by have := hS r hs; omega, hM.to (up.block b hbl fun h => h), hR.imp fun v y h => h.up (fun _ h => h) (up.sm fun _ _ _ h => h), hI, fun e he => by cases he⟩, ?_⟩ h1 up
  simp only [List.cons_append, List.nil_append, List.nodup_cons, List.mem_singleton, List.not_mem_nil, not_false_eq_true, List.nodup_nil, and_true]
  omega

theorem dc_mnext (h : Mo (fMapI ky k rb rem lst) S w c m fp) (hx : ev ρ x = .pointer (some ⟨rb, 0, none⟩))
    (h0 : rem = [] → kk (.tuple #[.bool false]) w)
    (h1 : ∀ e w', e ∈ rem → Mo (fMapI ky k rb (rem.filter fun z => !decide (e.2.2 = z.2.2)) (some e)) S w' c m fp →
      (∀ {ρ : En} {d : Option Tmp} {x : Operand} {ty : TypeId} {pos : String} {af : Array Edge} {g : Option (Nat × Bool)}, ev ρ x = .pointer (some ⟨rb, 0, none⟩) → Rw P ⟨d, .entry x, ty, pos, af, g⟩ ρ w' (.tuple #[ky.enc e.1, e.2.1])) →
      Up (fun b => b ∈ fp) w w' → kk (.tuple #[.bool true, ky.enc e.1, e.2.1]) w') :
    Does P ⟨d, .next x false, ty, pos, af, g⟩ ρ w kk := by
  obtain ⟨⟨b, L, cl, rfl, rfl, hb, hrb, hM, hR, hI, hq⟩, hn⟩ := h
  refine dc_next hM hI hx h0 fun e w' he hI2 up => ?_
  have hne : b ≠ rb := by
    simp only [List.nodup_cons, List.mem_singleton] at hn
    exact hn.1
  have hM2 := hM.to (up.block b hM.lt fun hq => hne hq)
  have heL := hI.sub.subset he
  refine h1 e w' he ⟨⟨b, L, cl, rfl, rfl, hb, hrb, hM2, hR.imp fun v y h => h.up (fun _ h => h) (up.sm fun q hs _ hq => by have hq : q = rb := hq; rw [hq] at hs; exact hrb hs), hI2, ?_⟩, hn⟩ (fun hx => rw_entry hM2 hI2 heL hx) (up.mono fun q _ hq => by have hq : q = rb := hq; simp [hq])
  intro e' he' z hz hke
  cases he'
  obtain ⟨hz1, hz2⟩ := List.mem_filter.1 hz
  have hzL := hI.sub.subset hz1
  have : z = e := by
    obtain ⟨i, hi, hi2⟩ := List.getElem_of_mem hzL
    obtain ⟨j, hj, hj2⟩ := List.getElem_of_mem heL
    have hij : i = j := by
      refine (List.getElem_inj (xs := L.map (·.1)) (h₀ := by simpa using hi) (h₁ := by simpa using hj) hM.keys).1 ?_
      simp [hi2, hj2, hke]
    subst hij
    exact hi2.symm.trans hj2
  subst this
  simp at hz2

/-- The entry that came last is taken out. -/
theorem dc_mmdelI {tk : TypeId} {e : κ × Value × Nat} (h : Mo (fMapI ky k rb rem (some e)) S w c m fp) (ht : P.underlying tm = some (.map t te)) {a : κ} (hae : e.1 = a) (hx : ev ρ x = c) (hy : ev ρ y = ky.enc a)
    (hk : ∀ w', Mo (fMapI ky k rb rem (some e)) S w' c (mrem a m) fp → Up (fun b => b ∈ fp) w w' → kk (.tuple #[]) w') : Does P ⟨d, .call { callee := .builtin .delete, args := #[x, y], argTypes := #[tm, tk] }, ty, pos, af, g⟩ ρ w kk := by
  subst hae
  obtain ⟨⟨b, L, cl, rfl, rfl, hS, hrb, hM, hR, hI, hq⟩, hn⟩ := h
  refine dc_mdel hM ht hx hy fun w' hM' up => ?_
  have hsm : Sm S w w' := up.sm fun q hq _ hqb => by have hqb : q = b := hqb; rw [hqb] at hq; exact hS hq
  have hne : rb ≠ b := by
    simp only [List.nodup_cons, List.mem_singleton] at hn
    exact fun h => hn.1 h.symm
  have hI2 := hI.del e.1 (up.block rb hI.lt fun hq => hne hq)
  have hrem : mdel e.1 rem = rem := by
    unfold mdel
    refine List.filter_eq_self.2 fun z hz => ?_
    have := hq e rfl z hz
    simpa using this
  rw [hrem] at hI2
  exact hk w' ⟨⟨b, _, cl, rfl, rfl, hS, hrb, hM', (hR.del e.1).imp fun v y hv => hv.to hsm, hI2, hq⟩, hn⟩ (up.mono fun x _ hx => by have hx : x = b := hx; subst hx; simp)

/-- Behind the range the map is as any. -/
theorem Mo.done (h : Mo (fMapI ky k rb rem lst) S w c m fp) : ∃ b, Mo (fMap ky k) S w c m [b] ∧ b ∈ fp := by
  obtain ⟨⟨b, L, cl, rfl, rfl, hS, hrb, hM, hR, hI, hq⟩, hn⟩ := h
  exact ⟨b, ⟨⟨b, L, cl, rfl, rfl, hS, hM, hR⟩, by simp⟩, by simp⟩
end
end Go.Mg
