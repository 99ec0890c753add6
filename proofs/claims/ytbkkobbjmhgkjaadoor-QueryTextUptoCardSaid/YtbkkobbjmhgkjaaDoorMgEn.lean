/- Stores to maps by way of an entry: 'm[k], n[l] = a, b'. -/
import Derived.Test.YtbkkobbjmhgkjaaDoorMgJ
namespace Go.Mg
open Go
open Go.ChangeMaps (setBlock)
set_option linter.unusedVariables false
set_option linter.unusedSimpArgs false

section
variable {P : Program} {w : World} {α : Type} [DecidableEq α] {t tm te : TypeId}

theorem run_ment {ky : Ky P t α} {b : Nat} {L : List (α × Value × Nat)} {c : Nat} {zv : Value} (M : Mp ky w b L c) (ht : P.underlying tm = some (.map t te)) (hz : ∀ w, (zeroValue te).run P w = .ok zv w) (k : α) :
    ∃ z n, (z = (look k L).getD zv) ∧ (k, z, n) ∈ mset k z c L ∧
    (Instr.mapEntry tm (.map (some b)) (ky.enc k)).run P w = .ok (.tuple #[z, .int .i64 (n : Nat)]) (setBlock w b (.map ((mset k z c L).map (ent ky.enc)).toArray (if k ∈ L.map (·.1) then c else c + 1))) := by
  have hf : (Instr.findKey t (ky.enc k) (L.map (ent ky.enc)).toArray.toList).run P w = .ok (fnd k L 0) w := ky.find k L w
  unfold Instr.mapEntry
  simp only [Sem.run_bind, run_underlying ht, Result.andThen_ok, MapKept.run_getObj_map M.h, ky.chk, Sem.run_pure, hf]
  rw [← fnd_look k L 0]
  cases hq : fnd k L 0 with
  | none =>
    have hn := fnd_none hq
    have hnm : k ∉ L.map (·.1) := fun h => by obtain ⟨x, hx, e⟩ := List.mem_map.1 h; exact hn x hx e.symm
    refine ⟨zv, c, rfl, by rw [mset_none hn]; simp, ?_⟩
    rw [if_neg hnm, mset_none hn]
    simp only [Sem.run_bind, hz, Result.andThen_ok, MapKept.run_setObj_map _ M.h, Sem.run_pure]
    simp [ChangeMaps.setBlock, ent, goInt]
  | some p =>
    obtain ⟨j, hj, x, hx, hkx, hv, hm⟩ := fnd_some hq
    obtain ⟨i, pv⟩ := p
    simp only [Nat.zero_add] at hj hv
    subst hj
    have hmem : k ∈ L.map (·.1) := List.mem_map.2 ⟨x, List.mem_of_getElem? hx, hkx.symm⟩
    have hxx : (x.1, pv, x.2.2) = x := by rw [hv]
    have hL : mset k pv c L = L := by
      rw [mset_at hx hkx hm]
      apply List.ext_getElem?
      intro m
      rw [List.getElem?_modify]
      by_cases e : i = m
      · subst e; simp [hx, hxx]
      · simp [e]
    refine ⟨pv, x.2.2, rfl, by rw [hL, hkx, hxx]; exact List.mem_of_getElem? hx, ?_⟩
    rw [if_pos hmem, hL]
    have hkey : (((L.map (ent ky.enc)).toArray[i]?).map (·.key)).getD (ky.enc k) = ky.enc k := by
      simp [hx, ent, hkx]
    have hst : (Instr.keyThatStays (ky.enc k) (ky.enc k)).run P w = .ok (ky.enc k) w := by
      unfold Instr.keyThatStays
      rw [ky.same k]
      simp [Sem.run_pure]
    have he : ((L.map (ent ky.enc)).toArray.modify i fun e => { e with key := ky.enc k }) = (L.map (ent ky.enc)).toArray := by
      apply Array.ext_getElem?
      intro m
      simp only [Array.getElem?_modify, List.getElem?_toArray, List.getElem?_map]
      by_cases e : i = m
      · subst e; simp [hx, ent, hkx]
      · simp [e]
    have hb : (((L.map (ent ky.enc)).toArray[i]?).map (fun e => (e.born : Int))).getD 0 = (x.2.2 : Int) := by simp [hx, ent]
    simp only [hkey, Sem.run_bind, hst, Result.andThen_ok, MapKept.run_setObj_map _ M.h, he, hb, Sem.run_pure]
    rfl

theorem run_estore {ky : Ky P t α} {b : Nat} {L : List (α × Value × Nat)} {c n : Nat} {k : α} {z : Value} (M : Mp ky w b L c) (hm : (k, z, n) ∈ L) (u : Value) :
    (Instr.entryStore tm (.map (some b)) (.int .i64 (n : Nat)) u).run P w = .ok () (setBlock w b (.map ((mset k u c L).map (ent ky.enc)).toArray (if k ∈ L.map (·.1) then c else c + 1))) := by
  obtain ⟨i, hi⟩ := List.getElem?_of_mem hm
  have hmem : k ∈ L.map (·.1) := List.mem_map.2 ⟨_, hm, rfl⟩
  obtain ⟨hil, hie⟩ := List.getElem?_eq_some_iff.1 hi
  have hfst : ∀ m y, m < i → L[m]? = some y → k ≠ y.1 := fun m y hmi hy e => by
    obtain ⟨hml, hme⟩ := List.getElem?_eq_some_iff.1 hy
    have := (List.getElem_inj (xs := L.map (·.1)) (i := m) (j := i) (h₀ := by simpa using hml) (h₁ := by simpa using hil) M.keys).1 (by simp [hme, hie, e])
    omega
  have hfind : (L.map (ent ky.enc)).toArray.findIdx? (fun e => (e.born : Int) == (n : Int)) = some i := by
    rw [List.findIdx?_toArray, List.findIdx?_map]
    rw [List.findIdx?_eq_some_iff_getElem]
    refine ⟨hil, by simp [hie, ent], fun j hji => ?_⟩
    simp only [Function.comp, ent]
    intro he
    have hjl : j < L.length := by omega
    have e2 : (L[j]).2.2 = n := by
      have : ((L[j]).2.2 : Int) = (n : Int) := by simpa using he
      omega
    have := (List.getElem_inj (xs := L.map (·.2.2)) (i := j) (j := i) (h₀ := by simpa using hjl) (h₁ := by simpa using hil) M.born).1 (by simp [hie, e2])
    omega
  unfold Instr.entryStore
  simp only [Sem.run_bind, Result.andThen_ok, MapKept.run_getObj_map M.h, asInt, asIntOf, Sem.run_pure, hfind]
  rw [if_pos hmem, mset_at hi rfl hfst]
  have he : ((L.map (ent ky.enc)).toArray.modify i fun e => { e with val := u }) = ((L.modify i fun x => (x.1, u, x.2.2)).map (ent ky.enc)).toArray := by
    apply Array.ext_getElem?
    intro m
    simp only [Array.getElem?_modify, List.getElem?_toArray, List.getElem?_map, List.getElem?_modify]
    by_cases e : i = m
    · subst e; simp [hi, ent]
    · simp [e]
  simp only [MapKept.run_setObj_map _ M.h, he]
  rfl

theorem mset_mset (k : α) (u z : Value) (c c' : Nat) : ∀ L : List (α × Value × Nat), mset k u c' (mset k z c L) = mset k u c L
  | [] => by simp [mset]
  | y :: L => by
    unfold mset
    by_cases e : k = y.1
    · simp only [if_pos e, mset]
    · simp only [if_neg e, mset, mset_mset k u z c c' L]
end

section
variable {P : Program} {e te tm t : TypeId} {l : List ((α : Type) × Fk α × α)} {S : Nat → Prop} {w : World} {v c u zv : Value} {cs : List Value} {fp : List Nat} {kk : Value → World → Prop} {κ β : Type} [DecidableEq κ] {ky : Ky P t κ} {k : Kd β}
  {ρ : En} {d : Option Tmp} {ty : TypeId} {pos : String} {af : Array Edge} {g : Option (Nat × Bool)} {x y : Operand} {i : Nat} {m : List (κ × β)}

/-- An entry of an object's map is laid; then (in the world that this brings) its store. -/
theorem dc_oment (h : Ob e l S w v cs fp) (hi : l[i]? = some ⟨_, fMap ky k, m⟩) (hc : cs[i]? = some c) (ht : P.underlying tm = some (.map t te)) (hz : (P.info? te).bind (·.zero) = some zv) {a : κ}
    (hx : ev ρ x = c) (hy : ev ρ y = ky.enc a)
    (hk : ∀ z (n : Nat) w1, Up (fun b => b ∈ fp) w w1 →
      (∀ {ρ : En} {d : Option Tmp} {ty : TypeId} {pos : String} {af : Array Edge} {g : Option (Nat × Bool)} {x y y2 : Operand} {u : Value} {b' : β} {kk : Value → World → Prop}, ev ρ x = c → ev ρ y = .int .i64 (n : Nat) → ev ρ y2 = u → Sl k S w1 u b' →
        (∀ w2, Ob e (l.set i ⟨_, fMap ky k, mput a b' m⟩) S w2 v cs fp → Up (fun b => b ∈ fp) w1 w2 → kk undef w2) → Does P ⟨d, .entryStore tm x y y2, ty, pos, af, g⟩ ρ w1 kk) →
      kk (.tuple #[z, .int .i64 (n : Nat)]) w1) :
    Does P ⟨d, .mapEntry tm x y, ty, pos, af, g⟩ ρ w kk := by
  obtain ⟨fi, hr, hsub, hturn⟩ := h.turn hi hc
  obtain ⟨b, L, cl, rfl, rfl, hS, hM, hR⟩ := hr
  have hz' : ∀ w, (zeroValue te).run P w = .ok zv w := fun w => by
    unfold zeroValue
    cases hi : P.info? te with
    | none => simp [hi] at hz
    | some inf =>
      cases hzz : inf.zero with
      | none => simp [hi, hzz] at hz
      | some z1 =>
        simp [hi, hzz] at hz
        simp [typeInfo, program, Sem.run, hi, hzz, hz]
  obtain ⟨z, n, -, hmem, hrun⟩ := run_ment hM ht hz' a
  have hM1 := hM.set a z
  have hup : Up (One b) w (setBlock w b (.map ((mset a z cl L).map (ent ky.enc)).toArray (if a ∈ L.map (·.1) then cl else cl + 1))) := Up.setBlock
  have hrun' : (execOp (ev ρ) ⟨d, .mapEntry tm x y, ty, pos, af, g⟩).run P w = .ok (.value (.tuple #[z, .int .i64 (n : Nat)])) (setBlock w b (.map ((mset a z cl L).map (ent ky.enc)).toArray (if a ∈ L.map (·.1) then cl else cl + 1))) := by
    simp only [execOp, hx, hy, Sem.run_bind, hrun, Result.andThen_ok, Sem.run_pure]
  unfold Does
  rw [hrun']
  refine hk z n _ (hup.mono fun x _ hx => by have hx : x = b := hx; subst hx; exact hsub _ (by simp)) ?_
  intro ρ2 d2 ty2 pos2 af2 g2 x2 y2 y3 u b' kk2 hx2 hy2 hy3 hu hk2
  have hrs := run_estore (tm := tm) hM1 hmem u
  have hW : ∃ W2 c2, (execOp (ev ρ2) ⟨d2, .entryStore tm x2 y2 y3, ty2, pos2, af2, g2⟩).run P (setBlock w b (.map ((mset a z cl L).map (ent ky.enc)).toArray (if a ∈ L.map (·.1) then cl else cl + 1))) = .ok .skip W2 ∧ Mp ky W2 b (mset a u cl L) c2 ∧
      Up (One b) (setBlock w b (.map ((mset a z cl L).map (ent ky.enc)).toArray (if a ∈ L.map (·.1) then cl else cl + 1))) W2 := by
    refine ⟨_, _, ?_, (congrArg (fun q => Mp ky _ b q _) (mset_mset a u z cl _ L)).mp (hM1.set a u), Up.setBlock⟩
    simp only [execOp, hx2, hy2, hy3, Sem.run_bind, hrs, Result.andThen_ok]
    rfl
  obtain ⟨W2, c2, hrun2, hM2, up2⟩ := hW
  unfold Does
  rw [hrun2]
  have hup2 := hup.trans up2
  have hsm : Sm S w W2 := hup2.sm fun q hq _ hqb => by have hqb : q = b := hqb; rw [hqb] at hq; exact hS hq
  have hsm2 := up2.sm (S := S) fun q hq _ hqb => by have hqb : q = b := hqb; rw [hqb] at hq; exact hS hq
  exact hk2 _ (hturn ⟨b, _, c2, rfl, rfl, hS, hM2, (hR.imp fun v y hv => hv.to hsm).set a (hu.to hsm2) cl⟩ (hup2.mono fun x _ hx => by have hx : x = b := hx; subst hx; simp)) (up2.mono fun x _ hx => by have hx : x = b := hx; subst hx; exact hsub _ (by simp))
end
end Go.Mg
